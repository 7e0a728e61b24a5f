/- Readers: texts. -/
import Derived.Test.YtkeaijocjbldmaaWireR6
namespace Go.Proofs.Ytkeaijocjbldmaa
open Go.RowKit
theorem bn_inj {a b : ByteArray} (h : bn a = bn b) : a = b := by
  unfold bn at h
  have h1 : a.data.toList = b.data.toList := by
    have : Function.Injective UInt8.toNat := fun x y e => UInt8.toNat_inj.1 e
    exact (List.map_inj_right (fun x y e => UInt8.toNat_inj.1 e)).1 h
  obtain ⟨⟨x⟩⟩ := a
  obtain ⟨⟨y⟩⟩ := b
  simp at h1
  rw [h1]
theorem strN_bn (s : ByteArray) : strN (bn s) = s := bn_inj (bn_strN _ (bn_lt s))
theorem strN_nil : strN [] = { data := #[] } := strN_bn { data := #[] }
theorem extract_strN (s : ByteArray) (p n : Nat) (h : p + n ≤ s.size) : s.extract p (p + n) = strN (((bn s).drop p).take n) := by
  rw [← strN_bn (s.extract p (p + n)), bn_extract _ _ _ h, Nat.add_sub_cancel_left]
/-- So many bytes as a text. -/
def rawS (n : Int) (D : List Nat) : List Nat × Nat × Nat := if n < 0 then ([], 0, 1) else if (D.length : Int) < n then ([], 0, 10) else (D.take n.toNat, n.toNat, 0)
/-- A text behind its length. -/
def textS (most : Int) (D : List Nat) : List Nat × Nat × Nat :=
  if (few D 0).2.2 = 0 then
    if most < 0 ∨ most < (few D 0).1 then ([], 0, 12)
    else if D.length - (few D 0).2.1 < (few D 0).1 then ([], 0, 10)
    else ((D.drop (few D 0).2.1).take (few D 0).1, (few D 0).2.1 + (few D 0).1, 0)
  else ([], 0, (few D 0).2.2)
def stT (s : ByteArray) (p e : Nat) (f : List Nat → List Nat × Nat × Nat) : List Nat × Nat × Nat :=
  if e = 0 then ((f ((bn s).drop p)).1, p + (f ((bn s).drop p)).2.1, (f ((bn s).drop p)).2.2) else ([], p, e)
set_option maxHeartbeats 1000000 in
set_option maxRecDepth 100000 in
theorem rraw_any (R : Nat) (s : ByteArray) (p e : Nat) (n : Int) (hn63 : n ≤ 9223372036854775807) (hs : s.size ≤ maxLen) (hp : p ≤ s.size) (w : World) (h : Rd w R s p e) :
    Calls Try.prog 55 #[.pointer (some ⟨R, 0, none⟩), .int .i64 n] w (RPost R w s (.string (strN (stT s p e (rawS n)).1)) (stT s p e (rawS n)).2.1 (stT s p e (rawS n)).2.2) := by
  unfold stT
  by_cases he : e = 0
  · rw [if_pos he]
    subst he
    unfold rawS
    by_cases hn : n < 0
    · rw [if_pos hn, strN_nil]
      have K := hide (rerr_any R s p 0 w h)
      have K2 := hide (rfail_any R s p 0 p 1 w h)
      have hc := h.c1
      clear h
      go_enter Try.func55, Try.ntmps55
      go_wp2_with fail
      refine K.out.mono ?_
      rintro e w1 ⟨rfl, rfl⟩
      go_wp2_with fail
      refine K2.out.mono ?_
      rintro e w1 ⟨rfl, hr1, hf1⟩
      have K3 := hide (take_err R s p 1 n (by omega) w1 hr1)
      have HR1 := hide hr1
      have HF1 := hide hf1
      clear hr1 hf1
      go_wp2_with fail
      refine K3.out.mono ?_
      rintro e w2 ⟨rfl, rfl⟩
      go_wp2_with fail
      go_ret
      exact ⟨rfl, HR1.out, HF1.out⟩
    · obtain ⟨m, rfl⟩ : ∃ m : Nat, n = m := ⟨n.toNat, by omega⟩
      rw [if_neg hn, List.length_drop, bn_len, Int.toNat_natCast]
      by_cases hm : ((s.size - p : Nat) : Int) < m
      · rw [if_pos hm, strN_nil]
        have K := hide (take_short R s p m hp hs (by omega) w h)
        clear h
        go_enter Try.func55, Try.ntmps55
        go_wp2_with fail
        refine K.out.mono ?_
        rintro e w1 ⟨rfl, hr1, hf1⟩
        have HR1 := hide hr1
        have HF1 := hide hf1
        clear hr1 hf1
        go_wp2_with fail
        go_ret
        exact ⟨rfl, HR1.out, HF1.out⟩
      · rw [if_neg hm]
        have K := hide (take_ok R s p m hs (by omega) w h)
        have hx := hide (extract_strN s p m (by omega))
        clear h
        go_enter Try.func55, Try.ntmps55
        go_wp2_with fail
        refine K.out.mono ?_
        rintro e w1 ⟨rfl, hr1, hf1⟩
        have HR1 := hide hr1
        have HF1 := hide hf1
        clear hr1 hf1
        go_wp2_with fail
        go_ret
        exact ⟨by rw [← hx.out]; rfl, HR1.out, HF1.out⟩
  · rw [if_neg he, strN_nil]
    have K := hide (rerr_any R s p e w h)
    have K3 := hide (take_err R s p e n (by omega) w h)
    have hne : ((e : Int) == 0) = false := by rw [beq_eq_false_iff_ne]; omega
    have H := hide h
    clear h
    by_cases hn : n < 0
    · go_enter Try.func55, Try.ntmps55
      go_wp2_with fail
      refine K.out.mono ?_
      rintro e w1 ⟨rfl, rfl⟩
      go_wp2_with fail
      refine K3.out.mono ?_
      rintro e w2 ⟨rfl, rfl⟩
      go_wp2_with fail
      go_ret
      exact ⟨rfl, H.out, Fr.refl _ _⟩
    · go_enter Try.func55, Try.ntmps55
      go_wp2_with fail
      refine K3.out.mono ?_
      rintro e w2 ⟨rfl, rfl⟩
      go_wp2_with fail
      go_ret
      exact ⟨rfl, H.out, Fr.refl _ _⟩
end Go.Proofs.Ytkeaijocjbldmaa
