/- The statements' calls: which are few, what each writes. -/
import Derived.Test.YtkeaijocjbldmaaWireO
namespace Go.Proofs.Ytkeaijocjbldmaa
open Go.RowKit

theorem strN_append (a b : List Nat) : strN (a ++ b) = strN a ++ strN b := by
  unfold strN
  rw [List.map_append]
  apply ByteArray.ext
  apply Array.ext'
  rw [strOfNums_data, List.map_append]
  simp [strOfNums]
def fewB (l : List OpD) : Bool := decide (l.length ≤ 60 ∧ ∀ o ∈ l, o.s.size ≤ 300)
theorem fewB_true {l : List OpD} (h : fewB l = true) : l.length ≤ 60 ∧ ∀ o ∈ l, o.s.size ≤ 300 := of_decide_eq_true h
set_option maxHeartbeats 1000000 in
set_option maxRecDepth 100000 in
theorem few_any (A : Option Addr) (c : Nat) (l : List OpD) (hl : l.length ≤ maxLen) (w : World) (h : InOps w A l) :
    Calls Try.prog 24 #[.slice A l.length c] w fun e w' => e = .returned (.bool (fewB l)) ∧ w = w' := by
  unfold maxLen at hl
  have H := hide h
  clear h
  by_cases h60 : 60 < l.length
  · have hb : Hid (fewB l = false) := by show _ = _; unfold fewB; rw [decide_eq_false_iff_not]; omega
    rw [hb.out]
    go_enter Try.func24, Try.ntmps24
    go_wp2_with fail
    go_ret
    exact ⟨rfl, rfl⟩
  · go_enter Try.func24, Try.ntmps24
    go_wp2_with fail
    go_loop [3] (fun iv => ∃ k : Nat, k ≤ l.length ∧ iv = .int .i64 (k : Int) ∧ Hid (∀ o ∈ l.take k, o.s.size ≤ 300)) (fun iv => l.length - (intOf iv).toNat)
    case atStart => exact ⟨0, by omega, rfl, fun o ho => by simp at ho⟩
    case round =>
      obtain ⟨k, hk, rfl, HS⟩ := hrel
      by_cases hlt : k < l.length
      · obtain ⟨o, ho⟩ : ∃ o, l[k]? = some o := ⟨_, List.getElem?_eq_getElem hlt⟩
        have hom := List.mem_of_getElem? ho
        have HT : Hid (l.take (k + 1) = l.take k ++ [o]) := by
          show _ = _
          rw [List.take_add_one, ho]; rfl
        obtain ⟨b, of, rfl, _, _, _, hc2, _⟩ := H.out.2 k o ho
        have hsz := (H.out.1 o hom).s1
        unfold maxLen at hsz
        have HO := hide hom
        clear ho hom
        by_cases h300 : 300 < o.s.size
        · have hb : Hid (fewB l = false) := by
            show _ = _; unfold fewB; rw [decide_eq_false_iff_not]; intro hh; have := hh.2 o HO.out; omega
          go_wp2_with fail
          go_ret
          rw [hb.out]
          exact ⟨rfl, rfl⟩
        · go_wp2_with fail
          go_round
          case rel =>
            refine ⟨k + 1, by omega, by go_num, fun q hq => ?_⟩
            rw [HT.out] at hq
            rcases List.mem_append.1 hq with hq | hq
            · exact HS.out q hq
            · have : q = o := by simpa using hq
              subst this; omega
          case measure => simp [intOf] <;> omega
      · have hk8 : k = l.length := by omega
        have hb : Hid (fewB l = true) := by
          show _ = _; unfold fewB; rw [decide_eq_true_eq]
          refine ⟨by omega, fun o ho => HS.out o ?_⟩
          rw [List.take_of_length_le (by omega)]; exact ho
        go_wp2_with fail
        go_ret
        rw [hb.out]
        exact ⟨rfl, rfl⟩

/-- A 64-bit number as one that may be below 0, and back. -/
def toI (x : Nat) : Int := if x < 9223372036854775808 then x else (x : Int) - 18446744073709551616
def toU (x : Int) : Nat := (x % 18446744073709551616).toNat
theorem toI_ge {x : Nat} (h : x < 18446744073709551616) : -9223372036854775808 ≤ toI x ∧ toI x ≤ 9223372036854775807 := by unfold toI; split <;> omega
theorem toU_toI {x : Nat} (h : x < 18446744073709551616) : toU (toI x) = x := by unfold toU toI; split <;> omega
theorem toI_wrap {x : Nat} (h : x < 18446744073709551616) : wrap64 (x : Int) = toI x := by unfold toI wrap64; split <;> omega
/-- What a call writes. -/
def opT (o : OpD) : List Nat :=
  if o.k = 0 then fixN o.x 1 else if o.k = 1 then fixN o.x 4 else if o.k = 2 then fixN o.x 8 else if o.k = 3 then uvar o.x else if o.k = 4 then uvar (zz (toI o.x)) else if o.k = 5 then uvar o.s.size ++ bn o.s else bn o.s
theorem fixN_mod (x n : Nat) : ∀ k, k ≤ n → fixN (x % 256 ^ n) k = fixN x k := by
  intro k
  induction k with
  | zero => intro _; rfl
  | succ k ih =>
    intro hk
    rw [fixN, fixN, ih (by omega)]
    congr 2
    obtain ⟨d, rfl⟩ : ∃ d, n = k + 1 + d := ⟨n - (k + 1), by omega⟩
    have h1 : 256 ^ (k + 1 + d) = 256 ^ k * (256 * 256 ^ d) := by rw [Nat.pow_add, Nat.pow_succ, Nat.mul_assoc]
    rw [h1, Nat.mod_mul_right_div_self, Nat.mod_mul_right_mod]
theorem fixN_1 (x : Nat) : fixN x 1 = [x % 256] := by simp [fixN]
theorem fixN_32 (x : Nat) : fixN (x % 4294967296) 4 = fixN x 4 := fixN_mod x 4 4 (by omega)
theorem wpost_ahead {W B : Nat} {w w1 : World} {sv : Value} {l : List Nat} {e : Ending} {w' : World} (hb : Below w.heap.size w w1) (k : WPost W B w1 sv l e w') : WPost W B w sv l e w' := by
  obtain ⟨he, sv', h1, h2⟩ := k
  exact ⟨he, sv', h1, WS.ahead hb h2⟩
/-- A writer's contract behind what was made ahead. -/
theorem wcon {P : Program} {f : FuncId} {args : Array Value} {W B : Nat} {w : World} {sv : Value} {l l' l'' : List Nat} (h : Wr w W B sv l) (hB : B ≤ w.heap.size) (hl : l' = l'')
    (C : ∀ w1, Wr w1 W B sv l → B ≤ w1.heap.size → Calls P f args w1 (WPost W B w1 sv l')) : Hid (∀ w1, Below w.heap.size w w1 → Calls P f args w1 (WPost W B w sv l'')) := by
  subst hl
  intro w1 hb
  exact (C w1 (h.below hb) (Nat.le_trans hB hb.size)).mono fun _ _ k => wpost_ahead hb k
set_option maxHeartbeats 2000000 in
set_option maxRecDepth 100000 in
theorem write_any (W B : Nat) (sv : Value) (l : List Nat) (o : OpD) (ho : o.Wf) (hs : o.s.size ≤ 33000000) (w : World) (h : Wr w W B sv l) (hl : l.length ≤ 400000) (hB : B ≤ w.heap.size) :
    Calls Try.prog 25 #[.pointer (some ⟨W, 0, none⟩), .agg #[.int .i64 o.k, .int .u64 (o.x : Nat), .string o.s, .int .i64 o.m]] w (WPost W B w sv (l ++ opT o)) := by
  obtain ⟨k, x, s, m⟩ := o
  have hx := ho.x1
  have hk1 := ho.k1
  have hk2 := ho.k2
  clear ho
  simp only at hs hx hk1 hk2 ⊢
  unfold opT
  simp only
  by_cases e0 : k = 0
  · subst e0
    rw [if_pos rfl]
    have K := wcon (l' := l ++ [x % 256]) (l'' := l ++ fixN x 1) h hB (by rw [fixN_1]) (fun w1 h1 hB1 => wu8_any W B sv l (x % 256) w1 h1 (by omega) hB1)
    clear h
    go_enter Try.func25, Try.ntmps25
    go_wp2_with fail
    refine (K.out _ ((Below.refl _ _).alloc (Nat.le_refl _) _)).mono ?_
    rintro e w1 ⟨rfl, H⟩
    have HH := hide H
    clear H
    go_wp2_with fail
    go_end0
    exact ⟨rfl, HH.out⟩
  rw [if_neg e0]
  have b0 : (k == 0) = false := by rw [beq_eq_false_iff_ne]; exact e0
  clear e0
  by_cases e1 : k = 1
  · subst e1
    rw [if_pos rfl]
    have K := wcon (l' := l ++ fixN (x % 4294967296) 4) (l'' := l ++ fixN x 4) h hB (by rw [fixN_32]) (fun w1 h1 hB1 => wu32_any W B sv l (x % 4294967296) (by omega) w1 h1 (by omega) hB1)
    clear h
    go_enter Try.func25, Try.ntmps25
    go_wp2_with fail
    refine (K.out _ ((Below.refl _ _).alloc (Nat.le_refl _) _)).mono ?_
    rintro e w1 ⟨rfl, H⟩
    have HH := hide H
    clear H
    go_wp2_with fail
    go_end0
    exact ⟨rfl, HH.out⟩
  rw [if_neg e1]
  have b1 : (k == 1) = false := by rw [beq_eq_false_iff_ne]; exact e1
  clear e1
  by_cases e2 : k = 2
  · subst e2
    rw [if_pos rfl]
    have K := wcon h hB rfl (fun w1 h1 hB1 => wu64_any W B sv l x hx w1 h1 (by omega) hB1)
    clear h
    go_enter Try.func25, Try.ntmps25
    go_wp2_with fail
    refine (K.out _ ((Below.refl _ _).alloc (Nat.le_refl _) _)).mono ?_
    rintro e w1 ⟨rfl, H⟩
    have HH := hide H
    clear H
    go_wp2_with fail
    go_end0
    exact ⟨rfl, HH.out⟩
  rw [if_neg e2]
  have b2 : (k == 2) = false := by rw [beq_eq_false_iff_ne]; exact e2
  clear e2
  by_cases e3 : k = 3
  · subst e3
    rw [if_pos rfl]
    have K := wcon h hB rfl (fun w1 h1 hB1 => wuvar_any W B sv l x hx w1 h1 (by omega) hB1)
    clear h
    go_enter Try.func25, Try.ntmps25
    go_wp2_with fail
    refine (K.out _ ((Below.refl _ _).alloc (Nat.le_refl _) _)).mono ?_
    rintro e w1 ⟨rfl, H⟩
    have HH := hide H
    clear H
    go_wp2_with fail
    go_end0
    exact ⟨rfl, HH.out⟩
  rw [if_neg e3]
  have b3 : (k == 3) = false := by rw [beq_eq_false_iff_ne]; exact e3
  clear e3
  by_cases e4 : k = 4
  · subst e4
    rw [if_pos rfl]
    have K := wcon h hB rfl (fun w1 h1 hB1 => wsvar_any W B sv l (toI x) (toI_ge hx).1 (toI_ge hx).2 w1 h1 (by omega) hB1)
    have hw := toI_wrap hx
    clear h
    go_enter Try.func25, Try.ntmps25
    go_wp2_with fail
    refine (K.out _ ((Below.refl _ _).alloc (Nat.le_refl _) _)).mono ?_
    rintro e w1 ⟨rfl, H⟩
    have HH := hide H
    clear H
    go_wp2_with fail
    go_end0
    exact ⟨rfl, HH.out⟩
  rw [if_neg e4]
  have b4 : (k == 4) = false := by rw [beq_eq_false_iff_ne]; exact e4
  clear e4
  by_cases e5 : k = 5
  · subst e5
    rw [if_pos rfl]
    have K := wcon h hB rfl (fun w1 h1 hB1 => wtext_any W B sv l s hs w1 h1 (by omega) hB1)
    clear h
    go_enter Try.func25, Try.ntmps25
    go_wp2_with fail
    refine (K.out _ ((Below.refl _ _).alloc (Nat.le_refl _) _)).mono ?_
    rintro e w1 ⟨rfl, H⟩
    have HH := hide H
    clear H
    go_wp2_with fail
    go_end0
    exact ⟨rfl, HH.out⟩
  rw [if_neg e5]
  have b5 : (k == 5) = false := by rw [beq_eq_false_iff_ne]; exact e5
  clear e5
  have K := wcon h hB rfl (fun w1 h1 hB1 => wraw_any W B sv l s hs w1 h1 (by omega) hB1)
  clear h
  go_enter Try.func25, Try.ntmps25
  go_wp2_with fail
  refine (K.out _ ((Below.refl _ _).alloc (Nat.le_refl _) _)).mono ?_
  rintro e w1 ⟨rfl, H⟩
  have HH := hide H
  clear H
  go_wp2_with fail
  go_end0
  exact ⟨rfl, HH.out⟩
end Go.Proofs.Ytkeaijocjbldmaa
