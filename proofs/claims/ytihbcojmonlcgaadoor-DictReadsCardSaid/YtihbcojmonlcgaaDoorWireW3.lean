/- Writers: texts. -/
import Derived.Test.YtihbcojmonlcgaaDoorWireW2
namespace Go.Proofs.YtihbcojmonlcgaaDoor
open Go.RowKit

set_option maxHeartbeats 1000000 in
set_option maxRecDepth 100000 in
theorem wstring_any (W B : Nat) (sv : Value) (l : List Nat) (w : World) (h : Wr w W B sv l) :
    Calls Tryd.prog 68 #[.pointer (some ⟨W, 0, none⟩)] w fun e w' => e = .returned (.string (strN l)) ∧ w = w' := by
  have hc : w.cell? ⟨W, 0, none⟩ = some sv := h.blk.cell 0
  have hs := ownU8_string h.own
  clear h
  go_enter Tryd.func68, Tryd.ntmps68
  go_wp2_with fail
  go_ret
  exact ⟨rfl, rfl⟩
theorem slU8_of_row8 {w : World} {b : Nat} {l : List Nat} (h : Row8 w b l) (c : Nat) (hc : l.length ≤ c) (hl : l.length ≤ maxLen) : SlU8 w (.slice (some ⟨b, 0, none⟩) l.length c) l := by
  refine ⟨hl, ?_⟩
  rcases Nat.eq_zero_or_pos l.length with h0 | h0
  · exact .inl ⟨h0, _, c, by rw [h0], fun h => by cases h⟩
  · exact .inr ⟨h0, b, 0, c, rfl, hc, h.1, fun i hi => by rw [Nat.zero_add]; exact h.cell hi⟩
set_option maxHeartbeats 1000000 in
set_option maxRecDepth 100000 in
theorem wraw_any (W B : Nat) (sv : Value) (l : List Nat) (s : ByteArray) (hs : s.size ≤ 33000000) (w : World) (h : Wr w W B sv l) (hl : l.length ≤ 500000) (hB : B ≤ w.heap.size) :
    Calls Tryd.prog 103 #[.pointer (some ⟨W, 0, none⟩), .string s] w (WPost W B w sv (l ++ bn s)) := by
  have hcv := fun w => run_bytes_of_string (P := Tryd.prog) w 9 23 5 s Tryd.underlying9 Tryd.underlying23 Tryd.underlying5
  have K : Hid (∀ C n m, s.size ≤ C → s.size ≤ n → Calls Tryd.prog 102 #[.pointer (some ⟨W, 0, none⟩), .slice (some ⟨w.heap.size, 0, none⟩) s.size C] ((w.alloc (.cells (bytesRow s C) 5 (n, m))).drew) (WPost W B w sv (l ++ bn s))) := by
    intro C n m hC hn
    have h0 : Below w.heap.size w ((w.alloc (.cells (bytesRow s C) 5 (n, m))).drew) := ((Below.refl _ _).alloc (Nat.le_refl _) _).drew
    have hb := bn_len s
    have h1 := slU8_of_row8 (row8_made w s C 5 n m hn).drew C (by omega) (by unfold maxLen; omega)
    rw [hb] at h1
    refine (put_any W B sv l _ (bn s) _ (h.below h0) h1 (by omega) (by simp [World.drew]; omega)).mono ?_
    rintro e w' ⟨he, sv', h1, h2⟩
    exact ⟨he, sv', h1, WS.ahead h0 h2⟩
  clear h
  have hG := hide (fun w => grownCap_ge w s.size 0 5)
  go_enter Tryd.func103, Tryd.ntmps103
  go_wp2_with fail
  refine (K.out _ _ _ (hG.out _) (by unfold bytesRow; simp)).mono ?_
  rintro e w1 ⟨rfl, H⟩
  have HH := hide H
  clear H
  go_wp2_with fail
  go_end0
  exact ⟨rfl, HH.out⟩
set_option maxHeartbeats 1000000 in
set_option maxRecDepth 100000 in
theorem wtext_any (W B : Nat) (sv : Value) (l : List Nat) (s : ByteArray) (hs : s.size ≤ 33000000) (w : World) (h : Wr w W B sv l) (hl : l.length ≤ 400000) (hB : B ≤ w.heap.size) :
    Calls Tryd.prog 66 #[.pointer (some ⟨W, 0, none⟩), .string s] w (WPost W B w sv (l ++ (uvar s.size ++ bn s))) := by
  have K := hide (wuvar_any W B sv l s.size (by omega) w h (by omega) hB)
  have hu := hide (uvar_len10 (x := s.size) (by omega))
  clear h
  go_enter Tryd.func66, Tryd.ntmps66
  go_wp2_with fail
  refine K.out.mono ?_
  rintro e w1 ⟨rfl, sv1, hw1, hs1⟩
  have K1 := hide (wraw_any W B sv1 (l ++ uvar s.size) s hs w1 hw1 (by rw [List.length_append]; have := hu.out; omega) (Nat.le_trans hB hs1.fr.size))
  have HS1 := hide hs1
  clear hw1 hs1
  go_wp2_with fail
  refine K1.out.mono ?_
  rintro e w2 ⟨rfl, sv2, hw2, hs2⟩
  have HW2 := hide hw2
  have HS2 := hide hs2
  clear hw2 hs2
  go_wp2_with fail
  go_end0
  exact ⟨rfl, sv2, by rw [← List.append_assoc]; exact HW2.out, HS1.out.trans HS2.out⟩
end Go.Proofs.YtihbcojmonlcgaaDoor
