/- A cell by itself, read: a point. -/
import Derived.Test.YtihbcojmonlcgaaDoorPlainR2
namespace Go.Proofs.YtihbcojmonlcgaaDoor
open Go.RowKit

/-- Is a whole number too far from 0? -/
def farB (x : Int) : Bool := decide (x < -9007199254740992 ∨ 9007199254740992 < x)
set_option maxHeartbeats 1000000 in
set_option maxRecDepth 100000 in
theorem far_no (x : Int) (h : farB x = false) (w : World) : Calls Tryd.prog 90 #[.int .i64 x] w fun e w' => e = .returned (.bool false) ∧ w = w' := by
  unfold farB at h
  rw [decide_eq_false_iff_not] at h
  have h1 : decide (x < -9007199254740992) = false := by rw [decide_eq_false_iff_not]; omega
  have h2 : decide (9007199254740992 < x) = false := by rw [decide_eq_false_iff_not]; omega
  clear h
  go_enter Tryd.func90, Tryd.ntmps90
  go_wp2_with fail
  go_ret
  exact ⟨rfl, rfl⟩
set_option maxHeartbeats 1000000 in
set_option maxRecDepth 100000 in
theorem far_yes (x : Int) (h : farB x = true) (w : World) : Calls Tryd.prog 90 #[.int .i64 x] w fun e w' => e = .returned (.bool true) ∧ w = w' := by
  unfold farB at h
  rw [decide_eq_true_eq] at h
  by_cases hx : x < -9007199254740992
  · have h1 : decide (x < -9007199254740992) = true := by rw [decide_eq_true_eq]; omega
    clear h
    go_enter Tryd.func90, Tryd.ntmps90
    go_wp2_with fail
    go_ret
    exact ⟨rfl, rfl⟩
  · have h1 : decide (x < -9007199254740992) = false := by rw [decide_eq_false_iff_not]; omega
    have h2 : decide (9007199254740992 < x) = true := by rw [decide_eq_true_eq]; omega
    clear h
    go_enter Tryd.func90, Tryd.ntmps90
    go_wp2_with fail
    go_ret
    exact ⟨rfl, rfl⟩
theorem st6_two {w w1 : World} {R : Nat} (hRw : R < w.heap.size) {s : ByteArray} {p' e' : Nat} (hF : Fr w w1 (fun k => k = R)) (hR : Rd w1 R s p' e') (hB : Blk w1 w.heap.size 34 (clA false 0 0 ByteArray.empty 0 0)) (a0 a1 a2 a3 a4 a5 : Value) :
    Fr w (st6 w1 w.heap.size a0 a1 a2 a3 a4 a5) (fun k => k = R) ∧ Rd (st6 w1 w.heap.size a0 a1 a2 a3 a4 a5) R s p' e' ∧ Blk (st6 w1 w.heap.size a0 a1 a2 a3 a4 a5) w.heap.size 34 #[a0, a1, a2, a3, a4, a5] :=
  ⟨Fr.newset hF (Nat.le_refl _) (st6_fr _ _ _ _ _ _ _ _), Blk.fr hR (st6_fr _ _ _ _ _ _ _ _) (by omega), st6_blk (by exact hB) _ _ _ _ _ _⟩
set_option maxHeartbeats 2000000 in
set_option maxRecDepth 100000 in
theorem pread_point (R : Nat) (s : ByteArray) (p p1 e1 p2 e2 : Nat) (a b : Int) (hs : s.size ≤ maxLen) (hp : p ≤ s.size) (hp1 : p1 ≤ s.size) (w : World) (h : Rd w R s p 0)
    (ha : Hid (back (st s p 0 (fun D => few D 0)).1 = a ∧ (st s p 0 (fun D => few D 0)).2.1 = p1 ∧ (st s p 0 (fun D => few D 0)).2.2 = e1))
    (hb : Hid (back (st s p1 e1 (fun D => few D 0)).1 = b ∧ (st s p1 e1 (fun D => few D 0)).2.1 = p2 ∧ (st s p1 e1 (fun D => few D 0)).2.2 = e2))
    (c : Value) (ok : Bool) (hcase : Hid ((farB a = false ∧ farB b = false ∧ ok = true ∧ c = clV false 0 0 ByteArray.empty (floatOfInt .f64 a) (floatOfInt .f64 b)) ∨ ((farB a = true ∨ farB a = false ∧ farB b = true) ∧ ok = false ∧ c = clZ))) :
    Calls Tryd.prog 37 #[.pointer (some ⟨R, 0, none⟩), .int .i64 6] w (CPost R w s c ok p2 e2) := by
  have hRw := Blk.lt h
  have K1 := hide (fun a b => rsvar_any R s p 0 hs hp ((w.alloc a).alloc b) (h.below (((Below.refl _ _).alloc (Nat.le_refl _) _).alloc (by simp) _)))
  have K2 := hide (fun w1 (h1 : Rd w1 R s p1 e1) => rsvar_any R s p1 e1 hs hp1 w1 h1)
  obtain ⟨ha1, ha2, ha3⟩ := ha.out
  obtain ⟨hb1, hb2, hb3⟩ := hb.out
  rw [ha1, ha2, ha3] at K1
  rw [hb1, hb2, hb3] at K2
  clear h ha hb ha1 ha2 ha3 hb1 hb2 hb3
  have hst := fun (w1 : World) (a1 : Addr) (m : Mode) (x y : Nat) => run_store Tryd.prog w1 a1 (.complex .f64 x y) m rfl
  go_enter Tryd.func37, Tryd.ntmps37
  go_wp2_with fail
  refine (K1.out _ _).mono ?_
  rintro e w0 ⟨rfl, hr0, hf0⟩
  have HF0 := hide hf0
  have KK := hide (K2.out w0 hr0)
  clear hr0 hf0
  go_wp2_with fail
  refine KK.out.mono ?_
  rintro e w1 ⟨rfl, hr1, hf1'⟩
  have hf1 := HF0.out.trans hf1' (fun _ _ h => h)
  have hb1 : Blk w1 (w.heap.size + 1) 34 (clA false 0 0 ByteArray.empty 0 0) := by
    refine Blk.fr ?_ hf1 (by omega)
    have := Blk.new (w.alloc (.cells (clA false 0 0 ByteArray.empty 0 0) 34)) (clA false 0 0 ByteArray.empty 0 0) 34
    rwa [show (w.alloc (.cells (clA false 0 0 ByteArray.empty 0 0) 34)).heap.size = w.heap.size + 1 by simp] at this
  have hb0 : Blk w1 w.heap.size 34 (clA false 0 0 ByteArray.empty 0 0) := Blk.fr ((Blk.new _ _ _).alloc _) hf1 (by omega)
  have HB0 := hide hb0
  have HR1 := hide hr1
  have HF := hide (((Fr.alloc w _ _).trans (Fr.alloc _ _ _) (fun _ _ h => h)).trans hf1 (fun _ _ h => h))
  obtain ⟨c0, c1, c2, c3, c4, c5, f0, f1, f2, f3, f4, f5⟩ := Blk.six hb0
  obtain ⟨d0, d1, d2, d3, d4, d5, g0, g1, g2, g3, g4, g5⟩ := Blk.six hb1
  clear hb0 hb1 hr1 hf1 hf1' HF0
  rcases hcase.out with ⟨hfa, hfb, rfl, rfl⟩ | ⟨hff, rfl, rfl⟩
  · have F1 := hide (far_no a hfa)
    have F2 := hide (far_no b hfb)
    clear hfa hfb
    go_wp2_with fail
    refine (F1.out _).mono ?_
    rintro e w2 ⟨rfl, rfl⟩
    go_wp2_with fail
    refine (F2.out _).mono ?_
    rintro e w2 ⟨rfl, rfl⟩
    go_wp2_with fail
    have hC := Fr.setCell w1 ⟨w.heap.size + 1, 5, none⟩ (.complex .f64 (floatOfInt .f64 a) (floatOfInt .f64 b))
    have hF2 := Fr.newset (L := w.heap.size + 1) HF.out (by omega) hC
    have hR2 := Blk.fr HR1.out hC (by show ¬ R = w.heap.size + 1; omega)
    have hB2 := HB0.out.fr hC (by show ¬ w.heap.size = w.heap.size + 1; omega)
    obtain ⟨q1, q2, q3⟩ := st6_two hRw hF2 hR2 hB2 (.bool false) (.bool false) (.int .i64 0) (.int .u64 0) (.string ByteArray.empty) (.complex .f64 (floatOfInt .f64 a) (floatOfInt .f64 b))
    refine bodyPost_ret (results_cell_tmp_row' rfl _ _ _ w.heap.size 34 #[.bool false, .bool false, .int .i64 0, .int .u64 0, .string ByteArray.empty, .complex .f64 (floatOfInt .f64 a) (floatOfInt .f64 b)] (0, 0) rfl q3 Tryd.underlying34 (by exact info_c)) rfl ?_
    exact ⟨rfl, q2, q1⟩
  · rcases hff with hfa | ⟨hfa, hfb⟩
    · have F1 := hide (far_yes a hfa)
      clear hfa
      go_wp2_with fail
      refine (F1.out _).mono ?_
      rintro e w2 ⟨rfl, rfl⟩
      go_wp2_with fail
      obtain ⟨q1, q2, q3⟩ := st6_two hRw HF.out HR1.out HB0.out (.bool false) (.bool false) (.int .i64 0) (.int .u64 0) (.string ByteArray.empty) (.complex .f64 0 0)
      refine bodyPost_ret (results_cell_tmp_row' rfl _ _ _ w.heap.size 34 #[.bool false, .bool false, .int .i64 0, .int .u64 0, .string ByteArray.empty, .complex .f64 0 0] (0, 0) rfl q3 Tryd.underlying34 (by exact info_c)) rfl ?_
      exact ⟨rfl, q2, q1⟩
    · have F1 := hide (far_no a hfa)
      have F2 := hide (far_yes b hfb)
      clear hfa hfb
      go_wp2_with fail
      refine (F1.out _).mono ?_
      rintro e w2 ⟨rfl, rfl⟩
      go_wp2_with fail
      refine (F2.out _).mono ?_
      rintro e w2 ⟨rfl, rfl⟩
      go_wp2_with fail
      obtain ⟨q1, q2, q3⟩ := st6_two hRw HF.out HR1.out HB0.out (.bool false) (.bool false) (.int .i64 0) (.int .u64 0) (.string ByteArray.empty) (.complex .f64 0 0)
      refine bodyPost_ret (results_cell_tmp_row' rfl _ _ _ w.heap.size 34 #[.bool false, .bool false, .int .i64 0, .int .u64 0, .string ByteArray.empty, .complex .f64 0 0] (0, 0) rfl q3 Tryd.underlying34 (by exact info_c)) rfl ?_
      exact ⟨rfl, q2, q1⟩
end Go.Proofs.YtihbcojmonlcgaaDoor
