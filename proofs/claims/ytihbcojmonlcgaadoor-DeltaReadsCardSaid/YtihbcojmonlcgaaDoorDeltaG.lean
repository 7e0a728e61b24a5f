/- Steps of cells, walked back: what each call of delta.Decode's gives. -/
import Derived.Test.YtihbcojmonlcgaaDoorPlainB2
import Derived.Test.YtihbcojmonlcgaaDoorFloat2
namespace Go.Proofs.YtihbcojmonlcgaaDoor
open Go.RowKit

theorem farB_no {x : Int} (h : farB x = false) : x.natAbs ≤ 9007199254740992 := far_abs (by rw [h]; exact Bool.false_ne_true)
set_option maxHeartbeats 1000000 in
set_option maxRecDepth 100000 in
theorem dsum_gen (a b : Int) (ha : a.natAbs ≤ 9007199254740992) (hb : b.natAbs ≤ 9007199254740992) (w : World) :
    Calls Tryd.prog 96 #[.float .f64 (floatOfInt .f64 a), .float .f64 (floatOfInt .f64 b)] w fun e w' => e = .returned (.bool (!farB (a + b))) ∧ w = w' := by
  have h4 := fun w => run_convert_float_int (P := Tryd.prog) w 77 2 .f64 .i64 (floatOfInt .f64 a) a (by kernel_rfl) Tryd.underlying2 (toInt_int a ha)
  have h5 := fun w => run_convert_float_int (P := Tryd.prog) w 77 2 .f64 .i64 (floatOfInt .f64 b) b (by kernel_rfl) Tryd.underlying2 (toInt_int b hb)
  have h6 : wrap64 (a + b) = a + b := by unfold wrap64; omega
  generalize floatOfInt .f64 a = fa at *
  generalize floatOfInt .f64 b = fb at *
  by_cases h1 : a + b < -9007199254740992
  · have e : Hid ((!farB (a + b)) = false) := by show _ = _; unfold farB; simp [h1]
    have h7 : decide (-9007199254740992 ≤ a + b) = false := by rw [decide_eq_false_iff_not]; omega
    rw [e.out]
    clear ha hb
    go_enter Tryd.func96, Tryd.ntmps96
    go_wp2_with fail
    go_ret
    exact ⟨rfl, rfl⟩
  · by_cases h2 : 9007199254740992 < a + b
    · have e : Hid ((!farB (a + b)) = false) := by show _ = _; unfold farB; simp [h2]
      have h7 : decide (-9007199254740992 ≤ a + b) = true := by rw [decide_eq_true_eq]; omega
      have h8 : decide (a + b ≤ 9007199254740992) = false := by rw [decide_eq_false_iff_not]; omega
      rw [e.out]
      clear ha hb h1
      go_enter Tryd.func96, Tryd.ntmps96
      go_wp2_with fail
      go_ret
      exact ⟨rfl, rfl⟩
    · have e : Hid ((!farB (a + b)) = true) := by show _ = _; unfold farB; simp [h1, h2]
      have h7 : decide (-9007199254740992 ≤ a + b) = true := by rw [decide_eq_true_eq]; omega
      have h8 : decide (a + b ≤ 9007199254740992) = true := by rw [decide_eq_true_eq]; omega
      rw [e.out]
      clear ha hb h1 h2
      go_enter Tryd.func96, Tryd.ntmps96
      go_wp2_with fail
      go_ret
      exact ⟨rfl, rfl⟩
set_option maxHeartbeats 1000000 in
set_option maxRecDepth 100000 in
theorem reach_gen (a b c d : Int) (ha : a.natAbs ≤ 9007199254740992) (hb : b.natAbs ≤ 9007199254740992) (hc : c.natAbs ≤ 9007199254740992) (hd : d.natAbs ≤ 9007199254740992) (w : World) :
    Calls Tryd.prog 51 #[.complex .f64 (floatOfInt .f64 a) (floatOfInt .f64 b), .complex .f64 (floatOfInt .f64 c) (floatOfInt .f64 d)] w fun e w' => e = .returned (.bool (!farB (a + c) && !farB (b + d))) ∧ w = w' := by
  have K1 := hide (dsum_gen a c ha hc)
  have K2 := hide (dsum_gen b d hb hd)
  clear ha hb hc hd
  generalize floatOfInt .f64 a = fa at *
  generalize floatOfInt .f64 b = fb at *
  generalize floatOfInt .f64 c = fc at *
  generalize floatOfInt .f64 d = fd at *
  cases h1 : (!farB (a + c))
  · rw [h1] at K1
    clear h1
    go_enter Tryd.func51, Tryd.ntmps51
    go_wp2_with fail
    refine (K1.out _).mono ?_
    rintro e w1 ⟨rfl, rfl⟩
    go_wp2_with fail
    go_ret
    exact ⟨rfl, rfl⟩
  · rw [h1] at K1
    clear h1
    generalize (!farB (b + d)) = r at *
    go_enter Tryd.func51, Tryd.ntmps51
    go_wp2_with fail
    refine (K1.out _).mono ?_
    rintro e w1 ⟨rfl, rfl⟩
    go_wp2_with fail
    refine (K2.out _).mono ?_
    rintro e w1 ⟨rfl, rfl⟩
    go_wp2_with fail
    go_ret
    exact ⟨rfl, rfl⟩
set_option maxHeartbeats 1000000 in
set_option maxRecDepth 100000 in
theorem go_int (c d : CD) (w : World) :
    Calls Tryd.prog 52 #[.int .i64 2, c.v, d.v] w fun e w' => e = .returned (.tuple #[clV false (wrap64 (c.x + d.x)) 0 ByteArray.empty 0 0, .int .i64 0]) ∧ Below w.heap.size w w' := by
  obtain ⟨cb, cx, cu, ct, cp, cq⟩ := c
  obtain ⟨db, dx, du, dt, dp, dq⟩ := d
  unfold CD.v clV clA
  simp only
  have H3 := hide (row3 w)
  have HB := hide (below3 w)
  go_enter Tryd.func52, Tryd.ntmps52
  have hst := fun (w1 : World) (a1 : Addr) (m : Mode) (x y : Nat) => run_store Tryd.prog w1 a1 (.complex .f64 x y) m rfl
  go_wp2_with fail
  refine bodyPost_ret (results_cell_tmp_row rfl _ _ _ (w.heap.size + 1 + 1) 34 #[.bool false, .bool false, .int .i64 (wrap64 (cx + dx)), .int .u64 0, .string ByteArray.empty, .complex .f64 0 0] (0, 0) rfl (H3.out _ _ _) Tryd.underlying34 (by exact info_cell)) rfl ?_
  exact ⟨rfl, HB.out _ _ _⟩
set_option maxHeartbeats 1000000 in
set_option maxRecDepth 100000 in
theorem go_uint (c d : CD) (w : World) :
    Calls Tryd.prog 52 #[.int .i64 3, c.v, d.v] w fun e w' => e = .returned (.tuple #[clV false 0 ((c.u + d.x % 18446744073709551616) % 18446744073709551616) ByteArray.empty 0 0, .int .i64 0]) ∧ Below w.heap.size w w' := by
  obtain ⟨cb, cx, cu, ct, cp, cq⟩ := c
  obtain ⟨db, dx, du, dt, dp, dq⟩ := d
  unfold CD.v clV clA
  simp only
  have H3 := hide (row3 w)
  have HB := hide (below3 w)
  go_enter Tryd.func52, Tryd.ntmps52
  have hst := fun (w1 : World) (a1 : Addr) (m : Mode) (x y : Nat) => run_store Tryd.prog w1 a1 (.complex .f64 x y) m rfl
  go_wp2_with fail
  refine bodyPost_ret (results_cell_tmp_row rfl _ _ _ (w.heap.size + 1 + 1) 34 #[.bool false, .bool false, .int .i64 0, .int .u64 ((cu + dx % 18446744073709551616) % 18446744073709551616), .string ByteArray.empty, .complex .f64 0 0] (0, 0) rfl (H3.out _ _ _) Tryd.underlying34 (by exact info_cell)) rfl ?_
  exact ⟨rfl, HB.out _ _ _⟩
set_option maxHeartbeats 1000000 in
set_option maxRecDepth 100000 in
theorem go_point (c d : CD) (re im : Nat) (hc : cSumBits .add .f64 c.p c.q d.p d.q = some (re, im)) (w : World) :
    Calls Tryd.prog 52 #[.int .i64 6, c.v, d.v] w fun e w' => e = .returned (.tuple #[clV false 0 0 ByteArray.empty re im, .int .i64 0]) ∧ Below w.heap.size w w' := by
  obtain ⟨cb, cx, cu, ct, cp, cq⟩ := c
  obtain ⟨db, dx, du, dt, dp, dq⟩ := d
  unfold CD.v clV clA
  simp only at hc ⊢
  have H3 := hide (row3 w)
  have HB := hide (below3 w)
  have hadd := fun w => run_complex_sum (P := Tryd.prog) (w := w) .add (.inl rfl) 32 .f64 cp cq dp dq re im hc
  clear hc
  go_enter Tryd.func52, Tryd.ntmps52
  have hst := fun (w1 : World) (a1 : Addr) (m : Mode) (x y : Nat) => run_store Tryd.prog w1 a1 (.complex .f64 x y) m rfl
  go_wp2_with fail
  refine bodyPost_ret (results_cell_tmp_row rfl _ _ _ (w.heap.size + 1 + 1) 34 #[.bool false, .bool false, .int .i64 0, .int .u64 0, .string ByteArray.empty, .complex .f64 re im] (0, 0) rfl (H3.out _ _ _) Tryd.underlying34 (by exact info_cell)) rfl ?_
  exact ⟨rfl, HB.out _ _ _⟩
theorem csum_int (a b c d : Int) (ha : a.natAbs ≤ 9007199254740992) (hb : b.natAbs ≤ 9007199254740992) (hc : c.natAbs ≤ 9007199254740992) (hd : d.natAbs ≤ 9007199254740992) (hac : (a + c).natAbs ≤ 9007199254740992) (hbd : (b + d).natAbs ≤ 9007199254740992) :
    cSumBits .add .f64 (floatOfInt .f64 a) (floatOfInt .f64 b) (floatOfInt .f64 c) (floatOfInt .f64 d) = some (floatOfInt .f64 (a + c), floatOfInt .f64 (b + d)) := by
  unfold cSumBits floatBits
  show (Ieee.double.add _ _).bind (fun re => (Ieee.double.add _ _).bind fun im => some (re, im)) = _
  rw [add_int a c ha hc hac, add_int b d hb hd hbd]
  rfl
set_option maxHeartbeats 2000000 in
set_option maxRecDepth 100000 in
theorem next_num (k : Int) (hk : ((k : Int) == 6) = false) (R : Nat) (s : ByteArray) (p : Nat) (hs : s.size ≤ maxLen) (hp : p ≤ s.size) (w : World) (h : Rd w R s p 0) (x n er : Nat) (hf : Hid (few ((bn s).drop p) 0 = (x, n, er))) :
    Calls Tryd.prog 50 #[.pointer (some ⟨R, 0, none⟩), .int .i64 k] w (GPost R w s (clV false (back x) 0 ByteArray.empty 0 0) er (p + n) er) := by
  have hRw := Blk.lt h
  have K := hide (fun o => rsvar_any R s p 0 hs hp (w.alloc o) (rd_alloc h o))
  rw [st_at, hf.out] at K
  simp only at K
  clear h hf
  generalize back x = b at *
  have hst := fun (w1 : World) (a1 : Addr) (m : Mode) (x y : Nat) => run_store Tryd.prog w1 a1 (.complex .f64 x y) m rfl
  go_enter Tryd.func50, Tryd.ntmps50
  go_wp2_with fail
  refine (K.out _).mono ?_
  rintro e w1 ⟨rfl, hr1, hf1⟩
  have hb0 : Blk w1 w.heap.size 34 (clA false 0 0 ByteArray.empty 0 0) := Blk.fr (Blk.new _ _ _) hf1 (by omega)
  have KE := hide (rerr_any R s (p + n) er w1 hr1)
  have HB0 := hide hb0
  have HR1 := hide hr1
  have HF := hide ((Fr.alloc w _ _).trans hf1 (fun _ _ h => h))
  obtain ⟨c0, c1, c2, c3, c4, c5, f0, f1, f2, f3, f4, f5⟩ := Blk.six hb0
  clear hb0 hr1 hf1
  go_wp2_with fail
  refine KE.out.mono ?_
  rintro e w2 ⟨rfl, rfl⟩
  go_wp2_with fail
  obtain ⟨q1, q2, q3⟩ := st6_two hRw HF.out HR1.out HB0.out (.bool false) (.bool false) (.int .i64 b) (.int .u64 0) (.string { data := #[] }) (.complex .f64 0 0)
  refine bodyPost_ret (results_cell_tmp_row' rfl _ _ _ w.heap.size 34 #[.bool false, .bool false, .int .i64 b, .int .u64 0, .string { data := #[] }, .complex .f64 0 0] (0, 0) rfl q3 Tryd.underlying34 (by exact info_c)) rfl ?_
  exact ⟨rfl, q2, q1⟩
set_option maxHeartbeats 2000000 in
set_option maxRecDepth 100000 in
theorem next_point (R : Nat) (s : ByteArray) (p : Nat) (hs : s.size ≤ maxLen) (hp : p ≤ s.size) (w : World) (h : Rd w R s p 0) (hT : Tabs w) :
    Calls Tryd.prog 50 #[.pointer (some ⟨R, 0, none⟩), .int .i64 6] w
      (GPost R w s (gp 6 ((bn s).drop p)).1.v (gp 6 ((bn s).drop p)).2.2.2 (p + (gp 6 ((bn s).drop p)).2.1) (gp 6 ((bn s).drop p)).2.2.1) := by
  have hRw := Blk.lt h
  have K := hide (fun o => gget_all 6 (by omega) (by omega) R s p hs hp (w.alloc o) (rd_alloc h o) (hT.below ((Below.refl _ _).alloc (Nat.le_refl _) _)))
  rcases hg : gp 6 ((bn s).drop p) with ⟨c, m, e', er⟩
  rw [hg] at K
  simp only at K ⊢
  obtain ⟨cb, cx, cu, ct, cp, cq⟩ := c
  unfold CD.v clV clA at K ⊢
  simp only at K ⊢
  clear hg h hT hs hp
  have hst := fun (w1 : World) (a1 : Addr) (m : Mode) (x y : Nat) => run_store Tryd.prog w1 a1 (.complex .f64 x y) m rfl
  go_enter Tryd.func50, Tryd.ntmps50
  go_wp2_with fail
  refine (K.out _).mono ?_
  rintro e w1 ⟨rfl, hr1, hf1⟩
  have hb0 : Blk w1 w.heap.size 34 (clA false 0 0 ByteArray.empty 0 0) := Blk.fr (Blk.new _ _ _) hf1 (by omega)
  have HB0 := hide hb0
  have HR1 := hide hr1
  have HF := hide ((Fr.alloc w _ _).trans hf1 (fun _ _ h => h))
  obtain ⟨c0, c1, c2, c3, c4, c5, f0, f1, f2, f3, f4, f5⟩ := Blk.six hb0
  clear hb0 hr1 hf1
  go_wp2_with fail
  obtain ⟨q1, q2, q3⟩ := st6_two hRw HF.out HR1.out HB0.out (.bool false) (.bool cb) (.int .i64 cx) (.int .u64 cu) (.string ct) (.complex .f64 cp cq)
  refine bodyPost_ret (results_cell_tmp_row' rfl _ _ _ w.heap.size 34 #[.bool false, .bool cb, .int .i64 cx, .int .u64 cu, .string ct, .complex .f64 cp cq] (0, 0) rfl q3 Tryd.underlying34 (by exact info_c)) rfl ?_
  exact ⟨rfl, q2, q1⟩
end Go.Proofs.YtihbcojmonlcgaaDoor
