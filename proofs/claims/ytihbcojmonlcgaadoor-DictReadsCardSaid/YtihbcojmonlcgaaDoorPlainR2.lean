/- A cell by itself, read: by kinds. Printed by wip/gen/plainr2.py. -/
import Derived.Test.YtihbcojmonlcgaaDoorPlainR
namespace Go.Proofs.YtihbcojmonlcgaaDoor
open Go.RowKit

set_option maxHeartbeats 2000000 in
set_option maxRecDepth 100000 in
theorem pread_int (R : Nat) (s : ByteArray) (p : Nat) (hs : s.size ≤ maxLen) (hp : p ≤ s.size) (w : World) (h : Rd w R s p 0) :
    Calls Tryd.prog 37 #[.pointer (some ⟨R, 0, none⟩), .int .i64 2] w (CPost R w s (clV false (wrap64 ((st s p 0 (num 8)).1 : Nat)) 0 ByteArray.empty 0 0) true (st s p 0 (num 8)).2.1 (st s p 0 (num 8)).2.2) := by
  have hRw := Blk.lt h
  have K := hide (fun a b => ru64_any R s p 0 hs hp ((w.alloc a).alloc b) (h.below (((Below.refl _ _).alloc (Nat.le_refl _) _).alloc (by simp) _)))
  generalize st s p 0 (num 8) = T at *
  obtain ⟨x, p', e'⟩ := T
  simp only at K ⊢
  clear h
  have hst := fun (w1 : World) (a1 : Addr) (m : Mode) (x y : Nat) => run_store Tryd.prog w1 a1 (.complex .f64 x y) m rfl
  go_enter Tryd.func37, Tryd.ntmps37
  go_wp2_with fail
  refine (K.out _ _).mono ?_
  rintro e w1 ⟨rfl, hr1, hf1⟩
  have hb1 : Blk w1 (w.heap.size + 1) 34 (clA false 0 0 ByteArray.empty 0 0) := by
    refine Blk.fr ?_ hf1 (by omega)
    have := Blk.new (w.alloc (.cells (clA false 0 0 ByteArray.empty 0 0) 34)) (clA false 0 0 ByteArray.empty 0 0) 34
    rwa [show (w.alloc (.cells (clA false 0 0 ByteArray.empty 0 0) 34)).heap.size = w.heap.size + 1 by simp] at this
  have hb0 : Blk w1 w.heap.size 34 (clA false 0 0 ByteArray.empty 0 0) := Blk.fr ((Blk.new _ _ _).alloc _) hf1 (by omega)
  have HB0 := hide hb0
  have HB1 := hide hb1
  have HR1 := hide hr1
  have HF1 := hide hf1
  obtain ⟨c0, c1, c2, c3, c4, c5, f0, f1, f2, f3, f4, f5⟩ := Blk.six hb0
  obtain ⟨d0, d1, d2, d3, d4, d5, g0, g1, g2, g3, g4, g5⟩ := Blk.six hb1
  clear hb0 hb1 hr1 hf1
  go_wp2_with fail
  have hC := Fr.setCell w1 ⟨w.heap.size + 1, 2, none⟩ (.int .i64 (wrap64 (x : Int)))
  have h0 : Blk (w1.setCell ⟨w.heap.size + 1, 2, none⟩ (.int .i64 (wrap64 (x : Int)))) w.heap.size 34 (clA false 0 0 ByteArray.empty 0 0) := HB0.out.fr hC (by show ¬ w.heap.size = w.heap.size + 1; omega)
  have hfin := st6_blk h0 (.bool false) (.bool false) (.int .i64 (wrap64 (x : Int))) (.int .u64 0) (.string ByteArray.empty) (.complex .f64 0 0)
  have hfr := st6_fr (w1.setCell ⟨w.heap.size + 1, 2, none⟩ (.int .i64 (wrap64 (x : Int)))) w.heap.size (.bool false) (.bool false) (.int .i64 (wrap64 (x : Int))) (.int .u64 0) (.string ByteArray.empty) (.complex .f64 0 0)
  have hF : Fr w w1 (fun k => k = R) := (((Fr.alloc w _ _).trans (Fr.alloc _ _ _) (fun _ _ h => h)).trans HF1.out (fun _ _ h => h))
  refine bodyPost_ret (results_cell_tmp_row' rfl _ _ _ w.heap.size 34 #[.bool false, .bool false, .int .i64 (wrap64 (x : Int)), .int .u64 0, .string ByteArray.empty, .complex .f64 0 0] (0, 0) rfl hfin Tryd.underlying34 (by exact info_c)) rfl ?_
  exact ⟨rfl, Blk.fr (Blk.fr HR1.out hC (by show ¬ R = w.heap.size + 1; omega)) hfr (by omega), (Fr.newset (L := w.heap.size + 1) hF (by omega) hC).newset (Nat.le_refl _) hfr⟩
set_option maxHeartbeats 2000000 in
set_option maxRecDepth 100000 in
theorem pread_uint (R : Nat) (s : ByteArray) (p : Nat) (hs : s.size ≤ maxLen) (hp : p ≤ s.size) (w : World) (h : Rd w R s p 0) :
    Calls Tryd.prog 37 #[.pointer (some ⟨R, 0, none⟩), .int .i64 3] w (CPost R w s (clV false 0 ((st s p 0 (num 8)).1 : Nat) ByteArray.empty 0 0) true (st s p 0 (num 8)).2.1 (st s p 0 (num 8)).2.2) := by
  have hRw := Blk.lt h
  have K := hide (fun a b => ru64_any R s p 0 hs hp ((w.alloc a).alloc b) (h.below (((Below.refl _ _).alloc (Nat.le_refl _) _).alloc (by simp) _)))
  generalize st s p 0 (num 8) = T at *
  obtain ⟨x, p', e'⟩ := T
  simp only at K ⊢
  clear h
  have hst := fun (w1 : World) (a1 : Addr) (m : Mode) (x y : Nat) => run_store Tryd.prog w1 a1 (.complex .f64 x y) m rfl
  go_enter Tryd.func37, Tryd.ntmps37
  go_wp2_with fail
  refine (K.out _ _).mono ?_
  rintro e w1 ⟨rfl, hr1, hf1⟩
  have hb1 : Blk w1 (w.heap.size + 1) 34 (clA false 0 0 ByteArray.empty 0 0) := by
    refine Blk.fr ?_ hf1 (by omega)
    have := Blk.new (w.alloc (.cells (clA false 0 0 ByteArray.empty 0 0) 34)) (clA false 0 0 ByteArray.empty 0 0) 34
    rwa [show (w.alloc (.cells (clA false 0 0 ByteArray.empty 0 0) 34)).heap.size = w.heap.size + 1 by simp] at this
  have hb0 : Blk w1 w.heap.size 34 (clA false 0 0 ByteArray.empty 0 0) := Blk.fr ((Blk.new _ _ _).alloc _) hf1 (by omega)
  have HB0 := hide hb0
  have HB1 := hide hb1
  have HR1 := hide hr1
  have HF1 := hide hf1
  obtain ⟨c0, c1, c2, c3, c4, c5, f0, f1, f2, f3, f4, f5⟩ := Blk.six hb0
  obtain ⟨d0, d1, d2, d3, d4, d5, g0, g1, g2, g3, g4, g5⟩ := Blk.six hb1
  clear hb0 hb1 hr1 hf1
  go_wp2_with fail
  have hC := Fr.setCell w1 ⟨w.heap.size + 1, 3, none⟩ (.int .u64 (x : Int))
  have h0 : Blk (w1.setCell ⟨w.heap.size + 1, 3, none⟩ (.int .u64 (x : Int))) w.heap.size 34 (clA false 0 0 ByteArray.empty 0 0) := HB0.out.fr hC (by show ¬ w.heap.size = w.heap.size + 1; omega)
  have hfin := st6_blk h0 (.bool false) (.bool false) (.int .i64 0) (.int .u64 (x : Int)) (.string ByteArray.empty) (.complex .f64 0 0)
  have hfr := st6_fr (w1.setCell ⟨w.heap.size + 1, 3, none⟩ (.int .u64 (x : Int))) w.heap.size (.bool false) (.bool false) (.int .i64 0) (.int .u64 (x : Int)) (.string ByteArray.empty) (.complex .f64 0 0)
  have hF : Fr w w1 (fun k => k = R) := (((Fr.alloc w _ _).trans (Fr.alloc _ _ _) (fun _ _ h => h)).trans HF1.out (fun _ _ h => h))
  refine bodyPost_ret (results_cell_tmp_row' rfl _ _ _ w.heap.size 34 #[.bool false, .bool false, .int .i64 0, .int .u64 (x : Int), .string ByteArray.empty, .complex .f64 0 0] (0, 0) rfl hfin Tryd.underlying34 (by exact info_c)) rfl ?_
  exact ⟨rfl, Blk.fr (Blk.fr HR1.out hC (by show ¬ R = w.heap.size + 1; omega)) hfr (by omega), (Fr.newset (L := w.heap.size + 1) hF (by omega) hC).newset (Nat.le_refl _) hfr⟩
set_option maxHeartbeats 2000000 in
set_option maxRecDepth 100000 in
theorem pread_bytes (R : Nat) (s : ByteArray) (p : Nat) (hs : s.size ≤ maxLen) (hp : p ≤ s.size) (w : World) (h : Rd w R s p 0) :
    Calls Tryd.prog 37 #[.pointer (some ⟨R, 0, none⟩), .int .i64 4] w (CPost R w s (clV false 0 0 (strN (stT s p 0 (textS 1048576)).1) 0 0) true (stT s p 0 (textS 1048576)).2.1 (stT s p 0 (textS 1048576)).2.2) := by
  have hRw := Blk.lt h
  have K := hide (fun a b => rtext_any R s p 0 1048576 (by omega) (by omega) hs hp ((w.alloc a).alloc b) (h.below (((Below.refl _ _).alloc (Nat.le_refl _) _).alloc (by simp) _)))
  generalize stT s p 0 (textS 1048576) = T at *
  obtain ⟨X, p', e'⟩ := T
  simp only at K ⊢
  generalize strN X = x at *
  clear h
  have hst := fun (w1 : World) (a1 : Addr) (m : Mode) (x y : Nat) => run_store Tryd.prog w1 a1 (.complex .f64 x y) m rfl
  go_enter Tryd.func37, Tryd.ntmps37
  go_wp2_with fail
  refine (K.out _ _).mono ?_
  rintro e w1 ⟨rfl, hr1, hf1⟩
  have hb1 : Blk w1 (w.heap.size + 1) 34 (clA false 0 0 ByteArray.empty 0 0) := by
    refine Blk.fr ?_ hf1 (by omega)
    have := Blk.new (w.alloc (.cells (clA false 0 0 ByteArray.empty 0 0) 34)) (clA false 0 0 ByteArray.empty 0 0) 34
    rwa [show (w.alloc (.cells (clA false 0 0 ByteArray.empty 0 0) 34)).heap.size = w.heap.size + 1 by simp] at this
  have hb0 : Blk w1 w.heap.size 34 (clA false 0 0 ByteArray.empty 0 0) := Blk.fr ((Blk.new _ _ _).alloc _) hf1 (by omega)
  have HB0 := hide hb0
  have HB1 := hide hb1
  have HR1 := hide hr1
  have HF1 := hide hf1
  obtain ⟨c0, c1, c2, c3, c4, c5, f0, f1, f2, f3, f4, f5⟩ := Blk.six hb0
  obtain ⟨d0, d1, d2, d3, d4, d5, g0, g1, g2, g3, g4, g5⟩ := Blk.six hb1
  clear hb0 hb1 hr1 hf1
  go_wp2_with fail
  go_region
  go_wp2_with fail
  have hC := Fr.setCell w1 ⟨w.heap.size + 1, 4, none⟩ (.string x)
  have h0 : Blk (w1.setCell ⟨w.heap.size + 1, 4, none⟩ (.string x)) w.heap.size 34 (clA false 0 0 ByteArray.empty 0 0) := HB0.out.fr hC (by show ¬ w.heap.size = w.heap.size + 1; omega)
  have hfin := st6_blk h0 (.bool false) (.bool false) (.int .i64 0) (.int .u64 0) (.string x) (.complex .f64 0 0)
  have hfr := st6_fr (w1.setCell ⟨w.heap.size + 1, 4, none⟩ (.string x)) w.heap.size (.bool false) (.bool false) (.int .i64 0) (.int .u64 0) (.string x) (.complex .f64 0 0)
  have hF : Fr w w1 (fun k => k = R) := (((Fr.alloc w _ _).trans (Fr.alloc _ _ _) (fun _ _ h => h)).trans HF1.out (fun _ _ h => h))
  refine bodyPost_ret (results_cell_tmp_row' rfl _ _ _ w.heap.size 34 #[.bool false, .bool false, .int .i64 0, .int .u64 0, .string x, .complex .f64 0 0] (0, 0) rfl hfin.drew Tryd.underlying34 (by exact info_c)) rfl ?_
  exact ⟨rfl, Blk.drew (Blk.fr (Blk.fr HR1.out hC (by show ¬ R = w.heap.size + 1; omega)) hfr (by omega)), Fr.drew ((Fr.newset (L := w.heap.size + 1) hF (by omega) hC).newset (Nat.le_refl _) hfr)⟩
end Go.Proofs.YtihbcojmonlcgaaDoor
