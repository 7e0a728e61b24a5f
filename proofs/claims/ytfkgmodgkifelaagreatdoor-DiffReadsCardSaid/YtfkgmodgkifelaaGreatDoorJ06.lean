/- A cell by itself, read: what plain's functions give. A cell by itself, read: by kinds. Printed by wip/gen/plainr2.py. A cell by itself, read: plain.Get, over any contract of plain.read. A cell by itself, read: a point. -/
import Derived.Test.YtfkgmodgkifelaaGreatDoorJ05
import Derived.WalkLawsBesides
namespace Go.Proofs.YtfkgmodgkifelaaGreatDoor
open Go.RowKit

theorem results_cell_tmp_row' {fn : Func} {p u : Tmp} {ty : TypeId} (h : fn.results = #[.cell p ty, .tmp u]) (tmps : Array Value) (P : Program) (w : World) (g : Nat) (t : TypeId) (cs : Array Value) (fr : Nat × Nat) {fs : Array Field}
    (hp : tmps.getD p undef = .pointer (some ⟨g, 0, none⟩)) (hg : w.heap[g]? = some (.cells cs t fr))
    (hu : P.underlying ty = some (.struct fs)) (hi : (P.info? ty).map (·.size) = some cs.size) :
    (results fn tmps).run P w = .ok (.tuple #[.agg cs, tmps.getD u undef]) w := by
  rw [results_cell_tmp h, hp]
  simp [asAddr, run_loadVar_row w g t ty cs fr _ hg hu rfl hi, Result.andThen]
/-- A cell, nothing missing. -/
def clA (b : Bool) (x u : Int) (s : ByteArray) (p q : Nat) : Array Value := #[.bool false, .bool b, .int .i64 x, .int .u64 u, .string s, .complex .f64 p q]
def clV (b : Bool) (x u : Int) (s : ByteArray) (p q : Nat) : Value := .agg (clA b x u s p q)
def clZ : Value := clV false 0 0 ByteArray.empty 0 0
theorem info_c : (Tryz.prog.info? 45).map (·.size) = some 6 := by kernel_rfl
structure Six (w : World) (g : Nat) (a0 a1 a2 a3 a4 a5 : Value) : Prop where
  c0 : w.cell? ⟨g, 0, none⟩ = some a0
  c1 : w.cell? ⟨g, 1, none⟩ = some a1
  c2 : w.cell? ⟨g, 2, none⟩ = some a2
  c3 : w.cell? ⟨g, 3, none⟩ = some a3
  c4 : w.cell? ⟨g, 4, none⟩ = some a4
  c5 : w.cell? ⟨g, 5, none⟩ = some a5
  f0 : w.frozen? ⟨g, 0, none⟩ = false
  f1 : w.frozen? ⟨g, 1, none⟩ = false
  f2 : w.frozen? ⟨g, 2, none⟩ = false
  f3 : w.frozen? ⟨g, 3, none⟩ = false
  f4 : w.frozen? ⟨g, 4, none⟩ = false
  f5 : w.frozen? ⟨g, 5, none⟩ = false
theorem Blk.six {w : World} {g : Nat} {t : TypeId} {a0 a1 a2 a3 a4 a5 : Value} (h : Blk w g t #[a0, a1, a2, a3, a4, a5]) : Six w g a0 a1 a2 a3 a4 a5 :=
  ⟨h.cell 0, h.cell 1, h.cell 2, h.cell 3, h.cell 4, h.cell 5, h.frozen 0, h.frozen 1, h.frozen 2, h.frozen 3, h.frozen 4, h.frozen 5⟩
set_option maxHeartbeats 1000000 in
set_option maxRecDepth 100000 in
theorem is_yes (k : Int) (h1 : 1 ≤ k) (h2 : k ≤ 6) (w : World) :
    Calls Tryz.prog 129 #[.int .i64 k] w fun e w' => e = .returned (.bool true) ∧ w = w' := by
  go_enter Tryz.func129, Tryz.ntmps129
  go_wp2_with fail
  go_ret
  exact ⟨rfl, rfl⟩
set_option maxHeartbeats 1000000 in
set_option maxRecDepth 100000 in
theorem is_no (k : Int) (h : k < 1 ∨ 6 < k) (w : World) :
    Calls Tryz.prog 129 #[.int .i64 k] w fun e w' => e = .returned (.bool false) ∧ w = w' := by
  rcases h with h | h
  · go_enter Tryz.func129, Tryz.ntmps129
    go_wp2_with fail
    go_ret
    exact ⟨rfl, rfl⟩
  · have h1 : 1 ≤ k := by omega
    have h2 : decide (k ≤ 6) = false := by simp; omega
    go_enter Tryz.func129, Tryz.ntmps129
    go_wp2_with fail
    go_ret
    exact ⟨rfl, rfl⟩
def st6 (w : World) (L : Nat) (a0 a1 a2 a3 a4 a5 : Value) : World :=
  (((((w.setCell ⟨L, 0, none⟩ a0).setCell ⟨L, 1, none⟩ a1).setCell ⟨L, 2, none⟩ a2).setCell ⟨L, 3, none⟩ a3).setCell ⟨L, 4, none⟩ a4).setCell ⟨L, 5, none⟩ a5
theorem Fr.set' {a b : World} {L : Nat} (h : Fr a b (fun k => k = L)) (i : Nat) (v : Value) : Fr a (b.setCell ⟨L, i, none⟩ v) (fun k => k = L) := h.trans (Fr.setCell b ⟨L, i, none⟩ v) (fun _ _ h => h)
theorem st6_fr (w : World) (L : Nat) (a0 a1 a2 a3 a4 a5 : Value) : Fr w (st6 w L a0 a1 a2 a3 a4 a5) (fun k => k = L) :=
  ((((((Fr.refl w _).set' 0 _).set' 1 _).set' 2 _).set' 3 _).set' 4 _).set' 5 _
theorem st6_blk {w : World} {L : Nat} {t : TypeId} {b0 b1 b2 b3 b4 b5 : Value} (h : Blk w L t #[b0, b1, b2, b3, b4, b5]) (a0 a1 a2 a3 a4 a5 : Value) : Blk (st6 w L a0 a1 a2 a3 a4 a5) L t #[a0, a1, a2, a3, a4, a5] :=
  (((((h.set 0 a0).set 1 a1).set 2 a2).set 3 a3).set 4 a4).set 5 a5
theorem Fr.newset {w w1 w2 : World} {R L : Nat} (h : Fr w w1 (fun k => k = R)) (hL : w.heap.size ≤ L) (h2 : Fr w1 w2 (fun k => k = L)) : Fr w w2 (fun k => k = R) :=
  h.trans h2 (fun i hi hq => by omega)
/-- How a read of a cell ends. -/
def CPost (R : Nat) (w : World) (s : ByteArray) (c : Value) (ok : Bool) (p' e' : Nat) (e : Ending) (w' : World) : Prop :=
  e = .returned (.tuple #[c, .bool ok]) ∧ Rd w' R s p' e' ∧ Fr w w' (fun k => k = R)
set_option maxHeartbeats 2000000 in
set_option maxRecDepth 100000 in
theorem pread_bool (R : Nat) (s : ByteArray) (p : Nat) (hs : s.size ≤ maxLen) (hp : p ≤ s.size) (w : World) (h : Rd w R s p 0) :
    Calls Tryz.prog 152 #[.pointer (some ⟨R, 0, none⟩), .int .i64 1] w (CPost R w s (clV (((st s p 0 (num 1)).1 : Int) == 1) 0 0 ByteArray.empty 0 0) (decide (((st s p 0 (num 1)).1 : Int) ≤ 1)) (st s p 0 (num 1)).2.1 (st s p 0 (num 1)).2.2) := by
  have hRw := Blk.lt h
  have K := hide (fun a b => ru8_any R s p 0 hs hp ((w.alloc a).alloc b) (h.below (((Below.refl _ _).alloc (Nat.le_refl _) _).alloc (by simp) _)))
  generalize st s p 0 (num 1) = T at *
  obtain ⟨x, p', e'⟩ := T
  simp only at K ⊢
  clear h
  have hst := fun (w1 : World) (a1 : Addr) (m : Mode) (x y : Nat) => run_store Tryz.prog w1 a1 (.complex .f64 x y) m rfl
  go_enter Tryz.func152, Tryz.ntmps152
  go_wp2_with fail
  refine (K.out _ _).mono ?_
  rintro e w1 ⟨rfl, hr1, hf1⟩
  have hb1 : Blk w1 (w.heap.size + 1) 45 (clA false 0 0 ByteArray.empty 0 0) := by
    refine Blk.fr ?_ hf1 (by omega)
    have := Blk.new (w.alloc (.cells (clA false 0 0 ByteArray.empty 0 0) 45)) (clA false 0 0 ByteArray.empty 0 0) 45
    rwa [show (w.alloc (.cells (clA false 0 0 ByteArray.empty 0 0) 45)).heap.size = w.heap.size + 1 by simp] at this
  have hb0 : Blk w1 w.heap.size 45 (clA false 0 0 ByteArray.empty 0 0) := Blk.fr ((Blk.new _ _ _).alloc _) hf1 (by omega)
  have HB0 := hide hb0
  have HB1 := hide hb1
  have HR1 := hide hr1
  have HF1 := hide hf1
  obtain ⟨c0, c1, c2, c3, c4, c5, f0, f1, f2, f3, f4, f5⟩ := Blk.six hb0
  obtain ⟨d0, d1, d2, d3, d4, d5, g0, g1, g2, g3, g4, g5⟩ := Blk.six hb1
  clear hb0 hb1 hr1 hf1
  go_wp2_with fail
  have hC := Fr.setCell w1 ⟨w.heap.size + 1, 1, none⟩ (.bool ((x : Int) == 1))
  have h0 : Blk (w1.setCell ⟨w.heap.size + 1, 1, none⟩ (.bool ((x : Int) == 1))) w.heap.size 45 (clA false 0 0 ByteArray.empty 0 0) := HB0.out.fr hC (by show ¬ w.heap.size = w.heap.size + 1; omega)
  have hfin := st6_blk h0 (.bool false) (.bool ((x : Int) == 1)) (.int .i64 0) (.int .u64 0) (.string ByteArray.empty) (.complex .f64 0 0)
  have hfr := st6_fr (w1.setCell ⟨w.heap.size + 1, 1, none⟩ (.bool ((x : Int) == 1))) w.heap.size (.bool false) (.bool ((x : Int) == 1)) (.int .i64 0) (.int .u64 0) (.string ByteArray.empty) (.complex .f64 0 0)
  have hF : Fr w w1 (fun k => k = R) := (((Fr.alloc w _ _).trans (Fr.alloc _ _ _) (fun _ _ h => h)).trans HF1.out (fun _ _ h => h))
  refine bodyPost_ret (results_cell_tmp_row' rfl _ _ _ w.heap.size 45 #[.bool false, .bool ((x : Int) == 1), .int .i64 0, .int .u64 0, .string ByteArray.empty, .complex .f64 0 0] (0, 0) rfl hfin Tryz.underlying45 (by exact info_c)) rfl ?_
  exact ⟨rfl, Blk.fr (Blk.fr HR1.out hC (by show ¬ R = w.heap.size + 1; omega)) hfr (by omega), (Fr.newset (L := w.heap.size + 1) hF (by omega) hC).newset (Nat.le_refl _) hfr⟩
end Go.Proofs.YtfkgmodgkifelaaGreatDoor
namespace Go.Proofs.YtfkgmodgkifelaaGreatDoor
open Go.RowKit

set_option maxHeartbeats 2000000 in
set_option maxRecDepth 100000 in
theorem pread_int (R : Nat) (s : ByteArray) (p : Nat) (hs : s.size ≤ maxLen) (hp : p ≤ s.size) (w : World) (h : Rd w R s p 0) :
    Calls Tryz.prog 152 #[.pointer (some ⟨R, 0, none⟩), .int .i64 2] w (CPost R w s (clV false (wrap64 ((st s p 0 (num 8)).1 : Nat)) 0 ByteArray.empty 0 0) true (st s p 0 (num 8)).2.1 (st s p 0 (num 8)).2.2) := by
  have hRw := Blk.lt h
  have K := hide (fun a b => ru64_any R s p 0 hs hp ((w.alloc a).alloc b) (h.below (((Below.refl _ _).alloc (Nat.le_refl _) _).alloc (by simp) _)))
  generalize st s p 0 (num 8) = T at *
  obtain ⟨x, p', e'⟩ := T
  simp only at K ⊢
  clear h
  have hst := fun (w1 : World) (a1 : Addr) (m : Mode) (x y : Nat) => run_store Tryz.prog w1 a1 (.complex .f64 x y) m rfl
  go_enter Tryz.func152, Tryz.ntmps152
  go_wp2_with fail
  refine (K.out _ _).mono ?_
  rintro e w1 ⟨rfl, hr1, hf1⟩
  have hb1 : Blk w1 (w.heap.size + 1) 45 (clA false 0 0 ByteArray.empty 0 0) := by
    refine Blk.fr ?_ hf1 (by omega)
    have := Blk.new (w.alloc (.cells (clA false 0 0 ByteArray.empty 0 0) 45)) (clA false 0 0 ByteArray.empty 0 0) 45
    rwa [show (w.alloc (.cells (clA false 0 0 ByteArray.empty 0 0) 45)).heap.size = w.heap.size + 1 by simp] at this
  have hb0 : Blk w1 w.heap.size 45 (clA false 0 0 ByteArray.empty 0 0) := Blk.fr ((Blk.new _ _ _).alloc _) hf1 (by omega)
  have HB0 := hide hb0
  have HB1 := hide hb1
  have HR1 := hide hr1
  have HF1 := hide hf1
  obtain ⟨c0, c1, c2, c3, c4, c5, f0, f1, f2, f3, f4, f5⟩ := Blk.six hb0
  obtain ⟨d0, d1, d2, d3, d4, d5, g0, g1, g2, g3, g4, g5⟩ := Blk.six hb1
  clear hb0 hb1 hr1 hf1
  go_wp2_with fail
  have hC := Fr.setCell w1 ⟨w.heap.size + 1, 2, none⟩ (.int .i64 (wrap64 (x : Int)))
  have h0 : Blk (w1.setCell ⟨w.heap.size + 1, 2, none⟩ (.int .i64 (wrap64 (x : Int)))) w.heap.size 45 (clA false 0 0 ByteArray.empty 0 0) := HB0.out.fr hC (by show ¬ w.heap.size = w.heap.size + 1; omega)
  have hfin := st6_blk h0 (.bool false) (.bool false) (.int .i64 (wrap64 (x : Int))) (.int .u64 0) (.string ByteArray.empty) (.complex .f64 0 0)
  have hfr := st6_fr (w1.setCell ⟨w.heap.size + 1, 2, none⟩ (.int .i64 (wrap64 (x : Int)))) w.heap.size (.bool false) (.bool false) (.int .i64 (wrap64 (x : Int))) (.int .u64 0) (.string ByteArray.empty) (.complex .f64 0 0)
  have hF : Fr w w1 (fun k => k = R) := (((Fr.alloc w _ _).trans (Fr.alloc _ _ _) (fun _ _ h => h)).trans HF1.out (fun _ _ h => h))
  refine bodyPost_ret (results_cell_tmp_row' rfl _ _ _ w.heap.size 45 #[.bool false, .bool false, .int .i64 (wrap64 (x : Int)), .int .u64 0, .string ByteArray.empty, .complex .f64 0 0] (0, 0) rfl hfin Tryz.underlying45 (by exact info_c)) rfl ?_
  exact ⟨rfl, Blk.fr (Blk.fr HR1.out hC (by show ¬ R = w.heap.size + 1; omega)) hfr (by omega), (Fr.newset (L := w.heap.size + 1) hF (by omega) hC).newset (Nat.le_refl _) hfr⟩
set_option maxHeartbeats 2000000 in
set_option maxRecDepth 100000 in
theorem pread_uint (R : Nat) (s : ByteArray) (p : Nat) (hs : s.size ≤ maxLen) (hp : p ≤ s.size) (w : World) (h : Rd w R s p 0) :
    Calls Tryz.prog 152 #[.pointer (some ⟨R, 0, none⟩), .int .i64 3] w (CPost R w s (clV false 0 ((st s p 0 (num 8)).1 : Nat) ByteArray.empty 0 0) true (st s p 0 (num 8)).2.1 (st s p 0 (num 8)).2.2) := by
  have hRw := Blk.lt h
  have K := hide (fun a b => ru64_any R s p 0 hs hp ((w.alloc a).alloc b) (h.below (((Below.refl _ _).alloc (Nat.le_refl _) _).alloc (by simp) _)))
  generalize st s p 0 (num 8) = T at *
  obtain ⟨x, p', e'⟩ := T
  simp only at K ⊢
  clear h
  have hst := fun (w1 : World) (a1 : Addr) (m : Mode) (x y : Nat) => run_store Tryz.prog w1 a1 (.complex .f64 x y) m rfl
  go_enter Tryz.func152, Tryz.ntmps152
  go_wp2_with fail
  refine (K.out _ _).mono ?_
  rintro e w1 ⟨rfl, hr1, hf1⟩
  have hb1 : Blk w1 (w.heap.size + 1) 45 (clA false 0 0 ByteArray.empty 0 0) := by
    refine Blk.fr ?_ hf1 (by omega)
    have := Blk.new (w.alloc (.cells (clA false 0 0 ByteArray.empty 0 0) 45)) (clA false 0 0 ByteArray.empty 0 0) 45
    rwa [show (w.alloc (.cells (clA false 0 0 ByteArray.empty 0 0) 45)).heap.size = w.heap.size + 1 by simp] at this
  have hb0 : Blk w1 w.heap.size 45 (clA false 0 0 ByteArray.empty 0 0) := Blk.fr ((Blk.new _ _ _).alloc _) hf1 (by omega)
  have HB0 := hide hb0
  have HB1 := hide hb1
  have HR1 := hide hr1
  have HF1 := hide hf1
  obtain ⟨c0, c1, c2, c3, c4, c5, f0, f1, f2, f3, f4, f5⟩ := Blk.six hb0
  obtain ⟨d0, d1, d2, d3, d4, d5, g0, g1, g2, g3, g4, g5⟩ := Blk.six hb1
  clear hb0 hb1 hr1 hf1
  go_wp2_with fail
  have hC := Fr.setCell w1 ⟨w.heap.size + 1, 3, none⟩ (.int .u64 (x : Int))
  have h0 : Blk (w1.setCell ⟨w.heap.size + 1, 3, none⟩ (.int .u64 (x : Int))) w.heap.size 45 (clA false 0 0 ByteArray.empty 0 0) := HB0.out.fr hC (by show ¬ w.heap.size = w.heap.size + 1; omega)
  have hfin := st6_blk h0 (.bool false) (.bool false) (.int .i64 0) (.int .u64 (x : Int)) (.string ByteArray.empty) (.complex .f64 0 0)
  have hfr := st6_fr (w1.setCell ⟨w.heap.size + 1, 3, none⟩ (.int .u64 (x : Int))) w.heap.size (.bool false) (.bool false) (.int .i64 0) (.int .u64 (x : Int)) (.string ByteArray.empty) (.complex .f64 0 0)
  have hF : Fr w w1 (fun k => k = R) := (((Fr.alloc w _ _).trans (Fr.alloc _ _ _) (fun _ _ h => h)).trans HF1.out (fun _ _ h => h))
  refine bodyPost_ret (results_cell_tmp_row' rfl _ _ _ w.heap.size 45 #[.bool false, .bool false, .int .i64 0, .int .u64 (x : Int), .string ByteArray.empty, .complex .f64 0 0] (0, 0) rfl hfin Tryz.underlying45 (by exact info_c)) rfl ?_
  exact ⟨rfl, Blk.fr (Blk.fr HR1.out hC (by show ¬ R = w.heap.size + 1; omega)) hfr (by omega), (Fr.newset (L := w.heap.size + 1) hF (by omega) hC).newset (Nat.le_refl _) hfr⟩
set_option maxHeartbeats 2000000 in
set_option maxRecDepth 100000 in
theorem pread_bytes (R : Nat) (s : ByteArray) (p : Nat) (hs : s.size ≤ maxLen) (hp : p ≤ s.size) (w : World) (h : Rd w R s p 0) :
    Calls Tryz.prog 152 #[.pointer (some ⟨R, 0, none⟩), .int .i64 4] w (CPost R w s (clV false 0 0 (strN (stT s p 0 (textS 1048576)).1) 0 0) true (stT s p 0 (textS 1048576)).2.1 (stT s p 0 (textS 1048576)).2.2) := by
  have hRw := Blk.lt h
  have K := hide (fun a b => rtext_any R s p 0 1048576 (by omega) (by omega) hs hp ((w.alloc a).alloc b) (h.below (((Below.refl _ _).alloc (Nat.le_refl _) _).alloc (by simp) _)))
  generalize stT s p 0 (textS 1048576) = T at *
  obtain ⟨X, p', e'⟩ := T
  simp only at K ⊢
  generalize strN X = x at *
  clear h
  have hst := fun (w1 : World) (a1 : Addr) (m : Mode) (x y : Nat) => run_store Tryz.prog w1 a1 (.complex .f64 x y) m rfl
  go_enter Tryz.func152, Tryz.ntmps152
  go_wp2_with fail
  refine (K.out _ _).mono ?_
  rintro e w1 ⟨rfl, hr1, hf1⟩
  have hb1 : Blk w1 (w.heap.size + 1) 45 (clA false 0 0 ByteArray.empty 0 0) := by
    refine Blk.fr ?_ hf1 (by omega)
    have := Blk.new (w.alloc (.cells (clA false 0 0 ByteArray.empty 0 0) 45)) (clA false 0 0 ByteArray.empty 0 0) 45
    rwa [show (w.alloc (.cells (clA false 0 0 ByteArray.empty 0 0) 45)).heap.size = w.heap.size + 1 by simp] at this
  have hb0 : Blk w1 w.heap.size 45 (clA false 0 0 ByteArray.empty 0 0) := Blk.fr ((Blk.new _ _ _).alloc _) hf1 (by omega)
  have HB0 := hide hb0
  have HB1 := hide hb1
  have HR1 := hide hr1
  have HF1 := hide hf1
  obtain ⟨c0, c1, c2, c3, c4, c5, f0, f1, f2, f3, f4, f5⟩ := Blk.six hb0
  obtain ⟨d0, d1, d2, d3, d4, d5, g0, g1, g2, g3, g4, g5⟩ := Blk.six hb1
  clear hb0 hb1 hr1 hf1
  go_wp2_with fail
  go_region
  go_wp2_with fail
  have hC := Fr.setCell w1 ⟨w.heap.size + 1, 4, none⟩ (.string x)
  have h0 : Blk (w1.setCell ⟨w.heap.size + 1, 4, none⟩ (.string x)) w.heap.size 45 (clA false 0 0 ByteArray.empty 0 0) := HB0.out.fr hC (by show ¬ w.heap.size = w.heap.size + 1; omega)
  have hfin := st6_blk h0 (.bool false) (.bool false) (.int .i64 0) (.int .u64 0) (.string x) (.complex .f64 0 0)
  have hfr := st6_fr (w1.setCell ⟨w.heap.size + 1, 4, none⟩ (.string x)) w.heap.size (.bool false) (.bool false) (.int .i64 0) (.int .u64 0) (.string x) (.complex .f64 0 0)
  have hF : Fr w w1 (fun k => k = R) := (((Fr.alloc w _ _).trans (Fr.alloc _ _ _) (fun _ _ h => h)).trans HF1.out (fun _ _ h => h))
  refine bodyPost_ret (results_cell_tmp_row' rfl _ _ _ w.heap.size 45 #[.bool false, .bool false, .int .i64 0, .int .u64 0, .string x, .complex .f64 0 0] (0, 0) rfl hfin.drew Tryz.underlying45 (by exact info_c)) rfl ?_
  exact ⟨rfl, Blk.drew (Blk.fr (Blk.fr HR1.out hC (by show ¬ R = w.heap.size + 1; omega)) hfr (by omega)), Fr.drew ((Fr.newset (L := w.heap.size + 1) hF (by omega) hC).newset (Nat.le_refl _) hfr)⟩
end Go.Proofs.YtfkgmodgkifelaaGreatDoor
namespace Go.Proofs.YtfkgmodgkifelaaGreatDoor
open Go.RowKit

def GPost (R : Nat) (w : World) (s : ByteArray) (c : Value) (er p' e' : Nat) (e : Ending) (w' : World) : Prop :=
  e = .returned (.tuple #[c, .int .i64 (er : Nat)]) ∧ Rd w' R s p' e' ∧ Fr w w' (fun k => k = R)
set_option maxHeartbeats 2000000 in
set_option maxRecDepth 100000 in
theorem pget_of (k : Int) (h1 : 1 ≤ k) (h6 : k ≤ 6) (R : Nat) (s : ByteArray) (p p' e' : Nat) (b ok : Bool) (x u : Int) (t : ByteArray) (fp fq : Nat) (w : World) (h : Rd w R s p 0) (c : Value) (er : Nat)
    (hcase : Hid ((e' = 0 ∧ ok = true ∧ c = clV b x u t fp fq ∧ er = 0) ∨ (e' = 0 ∧ ok = false ∧ c = clZ ∧ er = 12) ∨ (0 < e' ∧ c = clZ ∧ er = e')))
    (HR : ∀ o, Calls Tryz.prog 152 #[.pointer (some ⟨R, 0, none⟩), .int .i64 k] (w.alloc o) (CPost R (w.alloc o) s (clV b x u t fp fq) ok p' e')) :
    Calls Tryz.prog 109 #[.pointer (some ⟨R, 0, none⟩), .int .i64 k] w (GPost R w s c er p' e') := by
  have hRw := Blk.lt h
  have KI := hide (is_yes k h1 h6)
  have KR := hide HR
  clear h HR
  have hst := fun (w1 : World) (a1 : Addr) (m : Mode) (x y : Nat) => run_store Tryz.prog w1 a1 (.complex .f64 x y) m rfl
  go_enter Tryz.func109, Tryz.ntmps109
  go_wp2_with fail
  refine (KI.out _).mono ?_
  rintro e w0 ⟨rfl, rfl⟩
  go_wp2_with fail
  refine (KR.out _).mono ?_
  rintro e w1 ⟨rfl, hr1, hf1⟩
  have hb0 : Blk w1 w.heap.size 45 (clA false 0 0 ByteArray.empty 0 0) := Blk.fr (Blk.new _ _ _) hf1 (by omega)
  have hw1 : w.heap.size < w1.heap.size := hb0.lt
  have KE := hide (fun o => rerr_any R s p' e' (w1.alloc o) (hr1.below ((Below.refl _ _).alloc (Nat.le_refl _) _)))
  have hF := hide ((Fr.alloc w _ _).trans hf1 (fun _ _ h => h))
  have HR1 := hide hr1
  have HB := hide (fun o => hb0.alloc o)
  obtain ⟨c0, c1, c2, c3, c4, c5, f0, f1, f2, f3, f4, f5⟩ := Blk.six hb0
  have HB1 := hide hb0
  clear hr1 hf1 hb0
  have hFA := hide (fun (o : Obj) (a0 a1 a2 a3 a4 a5 : Value) => show Fr w ((st6 w1 w.heap.size a0 a1 a2 a3 a4 a5).alloc o) (fun k => k = R) ∧ Rd ((st6 w1 w.heap.size a0 a1 a2 a3 a4 a5).alloc o) R s p' e' ∧ Blk ((st6 w1 w.heap.size a0 a1 a2 a3 a4 a5).alloc o) w.heap.size 45 #[a0, a1, a2, a3, a4, a5] from
    ⟨(Fr.newset hF.out (Nat.le_refl _) (st6_fr w1 w.heap.size a0 a1 a2 a3 a4 a5)).trans (Fr.alloc _ _ _) (fun _ _ h => h), (Blk.fr HR1.out (st6_fr w1 w.heap.size a0 a1 a2 a3 a4 a5) (by omega)).alloc _, (st6_blk (by exact HB1.out) a0 a1 a2 a3 a4 a5).alloc _⟩)
  have CL := info_c
  unfold clV clA
  go_wp2_with fail
  refine (KE.out _).mono ?_
  rintro e w0 ⟨rfl, rfl⟩
  rcases hcase.out with ⟨rfl, rfl, rfl, rfl⟩ | ⟨rfl, rfl, rfl, rfl⟩ | ⟨hpos, rfl, rfl⟩
  · unfold clV clA
    go_wp2_with fail
    obtain ⟨q1, q2, q3⟩ := hFA.out (.cells #[.bool false, .bool b, .int .i64 x, .int .u64 u, .string t, .complex .f64 fp fq] 45) (.bool false) (.bool b) (.int .i64 x) (.int .u64 u) (.string t) (.complex .f64 fp fq)
    refine bodyPost_ret (results_cell_tmp_row' rfl _ _ _ w.heap.size 45 #[.bool false, .bool b, .int .i64 x, .int .u64 u, .string t, .complex .f64 fp fq] (0, 0) rfl q3 Tryz.underlying45 (by exact info_c)) rfl ?_
    exact ⟨rfl, q2, q1⟩
  · unfold clZ clV clA
    go_wp2_with fail
    obtain ⟨q1, q2, q3⟩ := hFA.out (.cells #[.bool false, .bool b, .int .i64 x, .int .u64 u, .string t, .complex .f64 fp fq] 45) (.bool false) (.bool false) (.int .i64 0) (.int .u64 0) (.string { data := #[] }) (.complex .f64 0 0)
    refine bodyPost_ret (results_cell_tmp_row' rfl _ _ _ w.heap.size 45 #[.bool false, .bool false, .int .i64 0, .int .u64 0, .string { data := #[] }, .complex .f64 0 0] (0, 0) rfl q3 Tryz.underlying45 (by exact info_c)) rfl ?_
    exact ⟨rfl, q2, q1⟩
  · have hne : ((er : Int) != 0) = true := by rw [bne_iff_ne]; omega
    unfold clZ clV clA
    go_wp2_with fail
    refine (KE.out _).mono ?_
    rintro e w0 ⟨rfl, rfl⟩
    go_wp2_with fail
    obtain ⟨q1, q2, q3⟩ := hFA.out (.cells #[.bool false, .bool b, .int .i64 x, .int .u64 u, .string t, .complex .f64 fp fq] 45) (.bool false) (.bool false) (.int .i64 0) (.int .u64 0) (.string { data := #[] }) (.complex .f64 0 0)
    refine bodyPost_ret (results_cell_tmp_row' rfl _ _ _ w.heap.size 45 #[.bool false, .bool false, .int .i64 0, .int .u64 0, .string { data := #[] }, .complex .f64 0 0] (0, 0) rfl q3 Tryz.underlying45 (by exact info_c)) rfl ?_
    exact ⟨rfl, q2, q1⟩
end Go.Proofs.YtfkgmodgkifelaaGreatDoor
namespace Go.Proofs.YtfkgmodgkifelaaGreatDoor
open Go.RowKit

/-- Is a whole number too far from 0? -/
def farB (x : Int) : Bool := decide (x < -9007199254740992 ∨ 9007199254740992 < x)
set_option maxHeartbeats 1000000 in
set_option maxRecDepth 100000 in
theorem far_no (x : Int) (h : farB x = false) (w : World) : Calls Tryz.prog 169 #[.int .i64 x] w fun e w' => e = .returned (.bool false) ∧ w = w' := by
  unfold farB at h
  rw [decide_eq_false_iff_not] at h
  have h1 : decide (x < -9007199254740992) = false := by rw [decide_eq_false_iff_not]; omega
  have h2 : decide (9007199254740992 < x) = false := by rw [decide_eq_false_iff_not]; omega
  clear h
  go_enter Tryz.func169, Tryz.ntmps169
  go_wp2_with fail
  go_ret
  exact ⟨rfl, rfl⟩
set_option maxHeartbeats 1000000 in
set_option maxRecDepth 100000 in
theorem far_yes (x : Int) (h : farB x = true) (w : World) : Calls Tryz.prog 169 #[.int .i64 x] w fun e w' => e = .returned (.bool true) ∧ w = w' := by
  unfold farB at h
  rw [decide_eq_true_eq] at h
  by_cases hx : x < -9007199254740992
  · have h1 : decide (x < -9007199254740992) = true := by rw [decide_eq_true_eq]; omega
    clear h
    go_enter Tryz.func169, Tryz.ntmps169
    go_wp2_with fail
    go_ret
    exact ⟨rfl, rfl⟩
  · have h1 : decide (x < -9007199254740992) = false := by rw [decide_eq_false_iff_not]; omega
    have h2 : decide (9007199254740992 < x) = true := by rw [decide_eq_true_eq]; omega
    clear h
    go_enter Tryz.func169, Tryz.ntmps169
    go_wp2_with fail
    go_ret
    exact ⟨rfl, rfl⟩
theorem st6_two {w w1 : World} {R : Nat} (hRw : R < w.heap.size) {s : ByteArray} {p' e' : Nat} (hF : Fr w w1 (fun k => k = R)) (hR : Rd w1 R s p' e') (hB : Blk w1 w.heap.size 45 (clA false 0 0 ByteArray.empty 0 0)) (a0 a1 a2 a3 a4 a5 : Value) :
    Fr w (st6 w1 w.heap.size a0 a1 a2 a3 a4 a5) (fun k => k = R) ∧ Rd (st6 w1 w.heap.size a0 a1 a2 a3 a4 a5) R s p' e' ∧ Blk (st6 w1 w.heap.size a0 a1 a2 a3 a4 a5) w.heap.size 45 #[a0, a1, a2, a3, a4, a5] :=
  ⟨Fr.newset hF (Nat.le_refl _) (st6_fr _ _ _ _ _ _ _ _), Blk.fr hR (st6_fr _ _ _ _ _ _ _ _) (by omega), st6_blk (by exact hB) _ _ _ _ _ _⟩
set_option maxHeartbeats 2000000 in
set_option maxRecDepth 100000 in
theorem pread_point (R : Nat) (s : ByteArray) (p p1 e1 p2 e2 : Nat) (a b : Int) (hs : s.size ≤ maxLen) (hp : p ≤ s.size) (hp1 : p1 ≤ s.size) (w : World) (h : Rd w R s p 0)
    (ha : Hid (back (st s p 0 (fun D => few D 0)).1 = a ∧ (st s p 0 (fun D => few D 0)).2.1 = p1 ∧ (st s p 0 (fun D => few D 0)).2.2 = e1))
    (hb : Hid (back (st s p1 e1 (fun D => few D 0)).1 = b ∧ (st s p1 e1 (fun D => few D 0)).2.1 = p2 ∧ (st s p1 e1 (fun D => few D 0)).2.2 = e2))
    (c : Value) (ok : Bool) (hcase : Hid ((farB a = false ∧ farB b = false ∧ ok = true ∧ c = clV false 0 0 ByteArray.empty (floatOfInt .f64 a) (floatOfInt .f64 b)) ∨ ((farB a = true ∨ farB a = false ∧ farB b = true) ∧ ok = false ∧ c = clZ))) :
    Calls Tryz.prog 152 #[.pointer (some ⟨R, 0, none⟩), .int .i64 6] w (CPost R w s c ok p2 e2) := by
  have hRw := Blk.lt h
  have K1 := hide (fun a b => rsvar_any R s p 0 hs hp ((w.alloc a).alloc b) (h.below (((Below.refl _ _).alloc (Nat.le_refl _) _).alloc (by simp) _)))
  have K2 := hide (fun w1 (h1 : Rd w1 R s p1 e1) => rsvar_any R s p1 e1 hs hp1 w1 h1)
  obtain ⟨ha1, ha2, ha3⟩ := ha.out
  obtain ⟨hb1, hb2, hb3⟩ := hb.out
  rw [ha1, ha2, ha3] at K1
  rw [hb1, hb2, hb3] at K2
  clear h ha hb ha1 ha2 ha3 hb1 hb2 hb3
  have hst := fun (w1 : World) (a1 : Addr) (m : Mode) (x y : Nat) => run_store Tryz.prog w1 a1 (.complex .f64 x y) m rfl
  go_enter Tryz.func152, Tryz.ntmps152
  go_wp2_with fail
  refine (K1.out _ _).mono ?_
  rintro e w0 ⟨rfl, hr0, hf0⟩
  have HF0 := hide hf0
  have KK := hide (K2.out w0 hr0)
  clear hr0 hf0
  go_wp2_with fail
  refine KK.out.mono ?_
  rintro e w1 ⟨rfl, hr1, hf1'⟩
  have hf1 := HF0.out.trans hf1' (fun _ _ h => h)
  have hb1 : Blk w1 (w.heap.size + 1) 45 (clA false 0 0 ByteArray.empty 0 0) := by
    refine Blk.fr ?_ hf1 (by omega)
    have := Blk.new (w.alloc (.cells (clA false 0 0 ByteArray.empty 0 0) 45)) (clA false 0 0 ByteArray.empty 0 0) 45
    rwa [show (w.alloc (.cells (clA false 0 0 ByteArray.empty 0 0) 45)).heap.size = w.heap.size + 1 by simp] at this
  have hb0 : Blk w1 w.heap.size 45 (clA false 0 0 ByteArray.empty 0 0) := Blk.fr ((Blk.new _ _ _).alloc _) hf1 (by omega)
  have HB0 := hide hb0
  have HR1 := hide hr1
  have HF := hide (((Fr.alloc w _ _).trans (Fr.alloc _ _ _) (fun _ _ h => h)).trans hf1 (fun _ _ h => h))
  obtain ⟨c0, c1, c2, c3, c4, c5, f0, f1, f2, f3, f4, f5⟩ := Blk.six hb0
  obtain ⟨d0, d1, d2, d3, d4, d5, g0, g1, g2, g3, g4, g5⟩ := Blk.six hb1
  clear hb0 hb1 hr1 hf1 hf1' HF0
  rcases hcase.out with ⟨hfa, hfb, rfl, rfl⟩ | ⟨hff, rfl, rfl⟩
  · have F1 := hide (far_no a hfa)
    have F2 := hide (far_no b hfb)
    clear hfa hfb
    go_wp2_with fail
    refine (F1.out _).mono ?_
    rintro e w2 ⟨rfl, rfl⟩
    go_wp2_with fail
    refine (F2.out _).mono ?_
    rintro e w2 ⟨rfl, rfl⟩
    go_wp2_with fail
    have hC := Fr.setCell w1 ⟨w.heap.size + 1, 5, none⟩ (.complex .f64 (floatOfInt .f64 a) (floatOfInt .f64 b))
    have hF2 := Fr.newset (L := w.heap.size + 1) HF.out (by omega) hC
    have hR2 := Blk.fr HR1.out hC (by show ¬ R = w.heap.size + 1; omega)
    have hB2 := HB0.out.fr hC (by show ¬ w.heap.size = w.heap.size + 1; omega)
    obtain ⟨q1, q2, q3⟩ := st6_two hRw hF2 hR2 hB2 (.bool false) (.bool false) (.int .i64 0) (.int .u64 0) (.string ByteArray.empty) (.complex .f64 (floatOfInt .f64 a) (floatOfInt .f64 b))
    refine bodyPost_ret (results_cell_tmp_row' rfl _ _ _ w.heap.size 45 #[.bool false, .bool false, .int .i64 0, .int .u64 0, .string ByteArray.empty, .complex .f64 (floatOfInt .f64 a) (floatOfInt .f64 b)] (0, 0) rfl q3 Tryz.underlying45 (by exact info_c)) rfl ?_
    exact ⟨rfl, q2, q1⟩
  · rcases hff with hfa | ⟨hfa, hfb⟩
    · have F1 := hide (far_yes a hfa)
      clear hfa
      go_wp2_with fail
      refine (F1.out _).mono ?_
      rintro e w2 ⟨rfl, rfl⟩
      go_wp2_with fail
      obtain ⟨q1, q2, q3⟩ := st6_two hRw HF.out HR1.out HB0.out (.bool false) (.bool false) (.int .i64 0) (.int .u64 0) (.string ByteArray.empty) (.complex .f64 0 0)
      refine bodyPost_ret (results_cell_tmp_row' rfl _ _ _ w.heap.size 45 #[.bool false, .bool false, .int .i64 0, .int .u64 0, .string ByteArray.empty, .complex .f64 0 0] (0, 0) rfl q3 Tryz.underlying45 (by exact info_c)) rfl ?_
      exact ⟨rfl, q2, q1⟩
    · have F1 := hide (far_no a hfa)
      have F2 := hide (far_yes b hfb)
      clear hfa hfb
      go_wp2_with fail
      refine (F1.out _).mono ?_
      rintro e w2 ⟨rfl, rfl⟩
      go_wp2_with fail
      refine (F2.out _).mono ?_
      rintro e w2 ⟨rfl, rfl⟩
      go_wp2_with fail
      obtain ⟨q1, q2, q3⟩ := st6_two hRw HF.out HR1.out HB0.out (.bool false) (.bool false) (.int .i64 0) (.int .u64 0) (.string ByteArray.empty) (.complex .f64 0 0)
      refine bodyPost_ret (results_cell_tmp_row' rfl _ _ _ w.heap.size 45 #[.bool false, .bool false, .int .i64 0, .int .u64 0, .string ByteArray.empty, .complex .f64 0 0] (0, 0) rfl q3 Tryz.underlying45 (by exact info_c)) rfl ?_
      exact ⟨rfl, q2, q1⟩
end Go.Proofs.YtfkgmodgkifelaaGreatDoor
