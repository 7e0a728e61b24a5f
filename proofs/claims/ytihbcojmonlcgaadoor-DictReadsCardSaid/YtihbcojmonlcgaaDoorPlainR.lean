/- A cell by itself, read: what plain's functions give. -/
import Derived.Test.YtihbcojmonlcgaaDoorWireR8
import Derived.Test.YtihbcojmonlcgaaDoorWireS2
import Derived.WalkLawsBesides
namespace Go.Proofs.YtihbcojmonlcgaaDoor
open Go.RowKit

theorem results_cell_tmp_row' {fn : Func} {p u : Tmp} {ty : TypeId} (h : fn.results = #[.cell p ty, .tmp u]) (tmps : Array Value) (P : Program) (w : World) (g : Nat) (t : TypeId) (cs : Array Value) (fr : Nat × Nat) {fs : Array Field}
    (hp : tmps.getD p undef = .pointer (some ⟨g, 0, none⟩)) (hg : w.heap[g]? = some (.cells cs t fr))
    (hu : P.underlying ty = some (.struct fs)) (hi : (P.info? ty).map (·.size) = some cs.size) :
    (results fn tmps).run P w = .ok (.tuple #[.agg cs, tmps.getD u undef]) w := by
  rw [results_cell_tmp h, hp]
  simp [asAddr, run_loadVar_row w g t ty cs fr _ hg hu rfl hi, Result.andThen]
/-- A cell, nothing missing. -/
def clA (b : Bool) (x u : Int) (s : ByteArray) (p q : Nat) : Array Value := #[.bool false, .bool b, .int .i64 x, .int .u64 u, .string s, .complex .f64 p q]
def clV (b : Bool) (x u : Int) (s : ByteArray) (p q : Nat) : Value := .agg (clA b x u s p q)
def clZ : Value := clV false 0 0 ByteArray.empty 0 0
theorem info_c : (Tryd.prog.info? 34).map (·.size) = some 6 := by kernel_rfl
structure Six (w : World) (g : Nat) (a0 a1 a2 a3 a4 a5 : Value) : Prop where
  c0 : w.cell? ⟨g, 0, none⟩ = some a0
  c1 : w.cell? ⟨g, 1, none⟩ = some a1
  c2 : w.cell? ⟨g, 2, none⟩ = some a2
  c3 : w.cell? ⟨g, 3, none⟩ = some a3
  c4 : w.cell? ⟨g, 4, none⟩ = some a4
  c5 : w.cell? ⟨g, 5, none⟩ = some a5
  f0 : w.frozen? ⟨g, 0, none⟩ = false
  f1 : w.frozen? ⟨g, 1, none⟩ = false
  f2 : w.frozen? ⟨g, 2, none⟩ = false
  f3 : w.frozen? ⟨g, 3, none⟩ = false
  f4 : w.frozen? ⟨g, 4, none⟩ = false
  f5 : w.frozen? ⟨g, 5, none⟩ = false
theorem Blk.six {w : World} {g : Nat} {t : TypeId} {a0 a1 a2 a3 a4 a5 : Value} (h : Blk w g t #[a0, a1, a2, a3, a4, a5]) : Six w g a0 a1 a2 a3 a4 a5 :=
  ⟨h.cell 0, h.cell 1, h.cell 2, h.cell 3, h.cell 4, h.cell 5, h.frozen 0, h.frozen 1, h.frozen 2, h.frozen 3, h.frozen 4, h.frozen 5⟩
set_option maxHeartbeats 1000000 in
set_option maxRecDepth 100000 in
theorem is_yes (k : Int) (h1 : 1 ≤ k) (h2 : k ≤ 6) (w : World) :
    Calls Tryd.prog 36 #[.int .i64 k] w fun e w' => e = .returned (.bool true) ∧ w = w' := by
  go_enter Tryd.func36, Tryd.ntmps36
  go_wp2_with fail
  go_ret
  exact ⟨rfl, rfl⟩
set_option maxHeartbeats 1000000 in
set_option maxRecDepth 100000 in
theorem is_no (k : Int) (h : k < 1 ∨ 6 < k) (w : World) :
    Calls Tryd.prog 36 #[.int .i64 k] w fun e w' => e = .returned (.bool false) ∧ w = w' := by
  rcases h with h | h
  · go_enter Tryd.func36, Tryd.ntmps36
    go_wp2_with fail
    go_ret
    exact ⟨rfl, rfl⟩
  · have h1 : 1 ≤ k := by omega
    have h2 : decide (k ≤ 6) = false := by simp; omega
    go_enter Tryd.func36, Tryd.ntmps36
    go_wp2_with fail
    go_ret
    exact ⟨rfl, rfl⟩
def st6 (w : World) (L : Nat) (a0 a1 a2 a3 a4 a5 : Value) : World :=
  (((((w.setCell ⟨L, 0, none⟩ a0).setCell ⟨L, 1, none⟩ a1).setCell ⟨L, 2, none⟩ a2).setCell ⟨L, 3, none⟩ a3).setCell ⟨L, 4, none⟩ a4).setCell ⟨L, 5, none⟩ a5
theorem Fr.set' {a b : World} {L : Nat} (h : Fr a b (fun k => k = L)) (i : Nat) (v : Value) : Fr a (b.setCell ⟨L, i, none⟩ v) (fun k => k = L) := h.trans (Fr.setCell b ⟨L, i, none⟩ v) (fun _ _ h => h)
theorem st6_fr (w : World) (L : Nat) (a0 a1 a2 a3 a4 a5 : Value) : Fr w (st6 w L a0 a1 a2 a3 a4 a5) (fun k => k = L) :=
  ((((((Fr.refl w _).set' 0 _).set' 1 _).set' 2 _).set' 3 _).set' 4 _).set' 5 _
theorem st6_blk {w : World} {L : Nat} {t : TypeId} {b0 b1 b2 b3 b4 b5 : Value} (h : Blk w L t #[b0, b1, b2, b3, b4, b5]) (a0 a1 a2 a3 a4 a5 : Value) : Blk (st6 w L a0 a1 a2 a3 a4 a5) L t #[a0, a1, a2, a3, a4, a5] :=
  (((((h.set 0 a0).set 1 a1).set 2 a2).set 3 a3).set 4 a4).set 5 a5
theorem Fr.newset {w w1 w2 : World} {R L : Nat} (h : Fr w w1 (fun k => k = R)) (hL : w.heap.size ≤ L) (h2 : Fr w1 w2 (fun k => k = L)) : Fr w w2 (fun k => k = R) :=
  h.trans h2 (fun i hi hq => by omega)
/-- How a read of a cell ends. -/
def CPost (R : Nat) (w : World) (s : ByteArray) (c : Value) (ok : Bool) (p' e' : Nat) (e : Ending) (w' : World) : Prop :=
  e = .returned (.tuple #[c, .bool ok]) ∧ Rd w' R s p' e' ∧ Fr w w' (fun k => k = R)
set_option maxHeartbeats 2000000 in
set_option maxRecDepth 100000 in
theorem pread_bool (R : Nat) (s : ByteArray) (p : Nat) (hs : s.size ≤ maxLen) (hp : p ≤ s.size) (w : World) (h : Rd w R s p 0) :
    Calls Tryd.prog 37 #[.pointer (some ⟨R, 0, none⟩), .int .i64 1] w (CPost R w s (clV (((st s p 0 (num 1)).1 : Int) == 1) 0 0 ByteArray.empty 0 0) (decide (((st s p 0 (num 1)).1 : Int) ≤ 1)) (st s p 0 (num 1)).2.1 (st s p 0 (num 1)).2.2) := by
  have hRw := Blk.lt h
  have K := hide (fun a b => ru8_any R s p 0 hs hp ((w.alloc a).alloc b) (h.below (((Below.refl _ _).alloc (Nat.le_refl _) _).alloc (by simp) _)))
  generalize st s p 0 (num 1) = T at *
  obtain ⟨x, p', e'⟩ := T
  simp only at K ⊢
  clear h
  have hst := fun (w1 : World) (a1 : Addr) (m : Mode) (x y : Nat) => run_store Tryd.prog w1 a1 (.complex .f64 x y) m rfl
  go_enter Tryd.func37, Tryd.ntmps37
  go_wp2_with fail
  refine (K.out _ _).mono ?_
  rintro e w1 ⟨rfl, hr1, hf1⟩
  have hb1 : Blk w1 (w.heap.size + 1) 34 (clA false 0 0 ByteArray.empty 0 0) := by
    refine Blk.fr ?_ hf1 (by omega)
    have := Blk.new (w.alloc (.cells (clA false 0 0 ByteArray.empty 0 0) 34)) (clA false 0 0 ByteArray.empty 0 0) 34
    rwa [show (w.alloc (.cells (clA false 0 0 ByteArray.empty 0 0) 34)).heap.size = w.heap.size + 1 by simp] at this
  have hb0 : Blk w1 w.heap.size 34 (clA false 0 0 ByteArray.empty 0 0) := Blk.fr ((Blk.new _ _ _).alloc _) hf1 (by omega)
  have HB0 := hide hb0
  have HB1 := hide hb1
  have HR1 := hide hr1
  have HF1 := hide hf1
  obtain ⟨c0, c1, c2, c3, c4, c5, f0, f1, f2, f3, f4, f5⟩ := Blk.six hb0
  obtain ⟨d0, d1, d2, d3, d4, d5, g0, g1, g2, g3, g4, g5⟩ := Blk.six hb1
  clear hb0 hb1 hr1 hf1
  go_wp2_with fail
  have hC := Fr.setCell w1 ⟨w.heap.size + 1, 1, none⟩ (.bool ((x : Int) == 1))
  have h0 : Blk (w1.setCell ⟨w.heap.size + 1, 1, none⟩ (.bool ((x : Int) == 1))) w.heap.size 34 (clA false 0 0 ByteArray.empty 0 0) := HB0.out.fr hC (by show ¬ w.heap.size = w.heap.size + 1; omega)
  have hfin := st6_blk h0 (.bool false) (.bool ((x : Int) == 1)) (.int .i64 0) (.int .u64 0) (.string ByteArray.empty) (.complex .f64 0 0)
  have hfr := st6_fr (w1.setCell ⟨w.heap.size + 1, 1, none⟩ (.bool ((x : Int) == 1))) w.heap.size (.bool false) (.bool ((x : Int) == 1)) (.int .i64 0) (.int .u64 0) (.string ByteArray.empty) (.complex .f64 0 0)
  have hF : Fr w w1 (fun k => k = R) := (((Fr.alloc w _ _).trans (Fr.alloc _ _ _) (fun _ _ h => h)).trans HF1.out (fun _ _ h => h))
  refine bodyPost_ret (results_cell_tmp_row' rfl _ _ _ w.heap.size 34 #[.bool false, .bool ((x : Int) == 1), .int .i64 0, .int .u64 0, .string ByteArray.empty, .complex .f64 0 0] (0, 0) rfl hfin Tryd.underlying34 (by exact info_c)) rfl ?_
  exact ⟨rfl, Blk.fr (Blk.fr HR1.out hC (by show ¬ R = w.heap.size + 1; omega)) hfr (by omega), (Fr.newset (L := w.heap.size + 1) hF (by omega) hC).newset (Nat.le_refl _) hfr⟩
end Go.Proofs.YtihbcojmonlcgaaDoor
