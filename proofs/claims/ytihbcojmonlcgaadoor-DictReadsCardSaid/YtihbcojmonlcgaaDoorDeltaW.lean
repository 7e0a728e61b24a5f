/- Steps of cells: what each call gives. -/
import Derived.Test.YtihbcojmonlcgaaDoorWireW2
import Derived.Test.YtihbcojmonlcgaaDoorDeltaP
import Derived.WalkLawsBesides
namespace Go.Proofs.YtihbcojmonlcgaaDoor
open Go.RowKit

/-- A cell whose string is empty, nothing missing. -/
def cl (x : Int) (u : Int) (p q : Nat) : Value := .agg #[.bool false, .bool false, .int .i64 x, .int .u64 u, .string ByteArray.empty, .complex .f64 p q]
theorem row3 (w : World) (a b c : Obj) : (((w.alloc a).alloc b).alloc c).heap[w.heap.size + 1 + 1]? = some c := by
  have h := heap_alloc_new ((w.alloc a).alloc b) c
  rwa [show ((w.alloc a).alloc b).heap.size = w.heap.size + 1 + 1 by simp] at h
theorem results_cell_tmp_row {fn : Func} {p u : Tmp} {ty : TypeId} (h : fn.results = #[.cell p ty, .tmp u]) (tmps : Array Value) (P : Program) (w : World) (g : Nat) (t : TypeId) (cs : Array Value) (fr : Nat × Nat) {fs : Array Field}
    (hp : tmps.getD p undef = .pointer (some ⟨g, 0, none⟩)) (hg : w.heap[g]? = some (.cells cs t fr))
    (hu : P.underlying ty = some (.struct fs)) (hi : (P.info? ty).map (·.size) = some cs.size) :
    (results fn tmps).run P w = .ok (.tuple #[.agg cs, tmps.getD u undef]) w := by
  rw [results_cell_tmp h, hp]
  simp [asAddr, run_loadVar_row w g t ty cs fr _ hg hu rfl hi, Result.andThen]
theorem setRow3 (w : World) (a b : Obj) (c c' : Array Value) (t : TypeId) : (((w.alloc a).alloc b).alloc (.cells c t)).setRow (w.heap.size + 1 + 1) c' = ((w.alloc a).alloc b).alloc (.cells c' t) := by
  have h := World.setRow_alloc_new ((w.alloc a).alloc b) c c' t
  simpa using h
theorem info_cell : (Tryd.prog.info? 34).map (·.size) = some 6 := by kernel_rfl
theorem below3 (w : World) (a b c : Obj) : Below w.heap.size w (((w.alloc a).alloc b).alloc c) := (((Below.refl _ _).alloc (Nat.le_refl _) _).alloc (by simp) _).alloc (by simp; omega) _
set_option maxHeartbeats 1000000 in
set_option maxRecDepth 100000 in
theorem step_int (a b u v : Int) (p q p1 q1 : Nat) (w : World) :
    Calls Tryd.prog 93 #[.int .i64 2, cl a u p q, cl b v p1 q1] w fun e w' => e = .returned (.tuple #[cl (wrap64 (b - a)) 0 0 0, .int .i64 0]) ∧ Below w.heap.size w w' := by
  unfold cl
  have H3 := hide (row3 w)
  have HB := hide (below3 w)
  go_enter Tryd.func93, Tryd.ntmps93
  have hst := fun (w1 : World) (a1 : Addr) (m : Mode) (x y : Nat) => run_store Tryd.prog w1 a1 (.complex .f64 x y) m rfl
  go_wp2_with fail
  refine bodyPost_ret (results_cell_tmp_row rfl _ _ _ (w.heap.size + 1 + 1) 34 #[.bool false, .bool false, .int .i64 (wrap64 (b - a)), .int .u64 0, .string ByteArray.empty, .complex .f64 0 0] (0, 0) rfl (H3.out _ _ _) Tryd.underlying34 (by exact info_cell)) rfl ?_
  exact ⟨rfl, HB.out _ _ _⟩
set_option maxHeartbeats 1000000 in
set_option maxRecDepth 100000 in
theorem step_uint (a b u v : Int) (p q p1 q1 : Nat) (w : World) :
    Calls Tryd.prog 93 #[.int .i64 3, cl a u p q, cl b v p1 q1] w fun e w' => e = .returned (.tuple #[cl (wrap64 ((v - u) % 18446744073709551616)) 0 0 0, .int .i64 0]) ∧ Below w.heap.size w w' := by
  unfold cl
  have H3 := hide (row3 w)
  have HB := hide (below3 w)
  go_enter Tryd.func93, Tryd.ntmps93
  have hst := fun (w1 : World) (a1 : Addr) (m : Mode) (x y : Nat) => run_store Tryd.prog w1 a1 (.complex .f64 x y) m rfl
  go_wp2_with fail
  refine bodyPost_ret (results_cell_tmp_row rfl _ _ _ (w.heap.size + 1 + 1) 34 #[.bool false, .bool false, .int .i64 (wrap64 ((v - u) % 18446744073709551616)), .int .u64 0, .string ByteArray.empty, .complex .f64 0 0] (0, 0) rfl (H3.out _ _ _) Tryd.underlying34 (by exact info_cell)) rfl ?_
  exact ⟨rfl, HB.out _ _ _⟩
set_option maxHeartbeats 1000000 in
set_option maxRecDepth 100000 in
theorem step_point (a b u v : Int) (p q p1 q1 re im : Nat) (hc : cSumBits .sub .f64 p1 q1 p q = some (re, im)) (w : World) :
    Calls Tryd.prog 93 #[.int .i64 6, cl a u p q, cl b v p1 q1] w fun e w' => e = .returned (.tuple #[cl 0 0 re im, .int .i64 0]) ∧ Below w.heap.size w w' := by
  unfold cl
  have H3 := hide (row3 w)
  have HB := hide (below3 w)
  have hsub := fun w => run_complex_sum (P := Tryd.prog) (w := w) .sub (.inr rfl) 32 .f64 p1 q1 p q re im hc
  clear hc
  go_enter Tryd.func93, Tryd.ntmps93
  have hst := fun (w1 : World) (a1 : Addr) (m : Mode) (x y : Nat) => run_store Tryd.prog w1 a1 (.complex .f64 x y) m rfl
  go_wp2_with fail
  refine bodyPost_ret (results_cell_tmp_row rfl _ _ _ (w.heap.size + 1 + 1) 34 #[.bool false, .bool false, .int .i64 (0), .int .u64 0, .string ByteArray.empty, .complex .f64 re im] (0, 0) rfl (H3.out _ _ _) Tryd.underlying34 (by exact info_cell)) rfl ?_
  exact ⟨rfl, HB.out _ _ _⟩
set_option maxHeartbeats 1000000 in
set_option maxRecDepth 100000 in
theorem has_any (k : Int) (hk : k = 2 ∨ k = 3 ∨ k = 6) (w : World) :
    Calls Tryd.prog 49 #[.int .i64 k] w fun e w' => e = .returned (.bool true) ∧ w = w' := by
  rcases hk with rfl | rfl | rfl <;>
  · go_enter Tryd.func49, Tryd.ntmps49
    go_wp2_with fail
    go_ret
    exact ⟨rfl, rfl⟩
set_option maxHeartbeats 1000000 in
set_option maxRecDepth 100000 in
theorem dwstring_any (W B : Nat) (sv : Value) (l : List Nat) (w : World) (h : Wr w W B sv l) :
    Calls Tryd.prog 68 #[.pointer (some ⟨W, 0, none⟩)] w fun e w' => e = .returned (.string (strN l)) ∧ w = w' := by
  have hc : w.cell? ⟨W, 0, none⟩ = some sv := h.blk.cell 0
  have hs := ownU8_string h.own
  clear h
  go_enter Tryd.func68, Tryd.ntmps68
  go_wp2_with fail
  go_ret
  exact ⟨rfl, rfl⟩
end Go.Proofs.YtihbcojmonlcgaaDoor
