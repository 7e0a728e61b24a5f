/- Schema: whether a cell may be of a column. -/
import Derived.Test.YtihbcojmonlcgaaDoorPlainS
import Derived.Laws.EntriesVeiled
import Derived.Test.YtihbcojmonlcgaaDoorDeltaF
import Derived.Shelf.Abstract
namespace Go.Proofs.YtihbcojmonlcgaaDoor
open Go.RowKit

set_option maxHeartbeats 1000000 in
set_option maxRecDepth 100000 in
theorem every_any (c : Value) (hc : ∃ a0 a1 a2 a3 a4 a5 : Value, c = .agg #[a0, a1, a2, a3, a4, a5]) (w : World) : Calls Tryd.prog 70 #[c] w fun e w' => e = .returned (.bool true) ∧ Below w.heap.size w w' := by
  obtain ⟨a0, a1, a2, a3, a4, a5, rfl⟩ := hc
  go_enter Tryd.func70, Tryd.ntmps70
  go_wp2_with fail
  go_ret
  first | exact ⟨rfl, Below.refl _ _⟩ | exact ⟨rfl, (Below.refl _ _).alloc (Nat.le_refl _) _⟩
theorem blk_n2 (w : World) (a : Obj) (cs : Array Value) (t : TypeId) : Blk ((w.alloc a).alloc (.cells cs t)) (w.heap.size + 1) t cs := by
  have := Blk.new (w.alloc a) cs t
  rwa [show (w.alloc a).heap.size = w.heap.size + 1 by simp] at this
theorem blk_n3 (w : World) (a b : Obj) (cs : Array Value) (t : TypeId) : Blk (((w.alloc a).alloc b).alloc (.cells cs t)) (w.heap.size + 1 + 1) t cs := by
  have := Blk.new ((w.alloc a).alloc b) cs t
  rwa [show ((w.alloc a).alloc b).heap.size = w.heap.size + 1 + 1 by simp] at this
theorem below_st6 {B : Nat} {a w : World} (h : Below B a w) {L : Nat} (hL : B ≤ L) (a0 a1 a2 a3 a4 a5 : Value) : Below B a (st6 w L a0 a1 a2 a3 a4 a5) :=
  (((((h.setCell hL _).setCell hL _).setCell hL _).setCell hL _).setCell hL _).setCell hL _
set_option maxHeartbeats 1000000 in
set_option maxRecDepth 100000 in
theorem noText_any (x : Int) (t : ByteArray) (w : World) : Calls Tryd.prog 77 #[clV false x 0 t 0 0] w fun e w' => e = .returned (clV false x 0 ByteArray.empty 0 0) ∧ Below w.heap.size w w' := by
  have hst := fun (w1 : World) (a1 : Addr) (m : Mode) (x y : Nat) => run_store Tryd.prog w1 a1 (.complex .f64 x y) m rfl
  unfold clV clA
  go_enter Tryd.func77, Tryd.ntmps77
  go_wp2_with fail
  exact bodyPost_ret (results_cell_row rfl _ _ (w.heap.size + 1) 34 #[.bool false, .bool false, .int .i64 x, .int .u64 0, .string ByteArray.empty, .complex .f64 0 0] (0, 0) _ rfl (blk_n2 _ _ _ _).out Tryd.underlying34 rfl info_c) rfl ⟨rfl, ((Below.refl _ _).alloc (Nat.le_refl _) _).alloc (by simp) _⟩
set_option maxHeartbeats 1000000 in
set_option maxRecDepth 100000 in
theorem noInt_any (x : Int) (t : ByteArray) (w : World) : Calls Tryd.prog 73 #[clV false x 0 t 0 0] w fun e w' => e = .returned (clV false 0 0 t 0 0) ∧ Below w.heap.size w w' := by
  have hst := fun (w1 : World) (a1 : Addr) (m : Mode) (x y : Nat) => run_store Tryd.prog w1 a1 (.complex .f64 x y) m rfl
  unfold clV clA
  go_enter Tryd.func73, Tryd.ntmps73
  go_wp2_with fail
  exact bodyPost_ret (results_cell_row rfl _ _ (w.heap.size + 1) 34 #[.bool false, .bool false, .int .i64 0, .int .u64 0, .string t, .complex .f64 0 0] (0, 0) _ rfl (blk_n2 _ _ _ _).out Tryd.underlying34 rfl info_c) rfl ⟨rfl, ((Below.refl _ _).alloc (Nat.le_refl _) _).alloc (by simp) _⟩
set_option maxHeartbeats 4000000 in
set_option maxRecDepth 100000 in
theorem may_of (F : FuncId) (G : Value) (nm : ByteArray) (k : Int) (nu : Bool) (x x0 : Int) (t t0 : ByteArray) (r : Bool)
    (hE : ∀ args w, (callFunc 70 args).run Tryd.prog w = .ok (.enter 70 args) w)
    (hF : ∀ args w, (callFunc F args).run Tryd.prog w = .ok (.enter F args) w)
    (hr : Hid ((x0 = 0 ∧ t0 = ByteArray.empty ∧ r = true) ∨ (x0 = 0 ∧ t0.toList.isEmpty = false ∧ r = false)))
    (hK : ∀ w, Calls Tryd.prog F #[clV false x 0 t 0 0] w fun e w' => e = .returned (clV false x0 0 t0 0 0) ∧ Below w.heap.size w w') (w : World) :
    Calls Tryd.prog 33 #[.agg #[.string nm, .int .i64 k, .bool nu], .agg #[.func (.func 70) #[] #[], .func (.func F) #[] #[], G], clV false x 0 t 0 0] w fun e w' => e = .returned (.bool r) ∧ Below w.heap.size w w' := by
  have KE := hide (every_any (clV false x 0 t 0 0) ⟨_, _, _, _, _, _, rfl⟩)
  have KK := hide hK
  clear hK
  unfold clV clA
  unfold clV clA at KE KK
  have HB := hide (fun o1 o2 o3 => (((Below.refl w.heap.size w).alloc (Nat.le_refl _) o1).alloc (by simp) o2).alloc (by simp; omega) o3)
  go_enter Tryd.func33, Tryd.ntmps33
  go_wp2_with fail
  refine KE.out _ |>.mono ?_
  rintro e w1 ⟨rfl, hb1⟩
  have b1 : Blk w1 (w.heap.size + 1) 58 #[.func (.func 70) #[] #[], .func (.func F) #[] #[], G] := Blk.below ((blk_n2 w _ _ _).alloc _) hb1 (by simp)
  have b2 : Blk w1 (w.heap.size + 1 + 1) 34 #[.bool false, .bool false, .int .i64 x, .int .u64 0, .string t, .complex .f64 0 0] := Blk.below (blk_n3 _ _ _ _ _) hb1 (by simp)
  obtain ⟨c0, c1, c2, c3, c4, c5, f0, f1, f2, f3, f4, f5⟩ := Blk.six b2
  have d1 := b1.cell 1
  simp at d1
  have HB1 := hide ((HB.out _ _ _).trans (hb1.mono (by simp; omega)))
  clear b1 b2 hb1
  go_wp2_with fail
  refine KK.out _ |>.mono ?_
  rintro e w2 ⟨rfl, hb2⟩
  have HB2 := hide (HB1.out.trans (hb2.mono HB1.out.size))
  clear hb2
  rcases hr.out with ⟨rfl, rfl, rfl⟩ | ⟨rfl, ht, rfl⟩
  · have hq : ∀ w, (binOp .eql 34 (.agg #[.bool false, .bool false, .int .i64 0, .int .u64 0, .string ByteArray.empty, .complex .f64 0 0]) (.agg #[.bool false, .bool false, .int .i64 0, .int .u64 0, .string { data := #[] }, .complex .f64 0 0])).run Tryd.prog w = .ok (.bool true) w := fun _ => by kernel_rfl
    go_wp2_with fail
    go_ret
    exact ⟨rfl, HB2.out⟩
  · go_wp2_with fail
    go_ret
    exact ⟨rfl, HB2.out⟩
end Go.Proofs.YtihbcojmonlcgaaDoor
