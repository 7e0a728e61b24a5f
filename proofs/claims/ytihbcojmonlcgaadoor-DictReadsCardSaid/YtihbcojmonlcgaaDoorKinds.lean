/- How cells of a kind are checked and compared. -/
import Derived.Test.YtihbcojmonlcgaaDoorPlainB2
import Derived.Laws.EntriesVeiled
import Derived.RegionTactic
import Derived.Shelf.Abstract
namespace Go.Proofs.YtihbcojmonlcgaaDoor
open Go.RowKit

/-- What all kinds have, one behind the other. -/
def ka : Array Value := #[.nilFunc, .nilFunc, .nilFunc, .func (.func 70) #[] #[], .func (.func 71) #[] #[], .func (.func 72) #[] #[], .func (.func 70) #[] #[], .func (.func 73) #[] #[], .func (.func 74) #[] #[], .func (.func 70) #[] #[], .func (.func 75) #[] #[], .func (.func 76) #[] #[], .func (.func 70) #[] #[], .func (.func 77) #[] #[], .func (.func 78) #[] #[], .func (.func 79) #[] #[], .func (.func 77) #[] #[], .func (.func 78) #[] #[], .func (.func 80) #[] #[], .func (.func 82) #[] #[], .func (.func 83) #[] #[]]
theorem info_ka : (Tryd.prog.info? 59).map (·.size) = some ka.size := by kernel_rfl
theorem ka_one : ka.all (·.oneCell') = true := by simp [ka, Value.oneCell']
set_option maxHeartbeats 2000000 in
set_option maxRecDepth 100000 in
theorem kinds_any (w : World) : Calls Tryd.prog 32 #[] w fun e w' => e = .returned (.agg ka) ∧ Below w.heap.size w w' := by
  have H1 := hide (fun o => blk_2 w o ka 59)
  have H0 := hide (fun cs o => show Blk ((w.alloc (.cells cs 59)).alloc o) w.heap.size 59 cs from (Blk.new w cs _).alloc o)
  go_enter Tryd.func32, Tryd.ntmps32
  go_wp2_with (first
    | (refine wpList_load_row rfl 59 (.tmp 1) rfl (w.heap.size + 1) rfl 59 ka (0, 0) _ (H1.out _).out Tryd.underlying59 rfl info_ka ?_)
    | (refine wpList_store_row rfl 59 (.tmp 0) (.tmp 14) rfl w.heap.size ka rfl rfl 59 _ (H0.out _ _).out info_ka rfl ka_one ?_))
  refine bodyPost_ret (results_cell_row rfl _ _ w.heap.size 59 ka (0, 0) _ rfl ((H0.out _ _).setRow ka).out Tryd.underlying59 rfl info_ka) rfl ?_
  exact ⟨rfl, below_setRow (((Below.refl _ _).alloc (Nat.le_refl _) _).alloc (by simp) _) (Nat.le_refl _) _⟩
/-- Are two cells of a kind equal? -/
def ceq (k : Int) (a b : CD) : Bool :=
  if k = 1 then a.b == b.b else if k = 2 then a.x == b.x else if k = 3 then a.u == b.u else if k = 4 ∨ k = 5 then a.t.toList == b.t.toList else FloatKind.f64.format.order a.p b.p == some .eq && FloatKind.f64.format.order a.q b.q == some .eq
set_option maxHeartbeats 2000000 in
set_option maxRecDepth 100000 in
theorem requal_any (k : Int) (h1 : 1 ≤ k) (h6 : k ≤ 6) (a b : CD) (w : World) : Calls Tryd.prog 59 #[.int .i64 k, a.v, b.v] w fun e w' => e = .returned (.bool (ceq k a b)) ∧ Below w.heap.size w w' := by
  obtain ⟨ab, ax, au, at', ap, aq⟩ := a
  obtain ⟨bb, bx, bu, bt, bp, bq⟩ := b
  unfold CD.v clV clA
  simp only
  have hk : k = 1 ∨ k = 2 ∨ k = 3 ∨ k = 4 ∨ k = 5 ∨ k = 6 := by omega
  rcases hk with rfl | rfl | rfl | rfl | rfl | rfl
  all_goals
    go_enter Tryd.func59, Tryd.ntmps59
    go_wp2_with fail
    go_ret
    exact ⟨rfl, ((Below.refl _ _).alloc (Nat.le_refl _) _).alloc (by simp) _⟩
set_option maxHeartbeats 2000000 in
set_option maxRecDepth 100000 in
theorem keq_1 (a b : CD) (w : World) : Calls Tryd.prog 72 #[a.v, b.v] w fun e w' => e = .returned (.bool (ceq 1 a b)) ∧ Below w.heap.size w w' := by
  obtain ⟨ab, ax, au, at', ap, aq⟩ := a
  obtain ⟨bb, bx, bu, bt, bp, bq⟩ := b
  unfold CD.v clV clA
  simp only
  go_enter Tryd.func72, Tryd.ntmps72
  go_wp2_with fail
  go_ret
  exact ⟨rfl, ((Below.refl _ _).alloc (Nat.le_refl _) _).alloc (by simp) _⟩
set_option maxHeartbeats 2000000 in
set_option maxRecDepth 100000 in
theorem keq_2 (a b : CD) (w : World) : Calls Tryd.prog 74 #[a.v, b.v] w fun e w' => e = .returned (.bool (ceq 2 a b)) ∧ Below w.heap.size w w' := by
  obtain ⟨ab, ax, au, at', ap, aq⟩ := a
  obtain ⟨bb, bx, bu, bt, bp, bq⟩ := b
  unfold CD.v clV clA
  simp only
  go_enter Tryd.func74, Tryd.ntmps74
  go_wp2_with fail
  go_ret
  exact ⟨rfl, ((Below.refl _ _).alloc (Nat.le_refl _) _).alloc (by simp) _⟩
set_option maxHeartbeats 2000000 in
set_option maxRecDepth 100000 in
theorem keq_3 (a b : CD) (w : World) : Calls Tryd.prog 76 #[a.v, b.v] w fun e w' => e = .returned (.bool (ceq 3 a b)) ∧ Below w.heap.size w w' := by
  obtain ⟨ab, ax, au, at', ap, aq⟩ := a
  obtain ⟨bb, bx, bu, bt, bp, bq⟩ := b
  unfold CD.v clV clA
  simp only
  go_enter Tryd.func76, Tryd.ntmps76
  go_wp2_with fail
  go_ret
  exact ⟨rfl, ((Below.refl _ _).alloc (Nat.le_refl _) _).alloc (by simp) _⟩
set_option maxHeartbeats 2000000 in
set_option maxRecDepth 100000 in
theorem keq_4 (a b : CD) (w : World) : Calls Tryd.prog 78 #[a.v, b.v] w fun e w' => e = .returned (.bool (ceq 4 a b)) ∧ Below w.heap.size w w' := by
  obtain ⟨ab, ax, au, at', ap, aq⟩ := a
  obtain ⟨bb, bx, bu, bt, bp, bq⟩ := b
  unfold CD.v clV clA
  simp only
  go_enter Tryd.func78, Tryd.ntmps78
  go_wp2_with fail
  go_ret
  exact ⟨rfl, ((Below.refl _ _).alloc (Nat.le_refl _) _).alloc (by simp) _⟩
set_option maxHeartbeats 2000000 in
set_option maxRecDepth 100000 in
theorem keq_6 (a b : CD) (w : World) : Calls Tryd.prog 83 #[a.v, b.v] w fun e w' => e = .returned (.bool (ceq 6 a b)) ∧ Below w.heap.size w w' := by
  obtain ⟨ab, ax, au, at', ap, aq⟩ := a
  obtain ⟨bb, bx, bu, bt, bp, bq⟩ := b
  unfold CD.v clV clA
  simp only
  go_enter Tryd.func83, Tryd.ntmps83
  go_wp2_with fail
  go_ret
  exact ⟨rfl, ((Below.refl _ _).alloc (Nat.le_refl _) _).alloc (by simp) _⟩
set_option maxHeartbeats 1000000 in
set_option maxRecDepth 100000 in
theorem sis_yes (k : Int) (h1 : 1 ≤ k) (h2 : k ≤ 6) (w : World) :
    Calls Tryd.prog 69 #[.int .i64 k] w fun e w' => e = .returned (.bool true) ∧ w = w' := by
  go_enter Tryd.func69, Tryd.ntmps69
  go_wp2_with fail
  go_ret
  exact ⟨rfl, rfl⟩
end Go.Proofs.YtihbcojmonlcgaaDoor
