/- Two cells of a kind, compared by schema.Equal. -/
import Derived.Test.YtihbcojmonlcgaaDoorKinds
namespace Go.Proofs.YtihbcojmonlcgaaDoor
open Go.RowKit

set_option maxHeartbeats 4000000 in
set_option maxRecDepth 100000 in
theorem sequal_of (k : Int) (h1 : 1 ≤ k) (h6 : k ≤ 6) (F : FuncId) (r : Bool) (B : Array Value) (a b : CD)
    (hidx : ∀ w, (Instr.index 59 (.agg ka) (.int .i64 k)).run Tryd.prog w = .ok (.agg B) w)
    (hfld : ∀ w, (Instr.field 58 (.agg B) 2).run Tryd.prog w = .ok (.func (.func F) #[] #[]) w)
    (hent : ∀ args w, (callFunc F args).run Tryd.prog w = .ok (.enter F args) w)
    (hK : ∀ w, Calls Tryd.prog F #[a.v, b.v] w fun e w' => e = .returned (.bool r) ∧ Below w.heap.size w w') (w : World) :
    Calls Tryd.prog 57 #[.int .i64 k, a.v, b.v] w fun e w' => e = .returned (.bool r) ∧ Below w.heap.size w w' := by
  have KI := hide (sis_yes k h1 h6)
  have KK := hide kinds_any
  have KE := hide hK
  clear hK h1 h6
  obtain ⟨ab, ax, au, at', ap, aq⟩ := a
  obtain ⟨bb, bx, bu, bt, bp, bq⟩ := b
  unfold CD.v clV clA
  unfold CD.v clV clA at KE
  simp only at KE ⊢
  have HL : Hid (∀ (w' : World), Below ((w.alloc (.cells #[.bool false, .bool ab, .int .i64 ax, .int .u64 au, .string at', .complex .f64 ap aq] 34)).alloc (.cells #[.bool false, .bool bb, .int .i64 bx, .int .u64 bu, .string bt, .complex .f64 bp bq] 34)).heap.size ((w.alloc (.cells #[.bool false, .bool ab, .int .i64 ax, .int .u64 au, .string at', .complex .f64 ap aq] 34)).alloc (.cells #[.bool false, .bool bb, .int .i64 bx, .int .u64 bu, .string bt, .complex .f64 bp bq] 34)).drew w' →
    Six w' w.heap.size (.bool false) (.bool ab) (.int .i64 ax) (.int .u64 au) (.string at') (.complex .f64 ap aq) ∧ Six w' (w.heap.size + 1) (.bool false) (.bool bb) (.int .i64 bx) (.int .u64 bu) (.string bt) (.complex .f64 bp bq)) := fun w' hb =>
    And.intro (Blk.six (Blk.below (((Blk.new w _ _).alloc _).drew) hb (by simp; omega))) (Blk.six (Blk.below ((blk_2 w _ _ _).drew) hb (by simp)))
  have HB := hide (fun o1 o2 => ((Below.refl w.heap.size w).alloc (Nat.le_refl _) o1).alloc (by simp) o2)
  go_enter Tryd.func57, Tryd.ntmps57
  go_wp2_with fail
  refine (KI.out _).mono ?_
  rintro e w1 ⟨rfl, rfl⟩
  go_wp2_with fail
  go_region_with (first | (go_at_call 32; refine (KK.out _).mono ?_; rintro e w3 ⟨rfl, hb3⟩; have hz3 := hb3.size; simp at hz3; obtain ⟨⟨a0, a1, a2, a3, a4, a5, f0, f1, f2, f3, f4, f5⟩, d0, d1, d2, d3, d4, d5, g0, g1, g2, g3, g4, g5⟩ := HL.out w3 hb3) | (go_at_fn F; refine (KE.out _).mono ?_; rintro e w4 ⟨rfl, hb4⟩))
  all_goals
    go_wp2_with fail
    go_ret
    exact ⟨rfl, ((HB.out _ _).drew.trans (hb3.mono (by simp; omega))).trans (hb4.mono (by omega))⟩
theorem sequal_any (k : Int) (h1 : 1 ≤ k) (h6 : k ≤ 6) (a b : CD) (w : World) :
    Calls Tryd.prog 57 #[.int .i64 k, a.v, b.v] w fun e w' => e = .returned (.bool (ceq k a b)) ∧ Below w.heap.size w w' := by
  have hk : k = 1 ∨ k = 2 ∨ k = 3 ∨ k = 4 ∨ k = 5 ∨ k = 6 := by omega
  rcases hk with rfl | rfl | rfl | rfl | rfl | rfl
  · exact sequal_of 1 h1 h6 72 _ #[.func (.func 70) #[] #[], .func (.func 71) #[] #[], .func (.func 72) #[] #[]] a b (fun _ => by kernel_rfl) (fun _ => by kernel_rfl) (enters_of Tryd.func72 (by kernel_rfl) rfl) (keq_1 a b) w
  · exact sequal_of 2 h1 h6 74 _ #[.func (.func 70) #[] #[], .func (.func 73) #[] #[], .func (.func 74) #[] #[]] a b (fun _ => by kernel_rfl) (fun _ => by kernel_rfl) (enters_of Tryd.func74 (by kernel_rfl) rfl) (keq_2 a b) w
  · exact sequal_of 3 h1 h6 76 _ #[.func (.func 70) #[] #[], .func (.func 75) #[] #[], .func (.func 76) #[] #[]] a b (fun _ => by kernel_rfl) (fun _ => by kernel_rfl) (enters_of Tryd.func76 (by kernel_rfl) rfl) (keq_3 a b) w
  · exact sequal_of 4 h1 h6 78 _ #[.func (.func 70) #[] #[], .func (.func 77) #[] #[], .func (.func 78) #[] #[]] a b (fun _ => by kernel_rfl) (fun _ => by kernel_rfl) (enters_of Tryd.func78 (by kernel_rfl) rfl) (keq_4 a b) w
  · exact sequal_of 5 h1 h6 78 _ #[.func (.func 79) #[] #[], .func (.func 77) #[] #[], .func (.func 78) #[] #[]] a b (fun _ => by kernel_rfl) (fun _ => by kernel_rfl) (enters_of Tryd.func78 (by kernel_rfl) rfl) (keq_4 a b) w
  · exact sequal_of 6 h1 h6 83 _ #[.func (.func 80) #[] #[], .func (.func 82) #[] #[], .func (.func 83) #[] #[]] a b (fun _ => by kernel_rfl) (fun _ => by kernel_rfl) (enters_of Tryd.func83 (by kernel_rfl) rfl) (keq_6 a b) w
end Go.Proofs.YtihbcojmonlcgaaDoor
