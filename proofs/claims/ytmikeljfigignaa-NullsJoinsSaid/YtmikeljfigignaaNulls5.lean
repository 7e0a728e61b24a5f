import Derived.Test.YtmikeljfigignaaNulls4
import Derived.RegionTactic
import Derived.BigRegion
namespace Go.Proofs.Ytmikeljfigignaa
open Go.RowKit

set_option maxHeartbeats 400000 in
theorem bools_same (l : List Bool) (va vb : Value) (w : World) (ha : SlB w va l) (hb : SlB w vb l) :
    Calls Try.prog 24 #[va, vb] w fun e w' => e = .returned (.bool true) ∧ Below w.heap.size w w' := by
  obtain ⟨hm, hsa⟩ := ha
  obtain ⟨_, hsb⟩ := hb
  unfold maxLen at hm
  rcases hsa with ⟨h0, a, c, rfl, _⟩ | ⟨hpos, ba, oa, ca, rfl, hca, hba, hcella⟩
  · rcases hsb with ⟨_, a', c', rfl, _⟩ | ⟨hpos, _⟩
    · have hl : l = [] := List.eq_nil_of_length_eq_zero h0
      subst hl
      clear hm h0
      go_enter Try.func24, Try.ntmps24
      go_wp2_with fail
      refine wp_loop_rounds 1 ?_
      rw [rounds_succ]
      go_wp2
      go_ret
      exact ⟨rfl, Below.refl _ _⟩
    · omega
  rcases hsb with ⟨h0, _⟩ | ⟨_, bb, ob, cb, rfl, hcb, hbb, hcellb⟩
  · omega
  have HA := hide hcella
  have HB := hide hcellb
  clear hcella hcellb
  have hd : ((l.length : Int) != (l.length : Int)) = false := by simp
  go_enter Try.func24, Try.ntmps24
  go_wp2_with fail
  go_loopw [5] (fun i wr => ∃ k n : Nat, k ≤ l.length ∧ i = .int .i64 k ∧ wr = w.drewN n) (fun i _ => l.length - (intOf i).toNat)
  case atStart => exact ⟨0, 0, by omega, rfl, rfl⟩
  case round =>
    obtain ⟨k, n, hk, rfl, rfl⟩ := hrel
    by_cases hlt : k < l.length
    · have h1 := HA.out k hlt
      have h2 := HB.out k hlt
      generalize l.getD k false = u at h1 h2
      go_wp2_with fail
      go_quiet (fail)
      go_wp2
      go_roundw
      case rel => exact ⟨k + 1, _, by omega, by go_num, rfl⟩
      case measure => simp [intOf] <;> omega
    · have hk8 : k = l.length := by omega
      subst hk8
      go_wp2
      go_ret
      exact ⟨rfl, below_drewN (Below.refl _ _) _⟩
theorem cnt_tf : cnt [true, false] = 1 := by decide +kernel
theorem store_cx (P : Program) (w : World) (a : Addr) (m : Mode) (k : FloatKind) (x y : Nat) : (store a (.complex k x y) m).run P w = stored P w a (.complex k x y) m := run_store P w a _ m rfl
attribute [local go_sem] store_cx
set_option maxHeartbeats 1000000 in
set_option maxRecDepth 100000 in
theorem spread_one (b1 b2 : Nat) (w : World) (h10 : w.cell? ⟨b1, 0, none⟩ = some (.bool true)) (h11 : w.cell? ⟨b1, 1, none⟩ = some (.bool false)) (hb1 : b1 < w.heap.size) (hb2 : b2 < w.heap.size)
    (h20 : w.cell? ⟨b2, 0, none⟩ = some (.bool false)) (h21 : w.cell? ⟨b2, 1, none⟩ = some (.bool false)) (h22 : w.cell? ⟨b2, 2, none⟩ = some (.int .i64 4)) (h23 : w.cell? ⟨b2, 3, none⟩ = some (.int .u64 0)) (h24 : w.cell? ⟨b2, 4, none⟩ = some (.string { data := #[] })) (h25 : w.cell? ⟨b2, 5, none⟩ = some (.complex .f64 0 0)) :
    Calls Try.prog 29 #[.slice (some ⟨b1, 0, none⟩) 2 2, .slice (some ⟨b2, 0, none⟩) 1 1] w fun e w' => e = .returned (.tuple #[.slice (some ⟨w.heap.size, 0, none⟩) 2 2, .int .i64 0]) ∧ w'.cell? ⟨w.heap.size, 0, none⟩ = some (.bool true) ∧ w'.cell? ⟨w.heap.size, 8, none⟩ = some (.int .i64 4) ∧ Below w.heap.size w w' := by
  have hS : SlB w (.slice (some ⟨b1, 0, none⟩) 2 2) [true, false] := by
    refine ⟨by simp [maxLen], .inr ⟨by simp, b1, 0, 2, rfl, Nat.le_refl _, hb1, fun i hi => ?_⟩⟩
    match i, hi with
    | 0, _ => exact h10
    | 1, _ => exact h11
  have K1 : Hid (Calls Try.prog 21 #[.slice (some ⟨b1, 0, none⟩) 2 2] w fun e w' => e = .returned (.int .i64 1) ∧ w = w') := by
    have := count_any _ _ w hS
    rw [cnt_tf] at this
    exact this
  have hmk : ∀ w, (Instr.makeSlice 55 (.int .i64 2) (.int .i64 2)).run Try.prog w = .ok (.slice (some ⟨w.heap.size, 0, none⟩) 2 2)
      (w.alloc (.cells #[.bool false, .bool false, .int .i64 0, .int .u64 0, .string { data := #[] }, .complex .f64 0 0, .bool false, .bool false, .int .i64 0, .int .u64 0, .string { data := #[] }, .complex .f64 0 0] 60)) := fun w => by kernel_rfl
  clear hS
  go_enter Try.func29, Try.ntmps29
  go_wp2_with fail
  refine K1.out.mono ?_
  rintro e w' ⟨rfl, rfl⟩
  go_wp2_with fail
  refine wp_loop_rounds 3 ?_
  rw [rounds_succ]
  go_wp2
  rw [rounds_succ]
  go_wp2_with fail
  go_region
  go_wp2_with fail
  rw [rounds_succ]
  go_wp2
  go_ret2
  exact ⟨rfl, by simp [go_sem], by simp [go_sem], ((Below.refl _ _).alloc (Nat.le_refl _) _).drew⟩
def s05 : ByteArray := { data := #[5] }
theorem un05 : unR (bn s05) 2 = (12, []) := by decide +kernel
theorem pack05 : strN (packL [true, false, true]) = { data := #[5] } := by decide +kernel
set_option maxHeartbeats 1000000 in
set_option maxRecDepth 100000 in
theorem awake07 (w : World) :
    Calls Try.prog 18 #[] w fun e w' => e = .returned (.bool true) ∧ Below w.heap.size w w' := by
  have K1 := hide (fun w => (unpack_any s05 (by decide) 2 w))
  go_enter Try.func18, Try.ntmps18
  go_wp2_with fail
  refine (K1.out _).mono ?_
  rintro e w1 ⟨v, rfl, _, hb1⟩
  rw [un05]
  go_wp2_with fail
  have HB := hide (((hb1.alloc hb1.size (Obj.cells #[Value.bool true, Value.bool false] 4)).alloc (by simp; exact Nat.le_succ_of_le hb1.size) (Obj.cells #[Value.bool false, Value.bool false, Value.int IntKind.i64 4, Value.int IntKind.u64 0, Value.string { data := #[] }, Value.complex FloatKind.f64 0 0] 60)))
  refine (spread_one _ _ _ (by simp [go_sem]) (by simp [go_sem]) (by simp [go_sem]) (by simp [go_sem]) (by simp [go_sem]) (by simp [go_sem]) (by simp [go_sem]) (by simp [go_sem]) (by simp [go_sem]) (by simp [go_sem])).mono ?_
  rintro e w2 ⟨rfl, hc0, hc8, hb2⟩
  have hb3 := HB.out.trans (hb2.mono HB.out.size)
  have hlt : w1.heap.size + 2 < w2.heap.size := by
    have : w2.cell? ⟨w1.heap.size + 2, 0, none⟩ = some (.bool true) := by simpa using hc0
    exact World.block_lt_of_cell? w2 _ this
  have hc0' : w2.cell? ⟨w1.heap.size + 1 + 1, 0, none⟩ = some (.bool true) := by simpa using hc0
  have hc8' : w2.cell? ⟨w1.heap.size + 1 + 1, 8, none⟩ = some (.int .i64 4) := by simpa using hc8
  clear hb1 hb2 hc0 hc8
  have hS : SlB (w2.alloc (Obj.cells #[.bool true, .bool false, .bool true] 4)) (.slice (some ⟨w2.heap.size, 0, none⟩) 3 3) [true, false, true] := by
    refine ⟨by simp [maxLen], .inr ⟨by simp, w2.heap.size, 0, 3, rfl, Nat.le_refl _, by simp, fun i hi => ?_⟩⟩
    match i, hi with
    | 0, _ => simp [go_sem]
    | 1, _ => simp [go_sem]
    | 2, _ => simp [go_sem]
  have K2 := pack_any _ (by decide) _ _ hS
  rw [pack05] at K2
  have K3 := hide K2
  clear K2 hS
  go_wp2_with fail
  refine K3.out.mono ?_
  rintro e w3 ⟨rfl, hb4⟩
  have hb5 := (hb3.alloc hb3.size (Obj.cells #[.bool true, .bool false, .bool true] 4)).trans (hb4.mono (by simp; exact Nat.le_succ_of_le hb3.size))
  have hc0 := (hb4.cell (p := ⟨w1.heap.size + 1 + 1, 0, none⟩) (by simp; omega)).trans ((World.cell?_alloc_past _ _ _ (by show w1.heap.size + 1 + 1 < _; omega)).trans hc0')
  have hc8 := (hb4.cell (p := ⟨w1.heap.size + 1 + 1, 8, none⟩) (by simp; omega)).trans ((World.cell?_alloc_past _ _ _ (by show w1.heap.size + 1 + 1 < _; omega)).trans hc8')
  clear hc0' hc8' hb4 hb3
  go_wp2_with fail
  go_ret
  exact ⟨rfl, hb5⟩
end Go.Proofs.Ytmikeljfigignaa
