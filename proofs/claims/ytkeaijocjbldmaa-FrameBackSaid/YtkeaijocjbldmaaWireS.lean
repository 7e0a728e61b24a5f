/- The document's answer for numbers: what each of its functions gives. -/
import Derived.Test.YtkeaijocjbldmaaWireR7
namespace Go.Proofs.Ytkeaijocjbldmaa
open Go.RowKit

set_option maxHeartbeats 1000000 in
set_option maxRecDepth 100000 in
theorem sfixed_any (x n : Nat) (hx : x < 18446744073709551616) (hn : n ≤ 8) (w : World) :
    Calls Try.prog 49 #[.int .u64 x, .int .i64 n] w fun e w' => e = .returned (.string (strN (fixN x n))) ∧ Below w.heap.size w w' := by
  obtain ⟨i0, hi, hz0, hz1, hz2⟩ := info_parts info_u8
  go_enter Try.func49, Try.ntmps49
  go_wp2_with fail
  go_loopw [0, 5, 6] (fun xv ov iv wr => ∃ k : Nat, k ≤ n ∧ iv = .int .i64 k ∧ (∃ y : Nat, Hid (y = x / 256 ^ k) ∧ y < 18446744073709551616 ∧ xv = .int .u64 y) ∧ OwnU8 wr w.heap.size ov (fixN x k) ∧ Below w.heap.size w wr) (fun _ _ iv _ => n - (intOf iv).toNat)
  case atStart => exact ⟨0, by omega, rfl, ⟨x, by show _ = _; simp, hx, rfl⟩, ownU8_nil _ _, Below.refl _ _⟩
  case round =>
    obtain ⟨k, hk, rfl, ⟨y, HY, hy, rfl⟩, hown, hb1⟩ := hrel
    by_cases hlt : k < n
    · have HN : Hid (fixN x (k + 1) = fixN x k ++ [y % 256]) := by show _ = _; rw [HY.out]; rfl
      have hown1 := hown
      unfold OwnU8 at hown1
      rw [fixN_len] at hown1
      obtain ⟨wo, rfl⟩ : ∃ wo : World, wo = wr := ⟨_, rfl⟩
      clear hown
      go_wp2_with (at_builtin; refine wpList_append_own _ rfl _ _ 31 rfl w.heap.size 5 i0 (.int .u8 0) 1 1 Try.underlying31 hi hz0 hz1 hz2 rfl (by decide) _ _ _ rfl (hown1.alloc _) ⟨wo.heap.size, 0, none⟩ 1 1 [.int .u8 ((y : Int) % 256)] rfl rfl (cell_one_new _ _ _) (by simp [Value.oneCell']) (by simp only [maxLen]; omega) (by omega) (by simpa using Nat.le_succ_of_le hb1.size) ?_; intro v' w1 hown' hgrow _)
      have HO2 : OwnU8 w1 w.heap.size v' (fixN x (k + 1)) := by
        unfold OwnU8
        rw [HN.out, map_u8_snoc, List.length_append, fixN_len]
        exact hown'
      have HB2 : Below w.heap.size w w1 := (hb1.alloc hb1.size _).grown hgrow (by simpa using Nat.le_succ_of_le hb1.size) (fun k hk => (hown1.lt k hk).1)
      go_roundw
      case rel =>
        refine ⟨k + 1, by omega, by go_num, ⟨y / 256, ?_, by omega, by go_num⟩, HO2, HB2⟩
        show _ = _
        rw [HY.out, Nat.div_div_eq_div_mul, Nat.pow_succ]
      case measure => simp [intOf] <;> omega
    · have hk8 : k = n := by omega
      subst hk8
      have hcv := ownU8_string hown
      go_wp2_with fail
      go_ret
      exact ⟨rfl, hb1⟩

set_option maxHeartbeats 1000000 in
set_option maxRecDepth 100000 in
theorem suvar_any (x : Nat) (hx : x < 18446744073709551616) (w : World) :
    Calls Try.prog 50 #[.int .u64 x] w fun e w' => e = .returned (.string (strN (uvar x))) ∧ Below w.heap.size w w' := by
  obtain ⟨i0, hi, hz0, hz1, hz2⟩ := info_parts info_u8
  have h10 := hide (uvar_len10 hx)
  go_enter Try.func50, Try.ntmps50
  go_wp2_with fail
  go_loopw [0, 3] (fun xv ov wr => ∃ (y : Nat) (m : List Nat), y < 18446744073709551616 ∧ xv = .int .u64 y ∧ Hid (m ++ uvar y = uvar x) ∧ OwnU8 wr w.heap.size ov m ∧ Below w.heap.size w wr) (fun xv _ _ => (intOf xv).toNat)
  case atStart => exact ⟨x, [], hx, rfl, rfl, ownU8_nil _ _, Below.refl _ _⟩
  case round =>
    obtain ⟨y, m, hy, rfl, HM, hown, hb1⟩ := hrel
    have hml : m.length ≤ 10 := by
      have h1 := congrArg List.length HM.out
      have h2 := h10.out
      rw [List.length_append] at h1
      omega
    have hown1 := hown
    unfold OwnU8 at hown1
    obtain ⟨wo, rfl⟩ : ∃ wo : World, wo = wr := ⟨_, rfl⟩
    clear hown
    by_cases hlt : y < 128
    · have hy256 : (y : Int) % 256 = (y : Int) := by omega
      have HF : Hid (m ++ [y] = uvar x) := by show _ = _; rw [← HM.out, uvar_small hlt]
      have hcv : Hid (∀ (w1 : World) (v : Value), OwnU8 w1 w.heap.size v (m ++ [y]) → (convert 31 9 v).run Try.prog w1 = .ok (.string (strN (m ++ [y]))) w1) := fun w1 v h => ownU8_string h
      go_wp2_with (at_builtin; refine wpList_append_own _ rfl _ _ 31 rfl w.heap.size 5 i0 (.int .u8 0) 1 1 Try.underlying31 hi hz0 hz1 hz2 rfl (by decide) _ _ _ rfl (hown1.alloc _) ⟨wo.heap.size, 0, none⟩ 1 1 [.int .u8 (y : Int)] rfl rfl (cell_one_new _ _ _) (by simp [Value.oneCell']) (by simp only [maxLen]; omega) (by omega) (by simpa using Nat.le_succ_of_le hb1.size) ?_; intro v' w1 hown' hgrow _; have hcv1 := hcv.out w1 v' (by unfold OwnU8; rw [map_u8_snoc, List.length_append]; exact hown'))
      have HB2 : Below w.heap.size w w1 := (hb1.alloc hb1.size _).grown hgrow (by simpa using Nat.le_succ_of_le hb1.size) (fun k hk => (hown1.lt k hk).1)
      go_ret
      exact ⟨by rw [← HF.out]; rfl, HB2⟩
    · have hy256 : (128 + (y : Int) % 128) % 256 = ((128 + y % 128 : Nat) : Int) := by omega
      go_wp2_with (at_builtin; refine wpList_append_own _ rfl _ _ 31 rfl w.heap.size 5 i0 (.int .u8 0) 1 1 Try.underlying31 hi hz0 hz1 hz2 rfl (by decide) _ _ _ rfl (hown1.alloc _) ⟨wo.heap.size, 0, none⟩ 1 1 [.int .u8 (128 + (y : Int) % 128)] rfl rfl (cell_one_new _ _ _) (by simp [Value.oneCell']) (by simp only [maxLen]; omega) (by omega) (by simpa using Nat.le_succ_of_le hb1.size) ?_; intro v' w1 hown' hgrow _)
      have HO2 : OwnU8 w1 w.heap.size v' (m ++ [128 + y % 128]) := by
        unfold OwnU8
        rw [map_u8_snoc, List.length_append]
        exact hown'
      have HB2 : Below w.heap.size w w1 := (hb1.alloc hb1.size _).grown hgrow (by simpa using Nat.le_succ_of_le hb1.size) (fun k hk => (hown1.lt k hk).1)
      go_roundw
      case rel =>
        refine ⟨y / 128, m ++ [128 + y % 128], by omega, by go_num, ?_, HO2, HB2⟩
        show _ = _
        rw [← HM.out, uvar_big hlt, List.append_assoc]; rfl
      case measure => simp [intOf] <;> omega
set_option maxHeartbeats 1000000 in
theorem szig_any (x : Int) (h1 : -9223372036854775808 ≤ x) (h2 : x ≤ 9223372036854775807) (w : World) :
    Calls Try.prog 51 #[.int .i64 x] w fun e w' => e = .returned (.int .u64 (zz x : Nat)) ∧ w = w' := by
  by_cases h : x < 0
  · have hz : ((zz x : Nat) : Int) = 2 * (-1 - x) + 1 := by unfold zz; rw [if_pos h]; omega
    have HZ := hide hz
    clear hz
    have e1 : (-1 - x) % 18446744073709551616 = -1 - x := by omega
    go_enter Try.func51, Try.ntmps51
    go_wp2_with fail
    go_ret
    refine ⟨ret_int ?_, rfl⟩
    rw [HZ.out]
    try omega
  · have hz : ((zz x : Nat) : Int) = 2 * x := by unfold zz; rw [if_neg h]; omega
    have HZ := hide hz
    clear hz
    have e1 : x % 18446744073709551616 = x := by omega
    go_enter Try.func51, Try.ntmps51
    go_wp2_with fail
    go_ret
    refine ⟨ret_int ?_, rfl⟩
    rw [HZ.out]
    try omega
set_option maxHeartbeats 1000000 in
theorem sback_any (x : Nat) (hx : x < 18446744073709551616) (w : World) :
    Calls Try.prog 58 #[.int .u64 x] w fun e w' => e = .returned (.int .i64 (back x)) ∧ w = w' := by
  by_cases h : x % 2 = 1
  · have hz : back x = -1 - (x : Int) / 2 := by unfold back; rw [if_pos h]; omega
    have HZ := hide hz
    clear hz
    have e1 : (((x : Int) % 2 : Int) == 1) = true := by rw [beq_iff_eq]; omega
    go_enter Try.func58, Try.ntmps58
    go_wp2_with fail
    go_ret
    refine ⟨ret_int ?_, rfl⟩
    rw [HZ.out]
    try omega
  · have hz : back x = (x : Int) / 2 := by unfold back; rw [if_neg h]; omega
    have HZ := hide hz
    clear hz
    have e1 : (((x : Int) % 2 : Int) == 1) = false := by rw [beq_eq_false_iff_ne]; omega
    go_enter Try.func58, Try.ntmps58
    go_wp2_with fail
    go_ret
    refine ⟨ret_int ?_, rfl⟩
    rw [HZ.out]
    try omega
end Go.Proofs.Ytkeaijocjbldmaa
