import Derived.Test.YtmikeljfigignaaSums
namespace Go.Proofs.Ytmikeljfigignaa
open Go.RowKit

theorem tmul_step (n a b out : Nat) : out ^^^ tmul (n + 1) a b = (if a / 2 ^ n % 2 = 1 then out ^^^ b else out) ^^^ tmul n a (hv b) := by
  rw [tmul_succ]
  split
  · rw [Nat.xor_assoc]
  · rw [Nat.zero_xor]
theorem and1_shift (a n : Nat) (ha : a < 4294967296) : bits .and .u32 ((a : Int) / 2 ^ n) 1 = ((a / 2 ^ n % 2 : Nat) : Int) := by
  have h := and1_u32 (a / 2 ^ n) (Nat.lt_of_le_of_lt (Nat.div_le_self _ _) ha)
  rw [← h, Int.natCast_ediv, Int.natCast_pow]; rfl
set_option maxHeartbeats 400000 in
theorem times_any (a b : Nat) (ha : a < 4294967296) (hb : b < 4294967296) (w : World) :
    Calls Try.prog 33 #[.int .u32 a, .int .u32 b] w fun e w' => e = .returned (.int .u32 (tmul 32 a b)) ∧ w = w' := by
  go_enter Try.func33, Try.ntmps33
  go_wp2
  go_loop [1, 5, 6] (fun y x i => ∃ n o : Nat, n ≤ 32 ∧ i = .int .i64 ((n : Int) - 1) ∧ x = .int .u32 o ∧ y = .int .u32 (hvN (32 - n) b) ∧ o < 4294967296 ∧ Hid (o ^^^ tmul n a (hvN (32 - n) b) = tmul 32 a b)) (fun _ _ i => (intOf i + 1).toNat)
  case atStart => exact ⟨32, 0, by omega, by go_num, rfl, by rw [Nat.sub_self, hvN_0], by omega, by show _ = _; rw [Nat.zero_xor, Nat.sub_self, hvN_0]⟩
  case round =>
    obtain ⟨n, o, hn, rfl, rfl, rfl, ho, HT⟩ := hrel
    by_cases h0 : n = 0
    · subst h0
      go_wp2
      go_ret
      refine ⟨ret_nat ?_, rfl⟩
      have := HT.out
      rw [tmul_zero, Nat.xor_zero] at this
      exact this
    · obtain ⟨m, rfl⟩ : ∃ m, n = m + 1 := ⟨n - 1, by omega⟩
      have hy0 : hvN (32 - (m + 1)) b < 4294967296 := hvN_lt hb
      have HY : Hid (hvN (32 - m) b = hv (hvN (32 - (m + 1)) b)) := by
        show _ = _
        rw [show 32 - m = (32 - (m + 1)) + 1 by omega, hvN_add, hvN_succ, hvN_0]
      generalize hvN (32 - (m + 1)) b = y at hy0 HY HT
      have hm : m ≤ 31 := by omega
      have hbit := and1_shift a m ha
      have HT1 : Hid ((if a / 2 ^ m % 2 = 1 then o ^^^ y else o) ^^^ tmul m a (hv y) = tmul 32 a b) := by show _ = _; rw [← tmul_step]; exact HT.out
      clear HT
      by_cases h1 : a / 2 ^ m % 2 = 1
      · have hc : (bits BinOp.and IntKind.u32 ((a : Int) / 2 ^ m) 1 == 1) = true := by rw [hbit, h1]; rfl
        clear hbit
        have hx : bits .xor .u32 (o : Int) (y : Int) = ((o ^^^ y : Nat) : Int) := u32_xor_nat o y ho hy0
        have HT2 : Hid ((o ^^^ y) ^^^ tmul m a (hv y) = tmul 32 a b) := by have := HT1.out; rw [if_pos h1] at this; exact this
        go_wp2_with (go_at_call 32; refine (halved_any _ hy0 _).mono ?_; rintro e w' ⟨rfl, rfl⟩)
        go_round
        case rel => exact ⟨m, o ^^^ y, by omega, by go_num, rfl, by rw [HY.out], Nat.xor_lt_two_pow (n := 32) (by omega) (by omega), by show _ = _; rw [HY.out]; exact HT2.out⟩
        case measure => simp [intOf] <;> omega
      · have hc : (bits BinOp.and IntKind.u32 ((a : Int) / 2 ^ m) 1 == 1) = false := by rw [hbit, show a / 2 ^ m % 2 = 0 by omega]; rfl
        clear hbit
        have HT2 : Hid (o ^^^ tmul m a (hv y) = tmul 32 a b) := by have := HT1.out; rw [if_neg h1] at this; exact this
        go_wp2_with (go_at_call 32; refine (halved_any _ hy0 _).mono ?_; rintro e w' ⟨rfl, rfl⟩)
        go_round
        case rel => exact ⟨m, o, by omega, by go_num, rfl, by rw [HY.out], ho, by show _ = _; rw [HY.out]; exact HT2.out⟩
        case measure => simp [intOf] <;> omega

theorem and1_i64 (n : Nat) (hn : n ≤ 9223372036854775807) : bits .and .i64 (n : Int) 1 = ((n % 2 : Nat) : Int) := by
  have h1 : (BitVec.ofInt 64 (n : Int)) = BitVec.ofNat 64 n := by rw [BitVec.ofInt_natCast]
  have h2 : (BitVec.ofInt 64 (1 : Int)) = BitVec.ofNat 64 1 := rfl
  show IntKind.i64.wrap ((BitVec.ofInt 64 (n : Int) &&& BitVec.ofInt 64 (1 : Int)).toNat : Int) = _
  have h3 : (BitVec.ofNat 64 n &&& BitVec.ofNat 64 1).toNat = n % 2 := by
    rw [BitVec.toNat_and, BitVec.toNat_ofNat, BitVec.toNat_ofNat, Nat.mod_eq_of_lt (by omega), ← nat_mask1]
  rw [h1, h2, h3, IntKind.wrap_i64]
  omega
set_option maxHeartbeats 400000 in
theorem joined_none (a b : Nat) (n : Int) (hn : n ≤ 0) (w : World) :
    Calls Try.prog 27 #[.int .u32 a, .int .u32 b, .int .i64 n] w fun e w' => e = .returned (.int .u32 a) ∧ w = w' := by
  go_enter Try.func27, Try.ntmps27
  go_wp2
  go_ret
  exact ⟨rfl, rfl⟩
set_option maxHeartbeats 800000 in
theorem joined_any (a b n : Nat) (ha : a < 4294967296) (hb : b < 4294967296) (h0 : 0 < n) (hn : n ≤ 9223372036854775807) (w : World) :
    Calls Try.prog 27 #[.int .u32 a, .int .u32 b, .int .i64 n] w fun e w' => e = .returned (.int .u32 ((hvN (8 * n) a ^^^ b : Nat) : Int)) ∧ w = w' := by
  have ho := one31_lt
  have hd : decide (n = 0) = false := by rw [decide_eq_false_iff_not]; omega
  have HO := hide (show (2147483648 : Int) = ((one31 : Nat) : Int) from rfl)
  go_enter Try.func27, Try.ntmps27
  go_wp2
  go_loop [8, 13] (fun x i => ∃ j : Nat, j ≤ 8 ∧ i = .int .i64 j ∧ x = .int .u32 (hvN j one31)) (fun _ i => 8 - (intOf i).toNat)
  case atStart => exact ⟨0, by omega, rfl, by rw [hvN_0, HO.out]⟩
  case round =>
    obtain ⟨j, hj, rfl, rfl⟩ := hrel
    have hs0 : hvN j one31 < 4294967296 := hvN_lt ho
    by_cases hj8 : j < 8
    · have HS : Hid (hvN (j + 1) one31 = hv (hvN j one31)) := by show _ = _; rw [hvN_add, hvN_succ, hvN_0]
      go_wp2_with (go_at_call 32; refine (halved_any _ hs0 _).mono ?_; rintro e w' ⟨rfl, rfl⟩)
      go_round
      case rel => exact ⟨j + 1, by omega, by go_num, by rw [HS.out]⟩
      case measure => simp [intOf] <;> omega
    · have hj9 : j = 8 := by omega
      subst hj9
      go_wp2
      go_loop [2, 7, 8] (fun m x y => ∃ k p q : Nat, m = .int .i64 k ∧ k ≤ n ∧ x = .int .u32 (hvN (8 * p) one31) ∧ y = .int .u32 (hvN (8 * q) one31) ∧ Hid (p + q * k = n)) (fun m _ _ => (intOf m).toNat)
      case atStart => exact ⟨n, 0, 1, rfl, Nat.le_refl _, by rw [Nat.mul_zero, hvN_0, HO.out], rfl, by show _ = _; omega⟩
      case round =>
        obtain ⟨k, p, q, rfl, hk, rfl, rfl, HK⟩ := hrel
        have hp0 : hvN (8 * p) one31 < 4294967296 := hvN_lt ho
        have hq0 : hvN (8 * q) one31 < 4294967296 := hvN_lt ho
        by_cases hk0 : k = 0
        · subst hk0
          have hpn : p = n := by have := HK.out; omega
          subst hpn
          have HM := hide (tmul_moved ha (8 * p))
          go_wp2_with (go_at_call 33; refine (times_any a _ ha hp0 _).mono ?_; rintro e w' ⟨rfl, rfl⟩)
          go_ret
          refine ⟨ret_int ?_, rfl⟩
          rw [HM.out]
          exact u32_xor_nat _ _ (hvN_lt ha) hb
        · have hbit := and1_i64 k (by omega)
          have HQ := hide (tmul_powers (8 * q) (8 * q))
          by_cases hodd : k % 2 = 1
          · have hc : (bits BinOp.and IntKind.i64 (k : Int) 1 == 1) = true := by rw [hbit, hodd]; rfl
            clear hbit
            have HP := hide (tmul_powers (8 * p) (8 * q))
            have HK2 : Hid (p + q + 2 * q * (k / 2) = n) := by
              show _ = _
              have h2 : k = 2 * (k / 2) + 1 := by omega
              have h3 := HK.out
              rw [h2, Nat.mul_add, Nat.mul_one] at h3
              rw [← h3, Nat.mul_comm 2 q, Nat.mul_assoc]; omega
            go_wp2_with (go_at_call 33; refine (times_any _ _ (by assumption) hq0 _).mono ?_; rintro e w' ⟨rfl, rfl⟩)
            go_round
            case rel => exact ⟨k / 2, p + q, 2 * q, by go_num, by omega, by rw [HP.out, Nat.mul_add], by rw [HQ.out]; congr 3; omega, HK2⟩
            case measure => simp [intOf] <;> omega
          · have hc : (bits BinOp.and IntKind.i64 (k : Int) 1 == 1) = false := by rw [hbit, show k % 2 = 0 by omega]; rfl
            clear hbit
            have HK2 : Hid (p + 2 * q * (k / 2) = n) := by
              show _ = _
              have h2 : k = 2 * (k / 2) := by omega
              have h3 := HK.out
              rw [h2] at h3
              rw [← h3, Nat.mul_comm 2 q, Nat.mul_assoc]
            go_wp2_with (go_at_call 33; refine (times_any _ _ hq0 hq0 _).mono ?_; rintro e w' ⟨rfl, rfl⟩)
            go_round
            case rel => exact ⟨k / 2, p, 2 * q, by go_num, by omega, rfl, by rw [HQ.out]; congr 3; omega, HK2⟩
            case measure => simp [intOf] <;> omega
end Go.Proofs.Ytmikeljfigignaa
