/- A nil writer and a nil reader. -/
import Derived.Test.YtkeaijocjbldmaaWireR8
namespace Go.Proofs.Ytkeaijocjbldmaa
open Go.RowKit

/-- A call that gives a value and makes memory at most. -/
def NPost (w : World) (v : Value) (e : Ending) (w' : World) : Prop := e = .returned v ∧ Below w.heap.size w w'
set_option maxHeartbeats 1000000 in
theorem nput_any (A : Option Addr) (n c : Nat) (w : World) : Calls Try.prog 43 #[.pointer none, .slice A n c] w fun e w' => e = .returned (.tuple #[]) ∧ w = w' := by
  go_enter Try.func43, Try.ntmps43
  go_wp2_with fail
  go_end0
  exact ⟨rfl, rfl⟩
set_option maxHeartbeats 1000000 in
theorem nwu8_any (x : Nat) (w : World) : Calls Try.prog 44 #[.pointer none, .int .u8 x] w (NPost w (.tuple #[])) := by
  go_enter Try.func44, Try.ntmps44
  go_wp2_with fail
  refine (nput_any _ _ _ _).mono ?_
  rintro e w1 ⟨rfl, rfl⟩
  go_wp2_with fail
  go_end0
  exact ⟨rfl, (Below.refl _ _).alloc (Nat.le_refl _) _⟩
set_option maxHeartbeats 1000000 in
set_option maxRecDepth 100000 in
theorem nwfixed_any (x n : Nat) (hx : x < 18446744073709551616) (hn : n ≤ 8) (w : World) :
    Calls Try.prog 64 #[.pointer none, .int .u64 x, .int .i64 n] w (NPost w (.tuple #[])) := by
  go_enter Try.func64, Try.ntmps64
  go_wp2_with fail
  go_loopw [1, 7] (fun xv iv wr => ∃ k : Nat, k ≤ n ∧ iv = .int .i64 k ∧ (∃ y : Nat, y < 18446744073709551616 ∧ xv = .int .u64 y) ∧ Below w.heap.size w wr) (fun _ iv _ => n - (intOf iv).toNat)
  case atStart => exact ⟨0, by omega, rfl, ⟨x, hx, rfl⟩, Below.refl _ _⟩
  case round =>
    obtain ⟨k, hk, rfl, ⟨y, hy, rfl⟩, hb⟩ := hrel
    by_cases hlt : k < n
    · obtain ⟨wo, rfl⟩ : ∃ wo : World, wo = wr := ⟨_, rfl⟩
      go_wp2_with fail
      refine (nput_any _ _ _ _).mono ?_
      rintro e w1 ⟨rfl, rfl⟩
      go_wp2_with fail
      go_roundw
      case rel => exact ⟨k + 1, by omega, by go_num, ⟨y / 256, by omega, rfl⟩, hb.alloc hb.size _⟩
      case measure => simp [intOf] <;> omega
    · have hk8 : k = n := by omega
      subst hk8
      go_wp2_with fail
      go_end0
      exact ⟨rfl, hb⟩
set_option maxHeartbeats 1000000 in
theorem nwu32_any (x : Nat) (hx : x < 4294967296) (w : World) : Calls Try.prog 45 #[.pointer none, .int .u32 x] w (NPost w (.tuple #[])) := by
  go_enter Try.func45, Try.ntmps45
  go_wp2_with fail
  refine (nwfixed_any x 4 (by omega) (by omega) _).mono ?_
  rintro e w1 ⟨rfl, hb⟩
  go_wp2_with fail
  go_end0
  exact ⟨rfl, hb⟩
set_option maxHeartbeats 1000000 in
theorem nwu64_any (x : Nat) (hx : x < 18446744073709551616) (w : World) : Calls Try.prog 46 #[.pointer none, .int .u64 x] w (NPost w (.tuple #[])) := by
  go_enter Try.func46, Try.ntmps46
  go_wp2_with fail
  refine (nwfixed_any x 8 (by omega) (by omega) _).mono ?_
  rintro e w1 ⟨rfl, hb⟩
  go_wp2_with fail
  go_end0
  exact ⟨rfl, hb⟩
set_option maxHeartbeats 1000000 in
set_option maxRecDepth 100000 in
theorem nwuvar_any (x : Nat) (hx : x < 18446744073709551616) (w : World) :
    Calls Try.prog 21 #[.pointer none, .int .u64 x] w (NPost w (.tuple #[])) := by
  go_enter Try.func21, Try.ntmps21
  go_wp2_with fail
  go_loopw [1] (fun xv wr => (∃ y : Nat, y < 18446744073709551616 ∧ xv = .int .u64 y) ∧ Below w.heap.size w wr) (fun xv _ => (intOf xv).toNat)
  case atStart => exact ⟨⟨x, hx, rfl⟩, Below.refl _ _⟩
  case round =>
    obtain ⟨⟨y, hy, rfl⟩, hb⟩ := hrel
    obtain ⟨wo, rfl⟩ : ∃ wo : World, wo = wr := ⟨_, rfl⟩
    by_cases hlt : y < 128
    · go_wp2_with fail
      refine (nput_any _ _ _ _).mono ?_
      rintro e w1 ⟨rfl, rfl⟩
      go_wp2_with fail
      go_end0
      exact ⟨rfl, hb.alloc hb.size _⟩
    · go_wp2_with fail
      refine (nput_any _ _ _ _).mono ?_
      rintro e w1 ⟨rfl, rfl⟩
      go_wp2_with fail
      go_roundw
      case rel => exact ⟨⟨y / 128, by omega, rfl⟩, hb.alloc hb.size _⟩
      case measure => simp [intOf] <;> omega
set_option maxHeartbeats 1000000 in
theorem nwsvar_any (x : Int) (h1 : -9223372036854775808 ≤ x) (h2 : x ≤ 9223372036854775807) (w : World) :
    Calls Try.prog 22 #[.pointer none, .int .i64 x] w (NPost w (.tuple #[])) := by
  have K := hide (nwuvar_any (zz x) (zz_lt h1 h2) w)
  have hz := zz_bits h1 h2
  go_enter Try.func22, Try.ntmps22
  go_wp2_with fail
  refine K.out.mono ?_
  rintro e w1 ⟨rfl, hb⟩
  go_wp2_with fail
  go_end0
  exact ⟨rfl, hb⟩
set_option maxHeartbeats 1000000 in
theorem nwraw_any (s : ByteArray) (_hs : s.size ≤ maxLen) (w : World) : Calls Try.prog 48 #[.pointer none, .string s] w (NPost w (.tuple #[])) := by
  have hcv := fun w => run_bytes_of_string (P := Try.prog) w 9 31 5 s Try.underlying9 Try.underlying31 Try.underlying5
  go_enter Try.func48, Try.ntmps48
  go_wp2_with fail
  refine (nput_any _ _ _ _).mono ?_
  rintro e w1 ⟨rfl, rfl⟩
  go_wp2_with fail
  go_end0
  exact ⟨rfl, ((Below.refl _ _).alloc (Nat.le_refl _) _).drew⟩
set_option maxHeartbeats 1000000 in
theorem nwtext_any (s : ByteArray) (hs : s.size ≤ maxLen) (w : World) : Calls Try.prog 47 #[.pointer none, .string s] w (NPost w (.tuple #[])) := by
  have K := hide (nwuvar_any s.size (by unfold maxLen at hs; omega) w)
  have K2 : Hid (∀ w, Calls Try.prog 48 #[.pointer none, .string s] w (NPost w (.tuple #[]))) := fun w => nwraw_any s hs w
  unfold maxLen at hs
  go_enter Try.func47, Try.ntmps47
  go_wp2_with fail
  refine K.out.mono ?_
  rintro e w1 ⟨rfl, hb1⟩
  go_wp2_with fail
  refine (K2.out _).mono ?_
  rintro e w2 ⟨rfl, hb2⟩
  go_wp2_with fail
  go_end0
  exact ⟨rfl, hb1.trans (hb2.mono hb1.size)⟩
set_option maxHeartbeats 1000000 in
theorem nwlen_any (w : World) : Calls Try.prog 27 #[.pointer none] w fun e w' => e = .returned (.int .i64 0) ∧ w = w' := by
  go_enter Try.func27, Try.ntmps27
  go_wp2_with fail
  go_ret
  exact ⟨rfl, rfl⟩
set_option maxHeartbeats 1000000 in
theorem nwstring_any (w : World) : Calls Try.prog 23 #[.pointer none] w fun e w' => e = .returned (.string { data := #[] }) ∧ w = w' := by
  go_enter Try.func23, Try.ntmps23
  go_wp2_with fail
  go_ret
  exact ⟨rfl, rfl⟩
/- The reader. -/
set_option maxHeartbeats 1000000 in
theorem ntake_any (n : Int) (w : World) : Calls Try.prog 65 #[.pointer none, .int .i64 n] w fun e w' => e = .returned (.string { data := #[] }) ∧ w = w' := by
  go_enter Try.func65, Try.ntmps65
  go_wp2_with fail
  go_ret
  exact ⟨rfl, rfl⟩
set_option maxHeartbeats 1000000 in
set_option maxRecDepth 100000 in
theorem nrfixed_any (n : Nat) (w : World) : Calls Try.prog 63 #[.pointer none, .int .i64 n] w (NPost w (.int .u64 0)) := by
  have hcv := fun w => run_bytes_of_string (P := Try.prog) w 9 31 5 { data := #[] } Try.underlying9 Try.underlying31 Try.underlying5
  go_enter Try.func63, Try.ntmps63
  go_wp2_with fail
  refine (ntake_any _ _).mono ?_
  rintro e w1 ⟨rfl, rfl⟩
  go_wp2_with fail
  refine wp_loop_rounds 1 ?_
  rw [rounds_succ]
  go_wp2_with fail
  go_ret
  exact ⟨rfl, ((Below.refl _ _).alloc (Nat.le_refl _) _).drew⟩
set_option maxHeartbeats 1000000 in
theorem nru8_any (w : World) : Calls Try.prog 41 #[.pointer none] w (NPost w (.int .u8 0)) := by
  go_enter Try.func41, Try.ntmps41
  go_wp2_with fail
  refine (nrfixed_any 1 _).mono ?_
  rintro e w1 ⟨rfl, hb⟩
  go_wp2_with fail
  go_ret
  exact ⟨rfl, hb⟩
set_option maxHeartbeats 1000000 in
theorem nru32_any (w : World) : Calls Try.prog 52 #[.pointer none] w (NPost w (.int .u32 0)) := by
  go_enter Try.func52, Try.ntmps52
  go_wp2_with fail
  refine (nrfixed_any 4 _).mono ?_
  rintro e w1 ⟨rfl, hb⟩
  go_wp2_with fail
  go_ret
  exact ⟨rfl, hb⟩
set_option maxHeartbeats 1000000 in
theorem nru64_any (w : World) : Calls Try.prog 53 #[.pointer none] w (NPost w (.int .u64 0)) := by
  go_enter Try.func53, Try.ntmps53
  go_wp2_with fail
  refine (nrfixed_any 8 _).mono ?_
  rintro e w1 ⟨rfl, hb⟩
  go_wp2_with fail
  go_ret
  exact ⟨rfl, hb⟩
set_option maxHeartbeats 1000000 in
set_option maxRecDepth 100000 in
theorem nruvar_any (w : World) : Calls Try.prog 17 #[.pointer none] w fun r w' => r = .returned (.int .u64 0) ∧ w = w' := by
  go_enter Try.func17, Try.ntmps17
  go_wp2_with fail
  refine wp_scope_straight ?_
  go_wp2_with fail
  rw [Exit.noGoto_ret]
  go_ret
  exact ⟨rfl, rfl⟩
set_option maxHeartbeats 1000000 in
theorem nrsvar_any (w : World) : Calls Try.prog 18 #[.pointer none] w fun r w' => r = .returned (.int .i64 0) ∧ w = w' := by
  go_enter Try.func18, Try.ntmps18
  go_wp2_with fail
  refine (nruvar_any _).mono ?_
  rintro e w1 ⟨rfl, rfl⟩
  go_wp2_with fail
  go_ret
  exact ⟨by kernel_rfl, rfl⟩
set_option maxHeartbeats 1000000 in
theorem nrat_any (w : World) : Calls Try.prog 20 #[.pointer none] w fun r w' => r = .returned (.int .i64 0) ∧ w = w' := by
  go_enter Try.func20, Try.ntmps20
  go_wp2_with fail
  go_ret
  exact ⟨rfl, rfl⟩
set_option maxHeartbeats 1000000 in
theorem nrleft_any (w : World) : Calls Try.prog 30 #[.pointer none] w fun r w' => r = .returned (.int .i64 0) ∧ w = w' := by
  go_enter Try.func30, Try.ntmps30
  go_wp2_with fail
  go_ret
  exact ⟨rfl, rfl⟩
set_option maxHeartbeats 1000000 in
theorem nrerr_any (w : World) : Calls Try.prog 19 #[.pointer none] w fun r w' => r = .returned (.int .i64 2) ∧ w = w' := by
  go_enter Try.func19, Try.ntmps19
  go_wp2_with fail
  go_ret
  exact ⟨rfl, rfl⟩
set_option maxHeartbeats 1000000 in
theorem nrdone_any (w : World) : Calls Try.prog 31 #[.pointer none] w fun r w' => r = .returned (.int .i64 2) ∧ w = w' := by
  go_enter Try.func31, Try.ntmps31
  go_wp2_with fail
  refine (nrerr_any _).mono ?_
  rintro e w1 ⟨rfl, rfl⟩
  go_wp2_with fail
  go_ret
  exact ⟨rfl, rfl⟩
set_option maxHeartbeats 1000000 in
theorem nrraw_any (n : Int) (w : World) : Calls Try.prog 55 #[.pointer none, .int .i64 n] w fun r w' => r = .returned (.string { data := #[] }) ∧ w = w' := by
  by_cases hn : n < 0
  · go_enter Try.func55, Try.ntmps55
    go_wp2_with fail
    refine (nrerr_any _).mono ?_
    rintro e w1 ⟨rfl, rfl⟩
    go_wp2_with fail
    refine (ntake_any _ _).mono ?_
    rintro e w1 ⟨rfl, rfl⟩
    go_wp2_with fail
    go_ret
    exact ⟨rfl, rfl⟩
  · go_enter Try.func55, Try.ntmps55
    go_wp2_with fail
    refine (ntake_any _ _).mono ?_
    rintro e w1 ⟨rfl, rfl⟩
    go_wp2_with fail
    go_ret
    exact ⟨rfl, rfl⟩
set_option maxHeartbeats 1000000 in
theorem nrtext_any (n : Int) (w : World) : Calls Try.prog 54 #[.pointer none, .int .i64 n] w fun r w' => r = .returned (.string { data := #[] }) ∧ w = w' := by
  go_enter Try.func54, Try.ntmps54
  go_wp2_with fail
  refine (nrat_any _).mono ?_
  rintro e w1 ⟨rfl, rfl⟩
  go_wp2_with fail
  refine (nruvar_any _).mono ?_
  rintro e w1 ⟨rfl, rfl⟩
  go_wp2_with fail
  refine (nrerr_any _).mono ?_
  rintro e w1 ⟨rfl, rfl⟩
  go_wp2_with fail
  go_ret
  exact ⟨rfl, rfl⟩
end Go.Proofs.Ytkeaijocjbldmaa
