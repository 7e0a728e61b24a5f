import Derived.Test.YtmikeljfigignaaSums3
namespace Go.Proofs.Ytmikeljfigignaa
open Go.RowKit

def Gf (seed : Nat) (b : Nat) : Nat := gear seed b
theorem wrap_lt64 (h g : Nat) : IntKind.u64.wrap (IntKind.u64.wrap (2 * (h : Int)) + (g : Int)) = ((roll h g : Nat) : Int) := by
  unfold roll
  rw [IntKind.wrap_u64, IntKind.wrap_u64]
  omega
theorem rollAll_0 (f : Nat → Nat) (h : Nat) : rollAll f h [] = h := rfl
theorem rollAll_snoc (f : Nat → Nat) (h : Nat) (l : List Nat) (b : Nat) : rollAll f h (l ++ [b]) = roll (rollAll f h l) (f b) := by rw [rollAll_append]; rfl
theorem Gf_eq (seed b : Nat) : Gf seed b = gear seed b := rfl
attribute [local irreducible] rollAll roll
attribute [irreducible] Gf
set_option maxHeartbeats 400000 in
theorem refgear_any (seed : Nat) (hs : seed < 18446744073709551616) (b : Nat) (hb : b < 256) (w : World) :
    Calls Try.prog 15 #[.int .u64 seed, .int .u8 b] w fun e w' => e = .returned (.int .u64 ((Gf seed b : Nat) : Int)) ∧ w = w' := by
  have HS0 := hide (sd_zero hs)
  clear hs
  go_enter Try.func15, Try.ntmps15
  go_wp2
  go_loop [5, 6] (fun x i => ∃ k : Nat, k ≤ b + 1 ∧ i = .int .i64 k ∧ x = .int .u64 ((sd seed k : Nat) : Int)) (fun _ i => b + 1 - (intOf i).toNat)
  case atStart => exact ⟨0, by omega, rfl, by rw [HS0.out]⟩
  case round =>
    obtain ⟨k, hk, rfl, rfl⟩ := hrel
    have HSk := hide (nxt_sd seed k)
    by_cases hlt : k < b + 1
    · go_wp2
      go_round
      case rel => exact ⟨k + 1, by omega, by go_num, by rw [← HSk.out, ← nxt_eq]; exact congrArg _ (wrap_u64_nat (sd seed k + 11400714819323198485))⟩
      case measure => simp [intOf] <;> omega
    · have hk8 : k = b + 1 := by omega
      subst hk8
      go_wp2
      go_ret
      refine ⟨ret_int ?_, rfl⟩
      rw [Gf_eq, gear_eq]
      exact mix_expr _ (sd_lt _ _)
set_option maxHeartbeats 400000 in
theorem reflast_any (seed : Nat) (hs : seed < 18446744073709551616) (s : ByteArray) (hsz : s.size ≤ maxLen) (w : World) :
    Calls Try.prog 14 #[.int .u64 seed, .string s] w fun e w' => e = .returned (.int .u64 ((rollAll (Gf seed) 0 (bn s) : Nat) : Int)) ∧ w = w' := by
  unfold maxLen at hsz
  have HS := hide hs
  clear hs
  go_enter Try.func14, Try.ntmps14
  go_wp2
  go_loop [5, 6] (fun x i => ∃ k : Nat, k ≤ s.size ∧ i = .int .i64 k ∧ x = .int .u64 ((rollAll (Gf seed) 0 ((bn s).take k) : Nat) : Int)) (fun _ i => s.size - (intOf i).toNat)
  case atStart => exact ⟨0, by omega, rfl, by rw [List.take_zero, rollAll_0]; rfl⟩
  case round =>
    obtain ⟨k, hk, rfl, rfl⟩ := hrel
    by_cases hlt : k < s.size
    · have hy : s[k].toNat < 256 := s[k].toNat_lt
      have HN : Hid (rollAll (Gf seed) 0 ((bn s).take (k + 1)) = roll (rollAll (Gf seed) 0 ((bn s).take k)) (Gf seed s[k].toNat)) := by
        show _ = _
        rw [bn_take s k hlt, rollAll_snoc]
      go_wp2_with (go_at_call 15; refine (refgear_any seed HS.out _ hy _).mono ?_; rintro e w' ⟨rfl, rfl⟩)
      go_round
      case rel => exact ⟨k + 1, by omega, by go_num, by rw [HN.out]; exact congrArg _ (wrap_lt64 _ _)⟩
      case measure => simp [intOf] <;> omega
    · have hk8 : k = s.size := by omega
      subst hk8
      have HL : Hid ((bn s).take s.size = bn s) := List.take_of_length_le (by rw [bn_len]; omega)
      go_wp2
      go_ret
      exact ⟨by rw [HL.out]; rfl, rfl⟩
set_option maxHeartbeats 400000 in
theorem last_nil (s : ByteArray) (hsz : s.size ≤ maxLen) (w : World) :
    Calls Try.prog 13 #[.pointer none, .string s] w fun e w' => e = .returned (.int .u64 0) ∧ w = w' := by
  unfold maxLen at hsz
  go_enter Try.func13, Try.ntmps13
  go_wp2
  go_loop [5, 9] (fun x i => ∃ k : Nat, k ≤ s.size ∧ i = .int .i64 k ∧ x = .int .u64 0) (fun _ i => s.size - (intOf i).toNat)
  case atStart => exact ⟨0, by omega, rfl, rfl⟩
  case round =>
    obtain ⟨k, hk, rfl, rfl⟩ := hrel
    by_cases hlt : k < s.size
    · go_wp2_with (go_at_call 16; refine (roll_nil 0 _ _).mono ?_; rintro e w' ⟨rfl, rfl⟩)
      go_round
      case rel => exact ⟨k + 1, by omega, by go_num, by go_num⟩
      case measure => simp [intOf] <;> omega
    · have hk8 : k = s.size := by omega
      subst hk8
      go_wp2
      go_ret
      exact ⟨rfl, rfl⟩
set_option maxHeartbeats 400000 in
theorem last_any (seed : Nat) (s : ByteArray) (hsz : s.size ≤ maxLen) (w : World) (bl : Nat) (t : TypeId) (H : Blk w bl t (gtab seed 256)) :
    Calls Try.prog 13 #[.pointer (some ⟨bl, 0, none⟩), .string s] w fun e w' => e = .returned (.int .u64 ((rollAll (Gf seed) 0 (bn s) : Nat) : Int)) ∧ w = w' := by
  unfold maxLen at hsz
  go_enter Try.func13, Try.ntmps13
  go_wp2
  go_loop [5, 9] (fun x i => ∃ k : Nat, k ≤ s.size ∧ i = .int .i64 k ∧ x = .int .u64 ((rollAll (Gf seed) 0 ((bn s).take k) : Nat) : Int)) (fun _ i => s.size - (intOf i).toNat)
  case atStart => exact ⟨0, by omega, rfl, by rw [List.take_zero, rollAll_0]; rfl⟩
  case round =>
    obtain ⟨k, hk, rfl, rfl⟩ := hrel
    by_cases hlt : k < s.size
    · have hy : s[k].toNat < 256 := s[k].toNat_lt
      have HN : Hid (rollAll (Gf seed) 0 ((bn s).take (k + 1)) = roll (rollAll (Gf seed) 0 ((bn s).take k)) (gear seed s[k].toNat)) := by
        show _ = _
        rw [bn_take s k hlt, rollAll_snoc, Gf_eq]
      have HC := hide ((H.cell s[k].toNat).trans (gtab_full hy))
      go_wp2_with (go_at_call 16; refine (roll_any _ _ hy _ _ bl HC.out).mono ?_; rintro e w' ⟨rfl, rfl⟩)
      go_round
      case rel => exact ⟨k + 1, by omega, by go_num, by rw [HN.out]⟩
      case measure => simp [intOf] <;> omega
    · have hk8 : k = s.size := by omega
      subst hk8
      have HL : Hid ((bn s).take s.size = bn s) := List.take_of_length_le (by rw [bn_len]; omega)
      go_wp2
      go_ret
      exact ⟨by rw [HL.out]; rfl, rfl⟩
end Go.Proofs.Ytmikeljfigignaa
