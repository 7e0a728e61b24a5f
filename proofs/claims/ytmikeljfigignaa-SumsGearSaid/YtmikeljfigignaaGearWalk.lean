import Derived.Test.YtmikeljfigignaaSums5
import Derived.OpenShut
namespace Go.Proofs.Ytmikeljfigignaa
open Go.RowKit

theorem u64_of {n : Int} (h : (Lit.int .u64 n).wf = true) : ∃ m : Nat, n = m ∧ m < 18446744073709551616 := by
  have : 0 ≤ n ∧ n < 18446744073709551616 := by
    have := bounds_u64 h
    omega
  exact ⟨n.toNat, by omega, by omega⟩
set_option maxHeartbeats 400000 in
set_option maxRecDepth 100000 in
theorem sumsGear_walk (a0 : Int) (w0 : (Lit.int .u64 a0).wf = true) (s : ByteArray) (hs : s.size ≤ maxLen) (a2 : Int) (w2 : (Lit.int .u64 a2).wf = true) (w : World) :
    Calls Try.prog 3 #[.int .u64 a0, .string s, .int .u64 a2] w fun e w' => e = .returned (.bool true) ∧ Below w.heap.size w w' := by
  obtain ⟨seed, rfl, hseed⟩ := u64_of w0
  obtain ⟨h, rfl, hh⟩ := u64_of w2
  clear w0 w2
  have HS := hide hseed
  have HH := hide hh
  clear hseed hh
  unfold maxLen at hs
  have KA := hide (awake03)
  by_cases h1 : 300 < s.size
  · go_enter Try.func3, Try.ntmps3
    go_wp2_with fail
    refine (KA.out _).mono ?_
    rintro e w1 ⟨rfl, hb1⟩
    go_wp2
    go_ret
    exact ⟨rfl, hb1⟩
  have K1 := hide (fun w => gear_any seed HS.out w)
  have K2 := hide (fun w bl t H => last_any seed s (by unfold maxLen; omega) w bl t H)
  have K3 := hide (fun w => reflast_any seed HS.out s (by unfold maxLen; omega) w)
  have K4 := hide (fun w => last_nil s (by unfold maxLen; omega) w)
  have hz := zero24
  have hst := fun w1 => run_storeCells_new (P := Try.prog) w1 24 z64 (gtab seed 256) (by rw [gtab_size]; exact info24) (by rw [gtab_size]; exact z64_size) (gtab_one seed 256)
  have hdec : decide (300 < (s.size : Int)) = false := by rw [decide_eq_false_iff_not]; omega
  go_enter Try.func3, Try.ntmps3
  go_wp2_with fail
  refine (K1.out _).mono ?_
  rintro e w1 ⟨rfl, hb1⟩
  have H1 := Blk.new w1 (gtab seed 256) 24
  have hb := hb1.alloc hb1.size (Obj.cells (gtab seed 256) 24)
  clear hb1
  go_wp2_with fail
  refine (K2.out _ _ _ H1).mono ?_
  rintro e w' ⟨rfl, rfl⟩
  go_wp2_with fail
  refine (K3.out _).mono ?_
  rintro e w' ⟨rfl, rfl⟩
  go_wp2_with fail
  refine (K4.out _).mono ?_
  rintro e w' ⟨rfl, rfl⟩
  clear hst
  generalize hW : w1.alloc (Obj.cells (gtab seed 256) 24) = W at *
  go_wp2_with fail
  have K5 : Hid (∀ (w : World) (b : Nat), b < 256 → Calls Try.prog 15 #[.int .u64 seed, .int .u8 b] w fun e w' => e = .returned (.int .u64 ((gear seed b : Nat) : Int)) ∧ w = w') :=
    fun w b hb => by rw [← Gf_eq]; exact refgear_any seed HS.out b hb w
  go_loopw [8] (fun i wr => ∃ k n : Nat, k ≤ 256 ∧ i = .int .i64 k ∧ wr = W.drewN n) (fun i _ => 256 - (intOf i).toNat)
  case atStart => exact ⟨0, 0, by omega, rfl, rfl⟩
  case round =>
    obtain ⟨k, n, hk, rfl, rfl⟩ := hrel
    by_cases hlt : k < 256
    · have hc := (H1.cell k).trans (gtab_full hlt)
      go_wp2_with fail
      go_quiet ((go_at_call 15; first | exact quiet_left (K5.out _ _ hlt) | exact quiet_add_left (K5.out _ _ hlt)))
      go_wp2
      go_roundw
      case rel => exact ⟨k + 1, _, by omega, by go_num, rfl⟩
      case measure => simp [intOf] <;> omega
    · have hk8 : k = 256 := by omega
      subst hk8
      go_wp2
      obtain ⟨H2, he2⟩ : ∃ H2 : Nat, H2 = (2 * h) % 18446744073709551616 := ⟨_, rfl⟩
      have hA : IntKind.u64.wrap (2 * (h : Int)) = (H2 : Int) := by rw [he2, IntKind.wrap_u64]; omega
      have HE2 := hide he2
      clear he2
      have K7 : Hid (∀ (w : World) (b : Nat), Calls Try.prog 16 #[.int .u64 h, .pointer none, .int .u8 b] w fun e w' => e = .returned (.int .u64 (H2 : Int)) ∧ w = w') :=
        fun w b => by rw [HE2.out]; exact roll_nil h b w
      go_loopw [9] (fun i wr => ∃ k n : Nat, k ≤ s.size ∧ i = .int .i64 k ∧ wr = W.drewN n) (fun i _ => s.size - (intOf i).toNat)
      case atStart => exact ⟨0, _, by omega, rfl, rfl⟩
      case round =>
        obtain ⟨k, m, hk, rfl, rfl⟩ := hrel
        by_cases hlt : k < s.size
        · have hy : s[k].toNat < 256 := s[k].toNat_lt
          have HC := hide ((H1.cell s[k].toNat).trans (gtab_full hy))
          obtain ⟨R, hR⟩ : ∃ R : Nat, R = roll h (gear seed s[k].toNat) := ⟨_, rfl⟩
          have hB : IntKind.u64.wrap ((H2 : Int) + ((gear seed s[k].toNat : Nat) : Int)) = (R : Int) := by
            rw [hR, HE2.out, IntKind.wrap_u64]; unfold roll; omega
          have HR := hide hR
          clear hR
          have K6 : Hid (∀ (j : Nat), Calls Try.prog 16 #[.int .u64 h, .pointer (some ⟨w1.heap.size, 0, none⟩), .int .u8 s[k].toNat] (W.drewN j) fun e w' => e = .returned (.int .u64 (R : Int)) ∧ W.drewN j = w') :=
            fun j => by rw [HR.out]; exact roll_any h _ hy _ _ _ HC.out
          have K8 : Hid (∀ (j : Nat), Calls Try.prog 15 #[.int .u64 seed, .int .u8 s[k].toNat] (W.drewN j) fun e w' => e = .returned (.int .u64 ((gear seed s[k].toNat : Nat) : Int)) ∧ W.drewN j = w') :=
            fun j => K5.out _ _ hy
          have K9 : Hid (∀ (j : Nat), Calls Try.prog 16 #[.int .u64 h, .pointer none, .int .u8 s[k].toNat] (W.drewN j) fun e w' => e = .returned (.int .u64 (H2 : Int)) ∧ W.drewN j = w') :=
            fun j => K7.out _ _
          go_wp2_with fail
          go_quiet ((first | (go_at_call 15; exact quiet_add_left (K8.out _)) | (go_at_call_of 16 (Value.pointer none); exact quiet_add_left (K9.out _)) | (go_at_call 16; exact quiet_add_left (K6.out _))))
          go_wp2
          go_roundw
          case rel => exact ⟨k + 1, _, by omega, by go_num, rfl⟩
          case measure => simp [intOf] <;> omega
        · have hk8 : k = s.size := by omega
          subst hk8
          have HB := hide (below_drewN hb m)
          go_wp2_with fail
          refine (KA.out _).mono ?_
          rintro e w3 ⟨rfl, hb3⟩
          have hb4 := HB.out.trans (hb3.mono HB.out.size)
          go_wp2
          go_ret
          exact ⟨rfl, hb4⟩
end Go.Proofs.Ytmikeljfigignaa
