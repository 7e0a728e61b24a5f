import Derived.Test.YtmikeljfigignaaNulls5
namespace Go.Proofs.Ytmikeljfigignaa
open Go.RowKit

set_option maxHeartbeats 400000 in
theorem nullsUnpacks_walk (s : ByteArray) (hs : s.size ≤ maxLen) (n : Int) (w1 : (Lit.int .i64 n).wf = true) (w : World) :
    Calls Try.prog 7 #[.string s, .int .i64 n] w fun e w' => e = .returned (.bool true) ∧ Below w.heap.size w w' := by
  have KA := hide (awake07)
  clear w1
  unfold maxLen at hs
  by_cases h : 100 < s.size
  · go_enter Try.func7, Try.ntmps7
    go_wp2_with fail
    refine (KA.out _).mono ?_
    rintro e w1 ⟨rfl, hb1⟩
    go_wp2
    go_ret
    exact ⟨rfl, hb1⟩
  have K1 := hide (fun w => unpack_any s (by unfold maxLen; omega) n w)
  have K2 := hide (fun w => refunpack_any s (by omega) n w)
  have HL : Hid ((unR (bn s) n).2.length ≤ maxLen) := by
    show _ ≤ _
    unfold maxLen unR
    split
    · simp
    · split
      · simp
      · split
        · simp
        · split
          · rw [ubits_length]; omega
          · simp
  go_enter Try.func7, Try.ntmps7
  go_wp2_with fail
  refine (K1.out _).mono ?_
  rintro e w1 ⟨va, rfl, ha, hb1⟩
  go_wp2_with fail
  refine (K2.out _).mono ?_
  rintro e w2 ⟨vb, rfl, hb, hb2⟩
  have hb3 := hb1.trans (hb2.mono hb1.size)
  have K3 := hide (bools_same _ va vb w2 (ha.below hb2) hb)
  clear hb1 hb2 ha hb
  go_wp2_with fail
  refine K3.out.mono ?_
  rintro e w3 ⟨rfl, hb4⟩
  have hb5 := hb3.trans (hb4.mono hb3.size)
  clear hb3 hb4
  go_wp2_with fail
  refine (KA.out _).mono ?_
  rintro e w4 ⟨rfl, hb6⟩
  have hb7 := hb5.trans (hb6.mono hb5.size)
  go_wp2
  go_ret
  exact ⟨rfl, hb7⟩
set_option maxHeartbeats 1000000 in
theorem nullsPacks_walk (w : World) (v : Value) (w0 : ∃ l : List Bool, InSl w v l.length (fun i => .bool (l.getD i false))) :
    Calls Try.prog 6 #[v] w fun e w' => e = .returned (.bool true) ∧ Below w.heap.size w w' := by
  have KA := hide (awake07)
  obtain ⟨l, hS⟩ := w0
  have hS0 : SlB w v l := hS
  by_cases h300 : 300 < l.length
  · obtain ⟨hm, hs⟩ := hS
    unfold maxLen at hm
    rcases hs with ⟨h0, a, c, rfl, _⟩ | ⟨hpos, b, o, c, rfl, hc, hb, hcell⟩
    · omega
    clear hcell
    go_enter Try.func6, Try.ntmps6
    go_wp2_with fail
    refine (KA.out _).mono ?_
    rintro e w1 ⟨rfl, hb1⟩
    go_wp2
    go_ret
    exact ⟨rfl, hb1⟩
  have K1 : Hid (∀ w', SlB w' v l → Calls Try.prog 19 #[v] w' fun e w'' => e = .returned (.string (strN (packL l))) ∧ Below w'.heap.size w' w'') := fun w' h => pack_any l (by omega) v w' h
  have K2 : Hid (∀ w', SlB w' v l → Calls Try.prog 20 #[v] w' fun e w'' => e = .returned (.string (strN (packL l))) ∧ Below w'.heap.size w' w'') := fun w' h => refpack_any l (by omega) v w' h
  have K3 : Hid (∀ w', SlB w' v l → Calls Try.prog 21 #[v] w' fun e w'' => e = .returned (.int .i64 ((cnt l : Nat) : Int)) ∧ w' = w'') := fun w' h => count_any l v w' h
  have HS0 := hide hS0
  clear hS0
  obtain ⟨hm, hs⟩ := hS
  unfold maxLen at hm
  rcases hs with ⟨h0, a, c, rfl, _⟩ | ⟨hpos, b, o, c, rfl, hc, hb, hcell⟩
  · have hl : l = [] := List.eq_nil_of_length_eq_zero h0
    subst hl
    have hc0 : cnt [] = 0 := by decide +kernel
    rw [hc0] at K3
    clear h0 hm h300 hc0
    go_enter Try.func6, Try.ntmps6
    go_wp2_with fail
    refine wp_loop_rounds 1 ?_
    rw [rounds_succ]
    go_wp2_with fail
    refine (K1.out _ HS0.out).mono ?_
    rintro e w1 ⟨rfl, hb1⟩
    have h1 := HS0.out.below hb1
    go_wp2_with fail
    refine (K2.out _ h1).mono ?_
    rintro e w2 ⟨rfl, hb2⟩
    have h2 := InSl.below h1 hb2
    have hb3 := hb1.trans (hb2.mono hb1.size)
    clear hb1 hb2 h1
    go_wp2_with fail
    refine (K3.out _ h2).mono ?_
    rintro e w' ⟨rfl, rfl⟩
    go_wp2_with fail
    refine (KA.out _).mono ?_
    rintro e w4 ⟨rfl, hb6⟩
    have hb7 := hb3.trans (hb6.mono hb3.size)
    go_wp2
    go_ret
    exact ⟨rfl, hb7⟩
  have HC := hide hcell
  clear hcell
  have hd : decide (300 < (l.length : Int)) = false := by rw [decide_eq_false_iff_not]; omega
  have hd' : decide (300 < l.length) = false := by rw [decide_eq_false_iff_not]; omega
  go_enter Try.func6, Try.ntmps6
  go_wp2_with fail
  go_loop [3, 4] (fun x i => ∃ k : Nat, k ≤ l.length ∧ i = .int .i64 k ∧ x = .int .i64 ((cntTo l k : Nat) : Int)) (fun _ i => l.length - (intOf i).toNat)
  case atStart => exact ⟨0, by omega, rfl, by unfold cntTo; rfl⟩
  case round =>
    obtain ⟨k, hk, rfl, rfl⟩ := hrel
    have hle := cntTo_le l k
    by_cases hlt : k < l.length
    · have hck := HC.out k hlt
      have HN := hide (cntTo_succ l k)
      cases hbit : l.getD k false with
      | true =>
        have HB := hide (bit_true hbit)
        have hck' : w.cell? ⟨b, o + k, none⟩ = some (.bool true) := hck.trans (by rw [hbit])
        clear hck hbit
        go_wp2
        go_round
        case rel => exact ⟨k + 1, by omega, by go_num, by rw [HN.out, HB.out]; go_num⟩
        case measure => simp [intOf] <;> omega
      | false =>
        have HB := hide (bit_false hbit)
        have hck' : w.cell? ⟨b, o + k, none⟩ = some (.bool false) := hck.trans (by rw [hbit])
        clear hck hbit
        go_wp2
        go_round
        case rel => exact ⟨k + 1, by omega, by go_num, by rw [HN.out, HB.out]; go_num⟩
        case measure => simp [intOf] <;> omega
    · have hk8 : k = l.length := by omega
      subst hk8
      have K4 : Hid (∀ w', SlB w' (.slice (some ⟨b, o, none⟩) l.length c) l → Calls Try.prog 21 #[.slice (some ⟨b, o, none⟩) l.length c] w' fun e w'' => e = .returned (.int .i64 ((cntTo l l.length : Nat) : Int)) ∧ w' = w'') := K3.out
      clear K3
      go_wp2_with fail
      refine (K1.out _ HS0.out).mono ?_
      rintro e w1 ⟨rfl, hb1⟩
      have h1 := HS0.out.below hb1
      go_wp2_with fail
      refine (K2.out _ h1).mono ?_
      rintro e w2 ⟨rfl, hb2⟩
      have h2 := InSl.below h1 hb2
      have hb3 := hb1.trans (hb2.mono hb1.size)
      clear hb1 hb2 h1
      go_wp2_with fail
      refine (K4.out _ h2).mono ?_
      rintro e w' ⟨rfl, rfl⟩
      go_wp2_with fail
      refine (KA.out _).mono ?_
      rintro e w4 ⟨rfl, hb6⟩
      have hb7 := hb3.trans (hb6.mono hb3.size)
      go_wp2
      go_ret
      exact ⟨rfl, hb7⟩
end Go.Proofs.Ytmikeljfigignaa
