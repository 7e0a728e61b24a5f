import Derived.Test.YtmikeljfigignaaSums5
namespace Go.Proofs.Ytmikeljfigignaa
open Go.RowKit

theorem bn_append (s t : ByteArray) : bn (s ++ t) = bn s ++ bn t := by simp [bn]
theorem crc_lt (s : ByteArray) : crc (bn s) < 4294967296 := Nat.xor_lt_two_pow (n := 32) (reg_lt (Nat.xor_lt_two_pow (n := 32) (by omega) (by unfold ones; omega)) (bn_lt s)) (by unfold ones; omega)
theorem more_two (s t : ByteArray) : more (crc (bn s)) (bn t) = crc (bn (s ++ t)) := by rw [bn_append]; exact more_append 0 _ _
theorem joined_two (s t : ByteArray) : hvN (8 * t.size) (crc (bn s)) ^^^ crc (bn t) = crc (bn (s ++ t)) := by
  rw [bn_append, crc_append, bn_len]
set_option maxHeartbeats 400000 in
theorem sumsCrc_walk (s : ByteArray) (hs : s.size ≤ maxLen) (t : ByteArray) (ht : t.size ≤ maxLen) (w : World) :
    Calls Try.prog 9 #[.string s, .string t] w fun e w' => e = .returned (.bool true) ∧ Below w.heap.size w w' := by
  unfold maxLen at hs ht
  have KA := hide (awake03)
  by_cases h1 : 1000 < s.size
  · go_enter Try.func9, Try.ntmps9
    go_wp2_with fail
    refine (KA.out _).mono ?_
    rintro e w1 ⟨rfl, hb1⟩
    go_wp2
    go_ret
    exact ⟨rfl, hb1⟩
  by_cases h2 : 1000 < t.size
  · go_enter Try.func9, Try.ntmps9
    go_wp2_with fail
    refine (KA.out _).mono ?_
    rintro e w1 ⟨rfl, hb1⟩
    go_wp2
    go_ret
    exact ⟨rfl, hb1⟩
  have hm : (s ++ t).size ≤ maxLen := by rw [ByteArray.size_append]; unfold maxLen; omega
  have K1 := hide (fun w => refcrc_any s (by unfold maxLen; omega) w)
  have K2 := hide (fun w => refcrc_any t (by unfold maxLen; omega) w)
  have K3 := hide (fun w => refcrc_any (s ++ t) hm w)
  have K4 := hide (fun w => crc_any s (by unfold maxLen; omega) w)
  have K5 := hide (fun w => more_any (crc (bn s)) (crc_lt s) t (by unfold maxLen; omega) w)
  have K6 : Hid (∀ w, Calls Try.prog 27 #[.int .u32 (crc (bn s) : Nat), .int .u32 (crc (bn t) : Nat), .int .i64 (t.size : Nat)] w fun e w' => e = .returned (.int .u32 ((crc (bn (s ++ t)) : Nat) : Int)) ∧ w = w') := by
    intro w
    by_cases h0 : t.size = 0
    · refine (joined_none _ _ _ (by omega) w).mono fun e w' ⟨he, hw⟩ => ⟨?_, hw⟩
      rw [he, bn_append, show bn t = [] from List.eq_nil_of_length_eq_zero (by rw [bn_len]; exact h0), List.append_nil]
    · refine (joined_any _ _ t.size (crc_lt s) (crc_lt t) (by omega) (by omega) w).mono fun e w' ⟨he, hw⟩ => ⟨?_, hw⟩
      rw [he, joined_two]
  have K7 := hide (fun w => joined_none (crc (bn s)) (crc (bn t)) (-(t.size : Int)) (by omega) w)
  rw [more_two] at K5
  have HX := hide hm
  clear hm
  go_enter Try.func9, Try.ntmps9
  go_wp2_with fail
  refine (K1.out _).mono ?_
  rintro e w' ⟨rfl, rfl⟩
  go_wp2_with fail
  refine (K2.out _).mono ?_
  rintro e w' ⟨rfl, rfl⟩
  go_wp2_with fail
  refine (K3.out _).mono ?_
  rintro e w' ⟨rfl, rfl⟩
  go_wp2_with fail
  refine (K4.out _).mono ?_
  rintro e w1 ⟨rfl, hb1⟩
  go_wp2_with fail
  refine (K5.out _).mono ?_
  rintro e w2 ⟨rfl, hb2⟩
  have hb2 := hb1.trans (hb2.mono hb1.size)
  clear hb1
  go_wp2_with fail
  refine (K6.out _).mono ?_
  rintro e w' ⟨rfl, rfl⟩
  go_wp2_with fail
  refine (K7.out _).mono ?_
  rintro e w' ⟨rfl, rfl⟩
  go_wp2_with fail
  refine (KA.out _).mono ?_
  rintro e w3 ⟨rfl, hb3⟩
  have hb3 := hb2.trans (hb3.mono hb2.size)
  clear hb2
  go_wp2
  go_ret
  exact ⟨rfl, hb3⟩
end Go.Proofs.Ytmikeljfigignaa
