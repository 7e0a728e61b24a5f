/- The document's answer for numbers that are read. -/
import Derived.Test.YtihbcojmonlcgaaDoorWireS
namespace Go.Proofs.YtihbcojmonlcgaaDoor
open Go.RowKit

theorem bn_cons (s : ByteArray) (k : Nat) (h : k < s.size) : (bn s).drop k = s[k].toNat :: (bn s).drop (k + 1) := by
  have hl : k < (bn s).length := by simpa [bn] using h
  rw [List.drop_eq_getElem_cons hl]
  congr 1
  simp [bn]; rfl
set_option maxHeartbeats 1000000 in
set_option maxRecDepth 100000 in
theorem snum_any (s : ByteArray) (n : Nat) (h1 : 1 ≤ n) (h8 : n ≤ 8) (hs : s.size ≤ maxLen) (w : World) :
    Calls Tryd.prog 39 #[.string s, .int .i64 n] w fun e w' => e = .returned (.tuple #[.int .u64 ((num n (bn s)).1 : Nat), .int .i64 ((num n (bn s)).2.1 : Nat), .int .i64 ((num n (bn s)).2.2 : Nat)]) ∧ w = w' := by
  unfold maxLen at hs
  unfold num
  rw [bn_len]
  by_cases hsh : s.size < n
  · rw [if_pos hsh]
    go_enter Tryd.func39, Tryd.ntmps39
    go_wp2_with fail
    go_ret3
    exact ⟨rfl, rfl⟩
  · rw [if_neg hsh]
    obtain ⟨L, HL⟩ : ∃ L : List Nat, Hid (L = (bn s).take n) := ⟨_, rfl⟩
    have hlen : L.length = n := by rw [HL.out, List.length_take, bn_len]; omega
    have HLEN := hide hlen
    have hlt : ∀ b ∈ L, b < 256 := by rw [HL.out]; exact bn_take_lt s n
    have HLT := hide hlt
    have H0 : Hid (L.drop 0 = L) := by show _ = _; rw [List.drop_zero]
    have HNIL : Hid (le (L.drop n) = 0) := by show _ = _; rw [List.drop_of_length_le (by rw [HLEN.out]; omega)]; rfl
    have HST : ∀ k, k < n → ∃ (b : Nat) (hk : k < s.size), b = s[k].toNat ∧ b < 256 ∧ Hid (le (L.drop k) = b + 256 * le (L.drop (k + 1))) := by
      intro k hk
      have hks : k < s.size := by omega
      refine ⟨_, hks, rfl, s[k].toNat_lt, ?_⟩
      show _ = _
      have : L.drop k = s[k].toNat :: L.drop (k + 1) := by
        have hl : k < L.length := by rw [HLEN.out]; exact hk
        rw [List.drop_eq_getElem_cons hl]
        congr 1
        have h2 := bn_cons s k hks
        have h3 : (bn s)[k]'(by rw [bn_len]; exact hks) = s[k].toNat := by
          rw [List.drop_eq_getElem_cons (by rw [bn_len]; exact hks)] at h2
          injection h2
        rw [← h3]
        have := HL.out
        subst this
        rw [List.getElem_take]
      rw [this]; rfl
    have HSTH := hide HST
    have HLE : Hid (∀ k, le (L.drop k) < 256 ^ (L.length - k)) := fun k => by
      have := le_lt (L.drop k) (fun b hb => HLT.out b (List.mem_of_mem_drop hb))
      rwa [List.length_drop] at this
    have HL' : Hid (le ((bn s).take n) = le L) := by show _ = _; rw [← HL.out]
    rw [HL'.out]
    clear hlen hlt HST
    obtain ⟨m, rfl⟩ : ∃ m, n = m + 1 := ⟨n - 1, by omega⟩
    go_enter Tryd.func39, Tryd.ntmps39
    go_wp2_with fail
    go_loop [7, 8] (fun xv iv => (∃ k : Nat, k ≤ m ∧ iv = .int .i64 (k : Int) ∧ ∃ y : Nat, Hid (y = le (L.drop (k + 1))) ∧ y < 72057594037927936 ∧ xv = .int .u64 (y : Int)) ∨ (iv = .int .i64 (-1) ∧ xv = .int .u64 (le L : Nat))) (fun _ iv => (intOf iv + 1).toNat)
    case atStart => exact .inl ⟨m, by omega, by go_num, 0, by show _ = _; rw [HNIL.out], by omega, rfl⟩
    case round =>
      rcases hrel with ⟨k, hk, rfl, y, HY, hy, rfl⟩ | ⟨rfl, rfl⟩
      · obtain ⟨b, hks, hb, hb256, HS⟩ := HSTH.out k (by omega)
        have hsk : s[k].toNat = b := hb.symm
        clear hb
        go_wp2_with fail
        by_cases hk0 : k = 0
        · subst hk0
          go_round
          case rel => exact .inr ⟨rfl, by rw [← H0.out, HS.out, ← HY.out]; go_num⟩
          case measure => simp [intOf] <;> omega
        · have hz := HLE.out k
          rw [HLEN.out, HS.out, ← HY.out] at hz
          have h7 : 256 ^ (m + 1 - k) ≤ 256 ^ 7 := Nat.pow_le_pow_right (by omega) (by omega)
          have h7' : (256 : Nat) ^ 7 = 72057594037927936 := by decide
          go_round
          case rel => exact .inl ⟨k - 1, by omega, by go_num, b + 256 * y, by show _ = _; rw [show k - 1 + 1 = k by omega, HS.out, ← HY.out], by omega, by go_num⟩
          case measure => simp [intOf] <;> omega
      · go_wp2_with fail
        go_ret3
        exact ⟨rfl, rfl⟩

set_option maxHeartbeats 1000000 in
set_option maxRecDepth 100000 in
theorem sfew_any (s : ByteArray) (hs : s.size ≤ maxLen) (w : World) :
    Calls Tryd.prog 42 #[.string s] w fun e w' => e = .returned (.tuple #[.int .u64 ((few (bn s) 0).1 : Nat), .int .i64 ((few (bn s) 0).2.1 : Nat), .int .i64 ((few (bn s) 0).2.2 : Nat)]) ∧ w = w' := by
  unfold maxLen at hs
  have HF0 := hide (few1_0 (bn s))
  go_enter Tryd.func42, Tryd.ntmps42
  go_wp2_with fail
  go_loop [5, 6, 7] (fun xv uv iv => ∃ k y U : Nat, k ≤ 9 ∧ k ≤ s.size ∧ y < 9223372036854775808 ∧ Hid (y < 128 ^ k) ∧ Hid (U = 128 ^ k) ∧ U ≤ 9223372036854775808 ∧ Hid (Few1 (bn s) k y) ∧ iv = .int .i64 (k : Int) ∧ uv = .int .u64 (U : Int) ∧ xv = .int .u64 (y : Int)) (fun _ _ iv => 10 - (intOf iv).toNat)
  case atStart => exact ⟨0, 0, 1, by omega, by omega, by omega, by show _ < _; simp, by show _ = _; rfl, by omega, HF0, rfl, rfl, rfl⟩
  case round =>
    obtain ⟨k, y, U, hk, hks, hy, HY, HU, hU, HFW, rfl, rfl, rfl⟩ := hrel
    by_cases hlt : k < s.size
    · obtain ⟨b, hb⟩ : ∃ b, s[k].toNat = b := ⟨_, rfl⟩
      have hb256 : b < 256 := by rw [← hb]; exact s[k].toNat_lt
      have HD : Hid ((bn s).drop k = b :: (bn s).drop (k + 1)) := by show _ = _; rw [← hb]; exact bn_cons s k hlt
      have hsz : s.size ≠ 0 := by omega
      by_cases hbad : (k = 9 ∧ 1 < b) ∨ (0 < k ∧ b = 0)
      · have HF := hide (few1_bad HFW.out HD.out hbad)
        rcases hbad with ⟨rfl, hb1⟩ | ⟨hk0, rfl⟩
        · go_wp2_with fail
          go_ret3
          rw [HF.out]
          exact ⟨rfl, rfl⟩
        · by_cases hk9 : k = 9
          · subst hk9
            go_wp2_with fail
            go_ret3
            rw [HF.out]
            exact ⟨rfl, rfl⟩
          · have hk9' : ((k : Int) == 9) = false := by rw [beq_eq_false_iff_ne]; omega
            go_wp2_with fail
            go_ret3
            rw [HF.out]
            exact ⟨rfl, rfl⟩
      · have h9b : k = 9 → b ≤ 1 := fun h => by omega
        have h0b : 0 < k → 0 < b := fun h => by omega
        by_cases h128 : b < 128
        · have HF := hide (few1_last HFW.out HD.out hbad h128)
          have hmod : (b : Int) % 128 = (b : Int) := by omega
          obtain ⟨_, h64⟩ := (or_shift7 y b k hk HY.out h128 h9b).2
          obtain ⟨z, HZ⟩ : ∃ z, Hid (z = 128 ^ k * b) := ⟨_, rfl⟩
          have hz : (U : Int) * (b : Int) = (z : Int) := by rw [HZ.out, HU.out]; simp
          rw [← HZ.out] at h64 HF
          clear hbad
          by_cases hk9 : k = 9
          · subst hk9
            have hb1 := h9b rfl
            have hb0 := h0b (by omega)
            obtain rfl : b = 1 := by omega
            have hzU : U = z := by rw [HZ.out, HU.out]
            subst hzU
            clear hz
            go_wp2_with fail
            go_ret3
            rw [HF.out]
            exact ⟨rfl, rfl⟩
          · have hk9' : ((k : Int) == 9) = false := by rw [beq_eq_false_iff_ne]; omega
            by_cases hb0 : b = 0
            · subst hb0
              obtain rfl : k = 0 := by omega
              have hz0 : z = 0 := by rw [HZ.out]
              subst hz0
              clear hz
              go_wp2_with fail
              go_ret3
              rw [HF.out]
              exact ⟨rfl, rfl⟩
            · have hb0' : ((b : Int) == 0) = false := by rw [beq_eq_false_iff_ne]; omega
              go_wp2_with fail
              go_ret3
              rw [HF.out]
              exact ⟨rfl, rfl⟩
        · have HF := hide (few1_on HFW.out HD.out hbad h128)
          have hk9 : k ≠ 9 := fun h => by have := h9b h; omega
          have hk9' : ((k : Int) == 9) = false := by rw [beq_eq_false_iff_ne]; omega
          obtain ⟨hlt2, h64⟩ := (or_shift7 y (b % 128) k hk HY.out (by omega) (fun h => by omega)).2
          obtain ⟨z, HZ⟩ : ∃ z, Hid (z = 128 ^ k * (b % 128)) := ⟨_, rfl⟩
          have hz : (U : Int) * ((b : Int) % 128) = (z : Int) := by rw [HZ.out, HU.out]; simp
          rw [← HZ.out] at h64 HF hlt2
          have h8 : 128 ^ (k + 1) ≤ 128 ^ 9 := Nat.pow_le_pow_right (by omega) (by omega)
          have h8' : (128 : Nat) ^ 9 = 9223372036854775808 := by decide
          have hU2 : U ≤ 72057594037927936 := by
            have := HU.out
            rw [Nat.pow_succ] at h8
            omega
          have hyz : y + z < 9223372036854775808 := by omega
          have HLT := hide hlt2
          clear hbad hlt2 h8 h8'
          go_wp2_with fail
          go_round
          case rel => exact ⟨k + 1, y + z, U * 128, by omega, by omega, hyz, HLT, by show _ = _; rw [HU.out, Nat.pow_succ], by omega, HF, by go_num, by go_num, by go_num⟩
          case measure => simp [intOf] <;> omega
    · have hk8 : k = s.size := by omega
      have HF := hide (few1_nil HFW.out (by rw [List.drop_of_length_le]; rw [bn_len]; omega))
      go_wp2_with fail
      go_ret3
      rw [HF.out]
      exact ⟨rfl, rfl⟩
set_option maxHeartbeats 1000000 in
set_option maxRecDepth 100000 in
theorem stext_any (s : ByteArray) (m : Int) (hm63 : m ≤ 9223372036854775807) (hm0 : -9223372036854775808 ≤ m) (hs : s.size ≤ maxLen) (w : World) :
    Calls Tryd.prog 40 #[.string s, .int .i64 m] w fun e w' => e = .returned (.tuple #[.string (strN (textS m (bn s)).1), .int .i64 ((textS m (bn s)).2.1 : Nat), .int .i64 ((textS m (bn s)).2.2 : Nat)]) ∧ w = w' := by
  have K := hide (sfew_any s hs w)
  unfold maxLen at hs
  have hle := few_le (bn s) 0
  have h64 := few_lt64 (bn s)
  rw [bn_len] at hle
  unfold textS
  rw [bn_len]
  generalize few (bn s) 0 = T at *
  obtain ⟨x, c, er⟩ := T
  simp only at *
  by_cases h0 : er = 0
  · subst h0
    have hc := hle rfl
    rw [if_pos rfl]
    by_cases hneg : m < 0
    · rw [if_pos (.inl hneg), strN_nil]
      go_enter Tryd.func40, Tryd.ntmps40
      go_wp2_with fail
      refine K.out.mono ?_
      rintro e w1 ⟨rfl, rfl⟩
      go_wp2_with fail
      go_ret3
      exact ⟨rfl, rfl⟩
    · obtain ⟨mm, rfl⟩ : ∃ mm : Nat, m = mm := ⟨m.toNat, by omega⟩
      by_cases hbig : mm < x
      · rw [if_pos (.inr (by omega)), strN_nil]
        go_enter Tryd.func40, Tryd.ntmps40
        go_wp2_with fail
        refine K.out.mono ?_
        rintro e w1 ⟨rfl, rfl⟩
        go_wp2_with fail
        go_ret3
        exact ⟨rfl, rfl⟩
      · rw [if_neg (by omega)]
        by_cases hsh : s.size - c < x
        · rw [if_pos hsh, strN_nil]
          go_enter Tryd.func40, Tryd.ntmps40
          go_wp2_with fail
          refine K.out.mono ?_
          rintro e w1 ⟨rfl, rfl⟩
          go_wp2_with fail
          go_ret3
          exact ⟨rfl, rfl⟩
        · rw [if_neg hsh]
          have HX := hide (extract_strN s c x (by omega))
          go_enter Tryd.func40, Tryd.ntmps40
          go_wp2_with fail
          refine K.out.mono ?_
          rintro e w1 ⟨rfl, rfl⟩
          go_wp2_with fail
          go_ret3
          exact ⟨by rw [← HX.out]; rfl, rfl⟩
  · rw [if_neg h0, strN_nil]
    have hne : ((er : Int) != 0) = true := by rw [bne_iff_ne]; omega
    go_enter Tryd.func40, Tryd.ntmps40
    go_wp2_with fail
    refine K.out.mono ?_
    rintro e w1 ⟨rfl, rfl⟩
    go_wp2_with fail
    go_ret3
    exact ⟨rfl, rfl⟩
end Go.Proofs.YtihbcojmonlcgaaDoor
