/- Frames: what was sealed is found; the chapter's examples; the walks of FrameSeals and FrameBehind. -/
import Derived.Test.YtkeaijocjbldmaaFrameR2
namespace Go.Proofs.Ytkeaijocjbldmaa
open Go.RowKit

theorem textS_seal (b R : List Nat) (h : b.length ≤ 1048576) : textS 1048576 (uvar b.length ++ (b ++ R)) = (b, (uvar b.length).length + b.length, 0) := by
  unfold textS
  rw [few_uvar0 _ (by omega)]
  simp only [if_true]
  rw [if_neg (by omega), if_neg (by rw [List.length_append, List.length_append]; omega), List.drop_left, List.take_append_of_le_length (by omega), List.take_of_length_le (by omega)]
theorem nextN_seal {k : Nat} {b : List Nat} (hk : k < 256) (h0 : 0 < k) (hb : ∀ x ∈ b, x < 256) (hl : b.length ≤ 1048576) (R : List Nat) : nextN (sealN k b ++ R) = (k, b, sizeN b.length, 0) := by
  have hc := crc_lt (headN_lt hk hb)
  have he : sealN k b ++ R = k :: (uvar b.length ++ (b ++ (fixN (crc (headN k b)) 4 ++ R))) := by
    unfold sealN headN
    simp [List.append_assoc]
  rw [he, nextN_cons]
  unfold nextC
  rw [textS_seal b _ hl]
  simp only [if_true]
  have h1 : ((k :: (uvar b.length ++ (b ++ (fixN (crc (headN k b)) 4 ++ R)))).take (1 + ((uvar b.length).length + b.length))) = headN k b := by
    unfold headN
    rw [Nat.add_comm 1, List.take_succ_cons, ← List.append_assoc, List.take_append_of_le_length (by rw [List.length_append]; omega), List.take_of_length_le (by rw [List.length_append]; omega)]
  have h2 : (((uvar b.length ++ (b ++ (fixN (crc (headN k b)) 4 ++ R))).drop ((uvar b.length).length + b.length)).take 4) = fixN (crc (headN k b)) 4 := by
    rw [← List.append_assoc, show (uvar b.length).length + b.length = (uvar b.length ++ b).length by rw [List.length_append], List.drop_left, List.take_append_of_le_length (by rw [fixN_len]; omega), List.take_of_length_le (by rw [fixN_len]; omega)]
  rw [h1, h2, le_fixN, if_neg (by omega), if_neg (by simp only [List.length_append, fixN_len]; omega), if_pos (Nat.mod_eq_of_lt (by simpa using hc))]
  unfold sizeN
  refine Prod.ext rfl (Prod.ext rfl (Prod.ext ?_ rfl))
  show 1 + ((uvar b.length).length + b.length) + 4 = 1 + (uvar b.length).length + b.length + 4
  omega
theorem scanN_seal {k : Nat} {b : List Nat} (hk : k < 256) (h0 : 0 < k) (hb : ∀ x ∈ b, x < 256) (hl : b.length ≤ 1048576) (R : List Nat) :
    scanN (sealN k b ++ R) 0 = ((k, b, 0) :: (scanN R 0).1.map (shiftF (sealN k b).length), (sealN k b).length + (scanN R 0).2.1, (scanN R 0).2.2) := by
  have hn := nextN_seal hk h0 hb hl R
  have hlen := sealN_len k b
  have hp : 0 < sizeN b.length := by unfold sizeN; omega
  rw [scanN_on (by rw [List.length_append, hlen]; omega) (by rw [List.drop_zero, hn]), List.drop_zero, hn]
  show ((k, b, 0) :: (scanN _ (0 + sizeN b.length)).1, (scanN _ (0 + sizeN b.length)).2) = _
  rw [Nat.zero_add, ← hlen, scanN_shift]
theorem nextN_one : nextN [1] = (0, [], 0, 10) := by decide
theorem nextN_zero : nextN [0] = (0, [], 0, 14) := by decide
theorem scanN_one : scanN [1] 0 = ([], 0, 10) := by
  rw [scanN_bad (by decide) (by rw [List.drop_zero, nextN_one]; decide), List.drop_zero, nextN_one]
theorem scan_awake : scanN (sealN 1 [97] ++ [1]) 0 = ([(1, [97], 0)], 7, 10) := by
  rw [scanN_seal (by omega) (by omega) (by simp) (by simp), scanN_one, sealN_len]
  unfold sizeN
  rw [show ([97] : List Nat).length = 1 from rfl, uvar_small (by decide)]
  rfl
theorem seal_awake : (sealN 1 [97]).length = 7 ∧ (sealN 1 [97]).take 3 = [1, 1, 97] ∧ (sealN 1 [97]).take 1 = [1] := by
  have h : headN 1 [97] = [1, 1, 97] := by
    unfold headN
    rw [show ([97] : List Nat).length = 1 from rfl, uvar_small (by decide)]
    rfl
  refine ⟨?_, ?_, ?_⟩
  · unfold sealN; rw [List.length_append, fixN_len, h]; rfl
  · unfold sealN; rw [h, List.take_append_of_le_length (by decide)]; rfl
  · unfold sealN; rw [h, List.take_append_of_le_length (by decide)]; rfl
theorem size_one : sizeN 1 = 7 := by unfold sizeN; rw [uvar_small (by decide)]; rfl
set_option maxHeartbeats 1000000 in
set_option maxRecDepth 100000 in
theorem awake05 (w : World) : Calls Try.prog 32 #[] w fun e w' => e = .returned (.bool true) ∧ Below w.heap.size w w' := by
  obtain ⟨S7, HS7⟩ : ∃ S7, Hid (S7 = strN (sealN 1 [97])) := ⟨_, rfl⟩
  have hsz : S7.size = 7 := by rw [HS7.out, strN_size]; exact seal_awake.1
  have hlt7 : ∀ x ∈ sealN 1 [97], x < 256 := sealN_lt (by omega) (by simp)
  have hx3 : S7.extract 0 3 = { data := #[1, 1, 97] } := by
    have := extract_strN S7 0 3 (by rw [hsz]; omega)
    rw [Nat.zero_add] at this
    rw [this, List.drop_zero, HS7.out, bn_strN _ hlt7, seal_awake.2.1]
    exact strN_bn { data := #[1, 1, 97] }
  have hx1 : S7.extract 0 1 = strN [1] := by
    have := extract_strN S7 0 1 (by rw [hsz]; omega)
    rw [Nat.zero_add] at this
    rw [this, List.drop_zero, HS7.out, bn_strN _ hlt7, seal_awake.2.2]
  have KS : Hid (∀ w, Calls Try.prog 33 #[.int .u8 1, .string { data := #[97] }] w fun e w' => e = .returned (.string S7) ∧ Below w.heap.size w w') := fun w => by
    have := seal_any 1 { data := #[97] } (by omega) (by decide) w
    rw [if_neg (by decide)] at this
    rw [HS7.out]
    exact this
  have KN : Hid (∀ w, Calls Try.prog 36 #[.string { data := #[0] }] w fun e w' => e = .returned (.tuple #[.int .u8 (0 : Nat), .string (strN []), .int .i64 (0 : Nat), .int .i64 (14 : Nat)]) ∧ Below w.heap.size w w') := fun w => by
    have := fnext_any { data := #[0] } (by decide) w
    rw [show bn { data := #[0] } = [0] from rfl, nextN_zero] at this
    exact this
  have KC : Hid (∀ w, Calls Try.prog 38 #[.string (S7 ++ strN [1])] w fun e w' => ∃ A c, e = .returned (.tuple #[.slice A 1 c, .int .i64 (7 : Nat), .int .i64 (10 : Nat)]) ∧ Below w.heap.size w w') := fun w => by
    have hb : bn (S7 ++ strN [1]) = sealN 1 [97] ++ [1] := by rw [bn_append, HS7.out, bn_strN _ hlt7, bn_strN _ (by simp)]
    refine (scan_any (S7 ++ strN [1]) (by rw [ByteArray.size_append, hsz, strN_size]; decide) w).mono ?_
    rintro e w' ⟨v, he, ho, hbl⟩
    rw [hb, scan_awake] at he ho
    obtain ⟨A, c, rfl⟩ := own_form3 ho
    exact ⟨A, c, he, hbl⟩
  have KZ : Hid (∀ w, Calls Try.prog 35 #[.int .i64 1] w fun e w' => e = .returned (.int .i64 7) ∧ Below w.heap.size w w') := fun w => by
    have := fsize_any 1 (by omega) (by omega) w
    rw [if_neg (by omega), show (1 : Int).toNat = 1 from rfl, size_one] at this
    exact this
  have hadd := fun w1 => run_string_add_sum (P := Try.prog) w1 S7 (strN [1]) (by rw [hsz, strN_size]; decide)
  go_enter Try.func32, Try.ntmps32
  go_wp2_with fail
  refine (KS.out _).mono ?_
  rintro e w1 ⟨rfl, hb1⟩
  go_wp2_with fail
  refine (KN.out _).mono ?_
  rintro e w2 ⟨rfl, hb2⟩
  have hb3 := hb1.trans (hb2.mono hb1.size)
  go_wp2_with fail
  refine (KC.out _).mono ?_
  rintro e w3 ⟨A, c, rfl, hb4⟩
  have hb5 := hb3.trans (hb4.mono hb3.size)
  go_wp2_with fail
  refine (KZ.out _).mono ?_
  rintro e w4 ⟨rfl, hb6⟩
  go_wp2_with fail
  go_ret
  exact ⟨rfl, hb5.trans (hb6.mono hb5.size)⟩
end Go.Proofs.Ytkeaijocjbldmaa
