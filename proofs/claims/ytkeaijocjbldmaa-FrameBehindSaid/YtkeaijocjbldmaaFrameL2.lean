/- The walks of FrameSeals and FrameBehind. -/
import Derived.Test.YtkeaijocjbldmaaFrameL
namespace Go.Proofs.Ytkeaijocjbldmaa
open Go.RowKit Go.ChangeShapes Go.WideShapes

set_option maxHeartbeats 2000000 in
set_option maxRecDepth 100000 in
theorem frameSeals_walk (w : World) (k0 : Int) (wk : (Lit.int .u8 k0).wf = true) (b : ByteArray) (hb : b.size ≤ maxLen) :
    Calls Try.prog 9 #[.int .u8 k0, .string b] w fun e w' => e = .returned (.bool true) ∧ Below w.heap.size w w' := by
  have hk0 := bounds_u8 wk
  obtain ⟨k, rfl⟩ : ∃ k : Nat, k0 = k := ⟨k0.toNat, by omega⟩
  have hk : k < 256 := by omega
  have KA := hide (fun w => awake05 w)
  have K1 := hide (fun w => seal_any k b hk hb w)
  have K2 := hide (fun w => refseal_any k b hk hb w)
  have hb' := hb
  unfold maxLen at hb
  clear wk hk0
  generalize (if k = 0 ∨ 1048576 < b.size then ({ data := #[] } : ByteArray) else strN (sealN k (bn b))) = SV at K1 K2
  by_cases hmid : 1000 < b.size ∧ b.size ≤ 1048576
  · obtain ⟨hm1, hm2⟩ := hmid
    go_enter Try.func9, Try.ntmps9
    go_wp2_with fail
    refine (KA.out _).mono ?_
    rintro e w1 ⟨rfl, hb1⟩
    go_wp2_with fail
    go_ret
    exact ⟨rfl, hb1⟩
  by_cases hbig : 1048576 < b.size
  · have KZ : Hid (∀ w, Calls Try.prog 35 #[.int .i64 (b.size : Int)] w fun e w' => e = .returned (.int .i64 0) ∧ Below w.heap.size w w') := fun w => by
      have := fsize_any (b.size : Int) (by omega) (by omega) w
      rw [if_pos (.inr (by omega))] at this
      exact this
    have hd1 : decide (1000 < (b.size : Int)) = true := by rw [decide_eq_true_eq]; omega
    have hd2 : decide ((b.size : Int) ≤ 1048576) = false := by rw [decide_eq_false_iff_not]; omega
    clear hmid
    go_enter Try.func9, Try.ntmps9
    go_wp2_with fail
    refine (K1.out _).mono ?_
    rintro e w1 ⟨rfl, hb1⟩
    go_wp2_with fail
    refine (K2.out _).mono ?_
    rintro e w2 ⟨rfl, hb2⟩
    have hb3 := hb1.trans (hb2.mono hb1.size)
    go_wp2_with fail
    refine (KZ.out _).mono ?_
    rintro e w3 ⟨rfl, hb4⟩
    have hb5 := hb3.trans (hb4.mono hb3.size)
    go_wp2_with fail
    refine (KA.out _).mono ?_
    rintro e w4 ⟨rfl, hb6⟩
    go_wp2_with fail
    go_ret
    exact ⟨rfl, hb5.trans (hb6.mono hb5.size)⟩
  have h1000 : b.size ≤ 1000 := by omega
  have KZ : Hid (∀ w, Calls Try.prog 35 #[.int .i64 (b.size : Int)] w fun e w' => e = .returned (.int .i64 (sizeN b.size : Nat)) ∧ Below w.heap.size w w') := fun w => by
    have := fsize_any (b.size : Int) (by omega) (by omega) w
    rw [if_neg (by omega), Int.toNat_natCast] at this
    exact this
  have KY : Hid (∀ w, Calls Try.prog 35 #[.int .i64 (-1 - (b.size : Int))] w fun e w' => e = .returned (.int .i64 0) ∧ Below w.heap.size w w') := fun w => by
    have := fsize_any (-1 - (b.size : Int)) (by omega) (by omega) w
    rw [if_pos (.inl (by omega))] at this
    exact this
  obtain ⟨S1, HS1⟩ : ∃ S1, Hid (S1 = strN (sealN 1 (bn b))) := ⟨_, rfl⟩
  have hs1 : S1.size = sizeN b.size := by rw [HS1.out, strN_size, sealN_len, bn_len]
  have KR : Hid (∀ w, Calls Try.prog 34 #[.int .u8 1, .string b] w fun e w' => e = .returned (.string S1) ∧ Below w.heap.size w w') := fun w => by
    have := refseal_any 1 b (by omega) hb' w
    rw [if_neg (by omega)] at this
    rw [HS1.out]
    exact this
  clear hmid hbig
  go_enter Try.func9, Try.ntmps9
  go_wp2_with fail
  refine (K1.out _).mono ?_
  rintro e w1 ⟨rfl, hb1⟩
  go_wp2_with fail
  refine (K2.out _).mono ?_
  rintro e w2 ⟨rfl, hb2⟩
  have hb3 := hb1.trans (hb2.mono hb1.size)
  go_wp2_with fail
  refine (KZ.out _).mono ?_
  rintro e w3 ⟨rfl, hb4⟩
  have hb5 := hb3.trans (hb4.mono hb3.size)
  go_wp2_with fail
  refine (KR.out _).mono ?_
  rintro e w4 ⟨rfl, hb6⟩
  have hb7 := hb5.trans (hb6.mono hb5.size)
  go_wp2_with fail
  refine (KY.out _).mono ?_
  rintro e w5 ⟨rfl, hb8⟩
  have hb9 := hb7.trans (hb8.mono hb7.size)
  go_wp2_with fail
  refine (KA.out _).mono ?_
  rintro e w6 ⟨rfl, hb10⟩
  go_wp2_with fail
  go_ret
  exact ⟨rfl, hb9.trans (hb10.mono hb9.size)⟩
set_option maxHeartbeats 2000000 in
set_option maxRecDepth 100000 in
theorem frameBehind_walk (w : World) (k0 : Int) (wk : (Lit.int .u8 k0).wf = true) (b : ByteArray) (hb : b.size ≤ maxLen) (r : ByteArray) (hr : r.size ≤ maxLen) :
    Calls Try.prog 13 #[.int .u8 k0, .string b, .string r] w fun e w' => e = .returned (.bool true) ∧ Below w.heap.size w w' := by
  have hk0 := bounds_u8 wk
  obtain ⟨k, rfl⟩ : ∃ k : Nat, k0 = k := ⟨k0.toNat, by omega⟩
  have hk : k < 256 := by omega
  have KA := hide (fun w => awake05 w)
  have hb' := hb
  unfold maxLen at hb hr
  clear wk hk0
  by_cases hz : k = 0
  · subst hz
    go_enter Try.func13, Try.ntmps13
    go_wp2_with fail
    refine (KA.out _).mono ?_
    rintro e w1 ⟨rfl, hb1⟩
    go_wp2_with fail
    go_ret
    exact ⟨rfl, hb1⟩
  have hkb : ((k : Int) == 0) = false := by rw [beq_eq_false_iff_ne]; omega
  by_cases h2 : 200 < b.size
  · go_enter Try.func13, Try.ntmps13
    go_wp2_with fail
    refine (KA.out _).mono ?_
    rintro e w1 ⟨rfl, hb1⟩
    go_wp2_with fail
    go_ret
    exact ⟨rfl, hb1⟩
  have hd2 : decide (200 < (b.size : Int)) = false := by rw [decide_eq_false_iff_not]; omega
  by_cases h3 : 200 < r.size
  · go_enter Try.func13, Try.ntmps13
    go_wp2_with fail
    refine (KA.out _).mono ?_
    rintro e w1 ⟨rfl, hb1⟩
    go_wp2_with fail
    go_ret
    exact ⟨rfl, hb1⟩
  have hd3 : decide (200 < (r.size : Int)) = false := by rw [decide_eq_false_iff_not]; omega
  obtain ⟨SV, HSV⟩ : ∃ SV, Hid (SV = strN (sealN k (bn b))) := ⟨_, rfl⟩
  have hsz : SV.size = sizeN b.size := by rw [HSV.out, strN_size, sealN_len, bn_len]
  have K1 : Hid (∀ w, Calls Try.prog 33 #[.int .u8 k, .string b] w fun e w' => e = .returned (.string SV) ∧ Below w.heap.size w w') := fun w => by
    have := seal_any k b hk hb' w
    rw [if_neg (by omega)] at this
    rw [HSV.out]
    exact this
  have hul := uvar_len10 (x := b.size) (by omega)
  have hsn : sizeN b.size ≤ 300 := by unfold sizeN; omega
  have hadd := fun w1 => run_string_add_sum (P := Try.prog) w1 SV r (by rw [hsz]; omega)
  have KN : Hid (∀ w, Calls Try.prog 36 #[.string (SV ++ r)] w fun e w' => e = .returned (.tuple #[.int .u8 (k : Nat), .string b, .int .i64 (sizeN b.size : Nat), .int .i64 (0 : Nat)]) ∧ Below w.heap.size w w') := fun w => by
    have := fnext_any (SV ++ r) (by rw [ByteArray.size_append, hsz]; unfold maxLen; omega) w
    rw [bn_append, HSV.out, bn_strN _ (sealN_lt hk (bn_lt b)), nextN_seal hk (by omega) (bn_lt b) (by rw [bn_len]; omega), bn_len, strN_bn] at this
    rw [HSV.out]
    exact this
  have KZ : Hid (∀ w, Calls Try.prog 35 #[.int .i64 (b.size : Int)] w fun e w' => e = .returned (.int .i64 (sizeN b.size : Nat)) ∧ Below w.heap.size w w') := fun w => by
    have := fsize_any (b.size : Int) (by omega) (by omega) w
    rw [if_neg (by omega), Int.toNat_natCast] at this
    exact this
  clear hz
  go_enter Try.func13, Try.ntmps13
  go_wp2_with fail
  refine (K1.out _).mono ?_
  rintro e w1 ⟨rfl, hb1⟩
  go_wp2_with fail
  refine (KN.out _).mono ?_
  rintro e w2 ⟨rfl, hb2⟩
  have hb3 := hb1.trans (hb2.mono hb1.size)
  go_wp2_with fail
  refine (KZ.out _).mono ?_
  rintro e w3 ⟨rfl, hb4⟩
  have hb5 := hb3.trans (hb4.mono hb3.size)
  go_wp2_with fail
  refine (KA.out _).mono ?_
  rintro e w4 ⟨rfl, hb6⟩
  go_wp2_with fail
  go_ret
  exact ⟨rfl, hb5.trans (hb6.mono hb5.size)⟩
end Go.Proofs.Ytkeaijocjbldmaa
