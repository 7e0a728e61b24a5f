/- Readers: a text behind its length. The document's answer for numbers: what each of its functions gives. The document's answer for numbers that are read. -/
import Derived.Test.YtfkgmodgkifelaaGreatDoorJ04
namespace Go.Proofs.YtfkgmodgkifelaaGreatDoor
open Go.RowKit
set_option maxHeartbeats 1000000 in
set_option maxRecDepth 100000 in
theorem rtext_any (R : Nat) (s : ByteArray) (p e : Nat) (m : Int) (hm63 : m ≤ 9223372036854775807) (hm0 : -9223372036854775808 ≤ m) (hs : s.size ≤ maxLen) (hp : p ≤ s.size) (w : World) (h : Rd w R s p e) :
    Calls Tryz.prog 68 #[.pointer (some ⟨R, 0, none⟩), .int .i64 m] w (RPost R w s (.string (strN (stT s p e (textS m)).1)) (stT s p e (textS m)).2.1 (stT s p e (textS m)).2.2) := by
  have K1 := hide (rat_any R s p e w h)
  have K2 := hide (ruvar_any R s p e hs hp w h)
  have hs' := hs
  unfold maxLen at hs'
  by_cases he : e = 0
  · subst he
    unfold st at K2
    rw [if_pos rfl] at K2
    unfold stT
    rw [if_pos rfl]
    have hle := few_le ((bn s).drop p) 0
    have h64 := few_lt64 ((bn s).drop p)
    have hfe := few_err ((bn s).drop p) 0
    rw [List.length_drop, bn_len] at hle
    unfold textS
    rw [List.length_drop, bn_len]
    simp only at K2
    generalize few ((bn s).drop p) 0 = T at *
    obtain ⟨x, c, er⟩ := T
    simp only at K2 hle h64 hfe ⊢
    by_cases h0 : er = 0
    · subst h0
      rw [if_pos rfl]
      have hc := hle rfl
      by_cases hbig : m < 0 ∨ m < x
      · rw [if_pos hbig, strN_nil]
        have K3 : Hid (∀ w1, Rd w1 R s (p + c) 0 → Calls Tryz.prog 48 #[.pointer (some ⟨R, 0, none⟩)] w1 fun r w' => r = .returned (.int .i64 (0 : Nat)) ∧ w1 = w') := fun w1 h1 => rerr_any R s _ 0 w1 h1
        have K4 : Hid (∀ w1, Rd w1 R s (p + c) 0 → Calls Tryz.prog 83 #[.pointer (some ⟨R, 0, none⟩), .int .i64 (12 : Nat), .int .i64 (p : Nat)] w1 (RPost R w1 s (.tuple #[]) p 12)) := fun w1 h1 => rfail_any R s _ 0 p 12 w1 h1
        clear h
        rcases (show m < 0 ∨ 0 ≤ m by omega) with hneg | hpos
        · clear hbig
          go_enter Tryz.func68, Tryz.ntmps68
          go_wp2_with fail
          refine K1.out.mono ?_
          rintro e w1 ⟨rfl, rfl⟩
          go_wp2_with fail
          refine K2.out.mono ?_
          rintro e w1 ⟨rfl, hr1, hf1⟩
          have HR1 := hide hr1
          have HF1 := hide hf1
          clear hr1 hf1
          go_wp2_with fail
          refine (K3.out _ HR1.out).mono ?_
          rintro e w2 ⟨rfl, rfl⟩
          go_wp2_with fail
          refine (K4.out _ HR1.out).mono ?_
          rintro e w2 ⟨rfl, hr2, hf2⟩
          have HR2 := hide hr2
          have HF2 := hide hf2
          clear hr2 hf2
          go_wp2_with fail
          go_ret
          exact ⟨rfl, HR2.out, HF1.out.trans HF2.out (fun _ _ h => h)⟩
        · have hmx : m < x := by omega
          obtain ⟨mm, rfl⟩ : ∃ mm : Nat, m = mm := ⟨m.toNat, by omega⟩
          clear hbig
          go_enter Tryz.func68, Tryz.ntmps68
          go_wp2_with fail
          refine K1.out.mono ?_
          rintro e w1 ⟨rfl, rfl⟩
          go_wp2_with fail
          refine K2.out.mono ?_
          rintro e w1 ⟨rfl, hr1, hf1⟩
          have HR1 := hide hr1
          have HF1 := hide hf1
          clear hr1 hf1
          go_wp2_with fail
          refine (K3.out _ HR1.out).mono ?_
          rintro e w2 ⟨rfl, rfl⟩
          go_wp2_with fail
          refine (K4.out _ HR1.out).mono ?_
          rintro e w2 ⟨rfl, hr2, hf2⟩
          have HR2 := hide hr2
          have HF2 := hide hf2
          clear hr2 hf2
          go_wp2_with fail
          go_ret
          exact ⟨rfl, HR2.out, HF1.out.trans HF2.out (fun _ _ h => h)⟩
      · rw [if_neg hbig]
        have hpos : 0 ≤ m := by omega
        obtain ⟨mm, rfl⟩ : ∃ mm : Nat, m = mm := ⟨m.toNat, by omega⟩
        have hxm : x ≤ mm := by omega
        have K3 : Hid (∀ w1, Rd w1 R s (p + c) 0 → Calls Tryz.prog 48 #[.pointer (some ⟨R, 0, none⟩)] w1 fun r w' => r = .returned (.int .i64 (0 : Nat)) ∧ w1 = w') := fun w1 h1 => rerr_any R s _ 0 w1 h1
        have K5 : Hid (∀ w1, Rd w1 R s (p + c) 0 → Calls Tryz.prog 53 #[.pointer (some ⟨R, 0, none⟩)] w1 fun r w' => r = .returned (.int .i64 ((s.size - (p + c) : Nat) : Int)) ∧ Below w1.heap.size w1 w') := fun w1 h1 => rleft_any R s (p + c) 0 hs (by omega) w1 h1
        by_cases hsh : s.size - p - c < x
        · rw [if_pos hsh, strN_nil]
          have K4 : Hid (∀ w1, Rd w1 R s (p + c) 0 → Calls Tryz.prog 83 #[.pointer (some ⟨R, 0, none⟩), .int .i64 (10 : Nat), .int .i64 (p : Nat)] w1 (RPost R w1 s (.tuple #[]) p 10)) := fun w1 h1 => rfail_any R s _ 0 p 10 w1 h1
          have hz : s.size - (p + c) < x := by omega
          have hz' : s.size - (p + c) ≤ 9223372036854775807 := by omega
          generalize s.size - (p + c) = z at *
          clear h hbig hsh hfe
          go_enter Tryz.func68, Tryz.ntmps68
          go_wp2_with fail
          refine K1.out.mono ?_
          rintro e w1 ⟨rfl, rfl⟩
          go_wp2_with fail
          refine K2.out.mono ?_
          rintro e w1 ⟨rfl, hr1, hf1⟩
          have HR1 := hide hr1
          have HF1 := hide hf1
          clear hr1 hf1
          go_wp2_with fail
          refine (K3.out _ HR1.out).mono ?_
          rintro e w2 ⟨rfl, rfl⟩
          go_wp2_with fail
          refine (K5.out _ HR1.out).mono ?_
          rintro e w2 ⟨rfl, hb2⟩
          have HB2 := hide hb2
          have HR2 := hide (Rd.below HR1.out hb2)
          clear hb2
          go_wp2_with fail
          refine (K4.out _ HR2.out).mono ?_
          rintro e w3 ⟨rfl, hr2, hf2⟩
          have HR3 := hide hr2
          have HF3 := hide hf2
          clear hr2 hf2
          go_wp2_with fail
          go_ret
          exact ⟨rfl, HR3.out, (HF1.out.trans (Fr.of_below HB2.out _) (fun _ _ h => h)).trans HF3.out (fun _ _ h => h)⟩
        · rw [if_neg hsh]
          have K4 : Hid (∀ w1, Rd w1 R s (p + c) 0 → Calls Tryz.prog 95 #[.pointer (some ⟨R, 0, none⟩), .int .i64 (x : Nat)] w1 (RPost R w1 s (.string (s.extract (p + c) (p + c + x))) (p + c + x) 0)) := fun w1 h1 => take_ok R s (p + c) x hs (by omega) w1 h1
          have hx := hide (extract_strN s (p + c) x (by omega))
          have hz : ¬ s.size - (p + c) < x := by omega
          have hz' : s.size - (p + c) ≤ 9223372036854775807 := by omega
          generalize s.size - (p + c) = z at *
          clear h hbig hsh hfe
          go_enter Tryz.func68, Tryz.ntmps68
          go_wp2_with fail
          refine K1.out.mono ?_
          rintro e w1 ⟨rfl, rfl⟩
          go_wp2_with fail
          refine K2.out.mono ?_
          rintro e w1 ⟨rfl, hr1, hf1⟩
          have HR1 := hide hr1
          have HF1 := hide hf1
          clear hr1 hf1
          go_wp2_with fail
          refine (K3.out _ HR1.out).mono ?_
          rintro e w2 ⟨rfl, rfl⟩
          go_wp2_with fail
          refine (K5.out _ HR1.out).mono ?_
          rintro e w2 ⟨rfl, hb2⟩
          have HB2 := hide hb2
          have HR2 := hide (Rd.below HR1.out hb2)
          clear hb2
          go_wp2_with fail
          refine (K4.out _ HR2.out).mono ?_
          rintro e w3 ⟨rfl, hr2, hf2⟩
          have HR3 := hide hr2
          have HF3 := hide hf2
          clear hr2 hf2
          go_wp2_with fail
          go_ret
          refine ⟨?_, by rw [← Nat.add_assoc]; exact HR3.out, (HF1.out.trans (Fr.of_below HB2.out _) (fun _ _ h => h)).trans HF3.out (fun _ _ h => h)⟩
          rw [List.drop_drop, ← hx.out]; rfl
    · rw [if_neg h0, strN_nil]
      have hne : ((er : Int) != 0) = true := by rw [bne_iff_ne]; omega
      have K3 : Hid (∀ w1, Rd w1 R s (p + c) er → Calls Tryz.prog 48 #[.pointer (some ⟨R, 0, none⟩)] w1 fun r w' => r = .returned (.int .i64 (er : Nat)) ∧ w1 = w') := fun w1 h1 => rerr_any R s _ er w1 h1
      have hc0 : c = 0 := by
        rcases hfe with h1 | h1 | h1
        · exact absurd h1 h0
        · injection h1 with _ h1; injection h1
        · injection h1 with _ h1; injection h1
      subst hc0
      clear h hfe
      go_enter Tryz.func68, Tryz.ntmps68
      go_wp2_with fail
      refine K1.out.mono ?_
      rintro e w1 ⟨rfl, rfl⟩
      go_wp2_with fail
      refine K2.out.mono ?_
      rintro e w1 ⟨rfl, hr1, hf1⟩
      have HR1 := hide hr1
      have HF1 := hide hf1
      clear hr1 hf1
      go_wp2_with fail
      refine (K3.out _ HR1.out).mono ?_
      rintro e w2 ⟨rfl, rfl⟩
      go_wp2_with fail
      go_ret
      exact ⟨rfl, HR1.out, HF1.out⟩
  · unfold st at K2
    rw [if_neg he] at K2
    unfold stT
    rw [if_neg he, strN_nil]
    have hne : ((e : Int) != 0) = true := by rw [bne_iff_ne]; omega
    have K3 : Hid (∀ w1, Rd w1 R s p e → Calls Tryz.prog 48 #[.pointer (some ⟨R, 0, none⟩)] w1 fun r w' => r = .returned (.int .i64 (e : Nat)) ∧ w1 = w') := fun w1 h1 => rerr_any R s _ e w1 h1
    clear h
    go_enter Tryz.func68, Tryz.ntmps68
    go_wp2_with fail
    refine K1.out.mono ?_
    rintro e w1 ⟨rfl, rfl⟩
    go_wp2_with fail
    refine K2.out.mono ?_
    rintro e w1 ⟨rfl, hr1, hf1⟩
    have HR1 := hide hr1
    have HF1 := hide hf1
    clear hr1 hf1
    go_wp2_with fail
    refine (K3.out _ HR1.out).mono ?_
    rintro e w2 ⟨rfl, rfl⟩
    go_wp2_with fail
    go_ret
    exact ⟨rfl, HR1.out, HF1.out⟩
end Go.Proofs.YtfkgmodgkifelaaGreatDoor
namespace Go.Proofs.YtfkgmodgkifelaaGreatDoor
open Go.RowKit

set_option maxHeartbeats 1000000 in
set_option maxRecDepth 100000 in
theorem sfixed_any (x n : Nat) (hx : x < 18446744073709551616) (hn : n ≤ 8) (w : World) :
    Calls Tryz.prog 171 #[.int .u64 x, .int .i64 n] w fun e w' => e = .returned (.string (strN (fixN x n))) ∧ Below w.heap.size w w' := by
  obtain ⟨i0, hi, hz0, hz1, hz2⟩ := info_parts info_u8
  go_enter Tryz.func171, Tryz.ntmps171
  go_wp2_with fail
  go_loopw [0, 5, 6] (fun xv ov iv wr => ∃ k : Nat, k ≤ n ∧ iv = .int .i64 k ∧ (∃ y : Nat, Hid (y = x / 256 ^ k) ∧ y < 18446744073709551616 ∧ xv = .int .u64 y) ∧ OwnU8 wr w.heap.size ov (fixN x k) ∧ Below w.heap.size w wr) (fun _ _ iv _ => n - (intOf iv).toNat)
  case atStart => exact ⟨0, by omega, rfl, ⟨x, by show _ = _; simp, hx, rfl⟩, ownU8_nil _ _, Below.refl _ _⟩
  case round =>
    obtain ⟨k, hk, rfl, ⟨y, HY, hy, rfl⟩, hown, hb1⟩ := hrel
    by_cases hlt : k < n
    · have HN : Hid (fixN x (k + 1) = fixN x k ++ [y % 256]) := by show _ = _; rw [HY.out]; rfl
      have hown1 := hown
      unfold OwnU8 at hown1
      rw [fixN_len] at hown1
      obtain ⟨wo, rfl⟩ : ∃ wo : World, wo = wr := ⟨_, rfl⟩
      clear hown
      go_wp2_with (at_builtin; refine wpList_append_own _ rfl _ _ 75 rfl w.heap.size 5 i0 (.int .u8 0) 1 1 Tryz.underlying75 hi hz0 hz1 hz2 rfl (by decide) _ _ _ rfl (hown1.alloc _) ⟨wo.heap.size, 0, none⟩ 1 1 [.int .u8 ((y : Int) % 256)] rfl rfl (cell_one_new _ _ _) (by simp [Value.oneCell']) (by simp only [maxLen]; omega) (by omega) (by simpa using Nat.le_succ_of_le hb1.size) ?_; intro v' w1 hown' hgrow _)
      have HO2 : OwnU8 w1 w.heap.size v' (fixN x (k + 1)) := by
        unfold OwnU8
        rw [HN.out, map_u8_snoc, List.length_append, fixN_len]
        exact hown'
      have HB2 : Below w.heap.size w w1 := (hb1.alloc hb1.size _).grown hgrow (by simpa using Nat.le_succ_of_le hb1.size) (fun k hk => (hown1.lt k hk).1)
      go_roundw
      case rel =>
        refine ⟨k + 1, by omega, by go_num, ⟨y / 256, ?_, by omega, by go_num⟩, HO2, HB2⟩
        show _ = _
        rw [HY.out, Nat.div_div_eq_div_mul, Nat.pow_succ]
      case measure => simp [intOf] <;> omega
    · have hk8 : k = n := by omega
      subst hk8
      have hcv := ownU8_string hown
      go_wp2_with fail
      go_ret
      exact ⟨rfl, hb1⟩

set_option maxHeartbeats 1000000 in
set_option maxRecDepth 100000 in
theorem suvar_any (x : Nat) (hx : x < 18446744073709551616) (w : World) :
    Calls Tryz.prog 61 #[.int .u64 x] w fun e w' => e = .returned (.string (strN (uvar x))) ∧ Below w.heap.size w w' := by
  obtain ⟨i0, hi, hz0, hz1, hz2⟩ := info_parts info_u8
  have h10 := hide (uvar_len10 hx)
  go_enter Tryz.func61, Tryz.ntmps61
  go_wp2_with fail
  go_loopw [0, 3] (fun xv ov wr => ∃ (y : Nat) (m : List Nat), y < 18446744073709551616 ∧ xv = .int .u64 y ∧ Hid (m ++ uvar y = uvar x) ∧ OwnU8 wr w.heap.size ov m ∧ Below w.heap.size w wr) (fun xv _ _ => (intOf xv).toNat)
  case atStart => exact ⟨x, [], hx, rfl, rfl, ownU8_nil _ _, Below.refl _ _⟩
  case round =>
    obtain ⟨y, m, hy, rfl, HM, hown, hb1⟩ := hrel
    have hml : m.length ≤ 10 := by
      have h1 := congrArg List.length HM.out
      have h2 := h10.out
      rw [List.length_append] at h1
      omega
    have hown1 := hown
    unfold OwnU8 at hown1
    obtain ⟨wo, rfl⟩ : ∃ wo : World, wo = wr := ⟨_, rfl⟩
    clear hown
    by_cases hlt : y < 128
    · have hy256 : (y : Int) % 256 = (y : Int) := by omega
      have HF : Hid (m ++ [y] = uvar x) := by show _ = _; rw [← HM.out, uvar_small hlt]
      have hcv : Hid (∀ (w1 : World) (v : Value), OwnU8 w1 w.heap.size v (m ++ [y]) → (convert 75 9 v).run Tryz.prog w1 = .ok (.string (strN (m ++ [y]))) w1) := fun w1 v h => ownU8_string h
      go_wp2_with (at_builtin; refine wpList_append_own _ rfl _ _ 75 rfl w.heap.size 5 i0 (.int .u8 0) 1 1 Tryz.underlying75 hi hz0 hz1 hz2 rfl (by decide) _ _ _ rfl (hown1.alloc _) ⟨wo.heap.size, 0, none⟩ 1 1 [.int .u8 (y : Int)] rfl rfl (cell_one_new _ _ _) (by simp [Value.oneCell']) (by simp only [maxLen]; omega) (by omega) (by simpa using Nat.le_succ_of_le hb1.size) ?_; intro v' w1 hown' hgrow _; have hcv1 := hcv.out w1 v' (by unfold OwnU8; rw [map_u8_snoc, List.length_append]; exact hown'))
      have HB2 : Below w.heap.size w w1 := (hb1.alloc hb1.size _).grown hgrow (by simpa using Nat.le_succ_of_le hb1.size) (fun k hk => (hown1.lt k hk).1)
      go_ret
      exact ⟨by rw [← HF.out]; rfl, HB2⟩
    · have hy256 : (128 + (y : Int) % 128) % 256 = ((128 + y % 128 : Nat) : Int) := by omega
      go_wp2_with (at_builtin; refine wpList_append_own _ rfl _ _ 75 rfl w.heap.size 5 i0 (.int .u8 0) 1 1 Tryz.underlying75 hi hz0 hz1 hz2 rfl (by decide) _ _ _ rfl (hown1.alloc _) ⟨wo.heap.size, 0, none⟩ 1 1 [.int .u8 (128 + (y : Int) % 128)] rfl rfl (cell_one_new _ _ _) (by simp [Value.oneCell']) (by simp only [maxLen]; omega) (by omega) (by simpa using Nat.le_succ_of_le hb1.size) ?_; intro v' w1 hown' hgrow _)
      have HO2 : OwnU8 w1 w.heap.size v' (m ++ [128 + y % 128]) := by
        unfold OwnU8
        rw [map_u8_snoc, List.length_append]
        exact hown'
      have HB2 : Below w.heap.size w w1 := (hb1.alloc hb1.size _).grown hgrow (by simpa using Nat.le_succ_of_le hb1.size) (fun k hk => (hown1.lt k hk).1)
      go_roundw
      case rel =>
        refine ⟨y / 128, m ++ [128 + y % 128], by omega, by go_num, ?_, HO2, HB2⟩
        show _ = _
        rw [← HM.out, uvar_big hlt, List.append_assoc]; rfl
      case measure => simp [intOf] <;> omega
set_option maxHeartbeats 1000000 in
theorem szig_any (x : Int) (h1 : -9223372036854775808 ≤ x) (h2 : x ≤ 9223372036854775807) (w : World) :
    Calls Tryz.prog 164 #[.int .i64 x] w fun e w' => e = .returned (.int .u64 (zz x : Nat)) ∧ w = w' := by
  by_cases h : x < 0
  · have hz : ((zz x : Nat) : Int) = 2 * (-1 - x) + 1 := by unfold zz; rw [if_pos h]; omega
    have HZ := hide hz
    clear hz
    have e1 : (-1 - x) % 18446744073709551616 = -1 - x := by omega
    go_enter Tryz.func164, Tryz.ntmps164
    go_wp2_with fail
    go_ret
    refine ⟨ret_int ?_, rfl⟩
    rw [HZ.out]
    try omega
  · have hz : ((zz x : Nat) : Int) = 2 * x := by unfold zz; rw [if_neg h]; omega
    have HZ := hide hz
    clear hz
    have e1 : x % 18446744073709551616 = x := by omega
    go_enter Tryz.func164, Tryz.ntmps164
    go_wp2_with fail
    go_ret
    refine ⟨ret_int ?_, rfl⟩
    rw [HZ.out]
    try omega
set_option maxHeartbeats 1000000 in
theorem sback_any (x : Nat) (hx : x < 18446744073709551616) (w : World) :
    Calls Tryz.prog 101 #[.int .u64 x] w fun e w' => e = .returned (.int .i64 (back x)) ∧ w = w' := by
  by_cases h : x % 2 = 1
  · have hz : back x = -1 - (x : Int) / 2 := by unfold back; rw [if_pos h]; omega
    have HZ := hide hz
    clear hz
    have e1 : (((x : Int) % 2 : Int) == 1) = true := by rw [beq_iff_eq]; omega
    go_enter Tryz.func101, Tryz.ntmps101
    go_wp2_with fail
    go_ret
    refine ⟨ret_int ?_, rfl⟩
    rw [HZ.out]
    try omega
  · have hz : back x = (x : Int) / 2 := by unfold back; rw [if_neg h]; omega
    have HZ := hide hz
    clear hz
    have e1 : (((x : Int) % 2 : Int) == 1) = false := by rw [beq_eq_false_iff_ne]; omega
    go_enter Tryz.func101, Tryz.ntmps101
    go_wp2_with fail
    go_ret
    refine ⟨ret_int ?_, rfl⟩
    rw [HZ.out]
    try omega
end Go.Proofs.YtfkgmodgkifelaaGreatDoor
namespace Go.Proofs.YtfkgmodgkifelaaGreatDoor
open Go.RowKit

theorem bn_cons (s : ByteArray) (k : Nat) (h : k < s.size) : (bn s).drop k = s[k].toNat :: (bn s).drop (k + 1) := by
  have hl : k < (bn s).length := by simpa [bn] using h
  rw [List.drop_eq_getElem_cons hl]
  congr 1
  simp [bn]; rfl
set_option maxHeartbeats 1000000 in
set_option maxRecDepth 100000 in
theorem snum_any (s : ByteArray) (n : Nat) (h1 : 1 ≤ n) (h8 : n ≤ 8) (hs : s.size ≤ maxLen) (w : World) :
    Calls Tryz.prog 146 #[.string s, .int .i64 n] w fun e w' => e = .returned (.tuple #[.int .u64 ((num n (bn s)).1 : Nat), .int .i64 ((num n (bn s)).2.1 : Nat), .int .i64 ((num n (bn s)).2.2 : Nat)]) ∧ w = w' := by
  unfold maxLen at hs
  unfold num
  rw [bn_len]
  by_cases hsh : s.size < n
  · rw [if_pos hsh]
    go_enter Tryz.func146, Tryz.ntmps146
    go_wp2_with fail
    go_ret3
    exact ⟨rfl, rfl⟩
  · rw [if_neg hsh]
    obtain ⟨L, HL⟩ : ∃ L : List Nat, Hid (L = (bn s).take n) := ⟨_, rfl⟩
    have hlen : L.length = n := by rw [HL.out, List.length_take, bn_len]; omega
    have HLEN := hide hlen
    have hlt : ∀ b ∈ L, b < 256 := by rw [HL.out]; exact bn_take_lt s n
    have HLT := hide hlt
    have H0 : Hid (L.drop 0 = L) := by show _ = _; rw [List.drop_zero]
    have HNIL : Hid (le (L.drop n) = 0) := by show _ = _; rw [List.drop_of_length_le (by rw [HLEN.out]; omega)]; rfl
    have HST : ∀ k, k < n → ∃ (b : Nat) (hk : k < s.size), b = s[k].toNat ∧ b < 256 ∧ Hid (le (L.drop k) = b + 256 * le (L.drop (k + 1))) := by
      intro k hk
      have hks : k < s.size := by omega
      refine ⟨_, hks, rfl, s[k].toNat_lt, ?_⟩
      show _ = _
      have : L.drop k = s[k].toNat :: L.drop (k + 1) := by
        have hl : k < L.length := by rw [HLEN.out]; exact hk
        rw [List.drop_eq_getElem_cons hl]
        congr 1
        have h2 := bn_cons s k hks
        have h3 : (bn s)[k]'(by rw [bn_len]; exact hks) = s[k].toNat := by
          rw [List.drop_eq_getElem_cons (by rw [bn_len]; exact hks)] at h2
          injection h2
        rw [← h3]
        have := HL.out
        subst this
        rw [List.getElem_take]
      rw [this]; rfl
    have HSTH := hide HST
    have HLE : Hid (∀ k, le (L.drop k) < 256 ^ (L.length - k)) := fun k => by
      have := le_lt (L.drop k) (fun b hb => HLT.out b (List.mem_of_mem_drop hb))
      rwa [List.length_drop] at this
    have HL' : Hid (le ((bn s).take n) = le L) := by show _ = _; rw [← HL.out]
    rw [HL'.out]
    clear hlen hlt HST
    obtain ⟨m, rfl⟩ : ∃ m, n = m + 1 := ⟨n - 1, by omega⟩
    go_enter Tryz.func146, Tryz.ntmps146
    go_wp2_with fail
    go_loop [7, 8] (fun xv iv => (∃ k : Nat, k ≤ m ∧ iv = .int .i64 (k : Int) ∧ ∃ y : Nat, Hid (y = le (L.drop (k + 1))) ∧ y < 72057594037927936 ∧ xv = .int .u64 (y : Int)) ∨ (iv = .int .i64 (-1) ∧ xv = .int .u64 (le L : Nat))) (fun _ iv => (intOf iv + 1).toNat)
    case atStart => exact .inl ⟨m, by omega, by go_num, 0, by show _ = _; rw [HNIL.out], by omega, rfl⟩
    case round =>
      rcases hrel with ⟨k, hk, rfl, y, HY, hy, rfl⟩ | ⟨rfl, rfl⟩
      · obtain ⟨b, hks, hb, hb256, HS⟩ := HSTH.out k (by omega)
        have hsk : s[k].toNat = b := hb.symm
        clear hb
        go_wp2_with fail
        by_cases hk0 : k = 0
        · subst hk0
          go_round
          case rel => exact .inr ⟨rfl, by rw [← H0.out, HS.out, ← HY.out]; go_num⟩
          case measure => simp [intOf] <;> omega
        · have hz := HLE.out k
          rw [HLEN.out, HS.out, ← HY.out] at hz
          have h7 : 256 ^ (m + 1 - k) ≤ 256 ^ 7 := Nat.pow_le_pow_right (by omega) (by omega)
          have h7' : (256 : Nat) ^ 7 = 72057594037927936 := by decide
          go_round
          case rel => exact .inl ⟨k - 1, by omega, by go_num, b + 256 * y, by show _ = _; rw [show k - 1 + 1 = k by omega, HS.out, ← HY.out], by omega, by go_num⟩
          case measure => simp [intOf] <;> omega
      · go_wp2_with fail
        go_ret3
        exact ⟨rfl, rfl⟩

set_option maxHeartbeats 1000000 in
set_option maxRecDepth 100000 in
theorem sfew_any (s : ByteArray) (hs : s.size ≤ maxLen) (w : World) :
    Calls Tryz.prog 17 #[.string s] w fun e w' => e = .returned (.tuple #[.int .u64 ((few (bn s) 0).1 : Nat), .int .i64 ((few (bn s) 0).2.1 : Nat), .int .i64 ((few (bn s) 0).2.2 : Nat)]) ∧ w = w' := by
  unfold maxLen at hs
  have HF0 := hide (few1_0 (bn s))
  go_enter Tryz.func17, Tryz.ntmps17
  go_wp2_with fail
  go_loop [5, 6, 7] (fun xv uv iv => ∃ k y U : Nat, k ≤ 9 ∧ k ≤ s.size ∧ y < 9223372036854775808 ∧ Hid (y < 128 ^ k) ∧ Hid (U = 128 ^ k) ∧ U ≤ 9223372036854775808 ∧ Hid (Few1 (bn s) k y) ∧ iv = .int .i64 (k : Int) ∧ uv = .int .u64 (U : Int) ∧ xv = .int .u64 (y : Int)) (fun _ _ iv => 10 - (intOf iv).toNat)
  case atStart => exact ⟨0, 0, 1, by omega, by omega, by omega, by show _ < _; simp, by show _ = _; rfl, by omega, HF0, rfl, rfl, rfl⟩
  case round =>
    obtain ⟨k, y, U, hk, hks, hy, HY, HU, hU, HFW, rfl, rfl, rfl⟩ := hrel
    by_cases hlt : k < s.size
    · obtain ⟨b, hb⟩ : ∃ b, s[k].toNat = b := ⟨_, rfl⟩
      have hb256 : b < 256 := by rw [← hb]; exact s[k].toNat_lt
      have HD : Hid ((bn s).drop k = b :: (bn s).drop (k + 1)) := by show _ = _; rw [← hb]; exact bn_cons s k hlt
      have hsz : s.size ≠ 0 := by omega
      by_cases hbad : (k = 9 ∧ 1 < b) ∨ (0 < k ∧ b = 0)
      · have HF := hide (few1_bad HFW.out HD.out hbad)
        rcases hbad with ⟨rfl, hb1⟩ | ⟨hk0, rfl⟩
        · go_wp2_with fail
          go_ret3
          rw [HF.out]
          exact ⟨rfl, rfl⟩
        · by_cases hk9 : k = 9
          · subst hk9
            go_wp2_with fail
            go_ret3
            rw [HF.out]
            exact ⟨rfl, rfl⟩
          · have hk9' : ((k : Int) == 9) = false := by rw [beq_eq_false_iff_ne]; omega
            go_wp2_with fail
            go_ret3
            rw [HF.out]
            exact ⟨rfl, rfl⟩
      · have h9b : k = 9 → b ≤ 1 := fun h => by omega
        have h0b : 0 < k → 0 < b := fun h => by omega
        by_cases h128 : b < 128
        · have HF := hide (few1_last HFW.out HD.out hbad h128)
          have hmod : (b : Int) % 128 = (b : Int) := by omega
          obtain ⟨_, h64⟩ := (or_shift7 y b k hk HY.out h128 h9b).2
          obtain ⟨z, HZ⟩ : ∃ z, Hid (z = 128 ^ k * b) := ⟨_, rfl⟩
          have hz : (U : Int) * (b : Int) = (z : Int) := by rw [HZ.out, HU.out]; simp
          rw [← HZ.out] at h64 HF
          clear hbad
          by_cases hk9 : k = 9
          · subst hk9
            have hb1 := h9b rfl
            have hb0 := h0b (by omega)
            obtain rfl : b = 1 := by omega
            have hzU : U = z := by rw [HZ.out, HU.out]
            subst hzU
            clear hz
            go_wp2_with fail
            go_ret3
            rw [HF.out]
            exact ⟨rfl, rfl⟩
          · have hk9' : ((k : Int) == 9) = false := by rw [beq_eq_false_iff_ne]; omega
            by_cases hb0 : b = 0
            · subst hb0
              obtain rfl : k = 0 := by omega
              have hz0 : z = 0 := by rw [HZ.out]
              subst hz0
              clear hz
              go_wp2_with fail
              go_ret3
              rw [HF.out]
              exact ⟨rfl, rfl⟩
            · have hb0' : ((b : Int) == 0) = false := by rw [beq_eq_false_iff_ne]; omega
              go_wp2_with fail
              go_ret3
              rw [HF.out]
              exact ⟨rfl, rfl⟩
        · have HF := hide (few1_on HFW.out HD.out hbad h128)
          have hk9 : k ≠ 9 := fun h => by have := h9b h; omega
          have hk9' : ((k : Int) == 9) = false := by rw [beq_eq_false_iff_ne]; omega
          obtain ⟨hlt2, h64⟩ := (or_shift7 y (b % 128) k hk HY.out (by omega) (fun h => by omega)).2
          obtain ⟨z, HZ⟩ : ∃ z, Hid (z = 128 ^ k * (b % 128)) := ⟨_, rfl⟩
          have hz : (U : Int) * ((b : Int) % 128) = (z : Int) := by rw [HZ.out, HU.out]; simp
          rw [← HZ.out] at h64 HF hlt2
          have h8 : 128 ^ (k + 1) ≤ 128 ^ 9 := Nat.pow_le_pow_right (by omega) (by omega)
          have h8' : (128 : Nat) ^ 9 = 9223372036854775808 := by decide
          have hU2 : U ≤ 72057594037927936 := by
            have := HU.out
            rw [Nat.pow_succ] at h8
            omega
          have hyz : y + z < 9223372036854775808 := by omega
          have HLT := hide hlt2
          clear hbad hlt2 h8 h8'
          go_wp2_with fail
          go_round
          case rel => exact ⟨k + 1, y + z, U * 128, by omega, by omega, hyz, HLT, by show _ = _; rw [HU.out, Nat.pow_succ], by omega, HF, by go_num, by go_num, by go_num⟩
          case measure => simp [intOf] <;> omega
    · have hk8 : k = s.size := by omega
      have HF := hide (few1_nil HFW.out (by rw [List.drop_of_length_le]; rw [bn_len]; omega))
      go_wp2_with fail
      go_ret3
      rw [HF.out]
      exact ⟨rfl, rfl⟩
set_option maxHeartbeats 1000000 in
set_option maxRecDepth 100000 in
theorem stext_any (s : ByteArray) (m : Int) (hm63 : m ≤ 9223372036854775807) (hm0 : -9223372036854775808 ≤ m) (hs : s.size ≤ maxLen) (w : World) :
    Calls Tryz.prog 147 #[.string s, .int .i64 m] w fun e w' => e = .returned (.tuple #[.string (strN (textS m (bn s)).1), .int .i64 ((textS m (bn s)).2.1 : Nat), .int .i64 ((textS m (bn s)).2.2 : Nat)]) ∧ w = w' := by
  have K := hide (sfew_any s hs w)
  unfold maxLen at hs
  have hle := few_le (bn s) 0
  have h64 := few_lt64 (bn s)
  rw [bn_len] at hle
  unfold textS
  rw [bn_len]
  generalize few (bn s) 0 = T at *
  obtain ⟨x, c, er⟩ := T
  simp only at *
  by_cases h0 : er = 0
  · subst h0
    have hc := hle rfl
    rw [if_pos rfl]
    by_cases hneg : m < 0
    · rw [if_pos (.inl hneg), strN_nil]
      go_enter Tryz.func147, Tryz.ntmps147
      go_wp2_with fail
      refine K.out.mono ?_
      rintro e w1 ⟨rfl, rfl⟩
      go_wp2_with fail
      go_ret3
      exact ⟨rfl, rfl⟩
    · obtain ⟨mm, rfl⟩ : ∃ mm : Nat, m = mm := ⟨m.toNat, by omega⟩
      by_cases hbig : mm < x
      · rw [if_pos (.inr (by omega)), strN_nil]
        go_enter Tryz.func147, Tryz.ntmps147
        go_wp2_with fail
        refine K.out.mono ?_
        rintro e w1 ⟨rfl, rfl⟩
        go_wp2_with fail
        go_ret3
        exact ⟨rfl, rfl⟩
      · rw [if_neg (by omega)]
        by_cases hsh : s.size - c < x
        · rw [if_pos hsh, strN_nil]
          go_enter Tryz.func147, Tryz.ntmps147
          go_wp2_with fail
          refine K.out.mono ?_
          rintro e w1 ⟨rfl, rfl⟩
          go_wp2_with fail
          go_ret3
          exact ⟨rfl, rfl⟩
        · rw [if_neg hsh]
          have HX := hide (extract_strN s c x (by omega))
          go_enter Tryz.func147, Tryz.ntmps147
          go_wp2_with fail
          refine K.out.mono ?_
          rintro e w1 ⟨rfl, rfl⟩
          go_wp2_with fail
          go_ret3
          exact ⟨by rw [← HX.out]; rfl, rfl⟩
  · rw [if_neg h0, strN_nil]
    have hne : ((er : Int) != 0) = true := by rw [bne_iff_ne]; omega
    go_enter Tryz.func147, Tryz.ntmps147
    go_wp2_with fail
    refine K.out.mono ?_
    rintro e w1 ⟨rfl, rfl⟩
    go_wp2_with fail
    go_ret3
    exact ⟨rfl, rfl⟩
end Go.Proofs.YtfkgmodgkifelaaGreatDoor
