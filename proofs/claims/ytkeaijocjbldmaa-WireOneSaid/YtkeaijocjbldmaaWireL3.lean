/- The walk of WireOne. -/
import Derived.Test.YtkeaijocjbldmaaWireL2
namespace Go.Proofs.Ytkeaijocjbldmaa
open Go.RowKit
theorem wr_newE (w : World) {B K : Nat} (hK : w.heap.size = K) (hB : B ≤ K) : Wr (w.alloc (.cells #[.slice none 0 0] 33)) K B (.slice none 0 0) [] := by
  subst hK; exact wr_newB w hB

set_option maxHeartbeats 2000000 in
set_option maxRecDepth 100000 in
theorem wireOne_walk (w : World) (s : ByteArray) (hs : s.size ≤ maxLen) :
    Calls Try.prog 3 #[.string s] w fun e w' => e = .returned (.bool true) ∧ Below w.heap.size w w' := by
  have KA := hide (fun w => awake04 w)
  have hs' := hs
  unfold maxLen at hs
  by_cases h40 : 40 < s.size
  · go_enter Try.func3, Try.ntmps3
    go_wp2_with fail
    refine (KA.out _).mono ?_
    rintro e w1 ⟨rfl, hb1⟩
    go_wp2_with fail
    go_ret
    exact ⟨rfl, hb1⟩
  have HST : Hid (st s 0 0 (fun D => few D 0) = few (bn s) 0) := by
    show _ = _
    unfold st
    rw [if_pos rfl]
    show ((few ((bn s).drop 0) 0).1, 0 + (few ((bn s).drop 0) 0).2.1, (few ((bn s).drop 0) 0).2.2) = _
    rw [List.drop_zero, Nat.zero_add]
  have K1 : Hid (∀ R w1, Rd w1 R s 0 0 → Calls Try.prog 17 #[.pointer (some ⟨R, 0, none⟩)] w1 (RPost R w1 s (.int .u64 ((few (bn s) 0).1 : Nat)) (few (bn s) 0).2.1 (few (bn s) 0).2.2)) := fun R w1 h1 => by
    have := ruvar_any R s 0 0 hs' (by omega) w1 h1
    rw [HST.out] at this
    exact this
  have K2 : Hid (∀ R w1, Rd w1 R s 0 0 → Calls Try.prog 18 #[.pointer (some ⟨R, 0, none⟩)] w1 (RPost R w1 s (.int .i64 (back (few (bn s) 0).1)) (few (bn s) 0).2.1 (few (bn s) 0).2.2)) := fun R w1 h1 => by
    have := rsvar_any R s 0 0 hs' (by omega) w1 h1
    rw [HST.out] at this
    exact this
  have hle := few_le (bn s) 0
  have hlt := few_lt (bn s) 0 (by omega)
  have h64 := few_lt64 (bn s)
  have hone := few_one (bn s) 0 (bn_lt s)
  have herr := few_err (bn s) 0
  rw [bn_len] at hle
  clear HST
  generalize few (bn s) 0 = T at *
  obtain ⟨x, n, er⟩ := T
  simp only at K1 K2 hle hlt h64 hone herr
  by_cases h0 : er = 0
  · subst h0
    have hn := hle rfl
    have hn10 := (hlt rfl).1
    have hx1 := (hone rfl).1
    have HX := hide (extract_strN s 0 n (by omega))
    have HX2 : Hid (s.extract 0 n = strN (uvar x)) := by
      show _ = _
      have := HX.out
      rw [Nat.zero_add, List.drop_zero, hx1] at this
      exact this
    have hbg := back_ge h64
    have hzb := hide (zz_back x)
    have hul : (uvar x).length ≤ 10 := uvar_len10 h64
    clear hle hlt hone herr hx1 HX
    go_enter Try.func3, Try.ntmps3
    go_wp2_with fail
    refine (newr_any _ _).mono ?_
    rintro e w1 ⟨R, rfl, hR, hr1, hb1⟩
    have hRw1 := Blk.lt hr1
    have HR1 := hide hr1
    clear hr1
    go_wp2_with fail
    refine (newr_any _ _).mono ?_
    rintro e w2 ⟨S, rfl, hS, hr2, hb2⟩
    have hb02 := hb1.trans (hb2.mono hb1.size)
    have hRS : R ≠ S := by omega
    have HR2 := hide (Rd.below HR1.out hb2)
    have HS2 := hide hr2
    clear hr2 hb2
    go_wp2_with fail
    refine (K1.out R _ HR2.out).mono ?_
    rintro e w3 ⟨rfl, hr3, hf3⟩
    have hb03 := hb02.trans (hf3.belowR hb02.size hR)
    have HS3 := hide (Rd.rd HS2.out (Ne.symm hRS) HR2.out hf3)
    have HR3 := hide hr3
    clear hr3 hf3
    go_wp2_with fail
    refine (K2.out S _ HS3.out).mono ?_
    rintro e w4 ⟨rfl, hr4, hf4⟩
    have hb04 := hb03.trans (hf4.belowR hb03.size (Nat.le_trans hb1.size hS))
    have HR4 := hide (Rd.rd HR3.out hRS HS3.out hf4)
    have HS4 := hide hr4
    clear hr4 hf4
    go_wp2_with fail
    refine (rerr_any _ _ _ _ _ HR4.out).mono ?_
    rintro e w5 ⟨rfl, rfl⟩
    have hbA := hb04.alloc hb04.size (.cells #[.slice none 0 0] 33)
    have hbB := hbA.alloc hbA.size (.cells #[.slice none 0 0] 33)
    have HW5 := hide ((wr_newB w4 hb04.size).below ((Below.refl _ _).alloc (Nat.le_refl _) (.cells #[.slice none 0 0] 33)))
    have HV5 := hide (wr_newE (w4.alloc (.cells #[.slice none 0 0] 33)) (B := w.heap.size) (K := w4.heap.size + 1) (by simp) (by have := hb04.size; omega))
    have hbr : Below w4.heap.size w4 ((w4.alloc (.cells #[.slice none 0 0] 33)).alloc (.cells #[.slice none 0 0] 33)) := ((Below.refl _ _).alloc (Nat.le_refl _) _).alloc (by simp) _
    have HR5 := hide (Rd.below HR4.out hbr)
    have HS5 := hide (Rd.below HS4.out hbr)
    clear hbr
    go_wp2_with fail
    refine (wuvar_any _ _ _ _ x h64 _ HW5.out (by simp) hbB.size).mono ?_
    rintro e w6 ⟨rfl, s6, hw6, hs6⟩
    have hb06 := hbB.trans (hs6.below HW5.out hbB.size)
    have HV6 := hide (HV5.out.other HW5.out hs6 (by simp) (fun k hk => by simp [Value.ownBlock] at hk))
    have HR6 := hide (HR5.out.ws HW5.out hs6)
    have HS6 := hide (HS5.out.ws HW5.out hs6)
    have HW6 := hide hw6
    clear hw6 hs6
    go_wp2_with fail
    refine (wsvar_any _ _ _ _ (back x) hbg.1 hbg.2 _ HV6.out (by simp) hb06.size).mono ?_
    rintro e w7 ⟨rfl, s7, hw7, hs7⟩
    have hb07 := hb06.trans (hs7.below HV6.out hb06.size)
    have HW7 := hide (HW6.out.other HV6.out hs7 (by simp) (fun k _ hk => by simp [Value.ownBlock] at hk))
    have HR7 := hide (HR6.out.ws HV6.out hs7)
    have HS7 := hide (HS6.out.ws HV6.out hs7)
    have HV7 := hide hw7
    rw [hzb.out] at HV7
    clear hw7 hs7
    go_wp2_with fail
    refine (wstring_any _ _ _ _ _ HW7.out).mono ?_
    rintro e w8 ⟨rfl, rfl⟩
    go_wp2_with fail
    refine (rat_any _ _ _ _ _ HR7.out).mono ?_
    rintro e w8 ⟨rfl, rfl⟩
    try rw [List.nil_append]
    have hx2 := HX2.out
    go_wp2_with fail
    refine (wstring_any _ _ _ _ _ HV7.out).mono ?_
    rintro e w8 ⟨rfl, rfl⟩
    try rw [List.nil_append]
    go_wp2_with fail
    refine (rat_any _ _ _ _ _ HS7.out).mono ?_
    rintro e w8 ⟨rfl, rfl⟩
    go_wp2_with fail
    refine (rat_any _ _ _ _ _ HR7.out).mono ?_
    rintro e w8 ⟨rfl, rfl⟩
    go_wp2_with fail
    refine (rat_any _ _ _ _ _ HR7.out).mono ?_
    rintro e w8 ⟨rfl, rfl⟩
    go_wp2_with fail
    refine (KA.out _).mono ?_
    rintro e w9 ⟨rfl, hb9⟩
    go_wp2_with fail
    go_ret
    exact ⟨rfl, hb07.trans (hb9.mono hb07.size)⟩
  · have hxn : x = 0 ∧ n = 0 := by
      rcases herr with h | h | h
      · exact absurd h h0
      · injection h with h1 h2; injection h2 with h2 _; exact ⟨h1, h2⟩
      · injection h with h1 h2; injection h2 with h2 _; exact ⟨h1, h2⟩
    obtain ⟨rfl, rfl⟩ := hxn
    have hne : ((er : Int) != 0) = true := by rw [bne_iff_ne]; omega
    have hbk : Hid (back 0 = 0) := by show _ = _; decide
    rw [hbk.out] at K2
    clear hle hlt h64 hone herr hbk
    go_enter Try.func3, Try.ntmps3
    go_wp2_with fail
    refine (newr_any _ _).mono ?_
    rintro e w1 ⟨R, rfl, hR, hr1, hb1⟩
    have hRw1 := Blk.lt hr1
    have HR1 := hide hr1
    clear hr1
    go_wp2_with fail
    refine (newr_any _ _).mono ?_
    rintro e w2 ⟨S, rfl, hS, hr2, hb2⟩
    have hb02 := hb1.trans (hb2.mono hb1.size)
    have hRS : R ≠ S := by omega
    have HR2 := hide (Rd.below HR1.out hb2)
    have HS2 := hide hr2
    clear hr2 hb2
    go_wp2_with fail
    refine (K1.out R _ HR2.out).mono ?_
    rintro e w3 ⟨rfl, hr3, hf3⟩
    have hb03 := hb02.trans (hf3.belowR hb02.size hR)
    have HS3 := hide (Rd.rd HS2.out (Ne.symm hRS) HR2.out hf3)
    have HR3 := hide hr3
    clear hr3 hf3
    go_wp2_with fail
    refine (K2.out S _ HS3.out).mono ?_
    rintro e w4 ⟨rfl, hr4, hf4⟩
    have hb04 := hb03.trans (hf4.belowR hb03.size (Nat.le_trans hb1.size hS))
    have HR4 := hide (Rd.rd HR3.out hRS HS3.out hf4)
    have HS4 := hide hr4
    clear hr4 hf4
    go_wp2_with fail
    refine (rerr_any _ _ _ _ _ HR4.out).mono ?_
    rintro e w5 ⟨rfl, rfl⟩
    go_wp2_with fail
    refine (rat_any _ _ _ _ _ HR4.out).mono ?_
    rintro e w8 ⟨rfl, rfl⟩
    go_wp2_with fail
    refine (rerr_any _ _ _ _ _ HS4.out).mono ?_
    rintro e w5 ⟨rfl, rfl⟩
    go_wp2_with fail
    refine (rerr_any _ _ _ _ _ HR4.out).mono ?_
    rintro e w5 ⟨rfl, rfl⟩
    go_wp2_with fail
    refine (KA.out _).mono ?_
    rintro e w9 ⟨rfl, hb9⟩
    go_wp2_with fail
    go_ret
    exact ⟨rfl, hb04.trans (hb9.mono hb04.size)⟩
end Go.Proofs.Ytkeaijocjbldmaa
