/- The walk of FrameJoins. -/
import Derived.Test.YtkeaijocjbldmaaFrameL5
import Derived.Test.YtkeaijocjbldmaaFrameL3
import Derived.IntWalk
namespace Go.Proofs.Ytkeaijocjbldmaa
open Go.RowKit Go.ChangeShapes Go.WideShapes

theorem seals_lt {l : List FrI} (h : ∀ f ∈ l, f.Wf) : ∀ x ∈ sealsN (frk l), x < 256 := by
  intro x hx
  simp only [sealsN, List.mem_flatMap, frk, List.mem_map] at hx
  obtain ⟨f, ⟨g, hg, rfl⟩, hx⟩ := hx
  exact sealN_lt (h g hg).k1 (bn_lt g.b) x hx
set_option maxHeartbeats 2000000 in
set_option maxRecDepth 100000 in
theorem frameJoins_walk (w : World) (v : Value) (w0 : ∃ (A : Option Addr) (c : Nat) (l : List FrI), v = .slice A l.length c ∧ l.length ≤ maxLen ∧ InFr w A l) (r : ByteArray) (hr : r.size ≤ maxLen) :
    Calls Try.prog 14 #[v, .string r] w fun e w' => e = .returned (.bool true) ∧ Below w.heap.size w w' := by
  obtain ⟨A, c, l, rfl, hl, hin⟩ := w0
  have KA := hide (fun w => awake05 w)
  have KF := hide (all_any A c l hl w hin)
  unfold AllPost at KF
  unfold maxLen at hl hr
  have HIN := hide hin
  clear hin
  cases hall : allB l with
  | false =>
    rw [hall, if_neg (by simp)] at KF
    clear hall
    go_enter Try.func14, Try.ntmps14
    go_wp2_with fail
    refine KF.out.mono ?_
    rintro e w1 ⟨rfl, hb1⟩
    go_wp2_with fail
    refine (KA.out _).mono ?_
    rintro e w2 ⟨rfl, hb2⟩
    go_wp2_with fail
    go_ret
    exact ⟨rfl, hb1.trans (hb2.mono hb1.size)⟩
  | true =>
    have HALL := hide (show l.length ≤ 20 ∧ ∀ f ∈ l, f.b.size ≤ 200 ∧ f.k ≠ 0 from of_decide_eq_true hall)
    rw [hall, if_pos rfl] at KF
    clear hall
    have hl20 := HALL.out.1
    by_cases h500 : 500 < r.size
    · go_enter Try.func14, Try.ntmps14
      go_wp2_with fail
      refine KF.out.mono ?_
      rintro e w1 ⟨rfl, hb1⟩
      go_wp2_with fail
      refine (KA.out _).mono ?_
      rintro e w2 ⟨rfl, hb2⟩
      go_wp2_with fail
      go_ret
      exact ⟨rfl, hb1.trans (hb2.mono hb1.size)⟩
    have hd5 : decide (500 < (r.size : Int)) = false := by rw [decide_eq_false_iff_not]; omega
    have HLT := hide (seals_lt HIN.out.1)
    have hsl := seals_len l (fun f hf => (HALL.out.2 f hf).1)
    have HSC := hide (scan_seals (frk l) (frk_ok HIN.out.1 HALL.out) (bn r))
    have HPL : Hid ((placed (frk l) 0).length = l.length) := by show _ = _; rw [placed_len, frk_len]
    obtain ⟨L, HL⟩ : ∃ L, Hid (L = sealsN (frk l)) := ⟨_, rfl⟩
    rw [← HL.out] at KF hsl HLT HSC
    obtain ⟨SL, HSL⟩ : ∃ SL, Hid (SL = strN L) := ⟨_, rfl⟩
    rw [← HSL.out] at KF
    have hsz : SL.size = L.length := by rw [HSL.out, strN_size]
    have hll : L.length ≤ 6000 := by omega
    have hU := scan_lt (bn r) (bn_lt r)
    rw [bn_len] at hU
    have K2 := hide (fun w1 => scan_any r (by omega) w1)
    have K1 : Hid (∀ w1, Calls Try.prog 38 #[.string (SL ++ r)] w1 (ScanPost 65 w1 (L ++ bn r))) := fun w1 => by
      have := scan_any (SL ++ r) (by rw [ByteArray.size_append, hsz]; omega) w1
      rw [bn_append, HSL.out, bn_strN L HLT.out] at this
      rw [HSL.out]
      exact this
    unfold ScanPost at K1 K2
    rw [HSC.out] at K1
    have hadd := fun w1 => run_string_add_sum (P := Try.prog) w1 SL r (by rw [hsz]; omega)
    generalize scanN (bn r) 0 = U at *
    obtain ⟨lb, tb, er⟩ := U
    simp only at K1 K2 hU
    obtain ⟨hU1, hU2, hU3, hU4⟩ := hU
    obtain ⟨la, HLA⟩ : ∃ la, Hid (la = placed (frk l) 0 ++ lb.map (shiftF L.length)) := ⟨_, rfl⟩
    rw [← HLA.out] at K1
    have hlal : la.length = l.length + lb.length := by rw [HLA.out, List.length_append, HPL.out, List.length_map]
    have HLB : Hid (∀ (i : Nat) (f : FrD), lb[i]? = some f → la[l.length + i]? = some (f.1, f.2.1, L.length + f.2.2) ∧ f.2.2 ≤ r.size) := by
      intro i f hf
      refine ⟨?_, (hU1 f (List.mem_of_getElem? hf)).2.2⟩
      rw [HLA.out, List.getElem?_append_right (by rw [HPL.out]; omega), HPL.out, Nat.add_sub_cancel_left, List.getElem?_map, hf]
      rfl
    clear hU1 HSC
    go_enter Try.func14, Try.ntmps14
    go_wp2_with fail
    refine KF.out.mono ?_
    rintro e w1 ⟨rfl, hb1⟩
    go_wp2_with fail
    refine (K1.out _).mono ?_
    rintro e w2 ⟨va, rfl, ha, hb2⟩
    have hb3 := hb1.trans (hb2.mono hb1.size)
    clear hb1 hb2
    obtain ⟨Aa, ca, rfl⟩ := own_form3 ha
    have HA := hide ha
    clear ha
    go_wp2_with fail
    refine (K2.out _).mono ?_
    rintro e w3 ⟨vb, rfl, hbo, hb4⟩
    have hb5 := hb3.trans (hb4.mono hb3.size)
    have HA3 := hide (own_below HA.out hb4)
    clear hb3 hb4 HA
    obtain ⟨Ab, cb, rfl⟩ := own_form3 hbo
    have HB3 := hide hbo
    clear hbo hadd
    go_wp2_with fail
    go_loopw [13] (fun iv wr => ∃ i : Nat, i ≤ lb.length ∧ iv = .int .i64 (i : Int) ∧ Hid (Below w3.heap.size w3 wr)) (fun iv _ => lb.length - (intOf iv).toNat)
    case atStart => exact ⟨0, by omega, rfl, Below.refl _ _⟩
    case round =>
      obtain ⟨i, hi, rfl, HBR⟩ := hrel
      by_cases hlt : i < lb.length
      · obtain ⟨f, hf⟩ : ∃ f, lb[i]? = some f := ⟨_, List.getElem?_eq_getElem hlt⟩
        obtain ⟨hfa, hfr⟩ := HLB.out i f hf
        have HAr := own_below HA3.out HBR.out
        have HBr := own_below HB3.out HBR.out
        obtain ⟨ga, cpa, hea⟩ := own_addr HAr (by omega)
        injection hea with hA1 _ hA2
        subst hA1 hA2
        obtain ⟨gb, cpb, heb⟩ := own_addr HBr (by omega)
        injection heb with hB1 _ hB2
        subst hB1 hB2
        obtain ⟨a0, a1, a2⟩ := own_frame HAr hfa
        have hal : Below wr.heap.size wr (wr.alloc (.cells #[.int .u8 (f.1 : Nat), .string (strN f.2.1), .int .i64 ((L.length + f.2.2 : Nat) : Int)] 65)) := (Below.refl _ _).alloc (Nat.le_refl _) _
        obtain ⟨b0, b1, b2⟩ := own_frame (own_below HBr hal) hf
        have HALr := hide (HBR.out.trans (hal.mono HBR.out.size))
        clear hf hfa HAr HBr hal
        obtain ⟨fk, fb, fa⟩ := f
        simp only at a0 a1 a2 b0 b1 b2 hfr HALr
        have hcast : ((L.length + fa : Nat) : Int) = (L.length : Int) + (fa : Int) := by omega
        rw [hcast] at a2 b0 b1 b2 HALr
        have hi0 : (0 : Int) ≤ (i : Int) := by omega
        have hi1 : (i : Int) < (lb.length : Int) := by omega
        have hfa63 : fa ≤ 500 := by omega
        have HW := hide (show IntKind.i64.wrap ((L.length : Int) + (fa : Int)) = (L.length : Int) + (fa : Int) from IntWalk.i64_in _ (by omega))
        clear hcast
        go_wp2_with fail
        have hw := HW.out
        go_quiet (fail)
        clear hw
        go_wp2_with fail
        go_roundw
        case rel => exact ⟨i + 1, by omega, by go_num, below_drewN HALr.out _⟩
        case measure => simp [intOf] <;> omega
      · go_wp2_with fail
        refine (KA.out _).mono ?_
        rintro e w5 ⟨rfl, hb8⟩
        go_wp2_with fail
        go_ret
        have hb9 := hb5.trans (HBR.out.mono hb5.size)
        exact ⟨rfl, hb9.trans (hb8.mono hb9.size)⟩
end Go.Proofs.Ytkeaijocjbldmaa
