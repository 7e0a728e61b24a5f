/- The walk of FrameBack. -/
import Derived.Test.YtkeaijocjbldmaaFrameL6
namespace Go.Proofs.Ytkeaijocjbldmaa
open Go.RowKit Go.ChangeShapes Go.WideShapes

/-- How many bytes the first frames have. -/
def preL (l : List FrK) (k : Nat) : Nat := (sealsN (l.take k)).length
theorem preL_succ {l : List FrK} {k : Nat} {f : FrK} (h : l[k]? = some f) : preL l (k + 1) = preL l k + sizeN f.2.length := by
  unfold preL
  rw [List.take_add_one, h]
  show (sealsN (l.take k ++ [f])).length = _
  rw [sealsN_snoc, List.length_append, sealN_len]
theorem preL_mono (l : List FrK) : ∀ (d k : Nat), preL l k ≤ preL l (k + d) := by
  intro d
  induction d with
  | zero => intro k; exact Nat.le_refl _
  | succ d ih =>
    intro k
    refine Nat.le_trans (ih k) ?_
    show preL l (k + d) ≤ preL l (k + d + 1)
    by_cases h : k + d < l.length
    · rw [preL_succ (List.getElem?_eq_getElem h)]; omega
    · unfold preL
      rw [List.take_of_length_le (by omega), List.take_of_length_le (by omega)]
      exact Nat.le_refl _
theorem cut_at (l : List FrK) (c : Nat) : ∀ (d k : Nat), k + d = l.length → preL l k ≤ c → ∃ N, N ≤ l.length ∧ preL l N ≤ c ∧ (N = l.length ∨ (N < l.length ∧ c < preL l (N + 1))) := by
  intro d
  induction d with
  | zero => intro k hk hc; exact ⟨k, by omega, hc, .inl (by omega)⟩
  | succ d ih =>
    intro k hk hc
    by_cases h : c < preL l (k + 1)
    · exact ⟨k, by omega, hc, .inr ⟨by omega, h⟩⟩
    · exact ih (k + 1) (by omega) (by omega)
set_option maxHeartbeats 4000000 in
set_option maxRecDepth 100000 in
theorem frameBack_walk (w : World) (v : Value) (w0 : ∃ (A : Option Addr) (c : Nat) (l : List FrI), v = .slice A l.length c ∧ l.length ≤ maxLen ∧ InFr w A l) (cut : Int) (w1 : (Lit.int .i64 cut).wf = true) :
    Calls Try.prog 11 #[v, .int .i64 cut] w fun e w' => e = .returned (.bool true) ∧ Below w.heap.size w w' := by
  obtain ⟨A, c, l, rfl, hl, hin⟩ := w0
  have hcw := bounds_i64 w1
  clear w1
  have KA := hide (fun w => awake05 w)
  have KF := hide (all_any A c l hl w hin)
  unfold AllPost at KF
  unfold maxLen at hl
  have HIN := hide hin
  clear hin
  cases hall : allB l with
  | false =>
    rw [hall, if_neg (by simp)] at KF
    clear hall
    go_enter Try.func11, Try.ntmps11
    go_wp2_with fail
    refine KF.out.mono ?_
    rintro e w1 ⟨rfl, hb1⟩
    go_wp2_with fail
    refine (KA.out _).mono ?_
    rintro e w2 ⟨rfl, hb2⟩
    go_wp2_with fail
    go_ret
    exact ⟨rfl, hb1.trans (hb2.mono hb1.size)⟩
  | true =>
    have HALL := hide (show l.length ≤ 20 ∧ ∀ f ∈ l, f.b.size ≤ 200 ∧ f.k ≠ 0 from of_decide_eq_true hall)
    rw [hall, if_pos rfl] at KF
    clear hall
    have hl20 := HALL.out.1
    have HLT := hide (seals_lt HIN.out.1)
    have hsl := seals_len l (fun f hf => (HALL.out.2 f hf).1)
    obtain ⟨L, HL⟩ : ∃ L, Hid (L = sealsN (frk l)) := ⟨_, rfl⟩
    rw [← HL.out] at KF hsl HLT
    obtain ⟨SL, HSL⟩ : ∃ SL, Hid (SL = strN L) := ⟨_, rfl⟩
    rw [← HSL.out] at KF
    have HSZ : Hid (SL.size = L.length) := by show _ = _; rw [HSL.out, strN_size]
    have hsz6 : SL.size ≤ 6000 := by rw [HSZ.out]; omega
    by_cases hneg : cut < 0
    · go_enter Try.func11, Try.ntmps11
      go_wp2_with fail
      refine KF.out.mono ?_
      rintro e w1 ⟨rfl, hb1⟩
      go_wp2_with fail
      refine (KA.out _).mono ?_
      rintro e w2 ⟨rfl, hb2⟩
      go_wp2_with fail
      go_ret
      exact ⟨rfl, hb1.trans (hb2.mono hb1.size)⟩
    obtain ⟨cc, rfl⟩ : ∃ cc : Nat, cut = cc := ⟨cut.toNat, by omega⟩
    have hd1 : decide ((cc : Int) < 0) = false := by rw [decide_eq_false_iff_not]; omega
    by_cases hbig : SL.size < cc
    · go_enter Try.func11, Try.ntmps11
      go_wp2_with fail
      refine KF.out.mono ?_
      rintro e w1 ⟨rfl, hb1⟩
      go_wp2_with fail
      refine (KA.out _).mono ?_
      rintro e w2 ⟨rfl, hb2⟩
      go_wp2_with fail
      go_ret
      exact ⟨rfl, hb1.trans (hb2.mono hb1.size)⟩
    have hd2 : decide (SL.size < cc) = false := by rw [decide_eq_false_iff_not]; exact hbig
    have hccS : cc ≤ SL.size := by omega
    have HCL : Hid (cc ≤ L.length) := by have := HSZ.out; show _ ≤ _; omega
    obtain ⟨N, hN1, hN2, hN3⟩ := cut_at (frk l) cc (frk l).length 0 (by omega) (by unfold preL; simp [sealsN])
    have hNl : N ≤ l.length := by rw [← frk_len l]; exact hN1
    have HSC := hide (scan_cut (frk l) (frk_ok HIN.out.1 HALL.out) N cc (by rw [← HL.out]; exact HCL.out) hN2 hN3)
    rw [← HL.out] at HSC
    obtain ⟨lm, HLM⟩ : ∃ lm, Hid (lm = placed ((frk l).take N) 0) := ⟨_, rfl⟩
    have hlm : lm.length = N := by rw [HLM.out, placed_len, List.length_take, frk_len]; omega
    have HX : Hid (SL.extract 0 cc = strN (L.take cc)) := by
      show _ = _
      have := extract_strN SL 0 cc (by omega)
      rw [Nat.zero_add, List.drop_zero, HSL.out, bn_strN L HLT.out] at this
      rw [HSL.out]
      exact this
    have K1 : Hid (∀ w1, Calls Try.prog 38 #[.string (SL.extract 0 cc)] w1 (ScanPost 65 w1 (L.take cc))) := fun w1 => by
      have := scan_any (strN (L.take cc)) (by rw [strN_size, List.length_take]; omega) w1
      rw [bn_strN _ (fun b hb => HLT.out b (List.mem_of_mem_take hb))] at this
      rw [HX.out]
      exact this
    unfold ScanPost at K1
    rw [HSC.out, ← HLM.out] at K1
    obtain ⟨er, HER⟩ : ∃ er : Nat, Hid (er = if (sealsN ((frk l).take N)).length = cc then 0 else 10) := ⟨_, rfl⟩
    simp only at K1
    rw [← HER.out] at K1
    have HPN : Hid ((sealsN ((frk l).take N)).length = preL (frk l) N) := rfl
    rw [HPN.out] at K1 HER
    have HLMG : Hid (∀ (i : Nat) (f : FrI), i < N → l[i]? = some f → lm[i]? = some (f.k, bn f.b, preL (frk l) i)) := by
      intro i f hi hf
      have h1 : ((frk l).take N)[i]? = some (f.k, bn f.b) := by
        rw [List.getElem?_take_of_lt hi]
        simp [frk, hf]
      have h2 := placed_get ((frk l).take N) i 0 _ h1
      rw [HLM.out, h2, Nat.zero_add, List.take_take, Nat.min_eq_left (by omega)]
      rfl
    have HPS : Hid (∀ (i : Nat) (f : FrI), l[i]? = some f → preL (frk l) (i + 1) = preL (frk l) i + sizeN f.b.size) := by
      intro i f hf
      have h1 : (frk l)[i]? = some (f.k, bn f.b) := by simp [frk, hf]
      have := preL_succ h1
      rw [bn_len] at this
      exact this
    have HPM : Hid (∀ i, i ≤ N → preL (frk l) i ≤ cc) := by
      intro i hi
      have := preL_mono (frk l) (N - i) i
      rw [show i + (N - i) = N by omega] at this
      exact Nat.le_trans this hN2
    have HEND : Hid (N = l.length ∨ (N < l.length ∧ cc < preL (frk l) (N + 1))) := by rw [frk_len] at hN3; exact hN3
    have HP0 : Hid (preL (frk l) 0 = 0) := rfl
    generalize preL (frk l) = P at *
    have hcci : (cc : Int) ≤ (SL.size : Int) := by omega
    clear hneg hbig hN1 hN2 hN3
    have hlm' := hide hlm
    clear hlm
    go_enter Try.func11, Try.ntmps11
    go_wp2_with fail
    refine KF.out.mono ?_
    rintro e w1 ⟨rfl, hb1⟩
    go_wp2_with fail
    refine (K1.out _).mono ?_
    rintro e w2 ⟨va, rfl, ha, hb2⟩
    have hb3 := hb1.trans (hb2.mono hb1.size)
    clear hb1 hb2
    rw [hlm'.out] at ha
    obtain ⟨Aa, ca, rfl⟩ := own_form3 ha
    have HA := hide ha
    clear ha
    go_wp2_with fail
    go_loopw [10, 11, 12] (fun nv ev iv wr => ∃ (i p : Nat), i ≤ N ∧ nv = .int .i64 (i : Int) ∧ iv = .int .i64 (i : Int) ∧ ev = .int .i64 (p : Int) ∧ Hid (p = P i) ∧ p ≤ cc ∧ Hid (Below w2.heap.size w2 wr)) (fun _ _ iv _ => l.length - (intOf iv).toNat)
    case atStart => exact ⟨0, 0, by omega, rfl, rfl, rfl, HP0.out.symm, by omega, Below.refl _ _⟩
    case round =>
      obtain ⟨i, p, hi, rfl, rfl, rfl, HP, hpc, HBR⟩ := hrel
      have HBW := hide (hb3.trans (HBR.out.mono hb3.size))
      by_cases hiN : i < N
      · obtain ⟨f, hf⟩ : ∃ f, l[i]? = some f := ⟨_, List.getElem?_eq_getElem (by omega)⟩
        have hfm := List.mem_of_getElem? hf
        have hwf := HIN.out.1 f hfm
        have h200 := (HALL.out.2 f hfm).1
        have hlg := HLMG.out i f hiN hf
        have hps := HPS.out i f hf
        rw [← HP.out] at hps hlg
        have hpm := HPM.out (i + 1) (by omega)
        rw [hps] at hpm
        have HPS1 := hide hps
        have KZ : Hid (∀ w, Calls Try.prog 35 #[.int .i64 (f.b.size : Int)] w fun e w' => e = .returned (.int .i64 (sizeN f.b.size : Nat)) ∧ Below w.heap.size w w') := fun w => by
          have := fsize_any (f.b.size : Int) (by omega) (by omega) w
          rw [if_neg (by omega), Int.toNat_natCast] at this
          exact this
        obtain ⟨b, of, rfl, hcl⟩ := HIN.out.cells hf
        have HCLL := hide hcl
        obtain ⟨c0, c1, c2⟩ := hcl wr HBW.out
        have hai : (i : Int) < (l.length : Int) := by omega
        clear hcl hf hfm hwf hps
        go_wp2_with fail
        refine (KZ.out _).mono ?_
        rintro e w3 ⟨rfl, hb4⟩
        have HBR3 := hide (HBR.out.trans (hb4.mono HBR.out.size))
        have hbw3 := hb3.trans (HBR3.out.mono hb3.size)
        clear c0 c1 c2
        obtain ⟨c0, c1, c2⟩ := HCLL.out w3 hbw3
        have HA3 := own_below HA.out HBR3.out
        obtain ⟨ga, cpa, hea⟩ := own_addr HA3 (by omega)
        injection hea with hA1 _ hA2
        subst hA1 hA2
        have HA3' : w3.ownsRow w1.heap.size 65 3 (.slice (some ⟨ga, 0, none⟩) lm.length ca) lm.length (lm.flatMap cells3) := by rw [hlm'.out]; exact HA3
        obtain ⟨a0, a1, a2⟩ := own_frame HA3' hlg
        simp only [strN_bn] at a0 a1 a2
        have hdn : decide (N ≤ i) = false := by rw [decide_eq_false_iff_not]; omega
        have hdn2 : decide ((N : Int) ≤ (i : Int)) = false := by rw [decide_eq_false_iff_not]; omega
        have hnI : (i : Int) < (N : Int) := by omega
        have hi0 : (0 : Int) ≤ (i : Int) := by omega
        have hpz : (p : Int) + ((sizeN f.b.size : Nat) : Int) ≤ (cc : Int) := by omega
        clear HA3 HA3' hlg
        go_wp2_with fail
        go_quiet (fail)
        clear c0 c1 c2 a0 a1 a2
        go_wp2_with fail
        go_roundw
        case rel => exact ⟨i + 1, p + sizeN f.b.size, by omega, by go_num, by go_num, by go_num, by show _ = _; rw [HPS1.out], by omega, below_drewN HBR3.out _⟩
        case measure => simp [intOf] <;> omega
      · have hiN' : i = N := by omega
        have HER2 : Hid (er = if p = cc then 0 else 10) := by show _ = _; rw [HER.out, HP.out, hiN']
        have hPN : Hid (P N = p) := by show _ = _; rw [HP.out, hiN']
        subst hiN'
        rw [hPN.out]
        by_cases hpc2 : p = cc
        · have her : er = 0 := by rw [HER2.out, if_pos hpc2]
          subst her
          subst hpc2
          clear HER2
          rcases HEND.out with hend | ⟨hlt, hcut⟩
          · have hend2 : ¬ i < l.length := by omega
            clear hend hiN
            go_wp2_with fail
            refine (KA.out _).mono ?_
            rintro e w5 ⟨rfl, hb8⟩
            go_wp2_with fail
            go_ret
            exact ⟨rfl, HBW.out.trans (hb8.mono HBW.out.size)⟩
          · obtain ⟨f, hf⟩ : ∃ f, l[i]? = some f := ⟨_, List.getElem?_eq_getElem hlt⟩
            have hfm := List.mem_of_getElem? hf
            have hwf := HIN.out.1 f hfm
            have h200 := (HALL.out.2 f hfm).1
            have hps := HPS.out i f hf
            rw [hPN.out] at hps
            rw [hps] at hcut
            have KZ : Hid (∀ w, Calls Try.prog 35 #[.int .i64 (f.b.size : Int)] w fun e w' => e = .returned (.int .i64 (sizeN f.b.size : Nat)) ∧ Below w.heap.size w w') := fun w => by
              have := fsize_any (f.b.size : Int) (by omega) (by omega) w
              rw [if_neg (by omega), Int.toNat_natCast] at this
              exact this
            obtain ⟨b, of, rfl, hcl⟩ := HIN.out.cells hf
            obtain ⟨c0, c1, c2⟩ := hcl wr HBW.out
            have hul := uvar_len10 (x := f.b.size) (by omega)
            have hsn : sizeN f.b.size ≤ 300 := by unfold sizeN; omega
            clear hcl hf hfm hwf hps hul
            go_wp2_with fail
            refine (KZ.out _).mono ?_
            rintro e w3 ⟨rfl, hb4⟩
            have hbw3 := HBW.out.trans (hb4.mono HBW.out.size)
            clear c0 c1 c2
            go_wp2_with fail
            refine (KA.out _).mono ?_
            rintro e w5 ⟨rfl, hb8⟩
            go_wp2_with fail
            go_ret
            exact ⟨rfl, hbw3.trans (hb8.mono hbw3.size)⟩
        · have her : er = 10 := by rw [HER2.out, if_neg hpc2]
          subst her
          have hpcb : ((p : Int) == (cc : Int)) = false := by rw [beq_eq_false_iff_ne]; omega
          clear HER2
          rcases HEND.out with hend | ⟨hlt, hcut⟩
          · have hend2 : ¬ i < l.length := by omega
            clear hend hiN
            go_wp2_with fail
            refine (KA.out _).mono ?_
            rintro e w5 ⟨rfl, hb8⟩
            go_wp2_with fail
            go_ret
            exact ⟨rfl, HBW.out.trans (hb8.mono HBW.out.size)⟩
          · obtain ⟨f, hf⟩ : ∃ f, l[i]? = some f := ⟨_, List.getElem?_eq_getElem hlt⟩
            have hfm := List.mem_of_getElem? hf
            have hwf := HIN.out.1 f hfm
            have h200 := (HALL.out.2 f hfm).1
            have hps := HPS.out i f hf
            rw [hPN.out] at hps
            rw [hps] at hcut
            have KZ : Hid (∀ w, Calls Try.prog 35 #[.int .i64 (f.b.size : Int)] w fun e w' => e = .returned (.int .i64 (sizeN f.b.size : Nat)) ∧ Below w.heap.size w w') := fun w => by
              have := fsize_any (f.b.size : Int) (by omega) (by omega) w
              rw [if_neg (by omega), Int.toNat_natCast] at this
              exact this
            obtain ⟨b, of, rfl, hcl⟩ := HIN.out.cells hf
            obtain ⟨c0, c1, c2⟩ := hcl wr HBW.out
            have hul := uvar_len10 (x := f.b.size) (by omega)
            have hsn : sizeN f.b.size ≤ 300 := by unfold sizeN; omega
            clear hcl hf hfm hwf hps hul
            go_wp2_with fail
            refine (KZ.out _).mono ?_
            rintro e w3 ⟨rfl, hb4⟩
            have hbw3 := HBW.out.trans (hb4.mono HBW.out.size)
            clear c0 c1 c2
            go_wp2_with fail
            refine (KA.out _).mono ?_
            rintro e w5 ⟨rfl, hb8⟩
            go_wp2_with fail
            go_ret
            exact ⟨rfl, hbw3.trans (hb8.mono hbw3.size)⟩
end Go.Proofs.Ytkeaijocjbldmaa
