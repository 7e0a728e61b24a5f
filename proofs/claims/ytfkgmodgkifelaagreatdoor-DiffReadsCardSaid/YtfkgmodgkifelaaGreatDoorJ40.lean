/- Columns: a stream's cells, the program: the walk. Columns: a column's stream read, the program. Edits, read: what edits they are. -/
import Derived.Test.YtfkgmodgkifelaaGreatDoorJ39
import Derived.Test.YtfkgmodgkifelaaGreatDoorJ20
namespace Go.Proofs.YtfkgmodgkifelaaGreatDoor
open Go.RowKit

theorem SlB.fr {w w' : World} {v : Value} {l : List Bool} {R p e : Nat} {s : ByteArray} (h : SlB w v l) (hr : Rd w R s p e) (hf : Fr w w' (fun k => k = R)) : SlB w' v l := by
  obtain ⟨hm, hs⟩ := h
  refine ⟨hm, ?_⟩
  rcases hs with h | ⟨h0, b, o, c, rfl, hc, hb, hcell⟩
  · exact .inl h
  · have hne : b ≠ R := by
      intro he
      subst he
      have h1 := hcell 0 h0
      rw [Blk.cell hr] at h1
      have : ∀ j : Nat, (#[Value.string s, Value.int .i64 (p : Nat), Value.int .i64 (e : Nat)] : Array Value)[j]? ≠ some (.bool (l.getD 0 false)) := by
        intro j
        match j with
        | 0 => simp
        | 1 => simp
        | 2 => simp
        | j + 3 => simp
      exact this _ h1
    refine .inr ⟨h0, b, o, c, rfl, hc, Nat.lt_of_lt_of_le hb hf.size, fun i hi => ?_⟩
    have := hcell i hi
    unfold World.cell? at this ⊢
    simp only at this ⊢
    rw [hf.block b hb (by intro h; exact hne h)]
    exact this
theorem num1_end {D : List Nat} {p : Nat} (h : D.length ≤ p) : num 1 (D.drop p) = (0, 0, 10) := by
  unfold num
  rw [if_pos (by rw [List.length_drop]; omega)]
theorem num1_at {D : List Nat} {p : Nat} (h : ¬ D.length ≤ p) : num 1 (D.drop p) = (D.getD p 0, 1, 0) := by
  unfold num
  rw [if_neg (by rw [List.length_drop]; omega)]
  have hp : p < D.length := by omega
  have e : (D.drop p).take 1 = [D[p]] := by rw [List.drop_eq_getElem_cons hp]; rfl
  have e2 : D.getD p 0 = D[p] := by simp [List.getD, hp]
  rw [e, e2]
  simp [le]
theorem Fr.belowQ {w w' : World} {R B : Nat} (h : Fr w w' (fun k => k = R)) (hB : B ≤ w.heap.size) (hR : B ≤ R) : Below B w w' := h.below hB (fun _ e => by rw [e]; exact hR)
theorem rest_raw {s : ByteArray} {p : Nat} : stT s p 0 (rawS ((s.size - p : Nat) : Int)) = ((bn s).drop p, p + (s.size - p), 0) := by
  rw [stT_at]
  unfold rawS
  rw [if_neg (by omega), if_neg (by rw [List.length_drop, bn_len]; omega)]
  simp only [Int.toNat_natCast]
  rw [List.take_of_length_le (by rw [List.length_drop, bn_len]; exact Nat.le_refl _)]
theorem missS_pos {nl : Bool} {D : List Nat} {a n : Nat} (ha : a ≤ D.length) : (missS nl D a n).2.2 ≤ D.length := by
  unfold missS
  split
  · split
    · exact ha
    · show a + (n + 7) / 8 ≤ _; omega
  · exact ha
theorem missS_len {nl : Bool} {D : List Nat} {a n : Nat} (_hn : n ≤ 10000) (h : (missS nl D a n).1 = 0) : (missS nl D a n).2.1.length = n ∧ (nl = false → cnt (missS nl D a n).2.1 = 0) := by
  unfold missS at h ⊢
  split at h
  · rename_i hnl
    split at h
    · cases h
    · rename_i hs
      rw [if_pos hnl, if_neg hs]
      exact ⟨unR_len _ n h, fun h2 => by rw [h2] at hnl; cases hnl⟩
  · rename_i hnl
    rw [if_neg hnl]
    refine ⟨by simp, fun _ => ?_⟩
    show cnt (List.replicate n false) = 0
    unfold cnt
    have : ∀ m, cntTo (List.replicate n false) m = 0 := by
      intro m
      induction m with
      | zero => unfold cntTo; rfl
      | succ m ih =>
        rw [cntTo_succ, ih, bit_false]
        by_cases hm : m < n
        · simp [List.getD, hm]
        · rw [List.getD_eq_getElem?_getD, List.getElem?_eq_none (by simp; omega)]; rfl
    exact this _
set_option maxHeartbeats 8000000 in
set_option maxRecDepth 100000 in
theorem cells_any (nm : ByteArray) (k : Int) (h1 : 1 ≤ k) (h6 : k ≤ 6) (nl : Bool) (s : ByteArray) (hs : s.size ≤ 600) (w : World) (hT : Tabs w) :
    Calls Tryz.prog 15 #[colV nm k nl, .string s] w (DPostM w (cellsS k nl (bn s))) := by
  have hm : s.size ≤ maxLen := Nat.le_trans hs (by simp [maxLen])
  obtain ⟨RES, hRES⟩ : ∃ R, cellsS k nl (bn s) = R := ⟨_, rfl⟩
  rw [hRES]
  have HRES := hide hRES
  clear hRES
  have KR := hide (rd_new s)
  have KW := hide ways_any
  have HT := hide hT
  have HS := hide hs
  have HM := hide hm
  have hbl := bn_len s
  have hlef := few_le0 (bn s)
  have KU := hide (fun (R : Nat) (w : World) (h : Rd w R s 0 0) => ruvar_any R s 0 0 hm (by omega) w h)
  rcases hf : few (bn s) 0 with ⟨n, a, e0⟩
  rw [hf] at hlef
  have hst0 : st s 0 0 (fun D => few D 0) = (n, a, e0) := by rw [st_at, List.drop_zero, hf, Nat.zero_add]
  rw [hst0] at KU
  simp only at KU hlef
  have hnl : n < 18446744073709551616 := by
    have := few_lt64 (bn s)
    rw [hf] at this
    exact this
  have KMS := hide (fun (R : Nat) (hn : n ≤ 10000) (w : World) (h : Rd w R s a 0) => missing_any nm k nl R s hs a (by omega) n hn w h)
  have hC0 := Blk.new w #[.string nm, .int .i64 k, .bool nl] 23
  have hE0 := (Below.refl w.heap.size w).alloc (Nat.le_refl _) (.cells #[.string nm, .int .i64 k, .bool nl] 23)
  have HC0 := hide hC0
  have HE0 := hide hE0
  have HF := hide hf
  have HBL := hide hbl
  have HLE := hide hlef
  unfold colV at KMS ⊢
  clear hm hs hT hbl hst0 hC0 hE0 hf hlef
  go_enter Tryz.func15, Tryz.ntmps15
  go_wp2_with fail
  refine (KR.out _).mono ?_
  rintro e w1 ⟨R, rfl, hr1, hR, hb1⟩
  have HR : Hid (w.heap.size < R) := by show w.heap.size < R; simp at hR; omega
  have HC1 := hide (HC0.out.below hb1 HC0.out.lt)
  have HE1 := hide (HE0.out.trans (hb1.mono (by simp)))
  have KU1 := hide (KU.out R w1 hr1)
  clear hr1 hb1 hR HC0 HE0
  go_wp2_with fail
  refine KU1.out.mono ?_
  rintro e w2 ⟨rfl, hr2, hf2⟩
  have HE2 := hide (HE1.out.trans (hf2.belowQ HE1.out.size (by have := HR.out; omega)))
  have HC2 := hide (HC1.out.fr hf2 (by have := HR.out; omega))
  have HR2 := hide hr2
  have KE2 := hide (rerr_any R s a e0 w2 hr2)
  clear hr2 hf2 KU1 HC1 HE1
  by_cases he0 : e0 = 0
  · subst he0
    go_wp2_with fail
    refine KE2.out.mono ?_
    rintro e w2' ⟨rfl, rfl⟩
    by_cases hn : 10000 < n
    · obtain rfl : RES = (31, []) := HRES.out.symm.trans (cellsS_e2 HF.out hn)
      have hn' : decide ((10000 : Int) < (n : Int)) = true := by rw [decide_eq_true_eq]; omega
      have hn2 : decide (10000 < n) = true := by rw [decide_eq_true_eq]; omega
      go_wp2_with fail
      go_ret2
      exact ⟨_, rfl, inM_nil _, HE2.out⟩
    · have hn' : decide ((10000 : Int) < (n : Int)) = false := by rw [decide_eq_false_iff_not]; omega
      have hn2 : decide (10000 < n) = false := by rw [decide_eq_false_iff_not]; omega
      have hn3 : (n : Int) ≤ 10000 := by omega
      have hn4 : (0 : Int) ≤ (n : Int) := by omega
      have KM1 := hide (KMS.out R (by omega) w2 HR2.out)
      rcases hms : missS nl (bn s) a n with ⟨em, bits, pm⟩
      rw [hms] at KM1
      have HMS := hide hms
      have HNN := hide hn
      obtain ⟨c0, c1, c2⟩ := And.intro (HC2.out.cell 0) (And.intro (HC2.out.cell 1) (HC2.out.cell 2))
      simp at c0 c1 c2
      clear hms hn
      go_wp2_with fail
      refine KM1.out.mono ?_
      rintro e w3 ⟨⟨VB, rfl, hvb⟩, hrd, hf3⟩
      simp only at hvb hrd
      have HE3 := hide (HE2.out.trans (hf3.belowQ HE2.out.size (by have := HR.out; omega)))
      have HC3 := hide (HC2.out.fr hf3 (by have := HR.out; omega))
      clear hf3 c0 c1 c2 KM1
      by_cases hem : em = 0
      · subst hem
        have HVB := hide (hvb rfl)
        have HRD := hide (hrd rfl)
        clear hvb hrd
        have hpm : pm ≤ s.size := by
          have := missS_pos (nl := nl) (D := bn s) (a := a) (n := n) (by have := HLE.out; omega)
          rw [HMS.out] at this
          simp only at this
          have := HBL.out
          omega
        have K8 := hide (ru8_any R s pm 0 HM.out hpm w3 HRD.out)
        rw [st_at] at K8
        by_cases hend : (bn s).length ≤ pm
        · obtain rfl : RES = (10, []) := HRES.out.symm.trans (cellsS_e4 HF.out HNN.out HMS.out hend)
          rw [num1_end hend] at K8
          simp only at K8
          clear hend hpm
          go_wp2_with fail
          refine K8.out.mono ?_
          rintro e w4 ⟨rfl, hr4, hf4⟩
          have HE4 := hide (HE3.out.trans (hf4.belowQ HE3.out.size (by have := HR.out; omega)))
          have KE4 := hide (rerr_any R s (pm + 0) 10 w4 hr4)
          clear hr4 hf4 K8
          go_wp2_with fail
          refine KE4.out.mono ?_
          rintro e w4' ⟨rfl, rfl⟩
          go_wp2_with fail
          refine KE4.out.mono ?_
          rintro e w4' ⟨rfl, rfl⟩
          go_wp2_with fail
          go_ret2
          exact ⟨_, rfl, inM_nil _, HE4.out⟩
        · have hres := HRES.out.symm.trans (cellsS_e5 (k := k) HF.out HNN.out HMS.out hend)
          rw [num1_at hend] at K8
          simp only at K8
          have hxb : (bn s).getD pm 0 < 256 := by
            have hp : pm < (bn s).length := by omega
            rw [List.getD_eq_getElem?_getD, List.getElem?_eq_getElem hp]
            exact (bys_bn s HS.out).lt _ (List.getElem_mem hp)
          have hpm1 : pm + 1 ≤ s.size := by have := HBL.out; omega
          generalize hX : (bn s).getD pm 0 = X at *
          have HPM1 := hide hpm1
          have HRS := hide hres
          clear hend hpm hX hres hpm1
          have hx0 : (0 : Int) ≤ (X : Int) := by omega
          have hx1 : (X : Int) ≤ 255 := by omega
          go_wp2_with fail
          refine K8.out.mono ?_
          rintro e w4 ⟨rfl, hr4, hf4⟩
          have HE4 := hide (HE3.out.trans (hf4.belowQ HE3.out.size (by have := HR.out; omega)))
          have HC4 := hide (HC3.out.fr hf4 (by have := HR.out; omega))
          have HVB4 := hide (HVB.out.fr HRD.out hf4)
          have HR4 := hide hr4
          have KE4 := hide (rerr_any R s (pm + 1) 0 w4 hr4)
          clear hr4 hf4 K8 HVB HRD HE3 HC3
          go_wp2_with fail
          refine KE4.out.mono ?_
          rintro e w4' ⟨rfl, rfl⟩
          clear KE4
          by_cases hw : X < 1 ∨ 4 < X
          · have hb : backS X k ((bn s).drop (pm + 1)) ((bits.length : Int) - (cnt bits : Int)) = (14, []) := by
              unfold backS
              rw [if_neg (by omega), if_neg (by omega), if_neg (by omega), if_neg (by omega)]
            have hr2 := HRS.out
            rw [hb] at hr2
            obtain rfl : RES = (14, []) := by rw [hr2, if_pos (by decide)]
            rcases hw with hw | hw
            · have hd : decide ((X : Int) < 1) = true := by rw [decide_eq_true_eq]; omega
              have hdn : decide (X < 1) = true := by rw [decide_eq_true_eq]; omega
              clear hb hr2 hw HRS HRES
              go_wp2_with fail
              go_ret2
              exact ⟨_, rfl, inM_nil _, HE4.out⟩
            · have hd : decide ((X : Int) < 1) = false := by rw [decide_eq_false_iff_not]; omega
              have hdn : decide (X < 1) = false := by rw [decide_eq_false_iff_not]; omega
              have hd2 : decide (4 < (X : Int)) = true := by rw [decide_eq_true_eq]; omega
              have hdn2 : decide (4 < X) = true := by rw [decide_eq_true_eq]; omega
              clear hb hr2 hw HRS HRES
              go_wp2_with fail
              go_ret2
              exact ⟨_, rfl, inM_nil _, HE4.out⟩
          · have hd : decide ((X : Int) < 1) = false := by rw [decide_eq_false_iff_not]; omega
            have hdn : decide (X < 1) = false := by rw [decide_eq_false_iff_not]; omega
            have hd2 : decide (4 < (X : Int)) = false := by rw [decide_eq_false_iff_not]; omega
            have hdn2 : decide (4 < X) = false := by rw [decide_eq_false_iff_not]; omega
            obtain ⟨F, hidx, hent, hfn⟩ := way_fn X (by omega) (by omega)
            have HFN := hide hfn
            have HIX := hide hidx
            have hbd : ∀ b ∈ (bn s).drop (pm + 1), b < 256 := ((bys_bn s HS.out).drop _).lt
            have hle : (strN ((bn s).drop (pm + 1))).size ≤ maxLen := by rw [strN_size, List.length_drop]; have := HM.out; have := HBL.out; omega
            have KF := hide (fun (n : Int) (w : World) (hT : Tabs w) => HFN.out k (strN ((bn s).drop (pm + 1))) hle n w hT)
            rw [bn_strN _ hbd] at KF
            have KLF := hide (fun (w : World) (h : Rd w R s (pm + 1) 0) => rleft_any R s (pm + 1) 0 HM.out HPM1.out w h)
            have KRW := hide (fun (w : World) (h : Rd w R s (pm + 1) 0) => rraw_any R s (pm + 1) 0 ((s.size - (pm + 1) : Nat) : Int) (by have := HS.out; omega) HM.out HPM1.out w h)
            rw [rest_raw] at KRW
            simp only at KRW
            have KCT := hide (fun (w : World) (h : SlB w VB bits) => count_any bits VB w h)
            have HDEC := hide (backS_dec X k h1 h6 ((bn s).drop (pm + 1)) ((bys_bn s HS.out).drop _) ((bits.length : Int) - (cnt bits : Int)))
            have hml := missS_len (nl := nl) (D := bn s) (a := a) (n := n) (by have := HNN.out; omega)
            rw [HMS.out] at hml
            have hbl := (hml rfl).1
            have HBLN := hide hbl
            have hcb : cnt bits ≤ bits.length := by unfold cnt; exact cntTo_le _ _
            have HCB := hide hcb
            have hcb0 : (cnt bits : Int) ≤ (bits.length : Int) := by omega
            have hbl1 : (bits.length : Int) ≤ 10000 := by simp only at hbl; omega
            obtain ⟨Ab, cb, hVB, _⟩ := HVB4.out.form
            subst hVB
            have hfl : ∀ (X : Value) (w : World), (Instr.field 103 (.agg #[X, .func (.func F) #[] #[]]) 1).run Tryz.prog w = .ok (.func (.func F) #[] #[]) w := fun X w => by kernel_rfl
            generalize strN ((bn s).drop (pm + 1)) = SD at *
            obtain ⟨dn, hdn'⟩ : ∃ dn : Nat, bits.length - cnt bits = dn := ⟨_, rfl⟩
            have hsub : ((bits.length : Int) - (cnt bits : Int)) = (dn : Int) := by omega
            have hsub1 : (dn : Int) ≤ 10000 := by omega
            have HDN := hide hdn'
            have hwr : IntKind.i64.wrap (dn : Int) = (dn : Int) := by rw [IntKind.wrap_i64]; omega
            rw [hsub] at HRS HDEC
            generalize hbk : backS X k ((bn s).drop (pm + 1)) (dn : Int) = BK at *
            have HBK := hide hbk
            clear hbk
            clear hw hfn hidx hbd hle HFN hml hbl hcb hdn'
            have k4 := HC4.out.cell 1
            simp at k4
            have HW5 := hide (fun (w5 : World) (hb5 : Below w4.drew.heap.size w4.drew w5) => And.intro (show Rd w5 R s (pm + 1) 0 from Rd.below (Blk.drew HR4.out) hb5) (HC4.out.drew.below hb5 HC4.out.drew.lt))
            have HV6 := hide (fun (w5 w6 : World) (hb5 : Below w4.drew.heap.size w4.drew w5) (hb6 : Below w5.heap.size w5 w6) => show SlB w6 _ bits from InSl.below HVB4.out ((Below.refl w4.heap.size w4).drew.trans (hb5.trans (hb6.mono hb5.size))))
            have HE6 := hide (fun (w5 w6 : World) (hb5 : Below w4.drew.heap.size w4.drew w5) (hb6 : Below w5.heap.size w5 w6) => show Below w.heap.size w w6 from HE4.out.drew.trans ((hb5.trans (hb6.mono hb5.size)).mono HE4.out.size))
            have HX7 := hide (fun (w6 w7 : World) (he : Below w.heap.size w w6) (hc : Blk w6 w.heap.size 23 #[.string nm, .int .i64 k, .bool nl]) (hf : Fr w6 w7 (fun k => k = R)) => And.intro (show Below w.heap.size w w7 from he.trans (hf.belowQ he.size (by have := HR.out; omega))) (show Blk w7 w.heap.size 23 #[.string nm, .int .i64 k, .bool nl] from hc.fr hf (by have := HR.out; omega)))
            have HTX := hide (fun (w7 : World) (he : Below w.heap.size w w7) => HT.out.below he)
            go_wp2_with fail
            go_region_held3 (fun w' => w'.cell? ⟨w.heap.size, 1, none⟩ = some (.int .i64 k)) (first | go_keep | assumption) (first
              | (go_at_call 51; refine (KW.out _).mono ?_; rintro e w5 ⟨⟨p1, p2, p3, rfl, _, _, _⟩, hb5⟩; obtain ⟨XX, hXX⟩ := HIX.out p1 p2 p3; obtain ⟨hR5, hC5⟩ := HW5.out w5 hb5; have k5 := hC5.cell 1; simp at k5)
              | (go_at_call 53; refine (KLF.out _ hR5).mono ?_; rintro e w6 ⟨rfl, hb6⟩; have hR6 := hR5.below hb6; have hC6 := hC5.below hb6 hC5.lt; have k6 := hC6.cell 1; simp at k6)
              | (go_at_call 52; refine (KRW.out _ hR6).mono ?_; rintro e w7 ⟨rfl, hr7, hf7⟩; have hv7 := (HV6.out _ _ hb5 hb6).fr hR6 hf7; obtain ⟨hE7, hC7⟩ := HX7.out _ _ (HE6.out _ _ hb5 hb6) hC6 hf7; have k7 := hC7.cell 1; simp at k7)
              | (go_at_call 54; refine (KCT.out _ hv7).mono ?_; rintro e w8 ⟨rfl, rfl⟩)
              | (go_at_fn F; refine (KF.out _ _ (HTX.out _ hE7)).mono ?_; rintro e w9 ⟨VC, rfl, hvc, hb9⟩; have k9 := (hC7.below hb9 hC7.lt).cell 1; simp at k9))
            all_goals
              rw [HBK.out] at hvc ⊢
              have HE9 := hide (hE7.trans (hb9.mono hE7.size))
              have HV9 := hide (show SlB w9 _ bits from InSl.below hv7 hb9)
              have HVC := hide hvc
              clear hb5 hb6 hb9 hR5 hC5 hR6 hC6 hC7 hE7 hv7 hr7 hf7 hvc k5 k6 k7 k9
              by_cases hbz : BK.1 = 0
              · have hl := HDEC.out.len hbz
                have KSP := hide (nspread_any bits BK.2 (by omega) (by have := HCB.out; have := HDN.out; omega) _ VC w9 HV9.out HVC.out)
                have hr2 := HRS.out
                rw [if_neg (by simp [hbz])] at hr2
                rw [hbz]
                have HR2' := hide hr2
                clear hl hr2
                go_wp2_with fail
                refine KSP.out.mono ?_
                rintro e w10 ⟨⟨V, rfl, hV⟩, hb10⟩
                have HVM := hide hV
                have HE10 := hide (HE9.out.trans (hb10.mono HE9.out.size))
                clear hV hb10
                go_wp2_with fail
                go_ret2
                rw [HR2'.out]
                exact ⟨_, rfl, HVM.out, HE10.out⟩
              · have hr2 := HRS.out
                rw [if_pos hbz] at hr2
                have HR2' := hide hr2
                have hz : ((BK.1 : Int) == 0) = false := by rw [beq_eq_false_iff_ne]; omega
                clear hr2
                go_wp2_with fail
                go_ret2
                rw [HR2'.out]
                exact ⟨_, rfl, inM_nil _, HE9.out⟩
      · obtain rfl : RES = (em, []) := HRES.out.symm.trans (cellsS_e3 HF.out HNN.out HMS.out hem)
        have hz : ((em : Int) == 0) = false := by rw [beq_eq_false_iff_ne]; omega
        clear hvb hrd
        go_wp2_with fail
        go_ret2
        exact ⟨_, rfl, inM_nil _, HE3.out⟩
  · obtain rfl : RES = (e0, []) := HRES.out.symm.trans (cellsS_e1 HF.out he0)
    have hz : ((e0 : Int) == 0) = false := by rw [beq_eq_false_iff_ne]; omega
    go_wp2_with fail
    refine KE2.out.mono ?_
    rintro e w2' ⟨rfl, rfl⟩
    go_wp2_with fail
    refine KE2.out.mono ?_
    rintro e w2' ⟨rfl, rfl⟩
    go_wp2_with fail
    go_ret2
    exact ⟨_, rfl, inM_nil _, HE2.out⟩
end Go.Proofs.YtfkgmodgkifelaaGreatDoor
namespace Go.Proofs.YtfkgmodgkifelaaGreatDoor
open Go.RowKit

theorem cnt_zero {bits : List Bool} (h : cnt bits = 0) (i : Nat) : bits.getD i false = false := by
  by_cases hi : i < bits.length
  · have h1 := (there_le bits (i + 1)).1
    cases hb : bits.getD i false
    · rfl
    · exfalso
      have h2 : ∀ d, cntTo bits i + 1 ≤ cntTo bits (i + 1 + d) := by
        intro d
        induction d with
        | zero => rw [Nat.add_zero, cntTo_succ, bit_true hb]; exact Nat.le_refl _
        | succ d ih => rw [show i + 1 + (d + 1) = (i + 1 + d) + 1 by omega, cntTo_succ]; omega
      have h3 := h2 (bits.length - (i + 1))
      rw [show i + 1 + (bits.length - (i + 1)) = bits.length by omega] at h3
      unfold cnt at h
      omega
  · rw [List.getD_eq_getElem?_getD, List.getElem?_eq_none (by omega)]; rfl
/-- The cells of a stream may be of its column, and are not too many. -/
theorem cellsS_ok {k : Int} (h1 : 1 ≤ k) (h6 : k ≤ 6) {nl : Bool} {D : List Nat} (hD : Bys D) (h : (cellsS k nl D).1 = 0) : (cellsS k nl D).2.length ≤ 10000 ∧ ∀ c ∈ (cellsS k nl D).2, okM nl k c := by
  rcases hf : few D 0 with ⟨n, a, e0⟩
  by_cases he0 : e0 = 0
  · subst he0
    by_cases hn : 10000 < n
    · rw [cellsS_e2 hf hn] at h; cases h
    · rcases hm : missS nl D a n with ⟨em, bits, pm⟩
      by_cases hem : em = 0
      · subst hem
        by_cases hp : D.length ≤ pm
        · rw [cellsS_e4 hf hn hm hp] at h; cases h
        · rw [cellsS_e5 hf hn hm hp] at h ⊢
          have hl := missS_len (nl := nl) (D := D) (a := a) (n := n) (by omega) (by rw [hm])
          rw [hm] at hl
          simp only at hl
          have hdec := backS_dec (D.getD pm 0) k h1 h6 (D.drop (pm + 1)) (hD.drop _) ((bits.length : Int) - (cnt bits : Int))
          generalize backS (D.getD pm 0) k (D.drop (pm + 1)) ((bits.length : Int) - (cnt bits : Int)) = BK at *
          by_cases hb : BK.1 = 0
          · rw [if_neg (by simp [hb])]
            simp only
            refine ⟨by rw [spr_len, hl.1]; omega, fun c hc => ?_⟩
            unfold spr at hc
            obtain ⟨i, hi, rfl⟩ := List.mem_map.1 hc
            unfold spc okM
            by_cases hbi : bits.getD i false = true
            · rw [if_pos hbi, if_pos rfl]
              refine ⟨?_, rfl⟩
              cases nl
              · have := cnt_zero (hl.2 rfl) i
                rw [hbi] at this; cases this
              · rfl
            · rw [if_neg hbi, if_neg (by simp)]
              rw [List.getD_eq_getElem?_getD]
              cases hq : BK.2[i - cntTo bits i]? with
              | none => exact pur_z k
              | some x => exact hdec.pur x (List.mem_of_getElem? hq)
          · rw [if_pos hb] at h; exact absurd h hb
      · rw [cellsS_e3 hf hn hm hem] at h; exact absurd h hem
  · rw [cellsS_e1 hf he0] at h; exact absurd h he0
/-- The cells of a column's stream, or why none. -/
def cdecS (nm : ByteArray) (k : Int) (nl : Bool) (s : ByteArray) : Nat × List MC :=
  if colE nm k ≠ 0 then (30, []) else if (cellsS k nl (bn s)).1 ≠ 0 then ((cellsS k nl (bn s)).1, [])
  else if 1048576 < tbm (cellsS k nl (bn s)).2 ∨ encC k nl (cellsS k nl (bn s)).2 ≠ s then (12, []) else (0, (cellsS k nl (bn s)).2)
theorem colE_or (nm : ByteArray) (k : Int) : colE nm k = 0 ∨ colE nm k = 30 := by unfold colE; split <;> simp
theorem colE_k {nm : ByteArray} {k : Int} (h : colE nm k = 0) : 1 ≤ k ∧ k ≤ 6 := by
  unfold colE at h
  split at h
  · cases h
  · rename_i hn
    constructor
    · apply Classical.byContradiction
      intro hk
      exact hn (.inr (.inr (.inr (.inl (by omega)))))
    · apply Classical.byContradiction
      intro hk
      exact hn (.inr (.inr (.inr (.inr (by omega)))))
theorem str_neq {a b : ByteArray} (h : a ≠ b) : (a.toList == b.toList) = false := by
  rw [beq_eq_false_iff_ne]
  intro he
  rw [ByteArray.toList_eq, ByteArray.toList_eq] at he
  exact h (WideShapes.bytes_inj he)
set_option maxHeartbeats 4000000 in
set_option maxRecDepth 100000 in
theorem cdecode_any (nm : ByteArray) (hnm : nm.size ≤ maxLen) (k : Int) (nl : Bool) (s : ByteArray) (hs : s.size ≤ 600) (w : World) (hT : Tabs w) :
    Calls Tryz.prog 6 #[colV nm k nl, .string s] w (DPostM w (cdecS nm k nl s)) := by
  obtain ⟨RES, hRES⟩ : ∃ R, cdecS nm k nl s = R := ⟨_, rfl⟩
  rw [hRES]
  have HRES := hide hRES
  have HB := hide (fun o1 o2 => ((Below.refl w.heap.size w).alloc (Nat.le_refl _) o1).alloc (by simp) o2)
  have KC := hide (fun o1 => columns_gen nm hnm k nl (w.heap.size + 1) 1 _ (hT.below (HB.out o1 (.cells #[.string nm, .int .i64 k, .bool nl] 23))) ((blk_n2 w _ _ _).cell 0) ((blk_n2 w _ _ _).cell 1) ((blk_n2 w _ _ _).cell 2))
  have hC0 := (Blk.new w #[.string nm, .int .i64 k, .bool nl] 23).alloc (.cells #[.string nm, .int .i64 k, .bool nl] 23)
  have HC0 := hide hC0
  have HT := hide hT
  clear hRES hC0 hT
  rcases colE_or nm k with hce | hce
  · obtain ⟨h1, h6⟩ := colE_k hce
    obtain ⟨kn, rfl⟩ : ∃ kn : Nat, k = kn := ⟨k.toNat, by omega⟩
    have KCE := hide (fun w hT => cells_any nm kn (by omega) (by omega) nl s hs w hT)
    rcases hcs : cellsS kn nl (bn s) with ⟨er, l⟩
    have hok := cellsS_ok (k := kn) (nl := nl) (by omega) (by omega) (bys_bn s hs)
    rw [hcs] at KCE hok
    simp only at hok
    rw [hce] at KC
    have HOK := hide hok
    have KEN := hide (fun (he : er = 0) (V : Value) (w : World) hT hV => encode_col nm hnm kn (by omega) (by omega) nl hce l (hok he).1 (hok he).2 V w hT hV)
    have hdef : RES = if er ≠ 0 then (er, []) else if 1048576 < tbm l ∨ encC kn nl l ≠ s then (12, []) else (0, l) := by
      rw [← HRES.out]
      unfold cdecS
      rw [if_neg (by simp [hce]), hcs]
    have HDEF := hide hdef
    clear hdef hok hnm hs hce hcs HRES
    unfold colV at KCE KEN ⊢
    go_enter Tryz.func6, Tryz.ntmps6
    go_wp2_with fail
    refine (KC.out _).mono ?_
    rintro e w1 ⟨rfl, hb1⟩
    have HC1 := hide (HC0.out.below hb1 (by simp; omega))
    have HE1 := hide ((HB.out _ _).trans (hb1.mono (by simp; omega)))
    have KCE1 := hide (KCE.out w1 (HT.out.below HE1.out))
    have k0 := HC1.out.cell 0
    have k1 := HC1.out.cell 1
    have k2 := HC1.out.cell 2
    simp at k0 k1 k2
    clear hb1
    go_wp2_with fail
    refine KCE1.out.mono ?_
    rintro e w2 ⟨V, rfl, hV, hb2⟩
    have HV2 := hide hV
    have HC2 := hide (HC1.out.below hb2 HC1.out.lt)
    have HE2 := hide (HE1.out.trans (hb2.mono HE1.out.size))
    clear hV hb2 KCE1 k0 k1 k2
    simp only at HV2
    by_cases he : er = 0
    · subst he
      have KEN1 := hide (KEN.out rfl V w2 (HT.out.below HE2.out) HV2.out)
      have hd := HDEF.out
      rw [if_neg (by simp)] at hd
      have HD := hide hd
      have k0 := HC2.out.cell 0
      have k1 := HC2.out.cell 1
      have k2 := HC2.out.cell 2
      simp at k0 k1 k2
      clear hd HDEF
      by_cases htb : 1048576 < tbm l
      · have hd := HD.out
        rw [if_pos (.inl htb)] at hd
        subst hd
        rw [if_pos htb] at KEN1
        clear htb
        go_wp2_with fail
        refine KEN1.out.mono ?_
        rintro e w3 ⟨rfl, hb3⟩
        have HE3 := hide (HE2.out.trans (hb3.mono HE2.out.size))
        clear hb3
        go_wp2_with fail
        go_ret2
        exact ⟨_, rfl, inM_nil _, HE3.out⟩
      · rw [if_neg htb] at KEN1
        by_cases hse : encC kn nl l = s
        · have hd := HD.out
          rw [if_neg (fun h => h.elim htb (fun h => h hse))] at hd
          subst hd
          rw [hse] at KEN1
          have hq : (s.toList == s.toList) = true := beq_self_eq_true _
          clear htb hse HD KEN
          go_wp2_with fail
          refine KEN1.out.mono ?_
          rintro e w3 ⟨rfl, hb3⟩
          have HV3 := hide (HV2.out.below hb3)
          have HE3 := hide (HE2.out.trans (hb3.mono HE2.out.size))
          clear hb3
          go_wp2_with fail
          go_ret2
          exact ⟨_, rfl, HV3.out, HE3.out⟩
        · have hd := HD.out
          rw [if_pos (.inr hse)] at hd
          subst hd
          have hq := str_neq hse
          have hq2 : (encC kn nl l).toList ≠ s.toList := by rwa [beq_eq_false_iff_ne] at hq
          have hq3 : ((encC kn nl l).toList != s.toList) = true := by rw [bne_iff_ne]; exact hq2
          generalize encC kn nl l = T at *
          clear htb hse HD KEN hq2
          go_wp2_with fail
          refine KEN1.out.mono ?_
          rintro e w3 ⟨rfl, hb3⟩
          have HE3 := hide (HE2.out.trans (hb3.mono HE2.out.size))
          clear hb3
          go_wp2_with fail
          go_ret2
          exact ⟨_, rfl, inM_nil _, HE3.out⟩
    · have hd := HDEF.out
      rw [if_pos he] at hd
      subst hd
      have hz : ((er : Int) == 0) = false := by rw [beq_eq_false_iff_ne]; omega
      clear he HDEF KEN
      go_wp2_with fail
      go_ret2
      exact ⟨_, rfl, inM_nil _, HE2.out⟩
  · obtain rfl : RES = (30, []) := by
      rw [← HRES.out]
      unfold cdecS
      rw [if_pos (by rw [hce]; decide)]
    rw [hce] at KC
    clear HRES hce hnm hs
    unfold colV
    go_enter Tryz.func6, Tryz.ntmps6
    go_wp2_with fail
    refine (KC.out _).mono ?_
    rintro e w1 ⟨rfl, hb1⟩
    have HE1 := hide ((HB.out _ _).trans (hb1.mono (by simp; omega)))
    clear hb1
    go_wp2_with fail
    go_ret2
    exact ⟨_, rfl, inM_nil _, HE1.out⟩
end Go.Proofs.YtfkgmodgkifelaaGreatDoor
namespace Go.Proofs.YtfkgmodgkifelaaGreatDoor
open Go.RowKit

/-- The row behind the edit ahead of one. -/
def nxE (l : List Ed) : Nat → Nat
  | 0 => 0
  | i + 1 => match l[i]? with
    | some e => e.1 + 1
    | none => 0
theorem nxE_succ {l : List Ed} {i : Nat} {e : Ed} (h : l[i]? = some e) : nxE l (i + 1) = e.1 + 1 := by simp [nxE, h]
theorem nxE_app {l m : List Ed} {i : Nat} (h : i ≤ l.length) : nxE (l ++ m) i = nxE l i := by
  cases i with
  | zero => rfl
  | succ i => simp only [nxE]; rw [List.getElem?_append_left (by omega)]
/-- A cell that an edit brings. -/
def EdC (k : Int) (c : MC) : Prop := if c.1 = true then c.2 = CD.z else Pur k c.2
/-- Edits as they are read: rows that rise, below a number; cells of the kind. -/
structure EdsOk (k : Int) (rows : Nat) (l : List Ed) : Prop where
  row : ∀ i x, l[i]? = some x → nxE l i ≤ x.1 ∧ x.1 < rows
  cel : ∀ x ∈ l, EdC k x.2
theorem edsOk_nil (k : Int) (rows : Nat) : EdsOk k rows [] := ⟨fun i x h => by simp at h, fun x h => by cases h⟩
theorem EdsOk.snoc {k : Int} {rows : Nat} {l : List Ed} (h : EdsOk k rows l) {x : Ed} (h1 : nxE l l.length ≤ x.1) (h2 : x.1 < rows) (h3 : EdC k x.2) : EdsOk k rows (l ++ [x]) := by
  refine ⟨fun i y hy => ?_, fun y hy => ?_⟩
  · by_cases hi : i < l.length
    · rw [List.getElem?_append_left hi] at hy
      rw [nxE_app (by omega)]
      exact h.row i y hy
    · rw [List.getElem?_append_right (by omega)] at hy
      have h0 : i = l.length := by
        by_cases h0 : i - l.length = 0
        · omega
        · rw [List.getElem?_eq_none (by simp; omega)] at hy; cases hy
      subst h0
      simp at hy
      subst hy
      rw [nxE_app (Nat.le_refl _)]
      exact ⟨h1, h2⟩
  · rcases List.mem_append.1 hy with hy | hy
    · exact h.cel y hy
    · rw [List.mem_singleton] at hy; rw [hy]; exact h3
theorem nxE_le {k : Int} {rows : Nat} {l : List Ed} (h : EdsOk k rows l) (i : Nat) : nxE l i ≤ rows := by
  cases i with
  | zero => exact Nat.zero_le _
  | succ i =>
    simp only [nxE]
    cases hq : l[i]? with
    | none => exact Nat.zero_le _
    | some e => exact (h.row i e hq).2
theorem edGo_ok (k : Int) (h1 : 1 ≤ k) (h6 : k ≤ 6) (rows : Nat) : ∀ (n : Nat) (D : List Nat) (acc : List Ed) (rest : List Nat) (l : List Ed), Bys D → EdsOk k rows acc → edGo k rows n D (nxE acc acc.length) acc = (0, rest, l) → EdsOk k rows l := by
  intro n
  induction n with
  | zero =>
    intro D acc rest l _ ha h
    injection h with _ h
    injection h with _ h2
    rw [← h2]; exact ha
  | succ n ih =>
    intro D acc rest l hD ha h
    have hnl := nxE_le ha acc.length
    generalize hN : nxE acc acc.length = N at *
    unfold edGo at h
    generalize (few D 0).1 = x at *
    generalize (few D 0).2.1 = a at *
    generalize (few D 0).2.2 = e at *
    have hsn : ∀ y : Ed, nxE (acc ++ [y]) (acc ++ [y]).length = y.1 + 1 := fun y => by
      rw [List.length_append, List.length_singleton]
      exact nxE_succ (by simp)
    split at h
    · rename_i he; injection h with h _; exact absurd h he
    · split at h
      · cases h
      · split at h
        · cases h
        · rename_i h3
          split at h
          · refine ih (D.drop (a + 1)) (acc ++ [(N + x, (true, CD.z))]) rest l (hD.drop _) (ha.snoc (by rw [hN]; exact Nat.le_add_right _ _) (by show N + x < rows; omega) (by unfold EdC; rw [if_pos rfl])) ?_
            rw [hsn]; exact h
          · split at h
            · rename_i he; injection h with h _; exact absurd h he
            · refine ih ((D.drop (a + 1)).drop (gp k (D.drop (a + 1))).2.1) (acc ++ [(N + x, (false, (gp k (D.drop (a + 1))).1))]) rest l ((hD.drop _).drop _) (ha.snoc (by rw [hN]; exact Nat.le_add_right _ _) (by show N + x < rows; omega) (by unfold EdC; rw [if_neg (by simp)]; exact gp_pur k h1 h6 _ (hD.drop _))) ?_
              rw [hsn]; exact h
/-- The bytes of edits, one by one. -/
theorem edsB_app (k : Int) : ∀ (l m : List Ed) (next : Nat), edsB k next (l ++ m) = edsB k next l ++ edsB k (match l.getLast? with | some e => e.1 + 1 | none => next) m := by
  intro l
  induction l with
  | nil => intro m next; rfl
  | cons a l ih =>
    intro m next
    rw [List.cons_append, edsB, edsB, ih, List.append_assoc]
    congr 2
    cases l with
    | nil => rfl
    | cons b l => rfl
theorem edsB_take {k : Int} {l : List Ed} {i : Nat} {e : Ed} (h : l[i]? = some e) : edsB k 0 (l.take (i + 1)) = edsB k 0 (l.take i) ++ edB k (nxE l i) e := by
  rw [take_at h, edsB_app]
  have hi := (List.getElem?_eq_some_iff.1 h).1
  have : (match (l.take i).getLast? with | some e => e.1 + 1 | none => 0) = nxE l i := by
    cases i with
    | zero => rfl
    | succ i =>
      have hg : l[i]? = some (l[i]'(by omega)) := List.getElem?_eq_getElem _
      rw [take_at hg, List.getLast?_append]
      simp [nxE, hg]
  rw [this]
  simp [edsB]
theorem edB_len {k : Int} {next : Nat} {e : Ed} (h : EdC k e.2) (hr : e.1 < 18446744073709551616) : (edB k next e).length ≤ 2000 := by
  have hu := uvar_len10 (x := e.1 - next) (by omega)
  unfold edB
  rw [List.length_append]
  split
  · simp; omega
  · rename_i hn
    unfold EdC at h
    rw [if_neg hn] at h
    have := cellB_len k h.kg
    have := h.tb
    simp only [List.length_cons]
    omega
theorem edsB_len {k : Int} : ∀ (l : List Ed) (next : Nat), (∀ e ∈ l, EdC k e.2 ∧ e.1 < 18446744073709551616) → (edsB k next l).length ≤ 2000 * l.length := by
  intro l
  induction l with
  | nil => intro next _; simp [edsB]
  | cons a l ih =>
    intro next h
    have h1 := edB_len (next := next) (h a (by simp)).1 (h a (by simp)).2
    have h2 := ih (a.1 + 1) (fun e he => h e (by simp [he]))
    rw [edsB, List.length_append, List.length_cons]
    omega
end Go.Proofs.YtfkgmodgkifelaaGreatDoor
