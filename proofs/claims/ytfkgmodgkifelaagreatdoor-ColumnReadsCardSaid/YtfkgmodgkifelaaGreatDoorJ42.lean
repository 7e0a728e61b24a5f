/- Columns: a column's stream read, the document. -/
import Derived.Test.YtfkgmodgkifelaaGreatDoorJ41
namespace Go.Proofs.YtfkgmodgkifelaaGreatDoor
open Go.RowKit

theorem bn_cut (s : ByteArray) (a b : Nat) : bn (s.extract a b) = ((bn s).drop a).take (b - a) := by
  simp only [bn, ByteArray.data_extract, Array.toList_extract, List.extract_eq_take_drop, List.map_take, List.map_drop]
set_option maxHeartbeats 8000000 in
set_option maxRecDepth 100000 in
theorem scdecode_any (nm : ByteArray) (hnm : nm.size ≤ maxLen) (k : Int) (nl : Bool) (s : ByteArray) (hs : s.size ≤ 600) (w : World) (hT : Tabs w) :
    Calls Tryz.prog 7 #[colV nm k nl, .string s] w (DPostM w (cdecS nm k nl s)) := by
  obtain ⟨RES, hRES⟩ : ∃ R, cdecS nm k nl s = R := ⟨_, rfl⟩
  rw [hRES]
  have HRES := hide hRES
  have HB := hide (fun o1 o2 => ((Below.refl w.heap.size w).alloc (Nat.le_refl _) o1).alloc (by simp) o2)
  have KC := hide (fun o1 => scolumns_gen nm hnm k nl (w.heap.size + 1) 1 _ (hT.below (HB.out o1 (.cells #[.string nm, .int .i64 k, .bool nl] 23))) ((blk_n2 w _ _ _).cell 0) ((blk_n2 w _ _ _).cell 1) ((blk_n2 w _ _ _).cell 2))
  have hC0 := (Blk.new w #[.string nm, .int .i64 k, .bool nl] 23).alloc (.cells #[.string nm, .int .i64 k, .bool nl] 23)
  have HC0 := hide hC0
  have HT := hide hT
  have hm : s.size ≤ maxLen := Nat.le_trans hs (by simp [maxLen])
  clear hRES hC0 hT
  rcases colE_or nm k with hce | hce
  · obtain ⟨h1, h6⟩ := colE_k hce
    have KFW := hide (fun w => sfew_any s hm w)
    have hdef : RES = if (cellsS k nl (bn s)).1 ≠ 0 then ((cellsS k nl (bn s)).1, []) else if 1048576 < tbm (cellsS k nl (bn s)).2 ∨ encC k nl (cellsS k nl (bn s)).2 ≠ s then (12, []) else (0, (cellsS k nl (bn s)).2) := by
      rw [← HRES.out]
      unfold cdecS
      rw [if_neg (by simp [hce])]
    have HDEF := hide hdef
    rw [hce, show ((0 : Nat) == 0) = true from rfl] at KC
    have KCK := hide (fun (l : List MC) (hl : l.length ≤ 10000) (hok : ∀ c ∈ l, okM nl k c) (V : Value) (w : World) hT hV => scheck12 nm hnm k h1 h6 nl hce l hl hok V w hT hV)
    have KEN := hide (fun (l : List MC) (hl : l.length ≤ 10000) (hok : ∀ c ∈ l, okM nl k c) (ht : tbm l ≤ 1048576) (V : Value) (w : World) hV => sencode_col nm k h1 h6 nl l hl hok ht V w hV)
    have HOKS := hide (fun (h : (cellsS k nl (bn s)).1 = 0) => cellsS_ok h1 h6 (bys_bn s hs) h)
    have HS := hide hs
    have HM := hide hm
    have HBL := hide (bn_len s)
    have hlef := few_le0 (bn s)
    rcases hf : few (bn s) 0 with ⟨n, a, e0⟩
    have hnl : n < 18446744073709551616 := by
      have := few_lt64 (bn s)
      rw [hf] at this
      exact this
    rw [hf] at hlef KFW
    simp only at hlef KFW
    have HF := hide hf
    have HLE := hide hlef
    unfold colV at KCK KEN ⊢
    clear hdef HRES hf hlef hce hnm hm hs
    go_enter Tryz.func7, Tryz.ntmps7
    go_wp2_with fail
    refine (KC.out _).mono ?_
    rintro e w1 ⟨rfl, hb1⟩
    have HC3 := hide (HC0.out.below hb1 (by simp; omega))
    have HE3 := hide ((HB.out _ _).trans (hb1.mono (by simp; omega)))
    have hc2 := HC3.out.cell 2
    simp at hc2
    clear hb1
    go_wp2_with fail
    refine (KFW.out _).mono ?_
    rintro e w1' ⟨rfl, rfl⟩
    by_cases he0 : e0 = 0
    · subst he0
      by_cases hn : 10000 < n
      · obtain rfl : RES = (31, []) := by
          have h := HDEF.out
          rw [cellsS_e2 HF.out hn, if_pos (by decide)] at h
          exact h
        have hn' : decide ((10000 : Int) < (n : Int)) = true := by rw [decide_eq_true_eq]; omega
        have hn2 : decide (10000 < n) = true := by rw [decide_eq_true_eq]; omega
        go_wp2_with fail
        go_ret2
        exact ⟨_, rfl, inM_nil _, HE3.out⟩
      · have hn' : decide ((10000 : Int) < (n : Int)) = false := by rw [decide_eq_false_iff_not]; omega
        have hn2 : decide (10000 < n) = false := by rw [decide_eq_false_iff_not]; omega
        have hn3 : (n : Int) ≤ 10000 := by omega
        have hn4 : (0 : Int) ≤ (n : Int) := by omega
        have hmk := run_make_row' (P := Tryz.prog) 50 4 (.bool false) 1 Tryz.underlying50 info_bool rfl .i64 .i64 n (by omega) (by omega)
        have HSR := hide (slB_rep w1 n (by omega) _ rfl)
        have HNN := hide hn
        have has : a ≤ s.size := by have := HLE.out; have := HBL.out; omega
        generalize madeCells #[Value.bool false] n = CZ at *
        cases nl
        · have HMS : Hid (missS false (bn s) a n = (0, List.replicate n false, a)) := rfl
          have HPM := hide has
          have HBIT : Hid (∀ i, i < n → (w1.alloc (.cells CZ 4)).cell? ⟨w1.heap.size, i, none⟩ = some (.bool ((List.replicate n false).getD i false))) := by
            show ∀ i, i < n → _
            intro i hi
            obtain ⟨A', c', hA', hb'⟩ := HSR.out.form
            obtain ⟨g', o', h1', _, h2'⟩ := hb' i (by simpa using hi)
            injection hA' with hA' _ _
            rw [h1'] at hA'
            injection hA' with hA'
            injection hA' with hA1 hA2
            rw [← hA1, ← hA2, Nat.zero_add] at h2'
            exact h2'
          have HVB := hide HSR.out
          have hzz : w.heap.size < w1.heap.size := HC3.out.lt
          have HE3' := hide (HE3.out.alloc HE3.out.size (.cells CZ 4))
          have HC3' := hide (HC3.out.alloc (.cells CZ 4))
          clear HE3 HC3 HSR
          have HE3 := HE3'
          have HC3 := HC3'
          generalize hbits : List.replicate n false = bits at *
          clear hn hbits HE3' HC3'
          have hpm : a ≤ s.size := HPM.out
          by_cases hend : (bn s).length ≤ a
          · obtain rfl : RES = (10, []) := by
              have h := HDEF.out
              rw [cellsS_e4 HF.out HNN.out HMS.out hend] at h
              rw [if_pos (by decide)] at h
              exact h
            have hge : decide ((s.size : Int) ≤ (a : Int)) = true := by rw [decide_eq_true_eq]; have := HBL.out; omega
            have hgen : decide (s.size ≤ a) = true := by rw [decide_eq_true_eq]; have := HBL.out; omega
            clear hend hpm HDEF
            go_wp2_with fail
            go_ret2
            exact ⟨_, rfl, inM_nil _, HE3.out⟩
          · have hlt : a < s.size := by have := HBL.out; omega
            have hge : decide ((s.size : Int) ≤ (a : Int)) = false := by rw [decide_eq_false_iff_not]; omega
            have hgen : decide (s.size ≤ a) = false := by rw [decide_eq_false_iff_not]; omega
            have hres := HDEF.out
            have e5 := cellsS_e5 (k := k) HF.out HNN.out HMS.out hend
            have hX : (bn s).getD a 0 = (s[a]'hlt).toNat := by
              have hp : a < (bn s).length := by have := HBL.out; omega
              rw [List.getD_eq_getElem?_getD, List.getElem?_eq_getElem hp]
              simp [bn]
              rfl
            rw [hX] at e5
            have hml := missS_len (nl := false) (D := bn s) (a := a) (n := n) (by have := HNN.out; omega)
            rw [HMS.out] at hml
            have hbl := (hml rfl).1
            simp only at hbl
            have hcb : cnt bits ≤ bits.length := by unfold cnt; exact cntTo_le _ _
            obtain ⟨dn, hdn'⟩ : ∃ dn : Nat, bits.length - cnt bits = dn := ⟨_, rfl⟩
            have hsub : ((bits.length : Int) - (cnt bits : Int)) = (dn : Int) := by omega
            rw [hsub] at e5
            have KF := hide (fun (n : Int) (w : World) (hT : Tabs w) => cback_any (s[a]'hlt).toNat k (s.extract (a + 1) s.size) (by simp; have := HS.out; omega) n w hT)
            rw [bn_drop] at KF
            have HDEC := hide (backS_dec (s[a]'hlt).toNat k h1 h6 ((bn s).drop (a + 1)) ((bys_bn s HS.out).drop _) (dn : Int))
            generalize hbk : backS (s[a]'hlt).toNat k ((bn s).drop (a + 1)) (dn : Int) = BK at *
            have hx256 : (s[a]'hlt).toNat < 256 := (s[a]'hlt).toNat_lt
            generalize hXX : (s[a]'hlt).toNat = X at *
            have HBK := hide hbk
            have HX := hide hXX
            have HCSE := hide e5
            have HDN := hide hdn'
            have HBLN := hide hbl
            have hpm0 : (0 : Int) ≤ (a : Int) := by omega
            have hsz := HS.out
            have hszi : (s.size : Int) ≤ 600 := by omega
            have hpm1 : (a : Int) < (s.size : Int) := by omega
            have hpm2 : (a : Int) + 1 ≤ (s.size : Int) := by omega
            have hpm3 : a + 1 ≤ s.size := by omega
            have hpm4 : a < s.size := by omega
            have hpm5 : (0 : Int) ≤ (a : Int) + 1 := by omega
            have hxi0 : (0 : Int) ≤ (X : Int) := by omega
            have hxi1 : (X : Int) ≤ 255 := by omega
            have hwx : IntKind.i64.wrap (X : Int) = (X : Int) := by rw [IntKind.wrap_i64]; omega
            have hwp1 : IntKind.i64.wrap ((a : Int) + 1) = (a : Int) + 1 := by rw [IntKind.wrap_i64]; omega
            have hnn : (n : Int) ≤ 10000 := by have := HNN.out; omega
            clear hbk hres hdn' hml hend hpm hX e5 hcb
            rw [hbl] at hsub
            try rw [hbl]
            have HSUB := hide hsub
            clear hsub hbl
            go_wp2_with fail
            go_loopw [12, 13] (fun dv iv wr => ∃ i d : Nat, i ≤ n ∧ iv = .int .i64 (i : Int) ∧ dv = .int .i64 (d : Int) ∧ Hid (d + cntTo bits i = i) ∧ d ≤ 10000 ∧ w1.alloc (.cells CZ 4) = wr) (fun _ iv _ => n - (intOf iv).toNat)
            case atStart => exact ⟨0, 0, by omega, rfl, rfl, (by show 0 + cntTo bits 0 = 0; unfold cntTo; rfl), by omega, (by first | rfl | trivial)⟩
            case round =>
              obtain ⟨i, d, hi, rfl, rfl, hd, hd1, hw3⟩ := hrel
              first | subst hw3 | skip
              by_cases hlti : i < n
              · have hbt := HBIT.out i hlti
                have HLT := hide hlti
                have hi0 : (0 : Int) ≤ (i : Int) := by omega
                have hi1 : (i : Int) < (n : Int) := by omega
                cases hbi : bits.getD i false
                · have HBC : Hid (cntTo bits (i + 1) = cntTo bits i) := by show _ = _; rw [cntTo_succ, bit_false hbi]; rfl
                  rw [hbi] at hbt
                  have hle := hd.out
                  have hd2 : d ≤ 9999 := by omega
                  clear hbi hlti hle
                  go_wp2_with fail
                  go_roundw
                  case rel => exact ⟨i + 1, d + 1, by have := HLT.out; omega, by go_num, by go_num, (by show _ = _; rw [HBC.out]; have := hd.out; omega), by omega, (by first | rfl | trivial)⟩
                  case measure => have := HLT.out; simp [intOf]; omega
                · have HBC : Hid (cntTo bits (i + 1) = cntTo bits i + 1) := by show _ = _; rw [cntTo_succ, bit_true hbi]
                  rw [hbi] at hbt
                  clear hbi hlti
                  go_wp2_with fail
                  go_roundw
                  case rel => exact ⟨i + 1, d, by have := HLT.out; omega, by go_num, rfl, (by show _ = _; rw [HBC.out]; have := hd.out; omega), by omega, (by first | rfl | trivial)⟩
                  case measure => have := HLT.out; simp [intOf]; omega
              · obtain rfl : n = i := by omega
                obtain rfl : d = dn := by
                  have h1 := hd.out
                  have h2 := HDN.out
                  rw [HBLN.out] at h2
                  unfold cnt at h2
                  rw [HBLN.out] at h2
                  omega
                have hk1 := HC3.out.cell 1
                simp at hk1
                have HTX := hide (HT.out.below HE3.out.drew)
                have HC9 := hide (fun (w9 : World) (hb9 : Below (w1.alloc (.cells CZ 4)).drew.heap.size (w1.alloc (.cells CZ 4)).drew w9) => HC3.out.drew.below hb9 HC3.out.drew.lt)
                clear hlti hi hd1
                go_wp2_with fail
                go_region_held3 (fun w' => w'.cell? ⟨w.heap.size, 1, none⟩ = some (.int .i64 k)) (first | go_keep | assumption) (first
                  | (go_at_call 19; refine (KF.out _ _ HTX.out).mono ?_; rintro e w9 ⟨VC, rfl, hvc, hb9⟩; have k9 := (HC9.out w9 hb9).cell 1; simp at k9))
                all_goals
                  rw [HBK.out] at hvc ⊢
                  have HE9 := hide (HE3.out.drew.trans (hb9.mono HE3.out.size))
                  have HV9 := hide (show SlB w9 _ bits from InSl.below HVB.out ((Below.refl (w1.alloc (.cells CZ 4)).heap.size (w1.alloc (.cells CZ 4))).drew.trans hb9))
                  have hc9 := HC9.out w9 hb9
                  have HC9' := hide hc9
                  have HVC := hide hvc
                  have j0 := hc9.cell 0
                  have j1 := hc9.cell 1
                  have j2 := hc9.cell 2
                  simp at j0 j1 j2
                  clear hb9 hvc hc9 k9 hk1 HTX HC9
                  by_cases hbz : BK.1 = 0
                  · have hl := HDEC.out.len hbz
                    have KSP := hide (sspread_any bits BK.2 (by rw [HBLN.out]; omega) (by have h1 := HDN.out; have h2 := cntTo_le bits bits.length; unfold cnt at *; omega) _ VC w9 HV9.out HVC.out)
                    have hcs := HCSE.out
                    rw [if_neg (by simp [hbz])] at hcs
                    have hok := HOKS.out (by rw [hcs])
                    have hdf := HDEF.out
                    rw [hcs] at hok hdf
                    rw [if_neg (by simp)] at hdf
                    simp only at hok hdf
                    rw [hbz]
                    have KCK1 := hide (KCK.out _ hok.1 hok.2)
                    have KEN1 := hide (KEN.out _ hok.1 hok.2)
                    generalize spr bits BK.2 = out at *
                    have HDF := hide hdf
                    clear hl hcs hok hdf hbz KCK KEN
                    go_wp2_with fail
                    refine KSP.out.mono ?_
                    rintro e w10 ⟨⟨V, rfl, hV⟩, hb10⟩
                    have HV10 := hide hV
                    have HE10 := hide (HE9.out.trans (hb10.mono HE9.out.size))
                    have HC10 := hide (HC9'.out.below hb10 HC9'.out.lt)
                    have KCK2 := hide (KCK1.out V w10 (HT.out.below HE10.out) HV10.out)
                    clear j0 j1 j2 hV hb10
                    have j0 := HC10.out.cell 0
                    have j1 := HC10.out.cell 1
                    have j2 := HC10.out.cell 2
                    simp at j0 j1 j2
                    by_cases htb : 1048576 < tbm out
                    · rw [if_pos htb] at KCK2
                      have hdf := HDF.out
                      rw [if_pos (.inl htb)] at hdf
                      subst hdf
                      clear htb HDF
                      go_wp2_with fail
                      refine KCK2.out.mono ?_
                      rintro e w11 ⟨rfl, hb11⟩
                      have HE11 := hide (HE10.out.trans (hb11.mono HE10.out.size))
                      clear hb11
                      go_wp2_with fail
                      go_ret2
                      exact ⟨_, rfl, inM_nil _, HE11.out⟩
                    · rw [if_neg htb] at KCK2
                      have KEN2 := hide (KEN1.out (by omega) V)
                      go_wp2_with fail
                      refine KCK2.out.mono ?_
                      rintro e w11 ⟨rfl, hb11⟩
                      have HV11 := hide (HV10.out.below hb11)
                      have HE11 := hide (HE10.out.trans (hb11.mono HE10.out.size))
                      have HC11 := hide (HC10.out.below hb11 HC10.out.lt)
                      have KEN3 := hide (KEN2.out w11 HV11.out)
                      clear j0 j1 j2 hb11
                      have j0 := HC11.out.cell 0
                      have j1 := HC11.out.cell 1
                      have j2 := HC11.out.cell 2
                      simp at j0 j1 j2
                      by_cases hse : encC k false out = s
                      · have hdf := HDF.out
                        rw [if_neg (fun h => h.elim htb (fun h => h hse))] at hdf
                        subst hdf
                        rw [hse] at KEN3
                        have hq : (s.toList == s.toList) = true := beq_self_eq_true _
                        clear htb hse HDF KEN1 KEN2
                        go_wp2_with fail
                        refine KEN3.out.mono ?_
                        rintro e w12 ⟨rfl, hb12⟩
                        have HV12 := hide (HV11.out.below hb12)
                        have HE12 := hide (HE11.out.trans (hb12.mono HE11.out.size))
                        clear hb12
                        go_wp2_with fail
                        go_ret2
                        exact ⟨_, rfl, HV12.out, HE12.out⟩
                      · have hdf := HDF.out
                        rw [if_pos (.inr hse)] at hdf
                        subst hdf
                        have hq := str_neq hse
                        have hq3 : ((encC k false out).toList != s.toList) = true := by rw [bne_iff_ne]; rwa [beq_eq_false_iff_ne] at hq
                        generalize encC k false out = T at *
                        clear htb hse HDF KEN1 KEN2
                        go_wp2_with fail
                        refine KEN3.out.mono ?_
                        rintro e w12 ⟨rfl, hb12⟩
                        have HE12 := hide (HE11.out.trans (hb12.mono HE11.out.size))
                        clear hb12
                        go_wp2_with fail
                        go_ret2
                        exact ⟨_, rfl, inM_nil _, HE12.out⟩
                  · have hcs := HCSE.out
                    rw [if_pos hbz] at hcs
                    have hdf := HDEF.out
                    rw [hcs, if_pos hbz] at hdf
                    have hz : ((BK.1 : Int) == 0) = false := by rw [beq_eq_false_iff_ne]; omega
                    subst hdf
                    clear hcs hbz
                    go_wp2_with fail
                    go_ret2
                    exact ⟨_, rfl, inM_nil _, HE9.out⟩
        · obtain ⟨z, hz⟩ : ∃ z, (n + 7) / 8 = z := ⟨_, rfl⟩
          have hq : ((n : Int) + 7) / 8 = (z : Int) := by omega
          have hz0 : (0 : Int) ≤ (z : Int) := by omega
          have hz1 : (z : Int) ≤ 1251 := by omega
          have ha0 : (0 : Int) ≤ (a : Int) := by omega
          have ha1 : (a : Int) ≤ (s.size : Int) := by omega
          have hs600 : (s.size : Int) ≤ 600 := by have := HS.out; omega
          have hzz : w.heap.size < w1.heap.size := HC3.out.lt
          have HCA := hide (HC3.out.alloc (.cells CZ 4))
          have HEA := hide (HE3.out.alloc HE3.out.size (.cells CZ 4))
          by_cases hsh : (bn s).length - a < z
          · have HMS : missS true (bn s) a n = (10, [], a) := by unfold missS; rw [if_pos rfl, hz, if_pos hsh]
            obtain rfl : RES = (10, []) := by
              have h := HDEF.out
              rw [cellsS_e3 HF.out HNN.out HMS (by decide), if_pos (by decide)] at h
              exact h
            have hd : decide ((s.size : Int) - (a : Int) < (z : Int)) = true := by rw [decide_eq_true_eq]; have := HBL.out; omega
            have HEF := hide HEA.out
            clear hsh HMS HDEF hz hn
            go_wp2_with fail
            go_ret2
            exact ⟨_, rfl, inM_nil _, HEF.out⟩
          · have hms : missS true (bn s) a n = ((unR (((bn s).drop a).take z) n).1, (unR (((bn s).drop a).take z) n).2, a + z) := by unfold missS; rw [if_pos rfl, hz, if_neg hsh]
            have haz : a + z ≤ s.size := by have := HBL.out; omega
            have hd : decide ((s.size : Int) - (a : Int) < (z : Int)) = false := by rw [decide_eq_false_iff_not]; have := HBL.out; omega
            have KUP := hide (fun w => refunpack_any (s.extract a (a + z)) (by simp; have := HS.out; omega) n w)
            unfold UnPost at KUP
            rw [bn_cut, show a + z - a = z by omega] at KUP
            generalize ((bn s).drop a).take z = Z at *
            obtain ⟨em, hem⟩ : ∃ em, (unR Z n).1 = em := ⟨_, rfl⟩
            obtain ⟨bits, hbits⟩ : ∃ bits, (unR Z n).2 = bits := ⟨_, rfl⟩
            rw [hem, hbits] at hms KUP
            obtain ⟨pm, hpmd⟩ : ∃ pm, a + z = pm := ⟨_, rfl⟩
            rw [hpmd] at hms haz KUP
            have hazi : (a : Int) + (z : Int) = (pm : Int) := by omega
            have hpi0 : (0 : Int) ≤ (pm : Int) := by omega
            have hpi1 : (pm : Int) ≤ (s.size : Int) := by omega
            have hpi2 : (a : Int) ≤ (pm : Int) := by omega
            have hapm : a ≤ pm := by omega
            have hwpm : IntKind.i64.wrap (pm : Int) = (pm : Int) := by rw [IntKind.wrap_i64]; omega
            have HPM := hide haz
            have HMS0 := hide hms
            clear hsh hz hn hms hem hbits hpmd
            go_wp2_with fail
            rw [hq]
            refine (KUP.out _).mono ?_
            rintro e w3 ⟨VB, rfl, hvb, hb3⟩
            have HVB := hide hvb
            have HE3 := hide (HEA.out.trans (hb3.mono HEA.out.size))
            have HC3 := hide (HCA.out.below hb3 HCA.out.lt)
            have hc1 := HC3.out.cell 1
            simp at hc1
            clear hvb hb3 hc2 KUP HEA HCA
            by_cases hem : em = 0
            · subst hem
              have HMS := HMS0
              have hpm : pm ≤ s.size := HPM.out
              by_cases hend : (bn s).length ≤ pm
              · obtain rfl : RES = (10, []) := by
                  have h := HDEF.out
                  rw [cellsS_e4 HF.out HNN.out HMS.out hend] at h
                  rw [if_pos (by decide)] at h
                  exact h
                have hge : decide ((s.size : Int) ≤ (pm : Int)) = true := by rw [decide_eq_true_eq]; have := HBL.out; omega
                have hgen : decide (s.size ≤ pm) = true := by rw [decide_eq_true_eq]; have := HBL.out; omega
                clear hend hpm HDEF
                go_wp2_with fail
                go_ret2
                exact ⟨_, rfl, inM_nil _, HE3.out⟩
              · have hlt : pm < s.size := by have := HBL.out; omega
                have hge : decide ((s.size : Int) ≤ (pm : Int)) = false := by rw [decide_eq_false_iff_not]; omega
                have hgen : decide (s.size ≤ pm) = false := by rw [decide_eq_false_iff_not]; omega
                have hres := HDEF.out
                have e5 := cellsS_e5 (k := k) HF.out HNN.out HMS.out hend
                have hX : (bn s).getD pm 0 = (s[pm]'hlt).toNat := by
                  have hp : pm < (bn s).length := by have := HBL.out; omega
                  rw [List.getD_eq_getElem?_getD, List.getElem?_eq_getElem hp]
                  simp [bn]
                  rfl
                rw [hX] at e5
                have hml := missS_len (nl := true) (D := bn s) (a := a) (n := n) (by have := HNN.out; omega)
                rw [HMS.out] at hml
                have hbl := (hml rfl).1
                simp only at hbl
                have hcb : cnt bits ≤ bits.length := by unfold cnt; exact cntTo_le _ _
                obtain ⟨dn, hdn'⟩ : ∃ dn : Nat, bits.length - cnt bits = dn := ⟨_, rfl⟩
                have hsub : ((bits.length : Int) - (cnt bits : Int)) = (dn : Int) := by omega
                rw [hsub] at e5
                have KF := hide (fun (n : Int) (w : World) (hT : Tabs w) => cback_any (s[pm]'hlt).toNat k (s.extract (pm + 1) s.size) (by simp; have := HS.out; omega) n w hT)
                rw [bn_drop] at KF
                have HDEC := hide (backS_dec (s[pm]'hlt).toNat k h1 h6 ((bn s).drop (pm + 1)) ((bys_bn s HS.out).drop _) (dn : Int))
                generalize hbk : backS (s[pm]'hlt).toNat k ((bn s).drop (pm + 1)) (dn : Int) = BK at *
                have hx256 : (s[pm]'hlt).toNat < 256 := (s[pm]'hlt).toNat_lt
                generalize hXX : (s[pm]'hlt).toNat = X at *
                have HBK := hide hbk
                have HX := hide hXX
                have HCSE := hide e5
                have HDN := hide hdn'
                have HBLN := hide hbl
                obtain ⟨Ab, cb, hVB, hbit⟩ := HVB.out.form
                subst hVB
                have HBIT := hide hbit
                rw [hbl] at HVB
                clear hbit
                have hpm0 : (0 : Int) ≤ (pm : Int) := by omega
                have hsz := HS.out
                have hszi : (s.size : Int) ≤ 600 := by omega
                have hpm1 : (pm : Int) < (s.size : Int) := by omega
                have hpm2 : (pm : Int) + 1 ≤ (s.size : Int) := by omega
                have hpm3 : pm + 1 ≤ s.size := by omega
                have hpm4 : pm < s.size := by omega
                have hpm5 : (0 : Int) ≤ (pm : Int) + 1 := by omega
                have hxi0 : (0 : Int) ≤ (X : Int) := by omega
                have hxi1 : (X : Int) ≤ 255 := by omega
                have hwx : IntKind.i64.wrap (X : Int) = (X : Int) := by rw [IntKind.wrap_i64]; omega
                have hwp1 : IntKind.i64.wrap ((pm : Int) + 1) = (pm : Int) + 1 := by rw [IntKind.wrap_i64]; omega
                have hnn : (n : Int) ≤ 10000 := by have := HNN.out; omega
                clear hbk hres hdn' hml hend hpm hX e5 hcb
                rw [hbl] at hsub
                try rw [hbl]
                have HSUB := hide hsub
                clear hsub hbl
                go_wp2_with fail
                go_loopw [12, 13] (fun dv iv wr => ∃ i d : Nat, i ≤ n ∧ iv = .int .i64 (i : Int) ∧ dv = .int .i64 (d : Int) ∧ Hid (d + cntTo bits i = i) ∧ d ≤ 10000 ∧ w3 = wr) (fun _ iv _ => n - (intOf iv).toNat)
                case atStart => exact ⟨0, 0, by omega, rfl, rfl, (by show 0 + cntTo bits 0 = 0; unfold cntTo; rfl), by omega, (by first | rfl | trivial)⟩
                case round =>
                  obtain ⟨i, d, hi, rfl, rfl, hd, hd1, hw3⟩ := hrel
                  first | subst hw3 | skip
                  by_cases hlti : i < n
                  · obtain ⟨gb, ob, hA, hgb, hbt⟩ := HBIT.out i (by rw [HBLN.out]; exact hlti)
                    subst hA
                    have HLT := hide hlti
                    have hi0 : (0 : Int) ≤ (i : Int) := by omega
                    have hi1 : (i : Int) < (n : Int) := by omega
                    cases hbi : bits.getD i false
                    · have HBC : Hid (cntTo bits (i + 1) = cntTo bits i) := by show _ = _; rw [cntTo_succ, bit_false hbi]; rfl
                      rw [hbi] at hbt
                      have hle := hd.out
                      have hd2 : d ≤ 9999 := by omega
                      clear hbi hlti hle
                      go_wp2_with fail
                      go_roundw
                      case rel => exact ⟨i + 1, d + 1, by have := HLT.out; omega, by go_num, by go_num, (by show _ = _; rw [HBC.out]; have := hd.out; omega), by omega, (by first | rfl | trivial)⟩
                      case measure => have := HLT.out; simp [intOf]; omega
                    · have HBC : Hid (cntTo bits (i + 1) = cntTo bits i + 1) := by show _ = _; rw [cntTo_succ, bit_true hbi]
                      rw [hbi] at hbt
                      clear hbi hlti
                      go_wp2_with fail
                      go_roundw
                      case rel => exact ⟨i + 1, d, by have := HLT.out; omega, by go_num, rfl, (by show _ = _; rw [HBC.out]; have := hd.out; omega), by omega, (by first | rfl | trivial)⟩
                      case measure => have := HLT.out; simp [intOf]; omega
                  · obtain rfl : n = i := by omega
                    obtain rfl : d = dn := by
                      have h1 := hd.out
                      have h2 := HDN.out
                      rw [HBLN.out] at h2
                      unfold cnt at h2
                      rw [HBLN.out] at h2
                      omega
                    have hk1 := HC3.out.cell 1
                    simp at hk1
                    have HTX := hide (HT.out.below HE3.out.drew)
                    have HC9 := hide (fun (w9 : World) (hb9 : Below (w3).drew.heap.size (w3).drew w9) => HC3.out.drew.below hb9 HC3.out.drew.lt)
                    clear hlti hi hd1
                    go_wp2_with fail
                    go_region_held3 (fun w' => w'.cell? ⟨w.heap.size, 1, none⟩ = some (.int .i64 k)) (first | go_keep | assumption) (first
                      | (go_at_call 19; refine (KF.out _ _ HTX.out).mono ?_; rintro e w9 ⟨VC, rfl, hvc, hb9⟩; have k9 := (HC9.out w9 hb9).cell 1; simp at k9))
                    all_goals
                      rw [HBK.out] at hvc ⊢
                      have HE9 := hide (HE3.out.drew.trans (hb9.mono HE3.out.size))
                      have HV9 := hide (show SlB w9 _ bits from InSl.below HVB.out ((Below.refl (w3).heap.size (w3)).drew.trans hb9))
                      have hc9 := HC9.out w9 hb9
                      have HC9' := hide hc9
                      have HVC := hide hvc
                      have j0 := hc9.cell 0
                      have j1 := hc9.cell 1
                      have j2 := hc9.cell 2
                      simp at j0 j1 j2
                      clear hb9 hvc hc9 k9 hk1 HTX HC9
                      by_cases hbz : BK.1 = 0
                      · have hl := HDEC.out.len hbz
                        have KSP := hide (sspread_any bits BK.2 (by rw [HBLN.out]; omega) (by have h1 := HDN.out; have h2 := cntTo_le bits bits.length; unfold cnt at *; omega) _ VC w9 HV9.out HVC.out)
                        have hcs := HCSE.out
                        rw [if_neg (by simp [hbz])] at hcs
                        have hok := HOKS.out (by rw [hcs])
                        have hdf := HDEF.out
                        rw [hcs] at hok hdf
                        rw [if_neg (by simp)] at hdf
                        simp only at hok hdf
                        rw [hbz]
                        have KCK1 := hide (KCK.out _ hok.1 hok.2)
                        have KEN1 := hide (KEN.out _ hok.1 hok.2)
                        generalize spr bits BK.2 = out at *
                        have HDF := hide hdf
                        clear hl hcs hok hdf hbz KCK KEN
                        go_wp2_with fail
                        refine KSP.out.mono ?_
                        rintro e w10 ⟨⟨V, rfl, hV⟩, hb10⟩
                        have HV10 := hide hV
                        have HE10 := hide (HE9.out.trans (hb10.mono HE9.out.size))
                        have HC10 := hide (HC9'.out.below hb10 HC9'.out.lt)
                        have KCK2 := hide (KCK1.out V w10 (HT.out.below HE10.out) HV10.out)
                        clear j0 j1 j2 hV hb10
                        have j0 := HC10.out.cell 0
                        have j1 := HC10.out.cell 1
                        have j2 := HC10.out.cell 2
                        simp at j0 j1 j2
                        by_cases htb : 1048576 < tbm out
                        · rw [if_pos htb] at KCK2
                          have hdf := HDF.out
                          rw [if_pos (.inl htb)] at hdf
                          subst hdf
                          clear htb HDF
                          go_wp2_with fail
                          refine KCK2.out.mono ?_
                          rintro e w11 ⟨rfl, hb11⟩
                          have HE11 := hide (HE10.out.trans (hb11.mono HE10.out.size))
                          clear hb11
                          go_wp2_with fail
                          go_ret2
                          exact ⟨_, rfl, inM_nil _, HE11.out⟩
                        · rw [if_neg htb] at KCK2
                          have KEN2 := hide (KEN1.out (by omega) V)
                          go_wp2_with fail
                          refine KCK2.out.mono ?_
                          rintro e w11 ⟨rfl, hb11⟩
                          have HV11 := hide (HV10.out.below hb11)
                          have HE11 := hide (HE10.out.trans (hb11.mono HE10.out.size))
                          have HC11 := hide (HC10.out.below hb11 HC10.out.lt)
                          have KEN3 := hide (KEN2.out w11 HV11.out)
                          clear j0 j1 j2 hb11
                          have j0 := HC11.out.cell 0
                          have j1 := HC11.out.cell 1
                          have j2 := HC11.out.cell 2
                          simp at j0 j1 j2
                          by_cases hse : encC k true out = s
                          · have hdf := HDF.out
                            rw [if_neg (fun h => h.elim htb (fun h => h hse))] at hdf
                            subst hdf
                            rw [hse] at KEN3
                            have hq : (s.toList == s.toList) = true := beq_self_eq_true _
                            clear htb hse HDF KEN1 KEN2
                            go_wp2_with fail
                            refine KEN3.out.mono ?_
                            rintro e w12 ⟨rfl, hb12⟩
                            have HV12 := hide (HV11.out.below hb12)
                            have HE12 := hide (HE11.out.trans (hb12.mono HE11.out.size))
                            clear hb12
                            go_wp2_with fail
                            go_ret2
                            exact ⟨_, rfl, HV12.out, HE12.out⟩
                          · have hdf := HDF.out
                            rw [if_pos (.inr hse)] at hdf
                            subst hdf
                            have hq := str_neq hse
                            have hq3 : ((encC k true out).toList != s.toList) = true := by rw [bne_iff_ne]; rwa [beq_eq_false_iff_ne] at hq
                            generalize encC k true out = T at *
                            clear htb hse HDF KEN1 KEN2
                            go_wp2_with fail
                            refine KEN3.out.mono ?_
                            rintro e w12 ⟨rfl, hb12⟩
                            have HE12 := hide (HE11.out.trans (hb12.mono HE11.out.size))
                            clear hb12
                            go_wp2_with fail
                            go_ret2
                            exact ⟨_, rfl, inM_nil _, HE12.out⟩
                      · have hcs := HCSE.out
                        rw [if_pos hbz] at hcs
                        have hdf := HDEF.out
                        rw [hcs, if_pos hbz] at hdf
                        have hz : ((BK.1 : Int) == 0) = false := by rw [beq_eq_false_iff_ne]; omega
                        subst hdf
                        clear hcs hbz
                        go_wp2_with fail
                        go_ret2
                        exact ⟨_, rfl, inM_nil _, HE9.out⟩
            · obtain rfl : RES = (em, []) := by
                have h := HDEF.out
                rw [cellsS_e3 HF.out HNN.out HMS0.out hem, if_pos hem] at h
                exact h
              have hz : ((em : Int) == 0) = false := by rw [beq_eq_false_iff_ne]; omega
              clear hem HDEF
              go_wp2_with fail
              go_ret2
              exact ⟨_, rfl, inM_nil _, HE3.out⟩
    · obtain rfl : RES = (e0, []) := by
        have h := HDEF.out
        rw [cellsS_e1 HF.out he0, if_pos he0] at h
        exact h
      have hz : ((e0 : Int) == 0) = false := by rw [beq_eq_false_iff_ne]; omega
      go_wp2_with fail
      go_ret2
      exact ⟨_, rfl, inM_nil _, HE3.out⟩
  · obtain rfl : RES = (30, []) := by
      rw [← HRES.out]
      unfold cdecS
      rw [if_pos (by rw [hce]; decide)]
    rw [hce, show ((30 : Nat) == 0) = false from rfl] at KC
    clear HRES hce hnm hs hm
    unfold colV
    go_enter Tryz.func7, Tryz.ntmps7
    go_wp2_with fail
    refine (KC.out _).mono ?_
    rintro e w1 ⟨rfl, hb1⟩
    have HE1 := hide ((HB.out _ _).trans (hb1.mono (by simp; omega)))
    clear hb1
    go_wp2_with fail
    go_ret2
    exact ⟨_, rfl, inM_nil _, HE1.out⟩
end Go.Proofs.YtfkgmodgkifelaaGreatDoor
