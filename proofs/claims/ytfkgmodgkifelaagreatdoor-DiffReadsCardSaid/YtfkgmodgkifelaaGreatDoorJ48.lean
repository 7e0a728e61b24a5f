/- Patches, written: diff.Encode, of what is read. The statement's copy of edits. -/
import Derived.Test.YtfkgmodgkifelaaGreatDoorJ47
namespace Go.Proofs.YtfkgmodgkifelaaGreatDoor
open Go.RowKit

theorem partsB_len {after : List Col} {parts : List PartD} {i : Nat} {c : Col} {x : PartD} (hc : after[i]? = some c) (hx : parts[i]? = some x) : (partsB (after.take i) (parts.take i)).length + (partB c x).length ≤ (partsB after parts).length := by
  have h1 := partsB_take hc hx
  have h2 : partsB after parts = partsB (after.take (i + 1)) (parts.take (i + 1)) ++ partsB (after.drop (i + 1)) (parts.drop (i + 1)) := by
    unfold partsB
    rw [← List.flatMap_append]
    congr 1
    have hl : (after.take (i + 1)).length = (parts.take (i + 1)).length := by
      rw [List.length_take, List.length_take]
      have := (List.getElem?_eq_some_iff.1 hc).1
      have := (List.getElem?_eq_some_iff.1 hx).1
      omega
    rw [← List.zip_append hl, List.take_append_drop, List.take_append_drop]
  rw [h2, h1, List.length_append, List.length_append]
  omega
theorem edsB_take_le (k : Int) (l : List Ed) (j : Nat) : (edsB k 0 (l.take j)).length ≤ (edsB k 0 l).length := by
  have h := edsB_app k (l.take j) (l.drop j) 0
  rw [List.take_append_drop] at h
  rw [h, List.length_append]
  omega
theorem InP.cells {w : World} {A : Option Addr} {n c : Nat} {l : List PartD} (h : InP w (.slice A n c) l) : ∀ i x, l[i]? = some x → ∃ g VE VC, A = some ⟨g, 0, none⟩ ∧ g < w.heap.size ∧ AtP w g (i * 3) x.1 VE VC ∧ InE w VE x.2.1 ∧ InM w VC x.2.2 := by
  obtain ⟨A', c', he, hc⟩ := h
  injection he with h1 h2 h3
  subst h1
  exact hc
set_option maxHeartbeats 16000000 in
set_option maxRecDepth 100000 in
theorem pencode_pat (P : PD) (hok : PatOk P) (hfit : FitA P) (hlen : (patB P).length ≤ 600) (hby : ∀ b ∈ patB P, b < 256) (VB VA VP : Value) (w : World) (hT : Tabs w) (hP : InPat w VB VA VP P) :
    Calls Tryz.prog 11 #[patV VB P.rows VA P.too VP] w fun e w' => e = .returned (.tuple #[.string (strN (patB P)), .int .i64 0]) ∧ Below w.heap.size w w' := by
  obtain ⟨W1, hW1⟩ : ∃ W1, w.alloc (.cells #[VB, .int .i64 (P.rows : Nat), VA, .int .i64 (P.too : Nat), VP] 34) = W1 := ⟨_, rfl⟩
  have hb1 : Below w.heap.size w W1 := by rw [← hW1]; exact (Below.refl _ _).alloc (Nat.le_refl _) _
  have hk1 : Blk W1 w.heap.size 34 #[VB, .int .i64 (P.rows : Nat), VA, .int .i64 (P.too : Nat), VP] := by rw [← hW1]; exact Blk.new _ _ _
  have KCK := hide (dcheck_any P hok VB VA VP W1 (hT.below hb1) (hP.below hb1))
  have HFIT := hide hfit
  have KP1 := hide (fun w hT hv => sput_ok P.before hok.b VB w hT hv)
  have KP2 := hide (fun w hT hv => sput_ok P.after hok.a VA w hT hv)
  have HPB : Hid (patB P = colB2 P.before P.rows ++ (colB2 P.after P.too ++ partsB P.after P.parts)) := rfl
  have HPL := hide hlen
  have HBY := hide hby
  generalize patB P = PB at *
  have HP := hide (hP.below hb1)
  have HT := hide (hT.below hb1)
  have HPK := hide hok.p
  have HCO := hide (fun (i : Nat) (c : Col) (h : P.after[i]? = some c) => (colsE_ok hok.a).one c (List.mem_of_getElem? h))
  have hr := hok.r
  have ht := hok.t
  have hn := hok.n
  have hl2 : P.after.length ≤ 32 := (colsE_ok hok.a).le
  obtain ⟨A1, c1, hv1⟩ := hP.b.form
  obtain ⟨A2, c2, hv2⟩ := hP.a.form
  obtain ⟨A3, c3, hv3⟩ := hP.p.form
  rw [hn] at hv3
  subst hv1 hv2 hv3
  unfold patV at KCK ⊢
  obtain ⟨before, rows, after, too, parts⟩ := P
  simp only at KCK KP1 KP2 HPB HPK HCO hr ht hn hl2 hW1 hk1 HP ⊢
  clear hP hok hT hfit hlen hby
  have HN := hide hn
  clear hn
  generalize hln : after.length = n at *
  have HLN := hide hln
  have hn4 : (n : Int) ≤ 32 := by omega
  have hn0 : (0 : Int) ≤ (n : Int) := by omega
  have hrw : IntKind.u64.wrap (rows : Int) = (rows : Int) := by rw [IntKind.wrap_u64]; omega
  have htw : IntKind.u64.wrap (too : Int) = (too : Int) := by rw [IntKind.wrap_u64]; omega
  have hq1 : (putS before).length + (putS after).length ≤ 600 := by
    have h := HPL.out
    rw [HPB.out] at h
    simp only [colB2, List.length_append] at h
    omega
  have HQ1 := hide hq1
  have hbb : bn (strN (putS before)) = putS before := bn_strN _ (fun b hb => HBY.out b (by rw [HPB.out]; simp only [colB2, List.mem_append]; exact .inl (.inl (.inr hb))))
  have hba : bn (strN (putS after)) = putS after := bn_strN _ (fun b hb => HBY.out b (by rw [HPB.out]; simp only [colB2, List.mem_append]; exact .inr (.inl (.inl (.inr hb)))))
  have HBB := hide hbb
  have HBA := hide hba
  have hlh : (colB2 before rows).length + (colB2 after too).length + (partsB after parts).length ≤ 600 := by
    have h := HPL.out
    rw [HPB.out] at h
    simp only [List.length_append] at h
    omega
  have HLH := hide hlh
  have HB1 := hide hb1
  have HK1 := hide hk1
  have HW := hide hW1
  have k0 := hk1.cell 0
  have k1 := hk1.cell 1
  have k2 := hk1.cell 2
  have k3 := hk1.cell 3
  have k4 := hk1.cell 4
  simp at k0 k1 k2 k3 k4
  clear hln hb1 hk1 hW1 hq1 hbb hba hlh
  go_enter Tryz.func11, Tryz.ntmps11
  go_wp2_with fail
  rw [HW.out]
  go_wp2_with fail
  refine KCK.out.mono ?_
  rintro e w2 ⟨⟨r, rfl, hrr⟩, hb2⟩
  obtain rfl : r = 0 := hrr.2 HFIT.out
  have HK2 := hide (HK1.out.below hb2 HK1.out.lt)
  have HP2 := hide (HP.out.below hb2)
  have HT2 := hide (HT.out.below hb2)
  have HB2 := hide (HB1.out.trans (hb2.mono HB1.out.size))
  clear hb2 hrr KCK k0 k1 k2 k3 k4
  obtain ⟨W3, hW3⟩ : ∃ W3, w2.alloc (.cells #[.slice none 0 0] 77) = W3 := ⟨_, rfl⟩
  have hb3 : Below w2.heap.size w2 W3 := by rw [← hW3]; exact (Below.refl _ _).alloc (Nat.le_refl _) _
  have hw3 : Wr W3 w2.heap.size w2.heap.size (.slice none 0 0) [] := by rw [← hW3]; exact ⟨Blk.new _ _ _, ownU8_nil _ _, Nat.le_refl _⟩
  have bk3 := HK2.out.below hb3 HK2.out.lt
  have KPB := hide (KP1.out W3 (HT2.out.below hb3) (HP2.out.b.below hb3))
  have k0 := bk3.cell 0
  simp at k0
  rw [← hW3] at k0
  have HW3 := hide hW3
  have HWR3 := hide hw3
  have HB3 := hide hb3
  clear hb3 hw3 bk3 hW3
  go_wp2_with fail
  rw [HW3.out]
  refine KPB.out.mono ?_
  rintro e w4 ⟨rfl, hb4⟩
  have hw4 := HWR3.out.below hb4
  have HB4 := hide (HB3.out.trans (hb4.mono HB3.out.size))
  have KT4 := hide (wtextL_any _ _ _ _ (strN (putS before)) (by rw [strN_size]; have := HQ1.out; omega) w4 hw4 (by simp) (HB4.out.size))
  have HW4 := hide hw4
  clear hb4 hw4 KPB k0
  go_wp2_with fail
  refine KT4.out.mono ?_
  rintro e w5 ⟨rfl, sv5, hw5, hs5⟩
  rw [List.nil_append, strN_size, HBB.out] at hw5
  have HB5 := hide (HB4.out.trans (hs5.below HW4.out HB4.out.size))
  have HW5 := hide hw5
  have k1 := (HK2.out.below HB5.out HK2.out.lt).cell 1
  simp at k1
  have KU5 := hide (wuvar_any _ _ _ _ rows (by omega) w5 hw5 (by have := HLH.out; simp only [colB2, List.length_append] at this ⊢; omega) HB5.out.size)
  clear hw5 hs5 KT4
  go_wp2_with fail
  refine KU5.out.mono ?_
  rintro e w6 ⟨rfl, sv6, hw6, hs6⟩
  have hw6' : Wr w6 w2.heap.size w2.heap.size sv6 (colB2 before rows) := by unfold colB2; exact hw6
  have HB6 := hide (HB5.out.trans (hs6.below HW5.out HB5.out.size))
  have HW6 := hide hw6'
  have k2 := (HK2.out.below HB6.out HK2.out.lt).cell 2
  simp at k2
  have KPA := hide (KP2.out w6 (HT2.out.below HB6.out) (HP2.out.a.below HB6.out))
  clear hw6 hs6 hw6' KU5 k1
  go_wp2_with fail
  refine KPA.out.mono ?_
  rintro e w7 ⟨rfl, hb7⟩
  have hw7 := HW6.out.below hb7
  have HB7 := hide (HB6.out.trans (hb7.mono HB6.out.size))
  have KT7 := hide (wtextL_any _ _ _ _ (strN (putS after)) (by rw [strN_size]; have := HQ1.out; omega) w7 hw7 (by have := HLH.out; omega) (HB7.out.size))
  have HW7 := hide hw7
  clear hb7 hw7 KPA k2
  go_wp2_with fail
  refine KT7.out.mono ?_
  rintro e w8 ⟨rfl, sv8, hw8, hs8⟩
  rw [strN_size, HBA.out] at hw8
  have HB8 := hide (HB7.out.trans (hs8.below HW7.out HB7.out.size))
  have HW8 := hide hw8
  have k3 := (HK2.out.below HB8.out HK2.out.lt).cell 3
  simp at k3
  have KU8 := hide (wuvar_any _ _ _ _ too (by omega) w8 hw8 (by have := HLH.out; simp only [colB2, List.length_append] at this ⊢; omega) HB8.out.size)
  clear hw8 hs8 KT7
  go_wp2_with fail
  refine KU8.out.mono ?_
  rintro e w9 ⟨rfl, sv9, hw9, hs9⟩
  have hw9' : Wr w9 w2.heap.size w2.heap.size sv9 (colB2 before rows ++ colB2 after too) := by
    rw [List.append_assoc] at hw9
    rw [show colB2 after too = uvar (putS after).length ++ putS after ++ uvar too from rfl]
    exact hw9
  have HB9 := hide (HB8.out.trans (hs9.below HW8.out HB8.out.size))
  have HW9 := hide hw9'
  have k4 := (HK2.out.below HB9.out HK2.out.lt).cell 4
  simp at k4
  clear hw9 hs9 hw9' KU8 k3
  generalize hH : colB2 before rows ++ colB2 after too = H at *
  have HHH := hide hH
  have hHl : H.length + (partsB after parts).length ≤ 600 := by rw [← hH, List.length_append]; exact HLH.out
  have HHL := hide hHl
  clear hH hHl
  go_wp2_with fail
  clear k4
  go_loopw [38] (fun iv wr => ∃ (i : Nat) (sv : Value), i ≤ n ∧ iv = .int .i64 (i : Int) ∧ Hid (Wr wr w2.heap.size w2.heap.size sv (H ++ partsB (after.take i) (parts.take i))) ∧ Hid (Below w2.heap.size w2 wr)) (fun iv _ => n - (intOf iv).toNat)
  case atStart => exact ⟨0, sv9, by omega, rfl, hide (by simpa [partsB] using HW9.out), HB9⟩
  case round =>
    obtain ⟨i, sv, hin, rfl, hwr, hb⟩ := hrel
    by_cases hlt : i < n
    · obtain ⟨c, hc⟩ : ∃ c, after[i]? = some c := ⟨after[i]'(by rw [HLN.out]; exact hlt), List.getElem?_eq_getElem _⟩
      obtain ⟨x, hx⟩ : ∃ x, parts[i]? = some x := ⟨parts[i]'(by rw [HN.out]; exact hlt), List.getElem?_eq_getElem _⟩
      have hpok := HPK.out i c x hc hx
      have hce := HCO.out i c hc
      obtain ⟨_, s64, _, sk1, sk6⟩ := colE_ok hce
      have hpl := partsB_len hc hx
      have htk := partsB_take hc hx
      obtain ⟨gp, VE, VC, hA3, hgp, hap, hie, him⟩ := HP2.out.p.cells i x hx
      obtain ⟨ga, hA2, hga, hat⟩ := HP2.out.a.cells i c hc
      obtain ⟨AE, cE, hVE⟩ := hie.form
      subst hVE
      obtain ⟨AC, cC, hVC⟩ := him.formL
      subst hVC
      obtain ⟨p0, p1, p2⟩ := hap.below hb.out hgp
      obtain ⟨a0, a1, a2⟩ := hat.below hb.out hga
      subst hA2 hA3
      obtain ⟨nm, kk, nl⟩ := c
      obtain ⟨sm, es, cl⟩ := x
      simp only at p0 p1 p2 a0 a1 a2 s64 sk1 sk6 hie him
      obtain ⟨k, rfl⟩ : ∃ k : Nat, kk = k := ⟨kk.toNat, by omega⟩
      have hgp3 : gp < wr.heap.size := Nat.lt_of_lt_of_le hgp hb.out.size
      have hga3 : ga < wr.heap.size := Nat.lt_of_lt_of_le hga hb.out.size
      have hap3 : w.heap.size < wr.heap.size := Nat.lt_of_lt_of_le HK2.out.lt hb.out.size
      have hi0 : (0 : Int) ≤ (i : Int) := by omega
      have hi1 : (i : Int) < (n : Int) := by omega
      have HPO := hide hpok
      have HIE := hide hie
      have HIM := hide him
      have HTK := hide htk
      have HPL2 := hide hpl
      have HLT := hide hlt
      have HCE := hide hce
      have bk := HK2.out.below hb.out HK2.out.lt
      have v2 : ∀ o, (wr.alloc o).cell? ⟨w.heap.size, 2, none⟩ = some (.slice (some ⟨ga, 0, none⟩) n c2) := fun o => by have := (bk.alloc o).cell 2; simpa using this
      obtain ⟨W10, hW10⟩ : ∃ W10, (wr.alloc (.cells #[.bool sm, .slice AE es.length cE, .slice AC cl.length cC] 65)).alloc (.cells #[.string nm, .int .i64 (k : Int), .bool nl] 23) = W10 := ⟨_, rfl⟩
      have hb10 : Below wr.heap.size wr W10 := by rw [← hW10]; exact ((Below.refl _ _).alloc (Nat.le_refl _) _).alloc (by simp) _
      have bx := show Blk W10 wr.heap.size 65 #[.bool sm, .slice AE es.length cE, .slice AC cl.length cC] by rw [← hW10]; exact (Blk.new _ _ _).alloc _
      have bc := show Blk W10 (wr.heap.size + 1) 23 #[.string nm, .int .i64 (k : Int), .bool nl] by rw [← hW10]; exact blk_n2 _ _ _ _
      have hwr10 := hwr.out.below hb10
      have HB10 := hide (hb.out.trans (hb10.mono hb.out.size))
      have HX10 := hide bx
      have HC10 := hide bc
      have HWR10 := hide hwr10
      have HW10 := hide hW10
      generalize hne : es.length = ne at *
      have HNE := hide hne
      generalize hnc : cl.length = nc at *
      have HNC := hide hnc
      clear hc hx hpok hce hpl htk hap hat hie him hlt bk hb10 bx bc hwr10 hW10 hne hnc
      cases sm
      · go_wp2_with fail
        rw [HW10.out]
        generalize wr.heap.size = xb at *
        have HBL := hide (show (H ++ partsB (after.take i) (parts.take i)).length + (edsB k 0 es).length + (uvar (encC k nl cl).size ++ bn (encC k nl cl)).length ≤ 600 by
          have h1 := HHL.out
          have h2 := HPL2.out
          simp only [partB] at h2
          rw [if_neg (by simp), List.nil_append] at h2
          rw [show es = [] from HPO.out.none rfl, show (edsB (k : Int) 0 []).length = 0 from rfl]
          simp only [List.length_append] at h2 ⊢
          omega)
        generalize hBS : (H ++ partsB (after.take i) (parts.take i)) = BS at *
        have HBS := hide hBS
        clear hBS
        go_loopw [9, 58] (fun nv jv wr => ∃ (j N : Nat) (svi : Value), j ≤ ne ∧ nv = .int .i64 (N : Int) ∧ jv = .int .i64 (j : Int) ∧ Hid (N = nxE es j) ∧ Hid (Wr wr w2.heap.size w2.heap.size svi (BS ++ edsB k 0 (es.take j))) ∧ Hid (Blk wr xb 65 #[.bool false, .slice AE ne cE, .slice AC nc cC]) ∧ Hid (Blk wr (xb + 1) 23 #[.string nm, .int .i64 (k : Int), .bool nl]) ∧ Hid (Below w2.heap.size w2 wr)) (fun _ jv _ => ne - (intOf jv).toNat)
        case atStart => exact ⟨0, 0, _, by omega, rfl, rfl, hide rfl, hide (by simpa [edsB] using HWR10.out), HX10, HC10, HB10⟩
        case round =>
          obtain ⟨j, N, svi, hj, rfl, rfl, hN, hwi, hxi, hci, hbi⟩ := hrel
          by_cases hjt : j < ne
          · obtain ⟨y, hy⟩ : ∃ y, es[j]? = some y := ⟨es[j]'(by rw [HNE.out]; exact hjt), List.getElem?_eq_getElem _⟩
            obtain ⟨ge, hAE, hge, hate⟩ := HIE.out.cells j y hy
            obtain ⟨e0, e1, e2, e3, e4, e5, e6⟩ := hate.below hbi.out hge
            obtain ⟨hr1, hr2⟩ := HPO.out.eds.row j y hy
            have hec := HPO.out.eds.cel y (List.mem_of_getElem? hy)
            have hnz : nxE es (j + 1) = y.1 + 1 := nxE_succ hy
            have htk2 := edsB_take (k := (k : Int)) hy
            have htl := edsB_take_le (k : Int) es j
            subst hAE
            obtain ⟨yr, yn, yb, yx, yu, yt, yp, yq⟩ := y
            simp only at e0 e1 e2 e3 e4 e5 e6 hr1 hr2 hec hnz
            have hge3 : ge < wr.heap.size := Nat.lt_of_lt_of_le hge hbi.out.size
            obtain ⟨G, hG⟩ : ∃ G, yr - N = G := ⟨_, rfl⟩
            have hsub : (yr : Int) - (N : Int) = (G : Int) := by have := hN.out; omega
            have hGw : IntKind.i64.wrap (G : Int) = (G : Int) := by rw [IntKind.wrap_i64]; omega
            have hyr : (yr : Int) ≤ 10000 := by omega
            have hb0 : ∀ o, Below wr.heap.size wr (wr.alloc o) := fun o => (Below.refl _ _).alloc (Nat.le_refl _) _
            have KE := hide (fun o => dedit_any (k : Int) (by omega) (by omega) w2.heap.size w2.heap.size svi _ G (by omega) (yn, ⟨yb, yx, yu, yt, yp, yq⟩) hec (wr.alloc o) (hwi.out.below (hb0 o)) (by have := HBL.out; rw [List.length_append]; omega) (by have := hbi.out.size; simp; omega))
            unfold MC.v at KE
            simp only at KE
            have HWA := hide (fun o => hwi.out.below (hb0 o))
            have HXA := hide (fun o => hxi.out.below (hb0 o) hxi.out.lt)
            have HCA := hide (fun o => hci.out.below (hb0 o) hci.out.lt)
            have HEA := hide (Blk.new wr #[.int .i64 (yr : Nat), .bool yn, .bool yb, .int .i64 yx, .int .u64 yu, .string yt, .complex .f64 yp yq] 67)
            have HBA := hide (fun o => hbi.out.trans ((hb0 o).mono hbi.out.size))
            have v1 : ∀ o, (wr.alloc o).cell? ⟨xb + 1, 1, none⟩ = some (.int .i64 (k : Int)) := fun o => by have := (HCA.out o).cell 1; simpa using this
            have hj1 : (j : Int) < (ne : Int) := by omega
            have hj9 : (j : Int) ≤ 10000 := by have := HPO.out.many; have := HNE.out; simp only at *; omega
            have HTK2 := hide htk2
            have HNZ := hide hnz
            have HG := hide hG
            have HJT := hide hjt
            have hxl := hxi.out.lt
            have hst := fun (w1 : World) (a1 : Addr) (m : Mode) (x y : Nat) => run_store Tryz.prog w1 a1 (.complex .f64 x y) m rfl
            have hcl := hci.out.lt
            clear hy hate hr1 hr2 hec hnz htk2 htl hG hb0 hjt
            go_wp2_with fail
            refine (KE.out _).mono ?_
            rintro e w12 ⟨rfl, sv12, hw12, hs12⟩
            have HX12 := hide (blk_wr (HXA.out _) (HWA.out _) hs12 (by decide) (by decide))
            have HC12 := hide (blk_wr (HCA.out _) (HWA.out _) hs12 (by decide) (by decide))
            have he12 := blk_wr HEA.out (HWA.out _) hs12 (by decide) (by decide)
            have HB12 := hide ((HBA.out _).trans (hs12.below (HWA.out _) (HBA.out _).size))
            have HW12 := hide hw12
            have t0 := he12.cell 0
            simp at t0
            clear hw12 hs12 he12 KE v1 e0 e1 e2 e3 e4 e5 e6
            go_wp2_with fail
            go_roundw
            case rel =>
              refine ⟨j + 1, yr + 1, sv12, by have := HJT.out; omega, by go_num, by go_num, hide HNZ.out.symm, hide ?_, HX12, HC12, HB12⟩
              rw [HTK2.out, ← List.append_assoc]
              have h := HW12.out
              rw [← HG.out, hN.out] at h
              exact h
            case measure => have := HJT.out; simp [intOf]; omega
          · obtain rfl : ne = j := by omega
            have hfull : es.take ne = es := by rw [← HNE.out]; exact List.take_length
            have hwf := hwi.out
            rw [hfull] at hwf
            have KEN := hide (encode_col nm (by unfold maxLen; omega) k (by omega) (by omega) nl HCE.out cl HPO.out.len HPO.out.cel (.slice AC nc cC) wr (HT2.out.below hbi.out) (HIM.out.below hbi.out))
            rw [if_neg (by have := HPO.out.tb; simp only at this; omega)] at KEN
            have c0 := hci.out.cell 0
            have c1' := hci.out.cell 1
            have c2' := hci.out.cell 2
            have x2 := hxi.out.cell 2
            simp at c0 c1' c2' x2
            have HWF := hide hwf
            clear hwf hfull hwi hjt hj
            go_wp2_with fail
            refine KEN.out.mono ?_
            rintro e w13 ⟨rfl, hb13⟩
            have hw13 := HWF.out.below hb13
            have HB13 := hide (hbi.out.trans (hb13.mono hbi.out.size))
            have KT := hide (wtextL_any _ _ _ _ (encC k nl cl) (by have := HPO.out.sz; simp only at this; omega) w13 hw13 (by have := HBL.out; rw [List.length_append]; omega) HB13.out.size)
            have HW13 := hide hw13
            obtain ⟨ES, hES⟩ : ∃ ES, encC k nl cl = ES := ⟨_, rfl⟩
            have HES := hide hES
            rw [hES] at KT
            rw [hES]
            clear hb13 hw13 KEN c0 c1' c2' x2 hES
            go_wp2_with fail
            refine KT.out.mono ?_
            rintro e w14 ⟨rfl, sv14, hw14, hs14⟩
            have HB14 := hide (HB13.out.trans (hs14.below HW13.out HB13.out.size))
            have HW14 := hide hw14
            clear hw14 hs14 KT
            go_wp2_with fail
            go_roundw
            case rel =>
              refine ⟨i + 1, sv14, by have := HLT.out; omega, by go_num, hide ?_, HB14⟩
              rw [HTK.out]
              have h := HW14.out
              rw [← HES.out, ← HBS.out] at h
              simp only [partB]
              rw [if_neg (by simp), List.nil_append]
              rwa [show es = [] from HPO.out.none rfl, show edsB (k : Int) 0 [] = [] from rfl, List.append_nil, List.append_assoc] at h
            case measure => have := HLT.out; simp [intOf]; omega
      · have KU := hide (wuvar_any _ _ _ _ ne (by have := HPO.out.many; have := HNE.out; simp only at *; omega) W10 HWR10.out (by have := HHL.out; have := HPL2.out; rw [List.length_append]; omega) HB10.out.size)
        have hnw : IntKind.u64.wrap (ne : Int) = (ne : Int) := by rw [IntKind.wrap_u64]; have := HPO.out.many; have := HNE.out; simp only at *; omega
        go_wp2_with fail
        rw [HW10.out]
        generalize wr.heap.size = xb at *
        refine KU.out.mono ?_
        rintro e w11 ⟨rfl, sv11, hw11, hs11⟩
        have HX11 := hide (blk_wr HX10.out HWR10.out hs11 (by decide) (by decide))
        have HC11 := hide (blk_wr HC10.out HWR10.out hs11 (by decide) (by decide))
        have HB11 := hide (HB10.out.trans (hs11.below HWR10.out HB10.out.size))
        have HW11 := hide hw11
        have x1 := HX11.out.cell 1
        simp at x1
        clear hw11 hs11 KU
        go_wp2_with fail
        clear x1
        have HBL := hide (show (H ++ partsB (after.take i) (parts.take i) ++ uvar ne).length + (edsB k 0 es).length + (uvar (encC k nl cl).size ++ bn (encC k nl cl)).length ≤ 600 by
          have h1 := HHL.out
          have h2 := HPL2.out
          simp only [partB] at h2
          rw [if_true, HNE.out] at h2
          skip
          simp only [List.length_append] at h2 ⊢
          omega)
        generalize hBS : (H ++ partsB (after.take i) (parts.take i) ++ uvar ne) = BS at *
        have HBS := hide hBS
        clear hBS
        go_loopw [9, 58] (fun nv jv wr => ∃ (j N : Nat) (svi : Value), j ≤ ne ∧ nv = .int .i64 (N : Int) ∧ jv = .int .i64 (j : Int) ∧ Hid (N = nxE es j) ∧ Hid (Wr wr w2.heap.size w2.heap.size svi (BS ++ edsB k 0 (es.take j))) ∧ Hid (Blk wr xb 65 #[.bool true, .slice AE ne cE, .slice AC nc cC]) ∧ Hid (Blk wr (xb + 1) 23 #[.string nm, .int .i64 (k : Int), .bool nl]) ∧ Hid (Below w2.heap.size w2 wr)) (fun _ jv _ => ne - (intOf jv).toNat)
        case atStart => exact ⟨0, 0, _, by omega, rfl, rfl, hide rfl, hide (by simpa [edsB] using HW11.out), HX11, HC11, HB11⟩
        case round =>
          obtain ⟨j, N, svi, hj, rfl, rfl, hN, hwi, hxi, hci, hbi⟩ := hrel
          by_cases hjt : j < ne
          · obtain ⟨y, hy⟩ : ∃ y, es[j]? = some y := ⟨es[j]'(by rw [HNE.out]; exact hjt), List.getElem?_eq_getElem _⟩
            obtain ⟨ge, hAE, hge, hate⟩ := HIE.out.cells j y hy
            obtain ⟨e0, e1, e2, e3, e4, e5, e6⟩ := hate.below hbi.out hge
            obtain ⟨hr1, hr2⟩ := HPO.out.eds.row j y hy
            have hec := HPO.out.eds.cel y (List.mem_of_getElem? hy)
            have hnz : nxE es (j + 1) = y.1 + 1 := nxE_succ hy
            have htk2 := edsB_take (k := (k : Int)) hy
            have htl := edsB_take_le (k : Int) es j
            subst hAE
            obtain ⟨yr, yn, yb, yx, yu, yt, yp, yq⟩ := y
            simp only at e0 e1 e2 e3 e4 e5 e6 hr1 hr2 hec hnz
            have hge3 : ge < wr.heap.size := Nat.lt_of_lt_of_le hge hbi.out.size
            obtain ⟨G, hG⟩ : ∃ G, yr - N = G := ⟨_, rfl⟩
            have hsub : (yr : Int) - (N : Int) = (G : Int) := by have := hN.out; omega
            have hGw : IntKind.i64.wrap (G : Int) = (G : Int) := by rw [IntKind.wrap_i64]; omega
            have hyr : (yr : Int) ≤ 10000 := by omega
            have hb0 : ∀ o, Below wr.heap.size wr (wr.alloc o) := fun o => (Below.refl _ _).alloc (Nat.le_refl _) _
            have KE := hide (fun o => dedit_any (k : Int) (by omega) (by omega) w2.heap.size w2.heap.size svi _ G (by omega) (yn, ⟨yb, yx, yu, yt, yp, yq⟩) hec (wr.alloc o) (hwi.out.below (hb0 o)) (by have := HBL.out; rw [List.length_append]; omega) (by have := hbi.out.size; simp; omega))
            unfold MC.v at KE
            simp only at KE
            have HWA := hide (fun o => hwi.out.below (hb0 o))
            have HXA := hide (fun o => hxi.out.below (hb0 o) hxi.out.lt)
            have HCA := hide (fun o => hci.out.below (hb0 o) hci.out.lt)
            have HEA := hide (Blk.new wr #[.int .i64 (yr : Nat), .bool yn, .bool yb, .int .i64 yx, .int .u64 yu, .string yt, .complex .f64 yp yq] 67)
            have HBA := hide (fun o => hbi.out.trans ((hb0 o).mono hbi.out.size))
            have v1 : ∀ o, (wr.alloc o).cell? ⟨xb + 1, 1, none⟩ = some (.int .i64 (k : Int)) := fun o => by have := (HCA.out o).cell 1; simpa using this
            have hj1 : (j : Int) < (ne : Int) := by omega
            have hj9 : (j : Int) ≤ 10000 := by have := HPO.out.many; have := HNE.out; simp only at *; omega
            have HTK2 := hide htk2
            have HNZ := hide hnz
            have HG := hide hG
            have HJT := hide hjt
            have hxl := hxi.out.lt
            have hst := fun (w1 : World) (a1 : Addr) (m : Mode) (x y : Nat) => run_store Tryz.prog w1 a1 (.complex .f64 x y) m rfl
            have hcl := hci.out.lt
            clear hy hate hr1 hr2 hec hnz htk2 htl hG hb0 hjt
            go_wp2_with fail
            refine (KE.out _).mono ?_
            rintro e w12 ⟨rfl, sv12, hw12, hs12⟩
            have HX12 := hide (blk_wr (HXA.out _) (HWA.out _) hs12 (by decide) (by decide))
            have HC12 := hide (blk_wr (HCA.out _) (HWA.out _) hs12 (by decide) (by decide))
            have he12 := blk_wr HEA.out (HWA.out _) hs12 (by decide) (by decide)
            have HB12 := hide ((HBA.out _).trans (hs12.below (HWA.out _) (HBA.out _).size))
            have HW12 := hide hw12
            have t0 := he12.cell 0
            simp at t0
            clear hw12 hs12 he12 KE v1 e0 e1 e2 e3 e4 e5 e6
            go_wp2_with fail
            go_roundw
            case rel =>
              refine ⟨j + 1, yr + 1, sv12, by have := HJT.out; omega, by go_num, by go_num, hide HNZ.out.symm, hide ?_, HX12, HC12, HB12⟩
              rw [HTK2.out, ← List.append_assoc]
              have h := HW12.out
              rw [← HG.out, hN.out] at h
              exact h
            case measure => have := HJT.out; simp [intOf]; omega
          · obtain rfl : ne = j := by omega
            have hfull : es.take ne = es := by rw [← HNE.out]; exact List.take_length
            have hwf := hwi.out
            rw [hfull] at hwf
            have KEN := hide (encode_col nm (by unfold maxLen; omega) k (by omega) (by omega) nl HCE.out cl HPO.out.len HPO.out.cel (.slice AC nc cC) wr (HT2.out.below hbi.out) (HIM.out.below hbi.out))
            rw [if_neg (by have := HPO.out.tb; simp only at this; omega)] at KEN
            have c0 := hci.out.cell 0
            have c1' := hci.out.cell 1
            have c2' := hci.out.cell 2
            have x2 := hxi.out.cell 2
            simp at c0 c1' c2' x2
            have HWF := hide hwf
            clear hwf hfull hwi hjt hj
            go_wp2_with fail
            refine KEN.out.mono ?_
            rintro e w13 ⟨rfl, hb13⟩
            have hw13 := HWF.out.below hb13
            have HB13 := hide (hbi.out.trans (hb13.mono hbi.out.size))
            have KT := hide (wtextL_any _ _ _ _ (encC k nl cl) (by have := HPO.out.sz; simp only at this; omega) w13 hw13 (by have := HBL.out; rw [List.length_append]; omega) HB13.out.size)
            have HW13 := hide hw13
            obtain ⟨ES, hES⟩ : ∃ ES, encC k nl cl = ES := ⟨_, rfl⟩
            have HES := hide hES
            rw [hES] at KT
            rw [hES]
            clear hb13 hw13 KEN c0 c1' c2' x2 hES
            go_wp2_with fail
            refine KT.out.mono ?_
            rintro e w14 ⟨rfl, sv14, hw14, hs14⟩
            have HB14 := hide (HB13.out.trans (hs14.below HW13.out HB13.out.size))
            have HW14 := hide hw14
            clear hw14 hs14 KT
            go_wp2_with fail
            go_roundw
            case rel =>
              refine ⟨i + 1, sv14, by have := HLT.out; omega, by go_num, hide ?_, HB14⟩
              rw [HTK.out]
              have h := HW14.out
              rw [← HES.out, ← HBS.out] at h
              simp only [partB]
              rw [if_true, HNE.out]
              simp only [List.append_assoc] at h ⊢
              exact h
            case measure => have := HLT.out; simp [intOf]; omega
    · obtain rfl : n = i := by omega
      have h1 : after.take n = after := by rw [← HLN.out]; exact List.take_length
      have h2 : parts.take n = parts := by rw [← HN.out]; exact List.take_length
      have KS := hide (wstring_any _ _ _ _ _ hwr.out)
      rw [h1, h2, ← HHH.out, List.append_assoc, ← HPB.out] at KS
      have HBR := hide (HB2.out.trans (hb.out.mono HB2.out.size))
      clear h1 h2 hwr hb hlt hin
      go_wp2_with fail
      refine KS.out.mono ?_
      rintro e w5 ⟨rfl, rfl⟩
      go_wp2_with fail
      go_ret2
      exact ⟨rfl, HBR.out⟩
end Go.Proofs.YtfkgmodgkifelaaGreatDoor
namespace Go.Proofs.YtfkgmodgkifelaaGreatDoor
open Go.RowKit

theorem info_ed2 : (Tryz.prog.info? 125).map (fun i => (i.zero, i.size, i.bytes)) = some (some (.agg #[.int .i64 0, .bool false, .bool false, .int .i64 0, .int .u64 0, .string ByteArray.empty, .complex .f64 0 0]), 7, 64) := by kernel_rfl
theorem inE_own2 {w : World} {B n : Nat} {t : TypeId} {v : Value} {l : List Ed} (h : w.ownsRow B t 7 v n (l.flatMap cellsE)) (hn : n = l.length) : InE w v l := by
  subst hn
  rcases Nat.eq_zero_or_pos l.length with h0 | h0
  · obtain ⟨A, c, rfl⟩ := own_form3 h
    have : l = [] := List.eq_nil_of_length_eq_zero h0
    subst this
    exact ⟨A, c, rfl, fun i x h => by simp at h⟩
  · obtain ⟨g, c, rfl⟩ := own_addr h h0
    refine ⟨some ⟨g, 0, none⟩, c, rfl, fun i x hx => ⟨g, rfl, (h.lt g rfl).2, ?_⟩⟩
    have hi : i < l.length := (List.getElem?_eq_some_iff.1 hx).1
    have hc := fun j (hj : j < 7) => (h.cellAt (i * 7 + j) (by omega)).trans (cellsE_get l i x j hx hj)
    exact ⟨hc 0 (by omega), hc 1 (by omega), hc 2 (by omega), hc 3 (by omega), hc 4 (by omega), hc 5 (by omega), hc 6 (by omega)⟩
set_option maxHeartbeats 4000000 in
set_option maxRecDepth 100000 in
theorem ledits_any (l : List Ed) (hl : l.length ≤ 10000) (v : Value) (w : World) (hv : InE w v l) :
    Calls Tryz.prog 36 #[v] w fun e w' => (∃ v', e = .returned v' ∧ InE w' v' l) ∧ Below w.heap.size w w' := by
  obtain ⟨i0, hi, hz0, hz1, hz2⟩ := info_parts info_ed2
  obtain ⟨A, ca, rfl, hcell⟩ := hv
  have HC := hide hcell
  clear hcell
  generalize hn : l.length = n at *
  have HN := hide hn
  clear hn
  have hst := fun (w1 : World) (a1 : Addr) (m : Mode) (x y : Nat) => run_store Tryz.prog w1 a1 (.complex .f64 x y) m rfl
  go_enter Tryz.func36, Tryz.ntmps36
  go_wp2_with fail
  go_loopw [3, 4] (fun ov iv wr => ∃ i : Nat, i ≤ n ∧ iv = .int .i64 (i : Int) ∧ Hid (wr.ownsRow w.heap.size 125 7 ov i ((l.take i).flatMap cellsE)) ∧ Hid (Below w.heap.size w wr)) (fun _ iv _ => n - (intOf iv).toNat)
  case atStart => exact ⟨0, by omega, rfl, World.ownsRow_nil _ _ _ _, Below.refl _ _⟩
  case round =>
    obtain ⟨i, hin, rfl, how, hb⟩ := hrel
    obtain ⟨OA, oc, rfl⟩ := own_form3 how.out
    by_cases hlt : i < n
    · obtain ⟨x, hx⟩ : ∃ x, l[i]? = some x := ⟨l[i]'(by rw [HN.out]; exact hlt), List.getElem?_eq_getElem _⟩
      obtain ⟨g, hA, hg, hat⟩ := HC.out i x hx
      subst hA
      obtain ⟨a0, a1, a2, a3, a4, a5, a6⟩ := hat.below hb.out hg
      have HTK := hide (show (l.take (i + 1)).flatMap cellsE = (l.take i).flatMap cellsE ++ cellsE x by rw [take_at hx]; simp)
      obtain ⟨xr, xn, xb, xx, xu, xt, xp, xq⟩ := x
      simp only at a0 a1 a2 a3 a4 a5 a6
      have hi0 : (0 : Int) ≤ (i : Int) := by omega
      have hi1 : (i : Int) < (n : Int) := by omega
      have hi9 : i ≤ 10000 := by omega
      have hbs : w.heap.size ≤ wr.heap.size := hb.out.size
      have HOW := hide how.out
      have HOA := hide (fun o => (HOW.out.alloc o).drew)
      have NB := hide (fun cs t => ((Blk.new wr cs t).drew).out)
      have HLT := hide hlt
      clear hx hat hlt how
      go_wp2_with fail
      go_region_law ((refine step_append_lies _ rfl (.tmp 11) (.tmp 23) 85 rfl w.heap.size 125 i0 (.agg #[.int .i64 0, .bool false, .bool false, .int .i64 0, .int .u64 0, .string ByteArray.empty, .complex .f64 0 0]) 7 64 Tryz.underlying85 hi hz0 hz1 hz2 rfl (by decide) _ i ((l.take i).flatMap cellsE) rfl (HOA.out _) ⟨wr.heap.size, 0, none⟩ 1 1 [.int .i64 (xr : Nat), .bool xn, .bool xb, .int .i64 xx, .int .u64 xu, .string xt, .complex .f64 xp xq] rfl rfl (World.news_of_block (NB.out _ _)) (by simp [Value.oneCell']) (by omega) (by unfold maxLen; omega) (by omega) (by simp; omega) _ rfl ?_; intro gg cap w2 hown2 hgrow2 _ _))
      all_goals
        have HO2 := hide hown2
        have HB2 := hide ((((hb.out.alloc hb.out.size _).drew).trans ((Fr.of_grown hgrow2).below (by simp; omega) (fun k hk => (HOW.out.lt k hk.symm).1))))
        clear hown2 hgrow2
        go_wp2_with fail
        go_roundw
        case rel => exact ⟨i + 1, by have := HLT.out; omega, by go_num, hide (by rw [HTK.out]; exact HO2.out), HB2⟩
        case measure => have := HLT.out; simp [intOf]; omega
    · obtain rfl : n = i := by omega
      have hfull : l.take n = l := by rw [← HN.out]; exact List.take_length
      have ho := how.out
      rw [hfull] at ho
      have HV := hide (inE_own2 ho HN.out.symm)
      have HB := hide hb.out
      clear ho hfull how hb hlt hin
      go_wp2_with fail
      go_ret
      exact ⟨⟨_, rfl, HV.out⟩, HB.out⟩
end Go.Proofs.YtfkgmodgkifelaaGreatDoor
