/- Patches: the document's answer, whether a part may be. Patches: the statement's check, of what is read. Patches: bytes that tell a patch are its own; where the chapter's example holds. -/
import Derived.Test.YtfkgmodgkifelaaGreatDoorJ48
import Derived.Lib.QuietBelow
import Derived.Deep.RegionHeld3
namespace Go.Proofs.YtfkgmodgkifelaaGreatDoor
open Go.RowKit

theorem InM.cells {w : World} {A : Option Addr} {n c : Nat} {l : List MC} (h : InM w (.slice A n c) l) : ∀ i x, l[i]? = some x → ∃ g, A = some ⟨g, 0, none⟩ ∧ g < w.heap.size ∧ AtM w g (i * 6) x.1 x.2.b x.2.x x.2.u x.2.t x.2.p x.2.q := by
  obtain ⟨A', c', he, hc⟩ := h
  injection he with h1 h2 h3
  subst h1
  exact hc
set_option maxHeartbeats 8000000 in
set_option maxRecDepth 100000 in
theorem lmay_any (before : List Col) (hbl : before.length ≤ 100000) (rows too : Nat) (hrw : rows ≤ 10000) (htw : too ≤ 10000) (c : Col) (hc : colE c.1 c.2.1 = 0) (x : PartD) (hok : PartOk before rows too c x) (hfit : FitP before rows too c x)
    (VB VE VC : Value) (w : World) (hT : Tabs w) (hB : InK w VB before) (hE : InE w VE x.2.1) (hM : InM w VC x.2.2) :
    Calls Tryz.prog 35 #[VB, colV c.1 c.2.1 c.2.2, .int .i64 (rows : Nat), .int .i64 (too : Nat), .bool x.1, VE, VC] w fun e w' => e = .returned (.bool true) ∧ Below w.heap.size w w' := by
  obtain ⟨A1, c1, hVB⟩ := hB.form
  obtain ⟨AE, cE, hVE⟩ := hE.form
  obtain ⟨AC, cC, hVC⟩ := hM.formL
  subst hVE hVC
  obtain ⟨k1, k6⟩ := colE_k hc
  have hb0 : ∀ o, Below w.heap.size w (w.alloc o) := fun o => (Below.refl _ _).alloc (Nat.le_refl _) _
  have KPL := hide (fun o => place_any before hbl c VB (w.alloc o) (hB.below (hb0 o)))
  subst hVB
  have HB0 := hide hb0
  have HC0 := hide (Blk.new w #[.string c.1, .int .i64 c.2.1, .bool c.2.2] 23)
  have HT := hide hT
  have HOK := hide hok
  have HFIT := hide hfit
  have HE := hide hE
  have HM := hide hM
  have KSC := hide (fun (z : MC) (hz : okM c.2.2 c.2.1 z) w hT => scell_ok c.1 c.2.1 k1 k6 c.2.2 z hz w hT)
  have HMANY := hide hok.many
  have HCLN := hide hok.len
  obtain ⟨kept, hkept⟩ : ∃ kp, decide (c ∈ before) = kp := ⟨_, rfl⟩
  have HKEPT := hide hkept
  have hsame : x.1 = kept := by rw [← hkept]; exact hok.same
  have hwant := hfit.1
  have hnone := hok.none
  clear hb0 hT hok hfit hE hM hB hc hkept
  obtain ⟨nm, k, nl⟩ := c
  obtain ⟨sm, es, cl⟩ := x
  unfold colV at KPL KSC ⊢
  simp only at KPL KSC HC0 HE HM HMANY HCLN hsame hwant hnone k1 k6 ⊢
  generalize hne : es.length = ne at *
  have HNE := hide hne
  generalize hnc : cl.length = nc at *
  have HNC := hide hnc
  clear hne hnc
  have HNONE := hide hnone
  have HW := hide hwant
  clear hnone hwant
  cases kept
  · subst hsame
    have hnin : (nm, k, nl) ∉ before := of_decide_eq_false HKEPT.out
    have hw : nc = too := by have h := HW.out; rwa [if_neg hnin] at h
    have hn0 : ne = 0 := by rw [← HNE.out, HNONE.out rfl]; rfl
    have hn1 : decide ((0 : Int) < (ne : Int)) = false := by rw [decide_eq_false_iff_not]; omega
    have hn2 : decide (0 < ne) = false := by rw [decide_eq_false_iff_not]; omega
    subst hw
    clear hn0 HW HNONE
    go_enter Tryz.func35, Tryz.ntmps35
    go_wp2_with fail
    refine (KPL.out _).mono ?_
    rintro e w1 ⟨⟨r, rfl, hp⟩, hb1⟩
    have hd := hp.dec
    rw [HKEPT.out] at hd
    have HC1 := hide (HC0.out.below hb1 (by simp))
    have hbw := (HB0.out _).trans (hb1.mono (HB0.out _).size)
    have HB1 := hide hbw
    have HT1 := hide (HT.out.below hbw)
    have HIE := hide (HE.out.below hbw).cells
    have HIM := hide (HM.out.below hbw).cells
    clear hp hb1 hbw
    go_wp2_with fail
    go_loopw [17, 18] (fun lv iv wr => ∃ (i : Nat) (L : Int), i ≤ ne ∧ iv = .int .i64 (i : Int) ∧ lv = .int .i64 L ∧ Hid (L = ((nxE es i : Nat) : Int) - 1) ∧ Hid (Below w1.heap.size w1 wr)) (fun _ iv _ => ne - (intOf iv).toNat)
    case atStart => exact ⟨0, -1, by omega, rfl, rfl, hide rfl, Below.refl _ _⟩
    case round =>
      obtain ⟨i, L, hi, rfl, rfl, hL, hbr⟩ := hrel
      by_cases hlt : i < ne
      · obtain ⟨y, hy⟩ : ∃ y, es[i]? = some y := ⟨es[i]'(by rw [HNE.out]; exact hlt), List.getElem?_eq_getElem _⟩
        obtain ⟨g, hA, hg, hat⟩ := HIE.out i y hy
        subst hA
        have ha := hat.below hbr.out hg
        obtain ⟨hr1, hr2⟩ := HOK.out.eds.row i y hy
        have hec := HOK.out.eds.cel y (List.mem_of_getElem? hy)
        have hnu := HFIT.out.2 y (List.mem_of_getElem? hy)
        have hnz : nxE es (i + 1) = y.1 + 1 := nxE_succ hy
        obtain ⟨yr, yn, yb, yx, yu, yt, yp, yq⟩ := y
        obtain ⟨e0, e1, e2, e3, e4, e5, e6⟩ := ha
        simp only at e0 e1 e2 e3 e4 e5 e6 hr1 hr2 hec hnu hnz
        have bx := HC1.out.below hbr.out HC1.out.lt
        have q0 := cell_regrown ((bx.cell 0).trans rfl)
        have q1 := cell_regrown ((bx.cell 1).trans rfl)
        have q2 := cell_regrown ((bx.cell 2).trans rfl)
        have r0 := cell_regrown e0
        have r1 := cell_regrown e1
        have r2 := cell_regrown e2
        have r3 := cell_regrown e3
        have r4 := cell_regrown e4
        have r5 := cell_regrown e5
        have r6 := cell_regrown e6
        have d1 : decide ((yr : Int) ≤ L) = false := by rw [decide_eq_false_iff_not]; have := hL.out; omega
        have d2 : decide ((rows : Int) ≤ (yr : Int)) = false := by rw [decide_eq_false_iff_not]; omega
        have d2' : decide (rows ≤ yr) = false := by rw [decide_eq_false_iff_not]; omega
        have d3 : decide ((nc : Int) ≤ (yr : Int)) = false := by rw [decide_eq_false_iff_not]; omega
        have d3' : decide (nc ≤ yr) = false := by rw [decide_eq_false_iff_not]; omega
        have hi0 : (0 : Int) ≤ (i : Int) := by omega
        have hi1 : (i : Int) < (ne : Int) := by omega
        have hi9 : (i : Int) ≤ 10000 := by have := HMANY.out; omega
        have KQ := hide (fun d os => Calls.regrown_of (d := d) (os := os) (KSC.out (yn, ⟨yb, yx, yu, yt, yp, yq⟩) (edC_ok hec hnu) (Sort.grow (redrawn wr d) os) (HT1.out.below (hbr.out.trans ((below_regrown wr d os).mono hbr.out.size)))))
        unfold MC.v at KQ
        simp only at KQ
        have HE0 := hide e0
        have HG := hide (show g < wr.heap.size from Nat.lt_of_lt_of_le hg hbr.out.size)
        have HNX := hide hnz
        have HLT := hide hlt
        clear hec hnu hnz hy hlt hat hr1 hr2 bx e0 e1 e2 e3 e4 e5 e6
        go_wp2_with fail
        refine wp_region_quiet_below (by kernel_rfl) (by kernel_rfl) ?_
        repeat (go_big_quiet_step (exact KQ.out _ _))
        refine wpQuiet_nil ?_
        intro _ hw'
        obtain ⟨⟨dq, osq⟩, hw''⟩ := hw'
        subst hw''
        have hb6 := below_regrown wr dq osq
        have t0 := r0 dq osq
        generalize Sort.grow (redrawn wr dq) osq = w7 at *
        clear q0 q1 q2 r0 r1 r2 r3 r4 r5 r6 KQ
        have HB7 := hide (hbr.out.trans (hb6.mono hbr.out.size))
        clear hb6
        go_wp2_with fail
        go_roundw
        case rel => exact ⟨i + 1, (yr : Int), by have := HLT.out; omega, by go_num, rfl, hide (by rw [HNX.out]; omega), HB7⟩
        case measure => have := HLT.out; simp [intOf]; omega
      · obtain rfl : ne = i := by omega
        have HBR := hide hbr.out
        clear hbr hlt hi hL
        go_wp2_with fail
        go_loopw [19] (fun iv wr => ∃ i : Nat, i ≤ nc ∧ iv = .int .i64 (i : Int) ∧ Hid (Below w1.heap.size w1 wr)) (fun iv _ => nc - (intOf iv).toNat)
        case atStart => exact ⟨0, by omega, rfl, HBR⟩
        case round =>
          obtain ⟨i, hi, rfl, hbr⟩ := hrel
          by_cases hlt : i < nc
          · obtain ⟨y, hy⟩ : ∃ y, cl[i]? = some y := ⟨cl[i]'(by rw [HNC.out]; exact hlt), List.getElem?_eq_getElem _⟩
            obtain ⟨g, hA, hg, hat⟩ := HIM.out i y hy
            subst hA
            have ha := hat.below hbr.out hg
            have hoc := HOK.out.cel y (List.mem_of_getElem? hy)
            obtain ⟨yn, yb, yx, yu, yt, yp, yq⟩ := y
            obtain ⟨e0, e1, e2, e3, e4, e5⟩ := ha
            simp only at e0 e1 e2 e3 e4 e5 hoc
            have bx := HC1.out.below hbr.out HC1.out.lt
            have q0 := cell_regrown ((bx.cell 0).trans rfl)
            have q1 := cell_regrown ((bx.cell 1).trans rfl)
            have q2 := cell_regrown ((bx.cell 2).trans rfl)
            have r0 := cell_regrown e0
            have r1 := cell_regrown e1
            have r2 := cell_regrown e2
            have r3 := cell_regrown e3
            have r4 := cell_regrown e4
            have r5 := cell_regrown e5
            have hi0 : (0 : Int) ≤ (i : Int) := by omega
            have hi1 : (i : Int) < (nc : Int) := by omega
            have hi9 : (i : Int) ≤ 10000 := by have := HCLN.out; omega
            have KQ := hide (fun d os => Calls.regrown_of (d := d) (os := os) (KSC.out (yn, ⟨yb, yx, yu, yt, yp, yq⟩) hoc (Sort.grow (redrawn wr d) os) (HT1.out.below (hbr.out.trans ((below_regrown wr d os).mono hbr.out.size)))))
            unfold MC.v at KQ
            simp only at KQ
            have HLT := hide hlt
            clear hoc hy hlt hat bx e0 e1 e2 e3 e4 e5
            go_wp2_with fail
            refine wp_region_quiet_below (by kernel_rfl) (by kernel_rfl) ?_
            repeat (go_big_quiet_step (exact KQ.out _ _))
            refine wpQuiet_nil ?_
            intro _ hw'
            obtain ⟨⟨dq, osq⟩, hw''⟩ := hw'
            subst hw''
            have hb6 := below_regrown wr dq osq
            generalize Sort.grow (redrawn wr dq) osq = w7 at *
            clear q0 q1 q2 r0 r1 r2 r3 r4 r5 KQ
            have HB7 := hide (hbr.out.trans (hb6.mono hbr.out.size))
            clear hb6
            go_wp2_with fail
            go_roundw
            case rel => exact ⟨i + 1, by have := HLT.out; omega, by go_num, HB7⟩
            case measure => have := HLT.out; simp [intOf]; omega
          · obtain rfl : nc = i := by omega
            have HBS := hide hbr.out
            clear hbr hlt hi
            go_wp2_with fail
            go_ret
            exact ⟨rfl, HB1.out.trans (HBS.out.mono HB1.out.size)⟩
  · subst hsame
    have hin : (nm, k, nl) ∈ before := of_decide_eq_true HKEPT.out
    have hw : nc = too - rows := by have h := HW.out; rwa [if_pos hin] at h
    have hwr : IntKind.i64.wrap ((too : Int) - (rows : Int)) = (too : Int) - (rows : Int) := by rw [IntKind.wrap_i64]; omega
    have hmax : max ((too : Int) - (rows : Int)) 0 = (nc : Int) := by omega
    have hmax2 : max 0 ((too : Int) - (rows : Int)) = (nc : Int) := by omega
    clear HW HNONE hw
    go_enter Tryz.func35, Tryz.ntmps35
    go_wp2_with fail
    refine (KPL.out _).mono ?_
    rintro e w1 ⟨⟨r, rfl, hp⟩, hb1⟩
    have hd := hp.dec
    rw [HKEPT.out] at hd
    have HC1 := hide (HC0.out.below hb1 (by simp))
    have hbw := (HB0.out _).trans (hb1.mono (HB0.out _).size)
    have HB1 := hide hbw
    have HT1 := hide (HT.out.below hbw)
    have HIE := hide (HE.out.below hbw).cells
    have HIM := hide (HM.out.below hbw).cells
    clear hp hb1 hbw
    go_wp2_with fail
    go_loopw [17, 18] (fun lv iv wr => ∃ (i : Nat) (L : Int), i ≤ ne ∧ iv = .int .i64 (i : Int) ∧ lv = .int .i64 L ∧ Hid (L = ((nxE es i : Nat) : Int) - 1) ∧ Hid (Below w1.heap.size w1 wr)) (fun _ iv _ => ne - (intOf iv).toNat)
    case atStart => exact ⟨0, -1, by omega, rfl, rfl, hide rfl, Below.refl _ _⟩
    case round =>
      obtain ⟨i, L, hi, rfl, rfl, hL, hbr⟩ := hrel
      by_cases hlt : i < ne
      · obtain ⟨y, hy⟩ : ∃ y, es[i]? = some y := ⟨es[i]'(by rw [HNE.out]; exact hlt), List.getElem?_eq_getElem _⟩
        obtain ⟨g, hA, hg, hat⟩ := HIE.out i y hy
        subst hA
        have ha := hat.below hbr.out hg
        obtain ⟨hr1, hr2⟩ := HOK.out.eds.row i y hy
        have hec := HOK.out.eds.cel y (List.mem_of_getElem? hy)
        have hnu := HFIT.out.2 y (List.mem_of_getElem? hy)
        have hnz : nxE es (i + 1) = y.1 + 1 := nxE_succ hy
        obtain ⟨yr, yn, yb, yx, yu, yt, yp, yq⟩ := y
        obtain ⟨e0, e1, e2, e3, e4, e5, e6⟩ := ha
        simp only at e0 e1 e2 e3 e4 e5 e6 hr1 hr2 hec hnu hnz
        have bx := HC1.out.below hbr.out HC1.out.lt
        have q0 := cell_regrown ((bx.cell 0).trans rfl)
        have q1 := cell_regrown ((bx.cell 1).trans rfl)
        have q2 := cell_regrown ((bx.cell 2).trans rfl)
        have r0 := cell_regrown e0
        have r1 := cell_regrown e1
        have r2 := cell_regrown e2
        have r3 := cell_regrown e3
        have r4 := cell_regrown e4
        have r5 := cell_regrown e5
        have r6 := cell_regrown e6
        have d1 : decide ((yr : Int) ≤ L) = false := by rw [decide_eq_false_iff_not]; have := hL.out; omega
        have d2 : decide ((rows : Int) ≤ (yr : Int)) = false := by rw [decide_eq_false_iff_not]; omega
        have d2' : decide (rows ≤ yr) = false := by rw [decide_eq_false_iff_not]; omega
        have d3 : decide ((too : Int) ≤ (yr : Int)) = false := by rw [decide_eq_false_iff_not]; omega
        have d3' : decide (too ≤ yr) = false := by rw [decide_eq_false_iff_not]; omega
        have hi0 : (0 : Int) ≤ (i : Int) := by omega
        have hi1 : (i : Int) < (ne : Int) := by omega
        have hi9 : (i : Int) ≤ 10000 := by have := HMANY.out; omega
        have KQ := hide (fun d os => Calls.regrown_of (d := d) (os := os) (KSC.out (yn, ⟨yb, yx, yu, yt, yp, yq⟩) (edC_ok hec hnu) (Sort.grow (redrawn wr d) os) (HT1.out.below (hbr.out.trans ((below_regrown wr d os).mono hbr.out.size)))))
        unfold MC.v at KQ
        simp only at KQ
        have HE0 := hide e0
        have HG := hide (show g < wr.heap.size from Nat.lt_of_lt_of_le hg hbr.out.size)
        have HNX := hide hnz
        have HLT := hide hlt
        clear hec hnu hnz hy hlt hat hr1 hr2 bx e0 e1 e2 e3 e4 e5 e6
        go_wp2_with fail
        refine wp_region_quiet_below (by kernel_rfl) (by kernel_rfl) ?_
        repeat (go_big_quiet_step (exact KQ.out _ _))
        refine wpQuiet_nil ?_
        intro _ hw'
        obtain ⟨⟨dq, osq⟩, hw''⟩ := hw'
        subst hw''
        have hb6 := below_regrown wr dq osq
        have t0 := r0 dq osq
        generalize Sort.grow (redrawn wr dq) osq = w7 at *
        clear q0 q1 q2 r0 r1 r2 r3 r4 r5 r6 KQ
        have HB7 := hide (hbr.out.trans (hb6.mono hbr.out.size))
        clear hb6
        go_wp2_with fail
        go_roundw
        case rel => exact ⟨i + 1, (yr : Int), by have := HLT.out; omega, by go_num, rfl, hide (by rw [HNX.out]; omega), HB7⟩
        case measure => have := HLT.out; simp [intOf]; omega
      · obtain rfl : ne = i := by omega
        have HBR := hide hbr.out
        clear hbr hlt hi hL
        go_wp2_with fail
        go_loopw [19] (fun iv wr => ∃ i : Nat, i ≤ nc ∧ iv = .int .i64 (i : Int) ∧ Hid (Below w1.heap.size w1 wr)) (fun iv _ => nc - (intOf iv).toNat)
        case atStart => exact ⟨0, by omega, rfl, HBR⟩
        case round =>
          obtain ⟨i, hi, rfl, hbr⟩ := hrel
          by_cases hlt : i < nc
          · obtain ⟨y, hy⟩ : ∃ y, cl[i]? = some y := ⟨cl[i]'(by rw [HNC.out]; exact hlt), List.getElem?_eq_getElem _⟩
            obtain ⟨g, hA, hg, hat⟩ := HIM.out i y hy
            subst hA
            have ha := hat.below hbr.out hg
            have hoc := HOK.out.cel y (List.mem_of_getElem? hy)
            obtain ⟨yn, yb, yx, yu, yt, yp, yq⟩ := y
            obtain ⟨e0, e1, e2, e3, e4, e5⟩ := ha
            simp only at e0 e1 e2 e3 e4 e5 hoc
            have bx := HC1.out.below hbr.out HC1.out.lt
            have q0 := cell_regrown ((bx.cell 0).trans rfl)
            have q1 := cell_regrown ((bx.cell 1).trans rfl)
            have q2 := cell_regrown ((bx.cell 2).trans rfl)
            have r0 := cell_regrown e0
            have r1 := cell_regrown e1
            have r2 := cell_regrown e2
            have r3 := cell_regrown e3
            have r4 := cell_regrown e4
            have r5 := cell_regrown e5
            have hi0 : (0 : Int) ≤ (i : Int) := by omega
            have hi1 : (i : Int) < (nc : Int) := by omega
            have hi9 : (i : Int) ≤ 10000 := by have := HCLN.out; omega
            have KQ := hide (fun d os => Calls.regrown_of (d := d) (os := os) (KSC.out (yn, ⟨yb, yx, yu, yt, yp, yq⟩) hoc (Sort.grow (redrawn wr d) os) (HT1.out.below (hbr.out.trans ((below_regrown wr d os).mono hbr.out.size)))))
            unfold MC.v at KQ
            simp only at KQ
            have HLT := hide hlt
            clear hoc hy hlt hat bx e0 e1 e2 e3 e4 e5
            go_wp2_with fail
            refine wp_region_quiet_below (by kernel_rfl) (by kernel_rfl) ?_
            repeat (go_big_quiet_step (exact KQ.out _ _))
            refine wpQuiet_nil ?_
            intro _ hw'
            obtain ⟨⟨dq, osq⟩, hw''⟩ := hw'
            subst hw''
            have hb6 := below_regrown wr dq osq
            generalize Sort.grow (redrawn wr dq) osq = w7 at *
            clear q0 q1 q2 r0 r1 r2 r3 r4 r5 KQ
            have HB7 := hide (hbr.out.trans (hb6.mono hbr.out.size))
            clear hb6
            go_wp2_with fail
            go_roundw
            case rel => exact ⟨i + 1, by have := HLT.out; omega, by go_num, HB7⟩
            case measure => have := HLT.out; simp [intOf]; omega
          · obtain rfl : nc = i := by omega
            have HBS := hide hbr.out
            clear hbr hlt hi
            go_wp2_with fail
            go_ret
            exact ⟨rfl, HB1.out.trans (HBS.out.mono HB1.out.size)⟩
end Go.Proofs.YtfkgmodgkifelaaGreatDoor
namespace Go.Proofs.YtfkgmodgkifelaaGreatDoor
open Go.RowKit

theorem InE.drew {w : World} {v : Value} {l : List Ed} (h : InE w v l) : InE w.drew v l := h.below (Below.refl w.heap.size w).drew
set_option maxHeartbeats 8000000 in
set_option maxRecDepth 100000 in
theorem lcheck_all (P : PD) (hok : PatOk P) (hfit : FitA P) (VB VA VP : Value) (w : World) (hT : Tabs w) (hP : InPat w VB VA VP P) :
    Calls Tryz.prog 12 #[patV VB P.rows VA P.too VP] w fun e w' => e = .returned (.int .i64 0) ∧ Below w.heap.size w w' := by
  obtain ⟨W1, hW1⟩ : ∃ W1, w.alloc (.cells #[VB, .int .i64 (P.rows : Nat), VA, .int .i64 (P.too : Nat), VP] 34) = W1 := ⟨_, rfl⟩
  have hb1 : Below w.heap.size w W1 := by rw [← hW1]; exact (Below.refl _ _).alloc (Nat.le_refl _) _
  have hk1 : Blk W1 w.heap.size 34 #[VB, .int .i64 (P.rows : Nat), VA, .int .i64 (P.too : Nat), VP] := by rw [← hW1]; exact Blk.new _ _ _
  have hl1 : P.before.length ≤ 100000 := by have := (colsE_ok hok.b).le; omega
  have hl2 : P.after.length ≤ 32 := (colsE_ok hok.a).le
  have KB := hide (fun w hT hv => scolumns_ok P.before hok.b VB w hT hv)
  have KA := hide (fun w hT hv => scolumns_ok P.after hok.a VA w hT hv)
  have KMY := hide (fun (i : Nat) (c : Col) (x : PartD) (hc : P.after[i]? = some c) (hx : P.parts[i]? = some x) (VE VC : Value) (w : World) (hT : Tabs w) (hB : InK w VB P.before) (hE : InE w VE x.2.1) (hM : InM w VC x.2.2) =>
    lmay_any P.before hl1 P.rows P.too hok.r hok.t c (hok.col hc) x (hok.p i c x hc hx) (hfit i c x hc hx) VB VE VC w hT hB hE hM)
  have HMN := hide (fun (i : Nat) (c : Col) (x : PartD) (hc : P.after[i]? = some c) (hx : P.parts[i]? = some x) => (hok.p i c x hc hx).many)
  have HP := hide (hP.below hb1)
  have HT := hide (hT.below hb1)
  have hr := hok.r
  have ht := hok.t
  have hn := hok.n
  obtain ⟨A1, c1, hv1⟩ := hP.b.form
  obtain ⟨A2, c2, hv2⟩ := hP.a.form
  obtain ⟨A3, c3, hv3⟩ := hP.p.form
  rw [hn] at hv3
  subst hv1 hv2 hv3
  unfold patV
  obtain ⟨before, rows, after, too, parts⟩ := P
  simp only at KB KA KMY HMN hr ht hn hl2 hW1 hk1 HP ⊢
  clear hP hok hT hl1 hfit
  have HN := hide hn
  clear hn
  generalize hln : after.length = n at *
  have HLN := hide hln
  have hn4 : (n : Int) ≤ 32 := by omega
  have hn0 : (0 : Int) ≤ (n : Int) := by omega
  have d1 : decide ((10000 : Int) < (rows : Int)) = false := by rw [decide_eq_false_iff_not]; omega
  have d2 : decide (10000 < rows) = false := by rw [decide_eq_false_iff_not]; omega
  have d3 : decide ((10000 : Int) < (too : Int)) = false := by rw [decide_eq_false_iff_not]; omega
  have d4 : decide (10000 < too) = false := by rw [decide_eq_false_iff_not]; omega
  have d5 : decide ((rows : Int) < 0) = false := by rw [decide_eq_false_iff_not]; omega
  have d6 : decide ((too : Int) < 0) = false := by rw [decide_eq_false_iff_not]; omega
  have HB1 := hide hb1
  have HK1 := hide hk1
  have HW := hide hW1
  have KB1 := hide (KB.out W1 HT.out HP.out.b)
  have k0 := hk1.cell 0
  simp at k0
  clear hln hb1 hk1 hW1 hr ht
  go_enter Tryz.func12, Tryz.ntmps12
  go_wp2_with fail
  rw [HW.out]
  go_wp2_with fail
  refine KB1.out.mono ?_
  rintro e w2 ⟨rfl, hb2⟩
  have HK2 := hide (HK1.out.below hb2 HK1.out.lt)
  have HP2 := hide (HP.out.below hb2)
  have HT2 := hide (HT.out.below hb2)
  have HB2 := hide (HB1.out.trans (hb2.mono HB1.out.size))
  have KA2 := hide (KA.out w2 HT2.out HP2.out.a)
  have k2 := HK2.out.cell 2
  simp at k2
  clear hb2 k0 KB1
  go_wp2_with fail
  refine KA2.out.mono ?_
  rintro e w3 ⟨rfl, hb3⟩
  have HK3 := hide (HK2.out.below hb3 HK2.out.lt)
  have HP3 := hide (HP2.out.below hb3)
  have HT3 := hide (HT2.out.below hb3)
  have HB3 := hide (HB2.out.trans (hb3.mono HB2.out.size))
  have k1 := HK3.out.cell 1
  have k2 := HK3.out.cell 2
  have k3 := HK3.out.cell 3
  have k4 := HK3.out.cell 4
  simp at k1 k2 k3 k4
  clear hb3 KA2
  go_wp2_with fail
  clear k1 k2 k3 k4
  go_loopw [3] (fun iv wr => ∃ i : Nat, i ≤ n ∧ iv = .int .i64 (i : Int) ∧ Hid (Below w3.heap.size w3 wr)) (fun iv _ => n - (intOf iv).toNat)
  case atStart => exact ⟨0, by omega, rfl, Below.refl _ _⟩
  case round =>
    obtain ⟨i, hi, rfl, hbr⟩ := hrel
    have kb := HK3.out.below hbr.out HK3.out.lt
    have k4 := kb.cell 4
    simp at k4
    by_cases hlt : i < n
    · obtain ⟨c, hc⟩ : ∃ c, after[i]? = some c := ⟨after[i]'(by rw [HLN.out]; exact hlt), List.getElem?_eq_getElem _⟩
      obtain ⟨x, hx⟩ : ∃ x, parts[i]? = some x := ⟨parts[i]'(by rw [HN.out]; exact hlt), List.getElem?_eq_getElem _⟩
      obtain ⟨gp, VE, VC, hA3, hgp, hap, hie, him⟩ := HP3.out.p.cells i x hx
      obtain ⟨ga, hA2, hga, hat⟩ := HP3.out.a.cells i c hc
      subst hA2 hA3
      have HP4 := HP3.out.below hbr.out
      have hgp4 : gp < wr.heap.size := Nat.lt_of_lt_of_le hgp hbr.out.size
      have hga4 : ga < wr.heap.size := Nat.lt_of_lt_of_le hga hbr.out.size
      have hat4 := hat.below hbr.out hga
      have hap4 := hap.below hbr.out hgp
      have HS := hide (fun (w' : World) (h : Below wr.heap.size wr w') => show w'.cell? ⟨w.heap.size, 0, none⟩ = some (.slice A1 before.length c1) ∧ w'.cell? ⟨w.heap.size, 1, none⟩ = some (.int .i64 (rows : Nat)) ∧ w'.cell? ⟨w.heap.size, 2, none⟩ = some (.slice (some ⟨ga, 0, none⟩) n c2) ∧ w'.cell? ⟨w.heap.size, 3, none⟩ = some (.int .i64 (too : Nat)) ∧ w'.cell? ⟨w.heap.size, 4, none⟩ = some (.slice (some ⟨gp, 0, none⟩) n c3)
          ∧ w'.cell? ⟨ga, i * 3, none⟩ = some (.string c.1) ∧ w'.cell? ⟨ga, i * 3 + 1, none⟩ = some (.int .i64 c.2.1) ∧ w'.cell? ⟨ga, i * 3 + 2, none⟩ = some (.bool c.2.2)
          ∧ w'.cell? ⟨gp, i * 3, none⟩ = some (.bool x.1) ∧ w'.cell? ⟨gp, i * 3 + 1, none⟩ = some VE ∧ w'.cell? ⟨gp, i * 3 + 2, none⟩ = some VC from
        have b := kb.below h kb.lt
        have a := hat4.below h hga4
        have p := hap4.below h hgp4
        ⟨b.cell 0, b.cell 1, b.cell 2, b.cell 3, b.cell 4, a.c0, a.c1, a.c2, p.c0, p.c1, p.c2⟩)
      have KE := hide (ledits_any x.2.1 (HMN.out i c x hc hx) VE wr.drew (((hie.below hbr.out)).drew))
      have KM := hide (fun (v5 : Value) (w5 : World) (hb : Below wr.heap.size wr w5) (hv : InE w5 v5 x.2.1) => KMY.out i c x hc hx v5 VC w5 (HT3.out.below (hbr.out.trans (hb.mono hbr.out.size))) (HP4.b.below hb) hv ((him.below hbr.out).below hb))
      have HDR := hide (fun (w5 : World) (h : Below wr.drew.heap.size wr.drew w5) => show Below wr.heap.size wr w5 from ⟨h.os, h.tape, h.output, h.size, h.block⟩)
      have hS0 := HS.out wr.drew ((Below.refl wr.heap.size wr).drew)
      obtain ⟨AE, cE, hVE⟩ := hie.form
      obtain ⟨AC, cC, hVC⟩ := him.formL
      have hi1 : (i : Int) < (n : Int) := by omega
      have hi0 : (0 : Int) ≤ (i : Int) := by omega
      have HLT := hide hlt
      have HBR := hide hbr.out
      clear hc hx hap hie him hat HP4 hat4 hap4 hlt kb hbr
      obtain ⟨nm, k, nl⟩ := c
      obtain ⟨sm, es, cl⟩ := x
      unfold colV at KM
      simp only at KE KM HS hS0 hVE hVC
      subst hVE hVC
      obtain ⟨s0, s1, s2, s3, s4, s5, s6, s7, s8, s9, s10⟩ := hS0
      go_wp2_with fail
      go_region_held3 (fun w' => w'.cell? ⟨w.heap.size, 0, none⟩ = some (.slice A1 before.length c1) ∧ w'.cell? ⟨w.heap.size, 1, none⟩ = some (.int .i64 (rows : Nat)) ∧ w'.cell? ⟨w.heap.size, 2, none⟩ = some (.slice (some ⟨ga, 0, none⟩) n c2) ∧ w'.cell? ⟨w.heap.size, 3, none⟩ = some (.int .i64 (too : Nat)) ∧ w'.cell? ⟨w.heap.size, 4, none⟩ = some (.slice (some ⟨gp, 0, none⟩) n c3)
          ∧ w'.cell? ⟨ga, i * 3, none⟩ = some (.string nm) ∧ w'.cell? ⟨ga, i * 3 + 1, none⟩ = some (.int .i64 k) ∧ w'.cell? ⟨ga, i * 3 + 2, none⟩ = some (.bool nl)
          ∧ w'.cell? ⟨gp, i * 3, none⟩ = some (.bool sm) ∧ w'.cell? ⟨gp, i * 3 + 1, none⟩ = some (.slice AE es.length cE) ∧ w'.cell? ⟨gp, i * 3 + 2, none⟩ = some (.slice AC cl.length cC)) (first | assumption | exact ⟨s0, s1, s2, s3, s4, s5, s6, s7, s8, s9, s10⟩ | exact HS.out _ hbx) (first
          | (go_at_call 36; refine KE.out.mono ?_; rintro e w5 ⟨⟨v5, rfl, hv5⟩, hb5⟩; have hbx := HDR.out w5 hb5)
          | (go_at_call 35; refine (KM.out _ _ hbx hv5).mono ?_; rintro e w6 ⟨rfl, hb6⟩; have hby := hbx.trans (hb6.mono hbx.size); have hbx := hby))
      all_goals
        have HB6 := hide (HBR.out.trans (hby.mono HBR.out.size))
        clear hb5 hb6 hbx hby hv5 s0 s1 s2 s3 s4 s5 s6 s7 s8 s9 s10
        go_wp2_with fail
        go_roundw
        case rel => exact ⟨i + 1, by have := HLT.out; omega, by go_num, HB6⟩
        case measure => have := HLT.out; simp [intOf]; omega
    · obtain rfl : n = i := by omega
      have HBR := hide hbr.out
      clear hbr hlt hi kb
      go_wp2_with fail
      go_ret
      exact ⟨rfl, HB3.out.trans (HBR.out.mono HB3.out.size)⟩
end Go.Proofs.YtfkgmodgkifelaaGreatDoor
namespace Go.Proofs.YtfkgmodgkifelaaGreatDoor
open Go.RowKit

set_option maxHeartbeats 8000000 in
set_option maxRecDepth 100000 in
theorem diffReads_of (KA0 : ∀ w, Tabs w → Calls Tryz.prog 9 #[] w fun e w' => e = .returned (.bool true) ∧ Below w.heap.size w w') (s : ByteArray) (hs : s.size ≤ maxLen) (w : World) (hT : Tabs w) :
    Calls Tryz.prog 4 #[.string s] w fun e w' => e = .returned (.bool true) ∧ Below w.heap.size w w' := by
  have KA := hide (fun (w' : World) (hb : Below w.heap.size w w') => KA0 w' (hT.below hb))
  have HT := hide hT
  by_cases h600 : s.size ≤ 600
  · have KD := hide (ddecode_all s h600 w hT)
    have h1 : (s.size : Int) ≤ 600 := by omega
    have HS6 := hide h600
    clear h600 hs hT KA0
    go_enter Tryz.func4, Tryz.ntmps4
    go_wp2_with fail
    refine KD.out.mono ?_
    rintro e w1 ⟨hdec, hb1⟩
    have HDEC := hide hdec
    clear hdec
    rcases HDEC.out with ⟨er, her, hek, rfl⟩ | ⟨P, VB, VA, VP, rfl, hok, hfit, hpb, hpat⟩
    · have HB1 := hide hb1
      have HA2 := hide (fun o => hb1.alloc hb1.size o)
      unfold noPat
      clear HDEC hb1
      unfold Eok at hek
      rcases hek with rfl | rfl | rfl | rfl | rfl | rfl | rfl
      · exact absurd rfl her
      all_goals
        go_wp2_with fail
        refine (KA.out _ (HA2.out _)).mono ?_
        rintro e w2 ⟨rfl, hb2⟩
        have HB2 := hide ((HA2.out _).trans (hb2.mono (HA2.out _).size))
        clear hb2
        go_wp2_with fail
        go_ret
        exact ⟨rfl, HB2.out⟩
    · have hlen : (patB P).length ≤ 600 := by rw [hpb, bn_len]; exact HS6.out
      have hby : ∀ b ∈ patB P, b < 256 := by rw [hpb]; exact bn_lt s
      obtain ⟨A1, c1, hv1⟩ := hpat.b.form
      obtain ⟨A2, c2, hv2⟩ := hpat.a.form
      obtain ⟨A3, c3, hv3⟩ := hpat.p.form
      subst hv1 hv2 hv3
      have hb2 : ∀ o, Below w1.heap.size w1 (w1.alloc o) := fun o => (Below.refl _ _).alloc (Nat.le_refl _) _
      have KE := hide (fun o => pencode_pat P hok hfit hlen hby _ _ _ (w1.alloc o) (HT.out.below (hb1.trans ((hb2 o).mono hb1.size))) (hpat.below (hb2 o)))
      have KC := hide (fun o w' (h : Below (w1.alloc o).heap.size (w1.alloc o) w') => lcheck_all P hok hfit _ _ _ w' (HT.out.below (hb1.trans (((hb2 o).trans (h.mono (hb2 o).size)).mono hb1.size))) ((hpat.below (hb2 o)).below h))
      rw [hpb, strN_bn] at KE
      have HK := hide (Blk.new w1 #[.slice A1 P.before.length c1, .int .i64 (P.rows : Nat), .slice A2 P.after.length c2, .int .i64 (P.too : Nat), .slice A3 P.parts.length c3] 34)
      have HB2 := hide (fun o => hb1.alloc hb1.size o)
      have HB1 := hide hb1
      unfold patV at KE KC ⊢
      obtain ⟨before, rows, after, too, parts⟩ := P
      simp only at KE KC HK ⊢
      generalize before.length = nb at *
      generalize after.length = na at *
      generalize parts.length = np at *
      have hq : (s.toList == s.toList) = true := beq_self_eq_true _
      clear HDEC hok hfit hpb hpat hlen hby hb1 hb2
      go_wp2_with fail
      refine (KE.out _).mono ?_
      rintro e w2 ⟨rfl, hb2⟩
      have KC2 := hide (KC.out _ w2 hb2)
      have HB3 := hide ((HB2.out _).trans (hb2.mono (HB2.out _).size))
      have bk := HK.out.below hb2 HK.out.lt
      have k0 := bk.cell 0
      have k1 := bk.cell 1
      have k2 := bk.cell 2
      have k3 := bk.cell 3
      have k4 := bk.cell 4
      simp at k0 k1 k2 k3 k4
      clear hb2 bk
      go_wp2_with fail
      refine KC2.out.mono ?_
      rintro e w3 ⟨rfl, hb3⟩
      have HB4 := hide (HB3.out.trans (hb3.mono HB3.out.size))
      clear hb3 k0 k1 k2 k3 k4
      go_wp2_with fail
      refine (KA.out _ HB4.out).mono ?_
      rintro e w4 ⟨rfl, hb4⟩
      have HB5 := hide (HB4.out.trans (hb4.mono HB4.out.size))
      clear hb4
      go_wp2_with fail
      go_ret
      exact ⟨rfl, HB5.out⟩
  · have h1 : (600 : Int) < (s.size : Int) := by omega
    have h0 := hs
    unfold maxLen at h0
    have KA2 := hide (KA.out w (Below.refl _ _))
    clear h600 hT hs KA0
    go_enter Tryz.func4, Tryz.ntmps4
    go_wp2_with fail
    refine KA2.out.mono ?_
    rintro e w4 ⟨rfl, hb4⟩
    have HE4 := hide hb4
    clear hb4
    go_wp2_with fail
    go_ret
    exact ⟨rfl, HE4.out⟩
end Go.Proofs.YtfkgmodgkifelaaGreatDoor
