/- Patches: whether a part is as it must be. Patches: diff.Check, of what is read. -/
import Derived.Test.YtfkgmodgkifelaaGreatDoorJ44
import Derived.Lib.QuietBelow
namespace Go.Proofs.YtfkgmodgkifelaaGreatDoor
open Go.RowKit

theorem edC_ok {k : Int} {nl : Bool} {c : MC} (h : EdC k c) (hn : c.1 = true → nl = true) : okM nl k c := by
  unfold EdC at h
  unfold okM
  split
  · rename_i hc
    rw [if_pos hc] at h
    exact ⟨hn hc, h⟩
  · rename_i hc
    rwa [if_neg hc] at h
theorem InE.cells {w : World} {A : Option Addr} {n c : Nat} {l : List Ed} (h : InE w (.slice A n c) l) : ∀ i x, l[i]? = some x → ∃ g, A = some ⟨g, 0, none⟩ ∧ g < w.heap.size ∧ AtE w g (i * 7) x.1 x.2.1 x.2.2.b x.2.2.x x.2.2.u x.2.2.t x.2.2.p x.2.2.q := by
  obtain ⟨A', c', he, hc⟩ := h
  injection he with h1 h2 h3
  subst h1
  exact hc
theorem inM_one {w : World} {g : Nat} {t : TypeId} {n b : Bool} {x u : Int} {s : ByteArray} {p q : Nat} (h : Blk w g t #[.bool n, .bool b, .int .i64 x, .int .u64 u, .string s, .complex .f64 p q]) : InM w (.slice (some ⟨g, 0, none⟩) 1 1) [(n, ⟨b, x, u, s, p, q⟩)] := by
  refine ⟨some ⟨g, 0, none⟩, 1, rfl, fun i y hy => ⟨g, rfl, h.lt, ?_⟩⟩
  cases i with
  | zero =>
    obtain rfl : _ = y := by simpa using hy
    exact ⟨h.cell 0, h.cell 1, h.cell 2, h.cell 3, h.cell 4, h.cell 5⟩
  | succ i => simp at hy
def FitsPost (F : Prop) (w : World) (e : Ending) (w' : World) : Prop := (∃ r : Bool, e = .returned (.bool r) ∧ (r = true ↔ F)) ∧ Below w.heap.size w w'
set_option maxHeartbeats 8000000 in
set_option maxRecDepth 100000 in
theorem fits_any (before : List Col) (hbl : before.length ≤ 100000) (rows too : Nat) (hrw : rows ≤ 10000) (htw : too ≤ 10000) (after : List Col) (parts : List PartD) (j : Nat) (c : Col) (x : PartD) (hcj : after[j]? = some c) (hxj : parts[j]? = some x) (hok : PartOk before rows too c x) (hc : colE c.1 c.2.1 = 0)
    (VB VA VP : Value) (w : World) (hT : Tabs w) (hB : InK w VB before) (hA : InK w VA after) (hP : InP w VP parts) :
    Calls Tryz.prog 72 #[patV VB rows VA too VP, .int .i64 (j : Nat)] w (FitsPost (FitP before rows too c x) w) := by
  obtain ⟨A1, c1, hVB⟩ := hB.form
  subst hVB
  obtain ⟨A2, c2, rfl, _, hA⟩ := hA
  obtain ⟨A3, c3, rfl, hP⟩ := hP
  obtain ⟨ga, hA2, hga, hat⟩ := hA j c hcj
  obtain ⟨gp, VE, VC, hA3, hgp, hap, hie, him⟩ := hP j x hxj
  subst hA2 hA3
  obtain ⟨AE, cE, hVE⟩ := hie.form
  subst hVE
  obtain ⟨AC, cC, hVC⟩ := him.formL
  subst hVC
  obtain ⟨W1, hW1⟩ : ∃ W1, w.alloc (.cells #[.slice A1 before.length c1, .int .i64 (rows : Nat), .slice (some ⟨ga, 0, none⟩) after.length c2, .int .i64 (too : Nat), .slice (some ⟨gp, 0, none⟩) parts.length c3] 34) = W1 := ⟨_, rfl⟩
  have hb1 : Below w.heap.size w W1 := by rw [← hW1]; exact (Below.refl _ _).alloc (Nat.le_refl _) _
  have hk1 : Blk W1 w.heap.size 34 #[.slice A1 before.length c1, .int .i64 (rows : Nat), .slice (some ⟨ga, 0, none⟩) after.length c2, .int .i64 (too : Nat), .slice (some ⟨gp, 0, none⟩) parts.length c3] := by rw [← hW1]; exact Blk.new _ _ _
  obtain ⟨a0, a1, a2⟩ := hat.below hb1 hga
  obtain ⟨p0, p1, p2⟩ := hap.below hb1 hgp
  have k2 := hk1.cell 2
  have k4 := hk1.cell 4
  simp at k2 k4
  have hja := (List.getElem?_eq_some_iff.1 hcj).1
  have hjp := (List.getElem?_eq_some_iff.1 hxj).1
  have hja1 : (j : Int) < (after.length : Int) := by omega
  have hjp1 : (j : Int) < (parts.length : Int) := by omega
  have HOK := hide hok
  have HCE := hide hc
  have HT1 := hide (hT.below hb1)
  have HB1 := hide hb1
  have HK1 := hide hk1
  have HKB := hide (hB.below hb1)
  have HIE := hide (hie.below hb1)
  have HIM := hide (him.below hb1)
  have HW := hide hW1
  have hlw := hk1.lt
  have hga1 : ga < W1.heap.size := Nat.lt_of_lt_of_le hga hb1.size
  have hgp1 : gp < W1.heap.size := Nat.lt_of_lt_of_le hgp hb1.size
  generalize after.length = na at *
  generalize parts.length = np at *
  clear hA hP hat hap hie him hb1 hk1 hW1 hcj hxj hok hc hT hB
  obtain ⟨nm, k, nl⟩ := c
  obtain ⟨sm, es, cl⟩ := x
  simp only at a0 a1 a2 p0 p1 p2 HIE HIM HCE
  unfold patV
  go_enter Tryz.func72, Tryz.ntmps72
  go_wp2_with fail
  rw [HW.out]
  go_cut [5, 6] (fun u5 u6 wx => ∃ b5 b6, u5 = .pointer (some ⟨b5, 0, none⟩) ∧ u6 = .pointer (some ⟨b6, 0, none⟩) ∧ Hid (W1.heap.size ≤ b5 ∧ W1.heap.size ≤ b6 ∧ Blk wx b5 23 #[.string nm, .int .i64 k, .bool nl] ∧ Blk wx b6 65 #[.bool sm, .slice AE es.length cE, .slice AC cl.length cC] ∧ Below W1.heap.size W1 wx))
  case first =>
    go_region
    · go_wp2_with fail
      go_meet
      case rel => exact ⟨_, _, rfl, rfl, hide ⟨Nat.le_refl _, Nat.le_succ _, ((Blk.new W1 _ _).alloc _).drew, (blk_n2 W1 _ _ _).drew, (((Below.refl W1.heap.size W1).alloc (Nat.le_refl _) _).alloc (by simp) _).drew⟩⟩
    · go_wp2_with fail
      go_meet
      case rel => exact ⟨_, _, rfl, rfl, hide ⟨Nat.le_succ _, Nat.le_refl _, (blk_n2 W1 _ _ _).drew, ((Blk.new W1 _ _).alloc _).drew, (((Below.refl W1.heap.size W1).alloc (Nat.le_refl _) _).alloc (by simp) _).drew⟩⟩
  case rest =>
    obtain ⟨b5, b6, rfl, rfl, hk⟩ := hcut
    obtain ⟨h5, h6, hk5, hk6, hbx⟩ := hk.out
    have hst := fun (w1 : World) (a1 : Addr) (m : Mode) (x y : Nat) => run_store Tryz.prog w1 a1 (.complex .f64 x y) m rfl
    have hpx := HK1.out.below hbx HK1.out.lt
    have q0 := cell_regrown ((hpx.cell 3).trans rfl)
    have q1 := cell_regrown ((hpx.cell 0).trans rfl)
    have q2 := cell_regrown ((hk5.cell 0).trans rfl)
    have q3 := cell_regrown ((hk5.cell 1).trans rfl)
    have q4 := cell_regrown ((hk5.cell 2).trans rfl)
    have KQ := hide (fun d os => Calls.regrown_of (d := d) (os := os) (contains_any before hbl (nm, k, nl) _ (Sort.grow (redrawn wc d) os) (HKB.out.below (hbx.trans ((below_regrown wc d os).mono hbx.size)))))
    unfold colV at KQ
    simp only at KQ
    have HK5 := hide hk5
    have HK6 := hide hk6
    have HKP := hide hpx
    have HBX := hide hbx
    have HMM : Hid (decide ((nm, k, nl) ∈ before) = decide ((nm, k, nl) ∈ before)) := rfl
    obtain ⟨kept, hkept⟩ : ∃ kp, decide ((nm, k, nl) ∈ before) = kp := ⟨_, rfl⟩
    rw [hkept] at KQ
    have hsame : sm = kept := by rw [← hkept]; exact HOK.out.same
    have HKEPT := hide hkept
    clear hk hk5 hk6 hbx hpx hkept HMM a0 a1 a2 p0 p1 p2 k2 k4
    go_wp2_with fail
    refine wp_region_quiet_below (by kernel_rfl) (by kernel_rfl) ?_
    repeat (go_big_quiet_step (exact KQ.out _ _))
    refine wpQuiet_nil ?_
    intro _ hw'
    obtain ⟨⟨dq, osq⟩, hw''⟩ := hw'
    subst hw''
    have hb6 := below_regrown wc dq osq
    generalize Sort.grow (redrawn wc dq) osq = w7 at *
    clear q0 q1 q2 q3 q4 KQ
    have HY5 := hide (HK5.out.below hb6 HK5.out.lt)
    have HY6 := hide (HK6.out.below hb6 HK6.out.lt)
    have HYP := hide (HKP.out.below hb6 HKP.out.lt)
    have hbw := HBX.out.trans (hb6.mono HBX.out.size)
    have HB7 := hide (HB1.out.trans (hbw.mono HB1.out.size))
    have HT7 := hide (HT1.out.below hbw)
    have HIE7 := hide (HIE.out.below hbw)
    have HIM7 := hide (HIM.out.below hbw)
    have KMAY := hide (fun w hT (hV : InM w (.slice AC cl.length cC) cl) => dmay_ok (nm, k, nl) HCE.out cl HOK.out.len HOK.out.cel _ w hT hV)
    unfold colV at KMAY
    simp only at KMAY
    have HEDS := hide HOK.out.eds
    have HNONE := hide HOK.out.none
    have HMANY := hide HOK.out.many
    simp only at HEDS HNONE HMANY
    clear hb6 hbw HK5 HK6 HKP HBX HIE HIM HT1
    obtain ⟨mn, hmn⟩ : ∃ mn, min rows too = mn := ⟨_, rfl⟩
    rw [hmn] at HEDS
    have hmi : min (rows : Int) (too : Int) = (mn : Int) := by omega
    generalize hne : es.length = ne at *
    have HNE := hide hne
    generalize hnc : cl.length = nc at *
    have HNC := hide hnc
    have p1 := HYP.out.cell 1
    have p3 := HYP.out.cell 3
    have s0 := HY6.out.cell 0
    have s1 := HY6.out.cell 1
    have s2 := HY6.out.cell 2
    simp at p1 p3 s0 s1 s2
    clear hne hnc hmn
    cases kept
    · subst hsame
      have hnin : (nm, k, nl) ∉ before := of_decide_eq_false HKEPT.out
      have hn0 : ne = 0 := by rw [← HNE.out, HNONE.out rfl]; rfl
      have hn1 : decide ((0 : Int) < (ne : Int)) = false := by rw [decide_eq_false_iff_not]; omega
      have hn2 : decide (0 < ne) = false := by rw [decide_eq_false_iff_not]; omega
      clear hn0
      by_cases hw : nc = too
      · have HWANT : Hid (cl.length = (if (nm, k, nl) ∈ before then too - rows else too)) := by show _ = _; rw [if_neg hnin, HNC.out, hw]
        subst hw

        have KMY := KMAY.out w7 HT7.out HIM7.out
        have KMY2 := hide KMY
        have y0 := HY5.out.cell 0
        have y1 := HY5.out.cell 1
        have y2 := HY5.out.cell 2
        have z0 := HY6.out.cell 0
        have z1 := HY6.out.cell 1
        have z2 := HY6.out.cell 2
        simp at y0 y1 y2 z0 z1 z2
        clear KMY
        go_wp2_with fail
        refine KMY2.out.mono ?_
        rintro e w8 ⟨rfl, hb8⟩
        have HB8 := hide (HB7.out.trans (hb8.mono HB7.out.size))
        have HX5 := hide (HY5.out.below hb8 HY5.out.lt)
        have HX6 := hide (HY6.out.below hb8 HY6.out.lt)
        have HXP := hide (HYP.out.below hb8 HYP.out.lt)
        have HIE8 := hide (HIE7.out.below hb8).cells
        have HT8 := hide (HT7.out.below hb8)
        clear hb8 y0 y1 y2 z0 z1 z2 KMY2
        have z1 := HX6.out.cell 1
        simp at z1
        go_wp2_with fail
        clear z1
        go_loopw [9, 66] (fun lv iv wr => ∃ (i : Nat) (L : Int), i ≤ ne ∧ iv = .int .i64 (i : Int) ∧ lv = .int .i64 L ∧ Hid (L = ((nxE es i : Nat) : Int) - 1) ∧ Hid (∀ j < i, ∀ y, es[j]? = some y → y.2.1 = true → nl = true) ∧ Hid (Below w8.heap.size w8 wr)) (fun _ iv _ => ne - (intOf iv).toNat)
        case atStart => exact ⟨0, -1, by omega, rfl, rfl, hide rfl, hide (fun j hj => by omega), Below.refl _ _⟩
        case round =>
          obtain ⟨i, L, hi, rfl, rfl, hL, hno, hbr⟩ := hrel
          by_cases hlt : i < ne
          · obtain ⟨y, hy⟩ : ∃ y, es[i]? = some y := ⟨es[i]'(by rw [HNE.out]; exact hlt), List.getElem?_eq_getElem _⟩
            obtain ⟨g, hA, hg, hat⟩ := HIE8.out i y hy
            subst hA
            obtain ⟨e0, e1, e2, e3, e4, e5, e6⟩ := hat.below hbr.out hg
            obtain ⟨hr1, hr2⟩ := HEDS.out.row i y hy
            have hec := HEDS.out.cel y (List.mem_of_getElem? hy)
            have hnz : nxE es (i + 1) = y.1 + 1 := nxE_succ hy
            obtain ⟨yr, yn, yb, yx, yu, yt, yp, yq⟩ := y
            simp only at e0 e1 e2 e3 e4 e5 e6 hr1 hr2 hec hnz
            have hi9 : (i : Int) ≤ 10000 := by have := HMANY.out; omega
            have bx5 := HX5.out.below hbr.out HX5.out.lt
            have bxp := HXP.out.below hbr.out HXP.out.lt
            have q0 := bx5.cell 0
            have q1 := bx5.cell 1
            have q2 := bx5.cell 2
            have r1 := bxp.cell 1
            have r3 := bxp.cell 3
            simp at q0 q1 q2 r1 r3
            have d1 : decide ((yr : Int) ≤ L) = false := by rw [decide_eq_false_iff_not]; have := hL.out; omega
            have d2 : decide ((mn : Int) ≤ (yr : Int)) = false := by rw [decide_eq_false_iff_not]; omega
            have d2' : decide (mn ≤ yr) = false := by rw [decide_eq_false_iff_not]; omega
            have hi0 : (0 : Int) ≤ (i : Int) := by omega
            have hi1 : (i : Int) < (ne : Int) := by omega
            have hwz : w8.heap.size ≤ wr.heap.size := hbr.out.size
            have hb2 : ∀ o1 o2, Below w8.heap.size w8 ((wr.alloc o1).alloc o2) := fun o1 o2 => (hbr.out.alloc hbr.out.size o1).alloc (by simp; omega) o2
            have b5lt : b5 < wr.heap.size := bx5.lt
            have bplt : w.heap.size < wr.heap.size := bxp.lt
            have HE := hide (fun o => blk_n2 wr o #[.bool yn, .bool yb, .int .i64 yx, .int .u64 yu, .string yt, .complex .f64 yp yq] 45)
            have HEB := hide (fun cs t o2 => (Blk.new wr cs t).alloc o2)
            have HB2 := hide hb2
            have HEC := hide hec
            have HNX := hide hnz
            have HY := hide hy
            have HLT := hide hlt
            by_cases hbad : yn = true ∧ nl = false
            · obtain ⟨rfl, rfl⟩ := hbad
              have hcz : (⟨yb, yx, yu, yt, yp, yq⟩ : CD) = CD.z := by have h := HEC.out; unfold EdC at h; rw [if_pos rfl] at h; exact h
              have KB := hide (fun o => dmay_bad (nm, k, false) HCE.out rfl _ ((wr.alloc o).alloc _) (HT8.out.below (HB2.out o _)) (by rw [← hcz]; exact inM_one (HE.out o)))
              unfold colV at KB
              simp only at KB
              clear hec hnz hy hlt hat hbr hr1 hr2 bx5 bxp hb2 hcz
              go_wp2_with fail
              refine (KB.out _).mono ?_
              rintro e w9 ⟨rfl, hb9⟩
              have HB9 := hide ((HB2.out _ _).trans (hb9.mono (HB2.out _ _).size))
              clear hb9
              go_wp2_with fail
              go_ret
              exact ⟨⟨_, rfl, (fun h => by cases h), fun h => absurd (h.2 _ (List.mem_of_getElem? HY.out) rfl) (by simp)⟩, HB8.out.trans (HB9.out.mono HB8.out.size)⟩
            · have hyn : yn = true → nl = true := by
                intro h
                cases nl
                · exact absurd ⟨h, rfl⟩ hbad
                · rfl
              have KB := hide (fun o => dmay_ok (nm, k, nl) HCE.out [(yn, ⟨yb, yx, yu, yt, yp, yq⟩)] (by simp) (fun z hz => by rw [List.mem_singleton] at hz; rw [hz]; exact edC_ok HEC.out hyn) _ ((wr.alloc o).alloc _) (HT8.out.below (HB2.out o _)) (inM_one (HE.out o)))
              unfold colV at KB
              simp only at KB
              have HYN := hide hyn
              clear hec hnz hy hlt hat hbr hr1 hr2 bx5 bxp hb2 hyn hbad
              go_wp2_with fail
              refine (KB.out _).mono ?_
              rintro e w9 ⟨rfl, hb9⟩
              have HB9 := hide ((HB2.out _ _).trans (hb9.mono (HB2.out _ _).size))
              have be := Blk.below (HEB.out #[.int .i64 (yr : Nat), .bool yn, .bool yb, .int .i64 yx, .int .u64 yu, .string yt, .complex .f64 yp yq] 67 _) hb9 (by simp; omega)
              have t0 := be.cell 0
              simp at t0
              clear hb9 be e0 e1 e2 e3 e4 e5 e6
              go_wp2_with fail
              go_roundw
              case rel =>
                refine ⟨i + 1, (yr : Int), by have := HLT.out; omega, by go_num, rfl, hide (by rw [HNX.out]; omega), hide ?_, HB9⟩
                intro j hj z hz hz1
                by_cases hji : j = i
                · subst hji
                  have := hz.symm.trans HY.out
                  injection this with this
                  subst this
                  exact HYN.out hz1
                · exact hno.out j (by omega) z hz hz1
              case measure => have := HLT.out; simp [intOf]; omega
          · obtain rfl : ne = i := by omega
            have HBR := hide hbr.out
            have HNO := hide hno.out
            clear hno hbr hlt hi
            go_wp2_with fail
            go_ret
            refine ⟨⟨_, rfl, fun _ => ⟨HWANT.out, fun z hz hz1 => ?_⟩, fun _ => rfl⟩, HB8.out.trans (HBR.out.mono HB8.out.size)⟩
            obtain ⟨j, hj⟩ := List.getElem?_of_mem hz
            exact HNO.out j (by rw [← HNE.out]; exact (List.getElem?_eq_some_iff.1 hj).1) z hj hz1
      · have hd1 : ((nc : Int) != (too : Int)) = true := by rw [bne_iff_ne]; omega
        have hd2 : (nc != too) = true := by rw [bne_iff_ne]; exact hw
        have HNW := hide (show ¬ cl.length = (if (nm, k, nl) ∈ before then too - rows else too) by rw [if_neg hnin, HNC.out]; exact hw)
        go_wp2_with fail
        go_ret
        exact ⟨⟨_, rfl, (fun h => by cases h), fun h => absurd h.1 HNW.out⟩, HB7.out⟩
    · subst hsame
      have hin : (nm, k, nl) ∈ before := of_decide_eq_true HKEPT.out
      obtain ⟨wt, hwt⟩ : ∃ wt, too - rows = wt := ⟨_, rfl⟩
      have hwr : IntKind.i64.wrap ((too : Int) - (rows : Int)) = (too : Int) - (rows : Int) := by rw [IntKind.wrap_i64]; omega
      have hmax : max ((too : Int) - (rows : Int)) 0 = (wt : Int) := by omega
      have hmax2 : max 0 ((too : Int) - (rows : Int)) = (wt : Int) := by omega
      by_cases hw : nc = wt
      · have HWANT : Hid (cl.length = (if (nm, k, nl) ∈ before then too - rows else too)) := by show _ = _; rw [if_pos hin, HNC.out, hw, hwt]
        subst hw

        have KMY := KMAY.out w7 HT7.out HIM7.out
        have KMY2 := hide KMY
        have y0 := HY5.out.cell 0
        have y1 := HY5.out.cell 1
        have y2 := HY5.out.cell 2
        have z0 := HY6.out.cell 0
        have z1 := HY6.out.cell 1
        have z2 := HY6.out.cell 2
        simp at y0 y1 y2 z0 z1 z2
        clear KMY
        go_wp2_with fail
        refine KMY2.out.mono ?_
        rintro e w8 ⟨rfl, hb8⟩
        have HB8 := hide (HB7.out.trans (hb8.mono HB7.out.size))
        have HX5 := hide (HY5.out.below hb8 HY5.out.lt)
        have HX6 := hide (HY6.out.below hb8 HY6.out.lt)
        have HXP := hide (HYP.out.below hb8 HYP.out.lt)
        have HIE8 := hide (HIE7.out.below hb8).cells
        have HT8 := hide (HT7.out.below hb8)
        clear hb8 y0 y1 y2 z0 z1 z2 KMY2
        have z1 := HX6.out.cell 1
        simp at z1
        go_wp2_with fail
        clear z1
        go_loopw [9, 66] (fun lv iv wr => ∃ (i : Nat) (L : Int), i ≤ ne ∧ iv = .int .i64 (i : Int) ∧ lv = .int .i64 L ∧ Hid (L = ((nxE es i : Nat) : Int) - 1) ∧ Hid (∀ j < i, ∀ y, es[j]? = some y → y.2.1 = true → nl = true) ∧ Hid (Below w8.heap.size w8 wr)) (fun _ iv _ => ne - (intOf iv).toNat)
        case atStart => exact ⟨0, -1, by omega, rfl, rfl, hide rfl, hide (fun j hj => by omega), Below.refl _ _⟩
        case round =>
          obtain ⟨i, L, hi, rfl, rfl, hL, hno, hbr⟩ := hrel
          by_cases hlt : i < ne
          · obtain ⟨y, hy⟩ : ∃ y, es[i]? = some y := ⟨es[i]'(by rw [HNE.out]; exact hlt), List.getElem?_eq_getElem _⟩
            obtain ⟨g, hA, hg, hat⟩ := HIE8.out i y hy
            subst hA
            obtain ⟨e0, e1, e2, e3, e4, e5, e6⟩ := hat.below hbr.out hg
            obtain ⟨hr1, hr2⟩ := HEDS.out.row i y hy
            have hec := HEDS.out.cel y (List.mem_of_getElem? hy)
            have hnz : nxE es (i + 1) = y.1 + 1 := nxE_succ hy
            obtain ⟨yr, yn, yb, yx, yu, yt, yp, yq⟩ := y
            simp only at e0 e1 e2 e3 e4 e5 e6 hr1 hr2 hec hnz
            have hi9 : (i : Int) ≤ 10000 := by have := HMANY.out; omega
            have bx5 := HX5.out.below hbr.out HX5.out.lt
            have bxp := HXP.out.below hbr.out HXP.out.lt
            have q0 := bx5.cell 0
            have q1 := bx5.cell 1
            have q2 := bx5.cell 2
            have r1 := bxp.cell 1
            have r3 := bxp.cell 3
            simp at q0 q1 q2 r1 r3
            have d1 : decide ((yr : Int) ≤ L) = false := by rw [decide_eq_false_iff_not]; have := hL.out; omega
            have d2 : decide ((mn : Int) ≤ (yr : Int)) = false := by rw [decide_eq_false_iff_not]; omega
            have d2' : decide (mn ≤ yr) = false := by rw [decide_eq_false_iff_not]; omega
            have hi0 : (0 : Int) ≤ (i : Int) := by omega
            have hi1 : (i : Int) < (ne : Int) := by omega
            have hwz : w8.heap.size ≤ wr.heap.size := hbr.out.size
            have hb2 : ∀ o1 o2, Below w8.heap.size w8 ((wr.alloc o1).alloc o2) := fun o1 o2 => (hbr.out.alloc hbr.out.size o1).alloc (by simp; omega) o2
            have b5lt : b5 < wr.heap.size := bx5.lt
            have bplt : w.heap.size < wr.heap.size := bxp.lt
            have HE := hide (fun o => blk_n2 wr o #[.bool yn, .bool yb, .int .i64 yx, .int .u64 yu, .string yt, .complex .f64 yp yq] 45)
            have HEB := hide (fun cs t o2 => (Blk.new wr cs t).alloc o2)
            have HB2 := hide hb2
            have HEC := hide hec
            have HNX := hide hnz
            have HY := hide hy
            have HLT := hide hlt
            by_cases hbad : yn = true ∧ nl = false
            · obtain ⟨rfl, rfl⟩ := hbad
              have hcz : (⟨yb, yx, yu, yt, yp, yq⟩ : CD) = CD.z := by have h := HEC.out; unfold EdC at h; rw [if_pos rfl] at h; exact h
              have KB := hide (fun o => dmay_bad (nm, k, false) HCE.out rfl _ ((wr.alloc o).alloc _) (HT8.out.below (HB2.out o _)) (by rw [← hcz]; exact inM_one (HE.out o)))
              unfold colV at KB
              simp only at KB
              clear hec hnz hy hlt hat hbr hr1 hr2 bx5 bxp hb2 hcz
              go_wp2_with fail
              refine (KB.out _).mono ?_
              rintro e w9 ⟨rfl, hb9⟩
              have HB9 := hide ((HB2.out _ _).trans (hb9.mono (HB2.out _ _).size))
              clear hb9
              go_wp2_with fail
              go_ret
              exact ⟨⟨_, rfl, (fun h => by cases h), fun h => absurd (h.2 _ (List.mem_of_getElem? HY.out) rfl) (by simp)⟩, HB8.out.trans (HB9.out.mono HB8.out.size)⟩
            · have hyn : yn = true → nl = true := by
                intro h
                cases nl
                · exact absurd ⟨h, rfl⟩ hbad
                · rfl
              have KB := hide (fun o => dmay_ok (nm, k, nl) HCE.out [(yn, ⟨yb, yx, yu, yt, yp, yq⟩)] (by simp) (fun z hz => by rw [List.mem_singleton] at hz; rw [hz]; exact edC_ok HEC.out hyn) _ ((wr.alloc o).alloc _) (HT8.out.below (HB2.out o _)) (inM_one (HE.out o)))
              unfold colV at KB
              simp only at KB
              have HYN := hide hyn
              clear hec hnz hy hlt hat hbr hr1 hr2 bx5 bxp hb2 hyn hbad
              go_wp2_with fail
              refine (KB.out _).mono ?_
              rintro e w9 ⟨rfl, hb9⟩
              have HB9 := hide ((HB2.out _ _).trans (hb9.mono (HB2.out _ _).size))
              have be := Blk.below (HEB.out #[.int .i64 (yr : Nat), .bool yn, .bool yb, .int .i64 yx, .int .u64 yu, .string yt, .complex .f64 yp yq] 67 _) hb9 (by simp; omega)
              have t0 := be.cell 0
              simp at t0
              clear hb9 be e0 e1 e2 e3 e4 e5 e6
              go_wp2_with fail
              go_roundw
              case rel =>
                refine ⟨i + 1, (yr : Int), by have := HLT.out; omega, by go_num, rfl, hide (by rw [HNX.out]; omega), hide ?_, HB9⟩
                intro j hj z hz hz1
                by_cases hji : j = i
                · subst hji
                  have := hz.symm.trans HY.out
                  injection this with this
                  subst this
                  exact HYN.out hz1
                · exact hno.out j (by omega) z hz hz1
              case measure => have := HLT.out; simp [intOf]; omega
          · obtain rfl : ne = i := by omega
            have HBR := hide hbr.out
            have HNO := hide hno.out
            clear hno hbr hlt hi
            go_wp2_with fail
            go_ret
            refine ⟨⟨_, rfl, fun _ => ⟨HWANT.out, fun z hz hz1 => ?_⟩, fun _ => rfl⟩, HB8.out.trans (HBR.out.mono HB8.out.size)⟩
            obtain ⟨j, hj⟩ := List.getElem?_of_mem hz
            exact HNO.out j (by rw [← HNE.out]; exact (List.getElem?_eq_some_iff.1 hj).1) z hj hz1
      · have hd1 : ((nc : Int) != (wt : Int)) = true := by rw [bne_iff_ne]; omega
        have hd2 : (nc != wt) = true := by rw [bne_iff_ne]; exact hw
        have HNW := hide (show ¬ cl.length = (if (nm, k, nl) ∈ before then too - rows else too) by rw [if_pos hin, HNC.out, hwt]; exact hw)
        go_wp2_with fail
        go_ret
        exact ⟨⟨_, rfl, (fun h => by cases h), fun h => absurd h.1 HNW.out⟩, HB7.out⟩
end Go.Proofs.YtfkgmodgkifelaaGreatDoor
namespace Go.Proofs.YtfkgmodgkifelaaGreatDoor
open Go.RowKit

theorem PatOk.col {P : PD} (h : PatOk P) {i : Nat} {c : Col} (hc : P.after[i]? = some c) : colE c.1 c.2.1 = 0 := (colsE_ok h.a).one c (List.mem_of_getElem? hc)
theorem cols_nm {l : List Col} (h : colsE l = 0) : ∀ c ∈ l, c.1.size ≤ maxLen := fun c hc => by
  have := (colE_ok ((colsE_ok h).one c hc)).2.1
  unfold maxLen; omega
/-- How a check ends. -/
def ChkPost (F : Prop) (w : World) (e : Ending) (w' : World) : Prop := (∃ r : Nat, e = .returned (.int .i64 (r : Nat)) ∧ (r = 0 ↔ F)) ∧ Below w.heap.size w w'
set_option maxHeartbeats 8000000 in
set_option maxRecDepth 100000 in
theorem dcheck_any (P : PD) (hok : PatOk P) (VB VA VP : Value) (w : World) (hT : Tabs w) (hP : InPat w VB VA VP P) :
    Calls Tryz.prog 28 #[patV VB P.rows VA P.too VP] w (ChkPost (FitA P) w) := by
  obtain ⟨W1, hW1⟩ : ∃ W1, w.alloc (.cells #[VB, .int .i64 (P.rows : Nat), VA, .int .i64 (P.too : Nat), VP] 34) = W1 := ⟨_, rfl⟩
  have hb1 : Below w.heap.size w W1 := by rw [← hW1]; exact (Below.refl _ _).alloc (Nat.le_refl _) _
  have hk1 : Blk W1 w.heap.size 34 #[VB, .int .i64 (P.rows : Nat), VA, .int .i64 (P.too : Nat), VP] := by rw [← hW1]; exact Blk.new _ _ _
  have hl1 : P.before.length ≤ 100000 := by have := (colsE_ok hok.b).le; omega
  have hl2 : P.after.length ≤ 32 := (colsE_ok hok.a).le
  have KB := hide (fun w hT hv => columns_any P.before hl1 (cols_nm hok.b) VB w hT hv)
  have KA := hide (fun w hT hv => columns_any P.after (by omega) (cols_nm hok.a) VA w hT hv)
  rw [hok.b] at KB
  rw [hok.a] at KA
  have KF := hide (fun (i : Nat) (c : Col) (x : PartD) (hc : P.after[i]? = some c) (hx : P.parts[i]? = some x) (w : World) (hT : Tabs w) (h : InPat w VB VA VP P) => fits_any P.before hl1 P.rows P.too hok.r hok.t P.after P.parts i c x hc hx (hok.p i c x hc hx) (hok.col hc) VB VA VP w hT h.b h.a h.p)
  have HFA : Hid (FitA P = ∀ (i : Nat) c x, P.after[i]? = some c → P.parts[i]? = some x → FitP P.before P.rows P.too c x) := rfl
  generalize FitA P = FA at *
  have HP := hide (hP.below hb1)
  have HT := hide (hT.below hb1)
  have hr := hok.r
  have ht := hok.t
  have hn := hok.n
  obtain ⟨A1, c1, hv1⟩ := hP.b.form
  obtain ⟨A2, c2, hv2⟩ := hP.a.form
  obtain ⟨A3, c3, hv3⟩ := hP.p.form
  rw [hn] at hv3
  subst hv1 hv2 hv3
  unfold patV at KF ⊢
  obtain ⟨before, rows, after, too, parts⟩ := P
  simp only at KB KA KF HFA hr ht hn hl2 hW1 hk1 HP ⊢
  clear hP hok hT hl1
  have HN := hide hn
  clear hn
  generalize hln : after.length = n at *
  have HLN := hide hln
  have hn4 : (n : Int) ≤ 32 := by omega
  have hn0 : (0 : Int) ≤ (n : Int) := by omega
  have d1 : decide ((10000 : Int) < (rows : Int)) = false := by rw [decide_eq_false_iff_not]; omega
  have d2 : decide (10000 < rows) = false := by rw [decide_eq_false_iff_not]; omega
  have d3 : decide ((10000 : Int) < (too : Int)) = false := by rw [decide_eq_false_iff_not]; omega
  have d4 : decide (10000 < too) = false := by rw [decide_eq_false_iff_not]; omega
  have d5 : decide ((rows : Int) < 0) = false := by rw [decide_eq_false_iff_not]; omega
  have d6 : decide ((too : Int) < 0) = false := by rw [decide_eq_false_iff_not]; omega
  have HB1 := hide hb1
  have HK1 := hide hk1
  have HW := hide hW1
  have KB1 := hide (KB.out W1 HT.out HP.out.b)
  have k0 := hk1.cell 0
  simp at k0
  clear hln hb1 hk1 hW1 hr ht
  go_enter Tryz.func28, Tryz.ntmps28
  go_wp2_with fail
  rw [HW.out]
  go_wp2_with fail
  refine KB1.out.mono ?_
  rintro e w2 ⟨rfl, hb2⟩
  have HK2 := hide (HK1.out.below hb2 HK1.out.lt)
  have HP2 := hide (HP.out.below hb2)
  have HT2 := hide (HT.out.below hb2)
  have HB2 := hide (HB1.out.trans (hb2.mono HB1.out.size))
  have KA2 := hide (KA.out w2 HT2.out HP2.out.a)
  have k2 := HK2.out.cell 2
  simp at k2
  clear hb2 k0 KB1
  go_wp2_with fail
  refine KA2.out.mono ?_
  rintro e w3 ⟨rfl, hb3⟩
  have HK3 := hide (HK2.out.below hb3 HK2.out.lt)
  have HP3 := hide (HP2.out.below hb3)
  have HT3 := hide (HT2.out.below hb3)
  have HB3 := hide (HB2.out.trans (hb3.mono HB2.out.size))
  have k1 := HK3.out.cell 1
  have k2 := HK3.out.cell 2
  have k3 := HK3.out.cell 3
  have k4 := HK3.out.cell 4
  simp at k1 k2 k3 k4
  clear hb3 KA2
  go_wp2_with fail
  clear k1 k2 k3 k4
  go_loopw [45] (fun iv wr => ∃ i : Nat, i ≤ n ∧ iv = .int .i64 (i : Int) ∧ Hid (∀ j < i, ∀ c x, after[j]? = some c → parts[j]? = some x → FitP before rows too c x) ∧ Hid (Below w3.heap.size w3 wr)) (fun iv _ => n - (intOf iv).toNat)
  case atStart => exact ⟨0, by omega, rfl, hide (fun j hj => by omega), Below.refl _ _⟩
  case round =>
    obtain ⟨i, hi, rfl, hall, hbr⟩ := hrel
    by_cases hlt : i < n
    · obtain ⟨c, hc⟩ : ∃ c, after[i]? = some c := ⟨after[i]'(by rw [HLN.out]; exact hlt), List.getElem?_eq_getElem _⟩
      obtain ⟨x, hx⟩ : ∃ x, parts[i]? = some x := ⟨parts[i]'(by rw [HN.out]; exact hlt), List.getElem?_eq_getElem _⟩
      have KF1 := hide (KF.out i c x hc hx wr (HT3.out.below hbr.out) (HP3.out.below hbr.out))
      have kb := HK3.out.below hbr.out HK3.out.lt
      have k0 := kb.cell 0
      have k1 := kb.cell 1
      have k2 := kb.cell 2
      have k3 := kb.cell 3
      have k4 := kb.cell 4
      simp at k0 k1 k2 k3 k4
      have hi1 : (i : Int) < (n : Int) := by omega
      have HC := hide hc
      have HX := hide hx
      have HLT := hide hlt
      clear kb hc hx hlt
      go_wp2_with fail
      refine KF1.out.mono ?_
      rintro e w4 ⟨⟨r, rfl, hr⟩, hb4⟩
      have HB4 := hide (hbr.out.trans (hb4.mono hbr.out.size))
      have HR := hide hr
      clear hb4 hr KF1 k0 k1 k2 k3 k4
      cases r
      · go_wp2_with fail
        go_ret
        exact ⟨⟨1, rfl, (fun h => by cases h), fun h => by have h1 := HR.out.2 (by rw [HFA.out] at h; exact h i c x HC.out HX.out); cases h1⟩, HB3.out.trans (HB4.out.mono HB3.out.size)⟩
      · go_wp2_with fail
        go_roundw
        case rel =>
          refine ⟨i + 1, by have := HLT.out; omega, by go_num, hide ?_, HB4⟩
          intro j hj c' x' hc' hx'
          by_cases hji : j = i
          · subst hji
            have e1 := hc'.symm.trans HC.out
            have e2 := hx'.symm.trans HX.out
            injection e1 with e1
            injection e2 with e2
            subst e1 e2
            exact HR.out.1 (by trivial)
          · exact hall.out j (by omega) c' x' hc' hx'
        case measure => have := HLT.out; simp [intOf]; omega
    · obtain rfl : n = i := by omega
      have HBR := hide hbr.out
      have HAL := hide hall.out
      clear hall hbr hlt hi
      go_wp2_with fail
      go_ret
      refine ⟨⟨0, rfl, fun _ => ?_, fun _ => rfl⟩, HB3.out.trans (HBR.out.mono HB3.out.size)⟩
      rw [HFA.out]
      intro j c x hc hx
      exact HAL.out j (by rw [← HLN.out]; exact (List.getElem?_eq_some_iff.1 hc).1) c x hc hx
end Go.Proofs.YtfkgmodgkifelaaGreatDoor
