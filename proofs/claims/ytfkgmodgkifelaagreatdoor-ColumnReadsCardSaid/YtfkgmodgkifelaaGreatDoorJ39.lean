/- Columns: a column's cells as a stream, the document: the walk; and its Check. Columns: a column's cells as a stream, the program: the walk. -/
import Derived.Test.YtfkgmodgkifelaaGreatDoorJ38
import Derived.Test.YtfkgmodgkifelaaGreatDoorJ37
namespace Go.Proofs.YtfkgmodgkifelaaGreatDoor
open Go.RowKit

set_option maxHeartbeats 2000000 in
set_option maxRecDepth 100000 in
theorem scheck12 (nm : ByteArray) (hnm : nm.size ≤ maxLen) (k : Int) (h1 : 1 ≤ k) (h6 : k ≤ 6) (nl : Bool) (hce : colE nm k = 0) (l : List MC) (hl : l.length ≤ 10000) (hok : ∀ c ∈ l, okM nl k c)
    (V : Value) (w : World) (hT : Tabs w) (hV : InM w V l) :
    Calls Tryz.prog 21 #[colV nm k nl, V] w fun e w' => e = .returned (.int .i64 ((if 1048576 < tbm l then 31 else 0 : Nat) : Int)) ∧ Below w.heap.size w w' := by
  obtain ⟨A, ca, hVe, _⟩ := id hV
  subst hVe
  have HB := hide (fun o1 o2 o3 => (((Below.refl w.heap.size w).alloc (Nat.le_refl _) o1).alloc (by simp) o2).alloc (by simp; omega) o3)
  have KC := hide (fun o1 => scheck_col nm hnm k h1 h6 nl hce l hl hok (w.heap.size + 1) (w.heap.size + 1 + 1) (.slice A l.length ca) _ (hT.below (HB.out o1 (.cells #[.string nm, .int .i64 k, .bool nl] 23) (.cells #[.slice A l.length ca] 25))) (((blk_n2 w _ _ _).alloc _).cell 0) (((blk_n2 w _ _ _).alloc _).cell 1) (((blk_n2 w _ _ _).alloc _).cell 2) ((blk_n3 w _ _ _ _).cell 0) (hV.below (HB.out o1 _ _)))
  generalize (if 1048576 < tbm l then 31 else 0 : Nat) = r at *
  unfold colV
  clear hT hV hnm hce hok
  go_enter Tryz.func21, Tryz.ntmps21
  go_wp2_with fail
  refine (KC.out _).mono ?_
  rintro e w1 ⟨rfl, hb1⟩
  have HB1 := hide ((HB.out _ _ _).trans (hb1.mono (by simp; omega)))
  clear hb1
  go_wp2_with fail
  go_ret
  exact ⟨rfl, HB1.out⟩
theorem encC_no (k : Int) (l : List MC) : encC k false l = strN (uvar l.length) ++ strN [(bestW k (dens l)).1] ++ strN (bestW k (dens l)).2 := by
  unfold encC
  rw [if_neg (by simp), ByteArray.append_empty]
theorem encC_yes (k : Int) (l : List MC) : encC k true l = strN (uvar l.length) ++ strN (packL (l.map (·.1))) ++ strN [(bestW k (dens l)).1] ++ strN (bestW k (dens l)).2 := by
  unfold encC
  rw [if_pos rfl]
set_option maxHeartbeats 8000000 in
set_option maxRecDepth 100000 in
theorem sencode_col (nm : ByteArray) (k : Int) (h1 : 1 ≤ k) (h6 : k ≤ 6) (nl : Bool) (l : List MC) (hl : l.length ≤ 10000) (hok : ∀ c ∈ l, okM nl k c) (ht : tbm l ≤ 1048576)
    (V : Value) (w : World) (hV : InM w V l) :
    Calls Tryz.prog 22 #[colV nm k nl, V] w fun e w' => e = .returned (.string (encC k nl l)) ∧ Below w.heap.size w w' := by
  obtain ⟨A, ca, hVe, hcell⟩ := id hV
  subst hVe
  have HCELL := hide hcell
  have KD := hide (fun w hV => sdense_any l hl (.slice A l.length ca) w hV)
  have KP := hide (fun v w (h : SlB w v (l.map (·.1))) => refpack_any (l.map (·.1)) (by rw [List.length_map]; omega) v w h)
  have KB := hide (fun v w hv => sbest_any k h1 h6 (dens l) (wok_dens hl hok ht) v w hv)
  have KU := hide (fun w => suvar_any l.length (by omega) w)
  have HBL := hide (Nat.le_trans (bestW_len k (dens l)).2 (encP_len (k := k) (wok_dens hl hok ht)))
  have HBW := hide (bestW_le k (dens l))
  have HE0 := hide (encC_no k l)
  have HE1 := hide (encC_yes k l)
  have HVV := hide hV
  have hN : ((l.length : Nat) : Int) ≤ 10000 := by omega
  have HPK := hide (show (packL (l.map (·.1))).length ≤ 1251 from by rw [packL_length, List.length_map]; omega)
  have HUL := hide (uvar_len10 (x := l.length) (by omega))
  have HN := hide hl
  clear hV hl hok ht hcell
  unfold colV
  have hbw0 : (0 : Int) ≤ ((bestW k (dens l)).1 : Int) := by omega
  have hbw1 : ((bestW k (dens l)).1 : Int) ≤ 5 := by have := HBW.out; omega
  generalize hBW : (bestW k (dens l)).1 = BW at *
  generalize hBY : (bestW k (dens l)).2 = BY at *
  clear hBW hBY
  have hcv : ∀ (w' : World) (g : Nat), w'.cell? ⟨g, 0, none⟩ = some (.int .u8 BW) → (convert 75 9 (.slice (some ⟨g, 0, none⟩) 1 1)).run Tryz.prog w' = .ok (.string (strN [BW])) w' := fun w' g h => by
    have := run_convert_bytes_arg w' 75 5 Tryz.underlying75 Tryz.underlying5 g 0 1 1 [(BW : Int)] rfl (fun i hi => by
      have : i = 0 := by omega
      subst this
      simpa using h) 9 Tryz.underlying9
    rw [this]; unfold strN; rfl
  have hC0 := Blk.new w #[.string nm, .int .i64 k, .bool nl] 23
  have hE0 := (Below.refl w.heap.size w).alloc (Nat.le_refl _) (.cells #[.string nm, .int .i64 k, .bool nl] 23)
  have HC0 := hide hC0
  have HB0 := hide hE0
  clear hC0 hE0
  cases nl
  · rw [HE0.out]
    have hadd1 := fun w1 => run_string_add_sum (P := Tryz.prog) w1 (strN (uvar l.length)) (strN [BW]) (by rw [strN_size, strN_size]; have := HUL.out; simp; omega)
    have hadd2 := fun w1 => run_string_add_sum (P := Tryz.prog) w1 (strN (uvar l.length) ++ strN [BW]) (strN BY) (by rw [ByteArray.size_append, strN_size, strN_size, strN_size]; have := HUL.out; have := HBL.out; simp; omega)
    generalize strN (uvar l.length) = S0 at *
    generalize strN BY = SY at *
    go_enter Tryz.func22, Tryz.ntmps22
    go_wp2_with fail
    refine (KU.out _).mono ?_
    rintro e w3 ⟨rfl, hb3⟩
    have HE3 := hide (HB0.out.trans (hb3.mono HB0.out.size))
    have HC3 := hide (HC0.out.below hb3 HC0.out.lt)
    have hc2 := HC3.out.cell 2
    simp at hc2
    clear hb3
    go_wp2_with fail
    have hk1 := HC3.out.cell 1
    simp at hk1
    have hsv := HVV.out.below HE3.out.drew
    have HSV := hide hsv
    clear hsv
    go_region_with (first | (go_at_call 64; refine (KD.out _ HSV.out).mono ?_; rintro e w4 ⟨⟨VD, rfl, hvd⟩, hb4⟩; have hk4 := (HC3.out.drew.below hb4 HC3.out.drew.lt).cell 1; simp at hk4) | (go_at_call 63; refine (KB.out _ _ hvd).mono ?_; rintro e w5 ⟨rfl, hb5⟩))
    all_goals
      have hb35 : Below w3.heap.size w3 w5 := ((Below.refl w3.heap.size w3).drew.trans hb4).trans (hb5.mono hb4.size)
      have HE5 := hide (HE3.out.trans (hb35.mono HE3.out.size))
      clear hk1 hk4 hvd hb4 hb5 hb35
      go_wp2_with fail
      go_ret
      exact ⟨rfl, HE5.out.alloc HE5.out.size _⟩
  · rw [HE1.out]
    have hadd0 := fun w1 => run_string_add_sum (P := Tryz.prog) w1 (strN (uvar l.length)) (strN (packL (l.map (·.1)))) (by rw [strN_size, strN_size]; have := HUL.out; have := HPK.out; omega)
    have hadd1 := fun w1 => run_string_add_sum (P := Tryz.prog) w1 (strN (uvar l.length) ++ strN (packL (l.map (·.1)))) (strN [BW]) (by rw [ByteArray.size_append, strN_size, strN_size, strN_size]; have := HUL.out; have := HPK.out; simp; omega)
    have hadd2 := fun w1 => run_string_add_sum (P := Tryz.prog) w1 (strN (uvar l.length) ++ strN (packL (l.map (·.1))) ++ strN [BW]) (strN BY) (by rw [ByteArray.size_append, ByteArray.size_append, strN_size, strN_size, strN_size, strN_size]; have := HUL.out; have := HPK.out; have := HBL.out; simp; omega)
    generalize strN (uvar l.length) = S0 at *
    generalize strN (packL (l.map (·.1))) = SP at *
    generalize strN BY = SY at *
    obtain ⟨i0, hi, hz0, hz1, hz2⟩ := info_parts info_bool
    go_enter Tryz.func22, Tryz.ntmps22
    go_wp2_with fail
    refine (KU.out _).mono ?_
    rintro e w2 ⟨rfl, hb3⟩
    have HE2 := hide (HB0.out.trans (hb3.mono HB0.out.size))
    have HC2 := hide (HC0.out.below hb3 HC0.out.lt)
    have hc2 := HC2.out.cell 2
    simp at hc2
    clear hb3
    go_wp2_with fail
    go_loopw [6, 7] (fun bv iv wr => ∃ i : Nat, i ≤ l.length ∧ iv = .int .i64 (i : Int) ∧ Hid (wr.ownsRow w2.heap.size 4 1 bv i (((l.map (·.1)).take i).map Value.bool)) ∧ Hid (Below w2.heap.size w2 wr)) (fun _ iv _ => l.length - (intOf iv).toNat)
    case atStart => exact ⟨0, by omega, rfl, World.ownsRow_nil _ _ _ _, Below.refl _ _⟩
    case round =>
      obtain ⟨i, hin, rfl, how, hb⟩ := hrel
      obtain ⟨OA, oc, rfl⟩ := own_form3 how.out
      clear hc2
      by_cases hlt : i < l.length
      · obtain ⟨x, hx⟩ : ∃ x, l[i]? = some x := ⟨l[i]'hlt, List.getElem?_eq_getElem _⟩
        obtain ⟨g, hA, hg, hat⟩ := HCELL.out i x hx
        subst hA
        obtain ⟨a0, a1, a2, a3, a4, a5⟩ := hat.below (HE2.out.trans (hb.out.mono HE2.out.size)) hg
        have HLT := hide hlt
        have hi0 : (0 : Int) ≤ (i : Int) := by omega
        have hi1 : (i : Int) < (l.length : Int) := by omega
        have HTK : Hid (((l.map (·.1)).take (i + 1)).map Value.bool = ((l.map (·.1)).take i).map Value.bool ++ [.bool x.1]) := by
          show _ = _
          rw [List.take_add_one, List.map_append, List.getElem?_map, hx]
          rfl
        have hbs := hb.out.size
        have HO1 := hide (fun o => how.out.alloc o)
        have HN1 := HN.out
        obtain ⟨xn, xc⟩ := x
        simp only at a0
        clear hx hat hlt hg a1 a2 a3 a4 a5
        go_wp2_with (at_builtin; refine wpList_append_own _ rfl _ _ 50 rfl w2.heap.size 4 i0 (.bool false) 1 1 Tryz.underlying50 hi hz0 hz1 hz2 rfl (by decide) _ _ _ rfl (HO1.out _) ⟨wr.heap.size, 0, none⟩ 1 1 [.bool xn] rfl rfl (cell_one_new _ _ _) (by simp [Value.oneCell']) (by simp only [maxLen]; omega) (by omega) (by simpa using Nat.le_succ_of_le hbs) ?_; intro v1 w1 hown1 hgrow1 _)
        have HB2 := hide ((hb.out.alloc hb.out.size _).grown hgrow1 (by simpa using Nat.le_succ_of_le hbs) (fun z hz => (how.out.lt z hz).1))
        have HO3 := hide hown1
        clear hown1 hgrow1
        go_roundw
        case rel => exact ⟨i + 1, by have := HLT.out; omega, by go_num, (by show World.ownsRow _ _ _ _ _ _ _; rw [HTK.out]; exact HO3.out), HB2.out⟩
        case measure => have := HLT.out; simp [intOf]; omega
      · obtain rfl : i = l.length := by omega
        have ho := how.out
        rw [List.take_of_length_le (by rw [List.length_map]; exact Nat.le_refl _)] at ho
        have hob : OwnB wr w2.heap.size (.slice OA l.length oc) (l.map (·.1)) := by unfold OwnB; rw [List.length_map]; exact ho
        have KP1 := hide (KP.out _ wr (ownB_slB hob (by rw [List.length_map]; unfold maxLen; omega)))
        clear ho hob hlt hin
        go_wp2_with fail
        refine KP1.out.mono ?_
        rintro e w3 ⟨rfl, hb3⟩
        have hb23 := hb.out.trans (hb3.mono hb.out.size)
        have HE3 := hide (HE2.out.trans (hb23.mono HE2.out.size))
        have HC3 := hide (HC2.out.below hb23 HC2.out.lt)
        clear hb3 hb23 KP1
        go_wp2_with fail
        have hk1 := HC3.out.cell 1
        simp at hk1
        have hsv := HVV.out.below HE3.out.drew
        have HSV := hide hsv
        clear hsv
        go_region_with (first | (go_at_call 64; refine (KD.out _ HSV.out).mono ?_; rintro e w4 ⟨⟨VD, rfl, hvd⟩, hb4⟩; have hk4 := (HC3.out.drew.below hb4 HC3.out.drew.lt).cell 1; simp at hk4) | (go_at_call 63; refine (KB.out _ _ hvd).mono ?_; rintro e w5 ⟨rfl, hb5⟩))
        all_goals
          have hb35 : Below w3.heap.size w3 w5 := ((Below.refl w3.heap.size w3).drew.trans hb4).trans (hb5.mono hb4.size)
          have HE5 := hide (HE3.out.trans (hb35.mono HE3.out.size))
          clear hk1 hk4 hvd hb4 hb5 hb35
          go_wp2_with fail
          go_ret
          exact ⟨rfl, HE5.out.alloc HE5.out.size _⟩
end Go.Proofs.YtfkgmodgkifelaaGreatDoor
namespace Go.Proofs.YtfkgmodgkifelaaGreatDoor
open Go.RowKit

set_option maxHeartbeats 8000000 in
set_option maxRecDepth 100000 in
theorem encode_col (nm : ByteArray) (hnm : nm.size ≤ maxLen) (kn : Nat) (h1 : 1 ≤ kn) (h6 : kn ≤ 6) (nl : Bool) (hce : colE nm kn = 0) (l : List MC) (hl : l.length ≤ 10000) (hok : ∀ c ∈ l, okM nl kn c)
    (V : Value) (w : World) (hT : Tabs w) (hV : InM w V l) :
    Calls Tryz.prog 13 #[colV nm kn nl, V] w fun e w' => e = .returned (.tuple (if 1048576 < tbm l then #[.string ByteArray.empty, .int .i64 31] else #[.string (encC kn nl l), .int .i64 0])) ∧ Below w.heap.size w w' := by
  obtain ⟨A, ca, hVe, _⟩ := id hV
  subst hVe
  have KA := hide (fun w => alone_any nm kn nl A l.length ca w)
  have KC := hide (fun gc gs w hT c0 c1 c2 s0 hV => check_col nm hnm kn h1 h6 nl hce l hl hok gc gs (.slice A l.length ca) w hT c0 c1 c2 s0 hV)
  have KN := hide (fun w hV => nnulls_any l hl (.slice A l.length ca) w hV)
  have KD := hide (fun w hV => ndense_any l hl (.slice A l.length ca) w hV)
  have KP := hide (fun v w (h : SlB w v (l.map (·.1))) => pack_any (l.map (·.1)) (by rw [List.length_map]; omega) v w h)
  have KB := hide (fun (ht : tbm l ≤ 1048576) v w hv => best_any kn (by omega) (by omega) (dens l) (wok_dens hl hok ht) v w hv)
  have HBL := hide (fun (ht : tbm l ≤ 1048576) => Nat.le_trans (bestW_len kn (dens l)).2 (encP_len (k := kn) (wok_dens hl hok ht)))
  have HBW := hide (bestW_le kn (dens l))
  have HQ := hide (fun D h => encC_eq kn nl l D h)
  have HVV := hide hV
  have HT := hide hT
  have hN : ((l.length : Nat) : Int) ≤ 10000 := by omega
  have HPK := hide (show (packL (l.map (·.1))).length ≤ 1251 from by rw [packL_length, List.length_map]; omega)
  have HUL := hide (uvar_len10 (x := l.length) (by omega))
  have HN := hide hl
  clear hV hT hnm hce hl hok
  unfold colV at KA ⊢
  obtain ⟨RES, hRES⟩ : ∃ R, (if 1048576 < tbm l then (#[.string ByteArray.empty, .int .i64 31] : Array Value) else #[.string (encC kn nl l), .int .i64 0]) = R := ⟨_, rfl⟩
  rw [hRES]
  have HRES := hide hRES
  clear hRES
  have hC0 := Blk.new w #[.string nm, .int .i64 kn, .bool nl] 23
  have hE0 := (Below.refl w.heap.size w).alloc (Nat.le_refl _) (.cells #[.string nm, .int .i64 kn, .bool nl] 23)
  have HC0 := hide hC0
  have HE0 := hide hE0
  clear hC0 hE0
  go_enter Tryz.func13, Tryz.ntmps13
  go_wp2_with fail
  refine (KA.out _).mono ?_
  rintro e w1 ⟨⟨gc, gs, rfl, hgc, hgs⟩, hb1⟩
  have HC1 := hide (HC0.out.below hb1 HC0.out.lt)
  have HE1 := hide (HE0.out.trans (hb1.mono HE0.out.size))
  have KC1 := hide (KC.out gc gs w1 (HT.out.below HE1.out) (hgc.cell 0) (hgc.cell 1) (hgc.cell 2) (hgs.cell 0) (HVV.out.below HE1.out))
  clear hgc hgs hb1
  go_wp2_with fail
  refine KC1.out.mono ?_
  rintro e w2 ⟨rfl, hb2⟩
  have HC2 := hide (HC1.out.below hb2 HC1.out.lt)
  have HE2 := hide (HE1.out.trans (hb2.mono HE1.out.size))
  clear hb2 KC1
  by_cases htb : 1048576 < tbm l
  · obtain rfl : RES = #[.string ByteArray.empty, .int .i64 31] := by rw [← HRES.out, if_pos htb]
    rw [if_pos htb]
    clear htb HRES
    go_wp2_with fail
    go_ret2
    exact ⟨rfl, HE2.out⟩
  · obtain rfl : RES = #[.string (encC kn nl l), .int .i64 0] := by rw [← HRES.out, if_neg htb]
    rw [if_neg htb]
    have htb' : tbm l ≤ 1048576 := by omega
    have KB1 := hide (KB.out htb')
    have HBL1 := hide (HBL.out htb')
    clear htb htb' HRES
    go_wp2_with fail
    have hw0 : Wr (w2.alloc (.cells #[.slice none 0 0] 77)) w2.heap.size w2.heap.size (.slice none 0 0) [] := ⟨Blk.new _ _ _, ownU8_nil _ _, Nat.le_refl _⟩
    have hb0 : Below w2.heap.size w2 (w2.alloc (.cells #[.slice none 0 0] 77)) := (Below.refl _ _).alloc (Nat.le_refl _) _
    have KU := hide (wuvar_any _ _ _ _ l.length (by omega) _ hw0 (by simp) (by simp))
    have HW0 := hide hw0
    have HB0 := hide hb0
    clear hw0 hb0
    refine KU.out.mono ?_
    rintro e w3 ⟨rfl, sv3, hw3, hs3⟩
    rw [List.nil_append] at hw3
    have HW3 := hide hw3
    have hbw := HB0.out.trans (hs3.below HW0.out (by simp))
    have HE3 := hide (HE2.out.trans (hbw.mono HE2.out.size))
    have HC3 := hide (HC2.out.below hbw HC2.out.lt)
    have HB3 := hide hbw
    have hc2 := HC3.out.cell 2
    simp at hc2
    have HC2' := hide HC2.out
    clear hw3 hs3 hbw KU HW0 HB0 HC2
    have hbw0 : (0 : Int) ≤ ((bestW kn (dens l)).1 : Int) := by omega
    have hbw1 : ((bestW kn (dens l)).1 : Int) ≤ 5 := by have := HBW.out; omega
    generalize hBW : (bestW kn (dens l)).1 = BW at *
    generalize hBY : (bestW kn (dens l)).2 = BY at *
    clear hBW hBY
    cases nl
    · have HLD := hide (show (uvar l.length).length ≤ 2000 from by have := HUL.out; omega)
      have HFIN := hide (HQ.out (uvar l.length) (by rw [if_neg (by simp), ByteArray.append_empty]))
      go_wp2_with fail
      have hk1 := HC3.out.cell 1
      simp at hk1
      have hsv := HVV.out.below HE3.out.drew
      have HSV := hide hsv
      clear hsv
      go_region_with (first | (go_at_call 43; refine (KD.out _ HSV.out).mono ?_; rintro e w4 ⟨⟨VD, rfl, hvd⟩, hb4⟩; have hk4 := (HC3.out.drew.below hb4 HC3.out.drew.lt).cell 1; simp at hk4) | (go_at_call 42; refine (KB1.out _ _ hvd).mono ?_; rintro e w5 ⟨rfl, hb5⟩))
      all_goals
        have hb35 : Below w3.heap.size w3 w5 := ((Below.refl w3.heap.size w3).drew.trans hb4).trans (hb5.mono hb4.size)
        have hw5 := HW3.out.below hb35
        have he5 := HE3.out.trans (hb35.mono HE3.out.size)
        have hb5w := HB3.out.trans (hb35.mono HB3.out.size)
        have K8 := hide (wu8_any _ _ _ _ BW _ hw5 (by have := HLD.out; omega) hb5w.size)
        have HB5 := hide hb5w
        have HE5 := hide he5
        have HW5 := hide hw5
        clear hk1 hk4 hvd hb4 hb5 hb35 hw5 he5 hb5w
        go_wp2_with fail
        refine K8.out.mono ?_
        rintro e w6 ⟨rfl, sv6, hw6, hs6⟩
        have hb6 := HB5.out.trans (hs6.below HW5.out HB5.out.size)
        have K9 := hide (wrawL_any _ _ _ _ (strN BY) (by rw [strN_size]; have := HBL1.out; omega) _ hw6 (by rw [List.length_append, List.length_singleton]; have := HLD.out; omega) hb6.size)
        have HB6 := hide hb6
        have HW6 := hide hw6
        clear hw6 hs6 hb6 K8
        go_wp2_with fail
        refine K9.out.mono ?_
        rintro e w7 ⟨rfl, sv7, hw7, hs7⟩
        have HB7 := hide (HB6.out.trans (hs7.below HW6.out HB6.out.size))
        have KS := hide (wstring_any _ _ _ _ _ hw7)
        rw [HFIN.out] at KS
        clear hw7 hs7 K9
        go_wp2_with fail
        refine KS.out.mono ?_
        rintro e w8 ⟨rfl, rfl⟩
        go_wp2_with fail
        go_ret2
        exact ⟨rfl, HE2.out.trans (HB7.out.mono HE2.out.size)⟩
    · have KN3 := hide (KN.out w3 (HVV.out.below HE3.out))
      go_wp2_with fail
      refine KN3.out.mono ?_
      rintro e w4 ⟨⟨b4, rfl, hsl⟩, hb4⟩
      have KP4 := hide (KP.out _ w4 hsl)
      have hw4 := HW3.out.below hb4
      have hB4 := HB3.out.trans (hb4.mono HB3.out.size)
      have HW4 := hide hw4
      have HB4 := hide hB4
      clear hsl hb4 hw4 hB4 KN3
      go_wp2_with fail
      refine KP4.out.mono ?_
      rintro e w5 ⟨rfl, hb5⟩
      have hw5 := HW4.out.below hb5
      have hB5 := HB4.out.trans (hb5.mono HB4.out.size)
      have KR5 := hide (wrawL_any _ _ _ _ (strN (packL (l.map (·.1)))) (by rw [strN_size]; have := HPK.out; omega) _ hw5 (by have := HUL.out; omega) hB5.size)
      have HW5 := hide hw5
      have HB5 := hide hB5
      clear hb5 hw5 hB5 KP4 HW4 HB4 HW3 HB3 HC3 HE3 hc2
      go_wp2_with fail
      refine KR5.out.mono ?_
      rintro e w3 ⟨rfl, sv3, hw3, hs3⟩
      have hB3 := HB5.out.trans (hs3.below HW5.out HB5.out.size)
      have HB3 := hide hB3
      have HW3 := hide hw3
      have HE3 := hide (HE2.out.trans (hB3.mono HE2.out.size))
      have HC3 := hide (HC2'.out.below hB3 HC2'.out.lt)
      have HLD := hide (show (uvar l.length ++ bn (strN (packL (l.map (·.1))))).length ≤ 2000 from by rw [List.length_append, bn_len, strN_size]; have := HUL.out; have := HPK.out; omega)
      have HFIN := hide (HQ.out (uvar l.length ++ bn (strN (packL (l.map (·.1))))) (by rw [strN_app_bn]; first | rw [if_true] | rw [if_pos rfl]))
      clear hw3 hs3 hB3 KR5 HW5 HB5
      go_wp2_with fail
      have hk1 := HC3.out.cell 1
      simp at hk1
      have hsv := HVV.out.below HE3.out.drew
      have HSV := hide hsv
      clear hsv
      go_region_with (first | (go_at_call 43; refine (KD.out _ HSV.out).mono ?_; rintro e w4 ⟨⟨VD, rfl, hvd⟩, hb4⟩; have hk4 := (HC3.out.drew.below hb4 HC3.out.drew.lt).cell 1; simp at hk4) | (go_at_call 42; refine (KB1.out _ _ hvd).mono ?_; rintro e w5 ⟨rfl, hb5⟩))
      all_goals
        have hb35 : Below w3.heap.size w3 w5 := ((Below.refl w3.heap.size w3).drew.trans hb4).trans (hb5.mono hb4.size)
        have hw5 := HW3.out.below hb35
        have he5 := HE3.out.trans (hb35.mono HE3.out.size)
        have hb5w := HB3.out.trans (hb35.mono HB3.out.size)
        have K8 := hide (wu8_any _ _ _ _ BW _ hw5 (by have := HLD.out; omega) hb5w.size)
        have HB5 := hide hb5w
        have HE5 := hide he5
        have HW5 := hide hw5
        clear hk1 hk4 hvd hb4 hb5 hb35 hw5 he5 hb5w
        go_wp2_with fail
        refine K8.out.mono ?_
        rintro e w6 ⟨rfl, sv6, hw6, hs6⟩
        have hb6 := HB5.out.trans (hs6.below HW5.out HB5.out.size)
        have K9 := hide (wrawL_any _ _ _ _ (strN BY) (by rw [strN_size]; have := HBL1.out; omega) _ hw6 (by rw [List.length_append, List.length_singleton]; have := HLD.out; omega) hb6.size)
        have HB6 := hide hb6
        have HW6 := hide hw6
        clear hw6 hs6 hb6 K8
        go_wp2_with fail
        refine K9.out.mono ?_
        rintro e w7 ⟨rfl, sv7, hw7, hs7⟩
        have HB7 := hide (HB6.out.trans (hs7.below HW6.out HB6.out.size))
        have KS := hide (wstring_any _ _ _ _ _ hw7)
        rw [HFIN.out] at KS
        clear hw7 hs7 K9
        go_wp2_with fail
        refine KS.out.mono ?_
        rintro e w8 ⟨rfl, rfl⟩
        go_wp2_with fail
        go_ret2
        exact ⟨rfl, HE2.out.trans (HB7.out.mono HE2.out.size)⟩
end Go.Proofs.YtfkgmodgkifelaaGreatDoor
