/- Columns: a column's cells as a stream, the program: the walk. Columns: cells spread, missing ones between: the program. -/
import Derived.Test.YtfkgmodgkifelaaGreatDoorJ37
namespace Go.Proofs.YtfkgmodgkifelaaGreatDoor
open Go.RowKit

set_option maxHeartbeats 8000000 in
set_option maxRecDepth 100000 in
theorem encode_col (nm : ByteArray) (hnm : nm.size ≤ maxLen) (kn : Nat) (h1 : 1 ≤ kn) (h6 : kn ≤ 6) (nl : Bool) (hce : colE nm kn = 0) (l : List MC) (hl : l.length ≤ 10000) (hok : ∀ c ∈ l, okM nl kn c)
    (V : Value) (w : World) (hT : Tabs w) (hV : InM w V l) :
    Calls Tryz.prog 13 #[colV nm kn nl, V] w fun e w' => e = .returned (.tuple (if 1048576 < tbm l then #[.string ByteArray.empty, .int .i64 31] else #[.string (encC kn nl l), .int .i64 0])) ∧ Below w.heap.size w w' := by
  obtain ⟨A, ca, hVe, _⟩ := id hV
  subst hVe
  have KA := hide (fun w => alone_any nm kn nl A l.length ca w)
  have KC := hide (fun gc gs w hT c0 c1 c2 s0 hV => check_col nm hnm kn h1 h6 nl hce l hl hok gc gs (.slice A l.length ca) w hT c0 c1 c2 s0 hV)
  have KN := hide (fun w hV => nnulls_any l hl (.slice A l.length ca) w hV)
  have KD := hide (fun w hV => ndense_any l hl (.slice A l.length ca) w hV)
  have KP := hide (fun v w (h : SlB w v (l.map (·.1))) => pack_any (l.map (·.1)) (by rw [List.length_map]; omega) v w h)
  have KB := hide (fun (ht : tbm l ≤ 1048576) v w hv => best_any kn (by omega) (by omega) (dens l) (wok_dens hl hok ht) v w hv)
  have HBL := hide (fun (ht : tbm l ≤ 1048576) => Nat.le_trans (bestW_len kn (dens l)).2 (encP_len (k := kn) (wok_dens hl hok ht)))
  have HBW := hide (bestW_le kn (dens l))
  have HQ := hide (fun D h => encC_eq kn nl l D h)
  have HVV := hide hV
  have HT := hide hT
  have hN : ((l.length : Nat) : Int) ≤ 10000 := by omega
  have HPK := hide (show (packL (l.map (·.1))).length ≤ 1251 from by rw [packL_length, List.length_map]; omega)
  have HUL := hide (uvar_len10 (x := l.length) (by omega))
  have HN := hide hl
  clear hV hT hnm hce hl hok
  unfold colV at KA ⊢
  obtain ⟨RES, hRES⟩ : ∃ R, (if 1048576 < tbm l then (#[.string ByteArray.empty, .int .i64 31] : Array Value) else #[.string (encC kn nl l), .int .i64 0]) = R := ⟨_, rfl⟩
  rw [hRES]
  have HRES := hide hRES
  clear hRES
  have hC0 := Blk.new w #[.string nm, .int .i64 kn, .bool nl] 23
  have hE0 := (Below.refl w.heap.size w).alloc (Nat.le_refl _) (.cells #[.string nm, .int .i64 kn, .bool nl] 23)
  have HC0 := hide hC0
  have HE0 := hide hE0
  clear hC0 hE0
  go_enter Tryz.func13, Tryz.ntmps13
  go_wp2_with fail
  refine (KA.out _).mono ?_
  rintro e w1 ⟨⟨gc, gs, rfl, hgc, hgs⟩, hb1⟩
  have HC1 := hide (HC0.out.below hb1 HC0.out.lt)
  have HE1 := hide (HE0.out.trans (hb1.mono HE0.out.size))
  have KC1 := hide (KC.out gc gs w1 (HT.out.below HE1.out) (hgc.cell 0) (hgc.cell 1) (hgc.cell 2) (hgs.cell 0) (HVV.out.below HE1.out))
  clear hgc hgs hb1
  go_wp2_with fail
  refine KC1.out.mono ?_
  rintro e w2 ⟨rfl, hb2⟩
  have HC2 := hide (HC1.out.below hb2 HC1.out.lt)
  have HE2 := hide (HE1.out.trans (hb2.mono HE1.out.size))
  clear hb2 KC1
  by_cases htb : 1048576 < tbm l
  · obtain rfl : RES = #[.string ByteArray.empty, .int .i64 31] := by rw [← HRES.out, if_pos htb]
    rw [if_pos htb]
    clear htb HRES
    go_wp2_with fail
    go_ret2
    exact ⟨rfl, HE2.out⟩
  · obtain rfl : RES = #[.string (encC kn nl l), .int .i64 0] := by rw [← HRES.out, if_neg htb]
    rw [if_neg htb]
    have htb' : tbm l ≤ 1048576 := by omega
    have KB1 := hide (KB.out htb')
    have HBL1 := hide (HBL.out htb')
    clear htb htb' HRES
    go_wp2_with fail
    have hw0 : Wr (w2.alloc (.cells #[.slice none 0 0] 77)) w2.heap.size w2.heap.size (.slice none 0 0) [] := ⟨Blk.new _ _ _, ownU8_nil _ _, Nat.le_refl _⟩
    have hb0 : Below w2.heap.size w2 (w2.alloc (.cells #[.slice none 0 0] 77)) := (Below.refl _ _).alloc (Nat.le_refl _) _
    have KU := hide (wuvar_any _ _ _ _ l.length (by omega) _ hw0 (by simp) (by simp))
    have HW0 := hide hw0
    have HB0 := hide hb0
    clear hw0 hb0
    refine KU.out.mono ?_
    rintro e w3 ⟨rfl, sv3, hw3, hs3⟩
    rw [List.nil_append] at hw3
    have HW3 := hide hw3
    have hbw := HB0.out.trans (hs3.below HW0.out (by simp))
    have HE3 := hide (HE2.out.trans (hbw.mono HE2.out.size))
    have HC3 := hide (HC2.out.below hbw HC2.out.lt)
    have HB3 := hide hbw
    have hc2 := HC3.out.cell 2
    simp at hc2
    have HC2' := hide HC2.out
    clear hw3 hs3 hbw KU HW0 HB0 HC2
    have hbw0 : (0 : Int) ≤ ((bestW kn (dens l)).1 : Int) := by omega
    have hbw1 : ((bestW kn (dens l)).1 : Int) ≤ 5 := by have := HBW.out; omega
    generalize hBW : (bestW kn (dens l)).1 = BW at *
    generalize hBY : (bestW kn (dens l)).2 = BY at *
    clear hBW hBY
    cases nl
    · have HLD := hide (show (uvar l.length).length ≤ 2000 from by have := HUL.out; omega)
      have HFIN := hide (HQ.out (uvar l.length) (by rw [if_neg (by simp), ByteArray.append_empty]))
      go_wp2_with fail
      have hk1 := HC3.out.cell 1
      simp at hk1
      have hsv := HVV.out.below HE3.out.drew
      have HSV := hide hsv
      clear hsv
      go_region_with (first | (go_at_call 43; refine (KD.out _ HSV.out).mono ?_; rintro e w4 ⟨⟨VD, rfl, hvd⟩, hb4⟩; have hk4 := (HC3.out.drew.below hb4 HC3.out.drew.lt).cell 1; simp at hk4) | (go_at_call 42; refine (KB1.out _ _ hvd).mono ?_; rintro e w5 ⟨rfl, hb5⟩))
      all_goals
        have hb35 : Below w3.heap.size w3 w5 := ((Below.refl w3.heap.size w3).drew.trans hb4).trans (hb5.mono hb4.size)
        have hw5 := HW3.out.below hb35
        have he5 := HE3.out.trans (hb35.mono HE3.out.size)
        have hb5w := HB3.out.trans (hb35.mono HB3.out.size)
        have K8 := hide (wu8_any _ _ _ _ BW _ hw5 (by have := HLD.out; omega) hb5w.size)
        have HB5 := hide hb5w
        have HE5 := hide he5
        have HW5 := hide hw5
        clear hk1 hk4 hvd hb4 hb5 hb35 hw5 he5 hb5w
        go_wp2_with fail
        refine K8.out.mono ?_
        rintro e w6 ⟨rfl, sv6, hw6, hs6⟩
        have hb6 := HB5.out.trans (hs6.below HW5.out HB5.out.size)
        have K9 := hide (wrawL_any _ _ _ _ (strN BY) (by rw [strN_size]; have := HBL1.out; omega) _ hw6 (by rw [List.length_append, List.length_singleton]; have := HLD.out; omega) hb6.size)
        have HB6 := hide hb6
        have HW6 := hide hw6
        clear hw6 hs6 hb6 K8
        go_wp2_with fail
        refine K9.out.mono ?_
        rintro e w7 ⟨rfl, sv7, hw7, hs7⟩
        have HB7 := hide (HB6.out.trans (hs7.below HW6.out HB6.out.size))
        have KS := hide (wstring_any _ _ _ _ _ hw7)
        rw [HFIN.out] at KS
        clear hw7 hs7 K9
        go_wp2_with fail
        refine KS.out.mono ?_
        rintro e w8 ⟨rfl, rfl⟩
        go_wp2_with fail
        go_ret2
        exact ⟨rfl, HE2.out.trans (HB7.out.mono HE2.out.size)⟩
    · have KN3 := hide (KN.out w3 (HVV.out.below HE3.out))
      go_wp2_with fail
      refine KN3.out.mono ?_
      rintro e w4 ⟨⟨b4, rfl, hsl⟩, hb4⟩
      have KP4 := hide (KP.out _ w4 hsl)
      have hw4 := HW3.out.below hb4
      have hB4 := HB3.out.trans (hb4.mono HB3.out.size)
      have HW4 := hide hw4
      have HB4 := hide hB4
      clear hsl hb4 hw4 hB4 KN3
      go_wp2_with fail
      refine KP4.out.mono ?_
      rintro e w5 ⟨rfl, hb5⟩
      have hw5 := HW4.out.below hb5
      have hB5 := HB4.out.trans (hb5.mono HB4.out.size)
      have KR5 := hide (wrawL_any _ _ _ _ (strN (packL (l.map (·.1)))) (by rw [strN_size]; have := HPK.out; omega) _ hw5 (by have := HUL.out; omega) hB5.size)
      have HW5 := hide hw5
      have HB5 := hide hB5
      clear hb5 hw5 hB5 KP4 HW4 HB4 HW3 HB3 HC3 HE3 hc2
      go_wp2_with fail
      refine KR5.out.mono ?_
      rintro e w3 ⟨rfl, sv3, hw3, hs3⟩
      have hB3 := HB5.out.trans (hs3.below HW5.out HB5.out.size)
      have HB3 := hide hB3
      have HW3 := hide hw3
      have HE3 := hide (HE2.out.trans (hB3.mono HE2.out.size))
      have HC3 := hide (HC2'.out.below hB3 HC2'.out.lt)
      have HLD := hide (show (uvar l.length ++ bn (strN (packL (l.map (·.1))))).length ≤ 2000 from by rw [List.length_append, bn_len, strN_size]; have := HUL.out; have := HPK.out; omega)
      have HFIN := hide (HQ.out (uvar l.length ++ bn (strN (packL (l.map (·.1))))) (by rw [strN_app_bn]; first | rw [if_true] | rw [if_pos rfl]))
      clear hw3 hs3 hB3 KR5 HW5 HB5
      go_wp2_with fail
      have hk1 := HC3.out.cell 1
      simp at hk1
      have hsv := HVV.out.below HE3.out.drew
      have HSV := hide hsv
      clear hsv
      go_region_with (first | (go_at_call 43; refine (KD.out _ HSV.out).mono ?_; rintro e w4 ⟨⟨VD, rfl, hvd⟩, hb4⟩; have hk4 := (HC3.out.drew.below hb4 HC3.out.drew.lt).cell 1; simp at hk4) | (go_at_call 42; refine (KB1.out _ _ hvd).mono ?_; rintro e w5 ⟨rfl, hb5⟩))
      all_goals
        have hb35 : Below w3.heap.size w3 w5 := ((Below.refl w3.heap.size w3).drew.trans hb4).trans (hb5.mono hb4.size)
        have hw5 := HW3.out.below hb35
        have he5 := HE3.out.trans (hb35.mono HE3.out.size)
        have hb5w := HB3.out.trans (hb35.mono HB3.out.size)
        have K8 := hide (wu8_any _ _ _ _ BW _ hw5 (by have := HLD.out; omega) hb5w.size)
        have HB5 := hide hb5w
        have HE5 := hide he5
        have HW5 := hide hw5
        clear hk1 hk4 hvd hb4 hb5 hb35 hw5 he5 hb5w
        go_wp2_with fail
        refine K8.out.mono ?_
        rintro e w6 ⟨rfl, sv6, hw6, hs6⟩
        have hb6 := HB5.out.trans (hs6.below HW5.out HB5.out.size)
        have K9 := hide (wrawL_any _ _ _ _ (strN BY) (by rw [strN_size]; have := HBL1.out; omega) _ hw6 (by rw [List.length_append, List.length_singleton]; have := HLD.out; omega) hb6.size)
        have HB6 := hide hb6
        have HW6 := hide hw6
        clear hw6 hs6 hb6 K8
        go_wp2_with fail
        refine K9.out.mono ?_
        rintro e w7 ⟨rfl, sv7, hw7, hs7⟩
        have HB7 := hide (HB6.out.trans (hs7.below HW6.out HB6.out.size))
        have KS := hide (wstring_any _ _ _ _ _ hw7)
        rw [HFIN.out] at KS
        clear hw7 hs7 K9
        go_wp2_with fail
        refine KS.out.mono ?_
        rintro e w8 ⟨rfl, rfl⟩
        go_wp2_with fail
        go_ret2
        exact ⟨rfl, HE2.out.trans (HB7.out.mono HE2.out.size)⟩
end Go.Proofs.YtfkgmodgkifelaaGreatDoor
namespace Go.Proofs.YtfkgmodgkifelaaGreatDoor
open Go.RowKit

/-- A cell's parts by number. -/
def mcell (c : MC) (r : Nat) : Value := match r with
  | 0 => .bool c.1
  | 1 => .bool c.2.b
  | 2 => .int .i64 c.2.x
  | 3 => .int .u64 c.2.u
  | 4 => .string c.2.t
  | _ => .complex .f64 c.2.p c.2.q
def mrow (f : Nat → MC) (j : Nat) : Value := mcell (f (j / 6)) (j % 6)
theorem mrow_at (f : Nat → MC) (i : Nat) : mrow f (i * 6) = .bool (f i).1 ∧ mrow f (i * 6 + 1) = .bool (f i).2.b ∧ mrow f (i * 6 + 2) = .int .i64 (f i).2.x ∧ mrow f (i * 6 + 3) = .int .u64 (f i).2.u ∧ mrow f (i * 6 + 4) = .string (f i).2.t ∧ mrow f (i * 6 + 5) = .complex .f64 (f i).2.p (f i).2.q := by
  have e : ∀ j, j < 6 → (i * 6 + j) % 6 = j ∧ (i * 6 + j) / 6 = i := fun j hj => by omega
  unfold mrow
  refine ⟨?_, ?_, ?_, ?_, ?_, ?_⟩
  · have := e 0 (by omega); rw [Nat.add_zero] at this; rw [this.1, this.2]; rfl
  · rw [(e 1 (by omega)).1, (e 1 (by omega)).2]; rfl
  · rw [(e 2 (by omega)).1, (e 2 (by omega)).2]; rfl
  · rw [(e 3 (by omega)).1, (e 3 (by omega)).2]; rfl
  · rw [(e 4 (by omega)).1, (e 4 (by omega)).2]; rfl
  · rw [(e 5 (by omega)).1, (e 5 (by omega)).2]; rfl
def mset (f : Nat → MC) (i : Nat) (c : MC) (k : Nat) : MC := if k = i then c else f k
theorem mset_same (f : Nat → MC) (i : Nat) (c : MC) : mset f i c i = c := if_pos rfl
theorem mset_other (f : Nat → MC) (i : Nat) (c : MC) (k : Nat) (h : k ≠ i) : mset f i c k = f k := if_neg h
theorem mrow_set (f : Nat → MC) (i : Nat) (c : MC) (j : Nat) :
    (if j = i * 6 + 5 then .complex .f64 c.2.p c.2.q else if j = i * 6 + 4 then .string c.2.t else if j = i * 6 + 3 then .int .u64 c.2.u else if j = i * 6 + 2 then .int .i64 c.2.x else if j = i * 6 + 1 then .bool c.2.b else if j = i * 6 then .bool c.1 else mrow f j) = mrow (mset f i c) j := by
  obtain ⟨m0, m1, m2, m3, m4, m5⟩ := mrow_at (mset f i c) i
  rw [mset_same] at m0 m1 m2 m3 m4 m5
  by_cases h5 : j = i * 6 + 5
  · rw [if_pos h5, h5, m5]
  rw [if_neg h5]
  by_cases h4 : j = i * 6 + 4
  · rw [if_pos h4, h4, m4]
  rw [if_neg h4]
  by_cases h3 : j = i * 6 + 3
  · rw [if_pos h3, h3, m3]
  rw [if_neg h3]
  by_cases h2 : j = i * 6 + 2
  · rw [if_pos h2, h2, m2]
  rw [if_neg h2]
  by_cases h1 : j = i * 6 + 1
  · rw [if_pos h1, h1, m1]
  rw [if_neg h1]
  by_cases h0 : j = i * 6
  · rw [if_pos h0, h0, m0]
  rw [if_neg h0]
  unfold mrow
  rw [mset_other _ _ _ _ (by omega)]
theorem mrow_null (f : Nat → MC) (i : Nat) (c : CD) (h : f i = (false, c)) (j : Nat) : (if j = i * 6 then .bool true else mrow f j) = mrow (mset f i (true, c)) j := by
  by_cases h0 : j = i * 6
  · rw [if_pos h0, h0, (mrow_at _ _).1, mset_same]
  rw [if_neg h0]
  unfold mrow
  by_cases hq : j / 6 = i
  · rw [hq, mset_same, h]
    have : j % 6 ≠ 0 := by omega
    unfold mcell
    split <;> first | contradiction | rfl
  · rw [mset_other _ _ _ _ hq]
theorem mset6 {w : World} {L N : Nat} {t : TypeId} {f : Nat → MC} (h : w.rowIs L t N (mrow f)) (i : Nat) (n b : Bool) (x u : Int) (s : ByteArray) (p q : Nat) :
    ((((((w.setCell ⟨L, i * 6, none⟩ (.bool n)).setCell ⟨L, i * 6 + 1, none⟩ (.bool b)).setCell ⟨L, i * 6 + 2, none⟩ (.int .i64 x)).setCell ⟨L, i * 6 + 3, none⟩ (.int .u64 u)).setCell ⟨L, i * 6 + 4, none⟩ (.string s)).setCell ⟨L, i * 6 + 5, none⟩ (.complex .f64 p q)).rowIs L t N (mrow (mset f i (n, ⟨b, x, u, s, p, q⟩))) :=
  ((((((h.set (i * 6) (.bool n)).set (i * 6 + 1) (.bool b)).set (i * 6 + 2) (.int .i64 x)).set (i * 6 + 3) (.int .u64 u)).set (i * 6 + 4) (.string s)).set (i * 6 + 5) (.complex .f64 p q)).congr (fun j _ => mrow_set f i (n, ⟨b, x, u, s, p, q⟩) j)
theorem below_set6 {B : Nat} {a w : World} (h : Below B a w) {L : Nat} (hL : B ≤ L) (o : Nat) (v0 v1 v2 v3 v4 v5 : Value) :
    Below B a ((((((w.setCell ⟨L, o, none⟩ v0).setCell ⟨L, o + 1, none⟩ v1).setCell ⟨L, o + 2, none⟩ v2).setCell ⟨L, o + 3, none⟩ v3).setCell ⟨L, o + 4, none⟩ v4).setCell ⟨L, o + 5, none⟩ v5) :=
  (((((h.setCell (p := ⟨L, o, none⟩) hL v0).setCell (p := ⟨L, o + 1, none⟩) hL v1).setCell (p := ⟨L, o + 2, none⟩) hL v2).setCell (p := ⟨L, o + 3, none⟩) hL v3).setCell (p := ⟨L, o + 4, none⟩) hL v4).setCell (p := ⟨L, o + 5, none⟩) hL v5
theorem rowIs_madeM (Z : Array Value) (hZ : Z = clZ.cells) (w : World) (n : Nat) (t : TypeId) : (w.alloc (.cells (madeCells Z (n * 6)) t)).rowIs w.heap.size t (n * 6) (mrow fun _ => (false, CD.z)) := by
  have h := rowIs_made6 (fun _ => false) Z hZ w n t
  refine h.congr (fun j _ => ?_)
  unfold bcell mrow
  have hj : j % 6 < 6 := Nat.mod_lt _ (by omega)
  generalize j % 6 = r at *
  match r, hj with
  | 0, _ => rfl
  | 1, _ => rw [if_pos rfl]; simp; rfl
  | 2, _ => rfl
  | 3, _ => rfl
  | 4, _ => rfl
  | 5, _ => rfl
theorem inM_row {w : World} {L n : Nat} {t : TypeId} {f : Nat → MC} (h : w.rowIs L t (n * 6) (mrow f)) (l : List MC) (hl : l.length = n) (hf : ∀ i x, l[i]? = some x → f i = x) (c : Nat) : InM w (.slice (some ⟨L, 0, none⟩) n c) l := by
  refine ⟨_, c, by rw [hl], fun i x hx => ⟨L, rfl, h.lt, ?_⟩⟩
  have hi : i < n := by rw [← hl]; exact (List.getElem?_eq_some_iff.1 hx).1
  obtain ⟨m0, m1, m2, m3, m4, m5⟩ := mrow_at f i
  rw [hf i x hx] at m0 m1 m2 m3 m4 m5
  exact ⟨by rw [h.cell (by omega), m0], by rw [h.cell (by omega), m1], by rw [h.cell (by omega), m2], by rw [h.cell (by omega), m3], by rw [h.cell (by omega), m4], by rw [h.cell (by omega), m5]⟩
theorem spr_get {bits : List Bool} {l : List CD} {i : Nat} {x : MC} (h : (spr bits l)[i]? = some x) : i < bits.length ∧ spc bits l i = x := by
  have hi := (List.getElem?_eq_some_iff.1 h).1
  rw [spr_len] at hi
  refine ⟨hi, ?_⟩
  unfold spr at h
  simp [hi] at h
  exact h
/-- What is laid of the cells spread so far. -/
def laidM (bits : List Bool) (l : List CD) (i k : Nat) : MC := if k < i then spc bits l k else (false, CD.z)
theorem laidM_on (bits : List Bool) (l : List CD) (i k : Nat) : mset (laidM bits l i) i (spc bits l i) k = laidM bits l (i + 1) k := by
  unfold mset laidM
  by_cases h : k = i
  · subst h; rw [if_pos rfl, if_pos (by omega)]
  · rw [if_neg h]
    by_cases h1 : k < i
    · rw [if_pos h1, if_pos (by omega)]
    · rw [if_neg h1, if_neg (by omega)]
theorem mrow_congr {f g : Nat → MC} (h : ∀ k, f k = g k) (j : Nat) : mrow f j = mrow g j := by unfold mrow; rw [h]
set_option maxHeartbeats 4000000 in
set_option maxRecDepth 100000 in
theorem nspread_any (bits : List Bool) (l : List CD) (hlen : bits.length ≤ 10000) (hl : l.length + cnt bits = bits.length) (vb v : Value) (w : World) (hvb : SlB w vb bits) (hv : InC w v l) :
    Calls Tryz.prog 55 #[vb, v] w fun e w' => (∃ V, e = .returned (.tuple #[V, .int .i64 0]) ∧ InM w' V (spr bits l)) ∧ Below w.heap.size w w' := by
  have KC := hide (count_any bits vb w hvb)
  obtain ⟨A, ca, rfl, hcap, hcell⟩ := hv.form2
  obtain ⟨Ab, cb, rfl, hbit⟩ := hvb.form
  have HC := hide hcell
  have HCAP := hide hcap
  have HBT := hide hbit
  have HTL := hide (fun i hi hb => there_lt hl (i := i) hi hb)
  obtain ⟨Z, HZ⟩ : ∃ Z, Hid (Z = clZ.cells) := ⟨_, rfl⟩
  have hmk : ∀ w : World, (Instr.makeSlice 25 (.int .i64 (bits.length : Int)) (.int .i64 (bits.length : Int))).run Tryz.prog w = .ok (.slice (some ⟨w.heap.size, 0, none⟩) bits.length bits.length) (w.alloc (.cells (madeCells Z (bits.length * 6)) 45)) := fun w => by
    rw [HZ.out]
    obtain ⟨i0, hi, hz0, hz1, hz2⟩ := info_parts info_cC
    have := run_make (P := Tryz.prog) w 25 45 i0 clZ Tryz.underlying25 hi hz0 .i64 .i64 bits.length bits.length (by omega) (by omega) (by rw [hz2]; omega) (by omega)
    rw [hz1] at this
    simpa using this
  have hcn : cnt bits ≤ bits.length := by omega
  have hm : l.length ≤ 10000 := by omega
  have HEQ := hide (show ((bits.length : Int) - (cnt bits : Int)) = (l.length : Int) from by omega)
  have HCN := hide hl
  clear hcell hbit hv hvb hcap hl
  generalize hn : bits.length = n at *
  have HN := hide hn
  generalize hm' : l.length = m at *
  have HM := hide hm'
  clear hn hm'
  generalize hcc : cnt bits = cc at *
  have HCC := hide hcc
  clear hcc
  have hst := fun (w1 : World) (a1 : Addr) (m : Mode) (x y : Nat) => run_store Tryz.prog w1 a1 (.complex .f64 x y) m rfl
  have hsub : (n : Int) - (cc : Int) = (m : Int) := HEQ.out
  go_enter Tryz.func55, Tryz.ntmps55
  go_wp2_with fail
  refine KC.out.mono ?_
  rintro e w1 ⟨rfl, rfl⟩
  go_wp2_with fail
  go_loopw [1, 30] (fun lv iv wr => ∃ (i a r c : Nat) (A' : Option Addr), i ≤ n ∧ iv = .int .i64 (i : Int) ∧ lv = .slice A' r c ∧ Hid (a + cntTo bits i = i) ∧ Hid (a + r = m) ∧ Hid (0 < r → r ≤ c ∧ ∃ g, A = some ⟨g, 0, none⟩ ∧ A' = some ⟨g, a * 6, none⟩) ∧ Hid (wr.rowIs w.heap.size 45 (n * 6) (mrow (laidM bits l i))) ∧ Hid (Below w.heap.size w wr)) (fun _ iv _ => n - (intOf iv).toNat)
  case atStart =>
    refine ⟨0, 0, m, ca, A, by omega, rfl, rfl, (by show 0 + cntTo bits 0 = 0; unfold cntTo; rfl), (by show 0 + m = m; omega), ?_, (rowIs_madeM Z HZ.out w n _).congr (fun j _ => mrow_congr (fun k => by unfold laidM; rw [if_neg (by omega)]) j), (Below.refl _ _).alloc (Nat.le_refl _) _⟩
    show 0 < m → _
    intro h
    have hx : ∃ x, l[0]? = some x := ⟨l[0]'(by rw [HM.out]; exact h), List.getElem?_eq_getElem _⟩
    obtain ⟨x, hx⟩ := hx
    obtain ⟨g, hA, _, _⟩ := HC.out 0 x hx
    exact ⟨HCAP.out h, g, hA, by rw [hA]⟩
  case round =>
    obtain ⟨i, a, r, c, A', hin, rfl, rfl, hac, har, hsl, hrow, hb⟩ := hrel
    by_cases hlt : i < n
    · obtain ⟨gb, ob, hA, hgb, hbt⟩ := HBT.out i hlt
      subst hA
      have b0 := (hb.out.cell (p := ⟨gb, ob + i, none⟩) hgb).trans hbt
      have HLT := hide hlt
      have hi0 : (0 : Int) ≤ (i : Int) := by omega
      have hi1 : (i : Int) < (n : Int) := by omega
      have hi2 : (i : Int) ≤ 10000 := by omega
      have hf0 := hrow.out.frozen (i * 6)
      have hf1 := hrow.out.frozen (i * 6 + 1)
      have hf2 := hrow.out.frozen (i * 6 + 2)
      have hf3 := hrow.out.frozen (i * 6 + 3)
      have hf4 := hrow.out.frozen (i * 6 + 4)
      have hf5 := hrow.out.frozen (i * 6 + 5)
      have hc0 := hrow.out.cell (show i * 6 < n * 6 by omega)
      have hc1 := hrow.out.cell (show i * 6 + 1 < n * 6 by omega)
      have hc2 := hrow.out.cell (show i * 6 + 2 < n * 6 by omega)
      have hc3 := hrow.out.cell (show i * 6 + 3 < n * 6 by omega)
      have hc4 := hrow.out.cell (show i * 6 + 4 < n * 6 by omega)
      have hc5 := hrow.out.cell (show i * 6 + 5 < n * 6 by omega)
      have hfi : laidM bits l i i = (false, CD.z) := by unfold laidM; rw [if_neg (by omega)]
      obtain ⟨m0, m1, m2, m3, m4, m5⟩ := mrow_at (laidM bits l i) i
      rw [hfi] at m0 m1 m2 m3 m4 m5
      rw [m0] at hc0
      rw [m1] at hc1
      rw [m2] at hc2
      rw [m3] at hc3
      rw [m4] at hc4
      rw [m5] at hc5
      have HON := hide (laidM_on bits l i)
      clear m0 m1 m2 m3 m4 m5
      cases hbi : bits.getD i false
      · have hlm := HTL.out i hlt hbi
        have hae : i - cntTo bits i = a := by have := hac.out; omega
        rw [hae] at hlm
        have hr : 0 < r := by have := har.out; omega
        obtain ⟨hrc, g', hAA, hA'⟩ := hsl.out hr
        subst hA'
        subst hAA
        obtain ⟨x, hx⟩ : ∃ x, l[a]? = some x := ⟨l[a]'(by rw [HM.out]; exact hlm), List.getElem?_eq_getElem _⟩
        obtain ⟨g, hA, hg, hat⟩ := HC.out a x hx
        injection hA with hA
        injection hA with hA
        subst hA
        obtain ⟨a0, a1, a2, a3, a4, a5⟩ := hat.below hb.out hg
        have HSC : Hid (spc bits l i = (false, x)) := by
          show _ = _
          unfold spc
          rw [if_neg (by rw [hbi]; simp), hae, List.getD_eq_getElem?_getD, hx]
          rfl
        have HBC : Hid (cntTo bits (i + 1) = cntTo bits i) := by show _ = _; rw [cntTo_succ, bit_false hbi]; rfl
        rw [hbi] at b0
        have HRC := hide hrc
        have HR0 := hide hr
        obtain ⟨xb, xx, xu, xt, xp, xq⟩ := x
        simp only at a0 a1 a2 a3 a4 a5
        have HR1 := hide ((mset6 hrow.out i false xb xx xu xt xp xq).congr (fun j _ => mrow_congr (g := laidM bits l (i + 1)) (fun k => (by rw [← HSC.out]; exact HON.out k)) j))
        have HB1 := hide (below_set6 hb.out (Nat.le_refl _) (i * 6) (.bool false) (.bool xb) (.int .i64 xx) (.int .u64 xu) (.string xt) (.complex .f64 xp xq))
        have hr0 : (0 : Int) < (r : Int) := by omega
        clear hx hat hlt hbi hae hbt hfi hsl hrc hr hlm
        obtain ⟨A2, hA2⟩ : ∃ A2, (if c = 1 then some (⟨g', a * 6, none⟩ : Addr) else some ⟨g', a * 6 + 6, none⟩) = A2 := ⟨_, rfl⟩
        have HA2 := hide hA2
        have hsl : ∀ w : World, (Instr.slice 25 (.slice (some ⟨g', a * 6, none⟩) r c) (some (.int .i64 1)) none none).run Tryz.prog w = .ok (.slice A2 (r - 1) (c - 1)) w := fun w => by
          rw [← HA2.out]
          have := HR0.out
          simp [Instr.slice, Instr.sliceBounds, Instr.sliceBound, asIntOf, run_underlying Tryz.underlying25, go_sem]
          intro h
          omega
        clear hA2
        go_wp2_with fail
        go_region
        go_wp2_with fail
        go_roundw
        case rel =>
          refine ⟨i + 1, a + 1, r - 1, c - 1, A2, by have := HLT.out; omega, by go_num, rfl, (by show _ = _; rw [HBC.out]; have := hac.out; omega), (by show _ = _; have := har.out; have := HR0.out; omega), ?_, HR1.out.drew, HB1.out.drew⟩
          show 0 < r - 1 → _
          intro h
          have := HRC.out
          refine ⟨by omega, g', rfl, ?_⟩
          rw [← HA2.out, if_neg (by omega), show (a + 1) * 6 = a * 6 + 6 by omega]
        case measure => have := HLT.out; simp [intOf]; omega
      · have HSC : Hid (spc bits l i = (true, CD.z)) := by
          show _ = _
          unfold spc
          rw [if_pos hbi]
        have HBC : Hid (cntTo bits (i + 1) = cntTo bits i + 1) := by show _ = _; rw [cntTo_succ, bit_true hbi]
        rw [hbi] at b0
        have HR1 := hide (((hrow.out.set (i * 6) (.bool true)).congr (fun j _ => mrow_null (laidM bits l i) i CD.z hfi j)).congr (fun j _ => mrow_congr (g := laidM bits l (i + 1)) (fun k => (by rw [← HSC.out]; exact HON.out k)) j))
        have HB1 := hide (hb.out.setCell (p := ⟨w.heap.size, i * 6, none⟩) (Nat.le_refl _) (.bool true))
        clear hlt hbi hbt hfi
        go_wp2_with fail
        go_roundw
        case rel => exact ⟨i + 1, a, r, c, A', by have := HLT.out; omega, by go_num, rfl, (by show _ = _; rw [HBC.out]; have := hac.out; omega), har.out, hsl.out, HR1.out, HB1.out⟩
        case measure => have := HLT.out; simp [intOf]; omega
    · obtain rfl : n = i := by omega
      have HV := hide (inM_row hrow.out (spr bits l) (by rw [spr_len, HN.out]) (fun i x hx => by
        obtain ⟨h1, h2⟩ := spr_get hx
        rw [HN.out] at h1
        unfold laidM
        rw [if_pos h1, h2]) n)
      clear hlt hin
      go_wp2_with fail
      go_ret2
      exact ⟨⟨_, rfl, HV.out⟩, hb.out⟩
end Go.Proofs.YtfkgmodgkifelaaGreatDoor
