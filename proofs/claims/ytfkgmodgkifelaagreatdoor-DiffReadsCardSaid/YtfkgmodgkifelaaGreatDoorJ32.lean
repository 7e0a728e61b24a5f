/- Columns: what is wrong with a column's cells: the program. Columns: dict.Make at any cells. Columns: dict.Encode at any cells. -/
import Derived.Test.YtfkgmodgkifelaaGreatDoorJ31
import Derived.Test.YtfkgmodgkifelaaGreatDoorJ29
import Derived.Test.YtfkgmodgkifelaaGreatDoorJ16
namespace Go.Proofs.YtfkgmodgkifelaaGreatDoor
open Go.RowKit

/-- How many bytes cells count. -/
def tbm (l : List MC) : Nat := (l.map fun c => 20 + c.2.t.size).sum
theorem tbm_append (a b : List MC) : tbm (a ++ b) = tbm a + tbm b := by simp [tbm]
theorem tbm_take {l : List MC} {i : Nat} {c : MC} (h : l[i]? = some c) : tbm (l.take (i + 1)) = tbm (l.take i) + (20 + c.2.t.size) := by
  rw [List.take_add_one, h, tbm_append]
  simp [tbm]
theorem okM_sz {nl : Bool} {k : Int} {c : MC} (h : okM nl k c) : c.2.t.size ≤ 600 := by
  unfold okM at h
  split at h
  · rw [h.2]; exact e_sz6
  · exact h.tb
theorem tbm_sz : ∀ (l : List MC), (∀ c ∈ l, c.2.t.size ≤ 600) → tbm l ≤ 620 * l.length := by
  intro l
  induction l with
  | nil => intro _; simp [tbm]
  | cons c l ih =>
    intro h
    have h1 := h c (by simp)
    have h2 := ih (fun x hx => h x (by simp [hx]))
    unfold tbm at *
    simp only [List.map_cons, List.sum_cons, List.length_cons]
    omega
theorem tbm_le {nl : Bool} {k : Int} (l : List MC) (hok : ∀ c ∈ l, okM nl k c) (i : Nat) : tbm (l.take i) ≤ 620 * l.length := by
  have := tbm_sz (l.take i) (fun c hc => okM_sz (hok c (List.mem_of_mem_take hc)))
  rw [List.length_take] at this
  omega
set_option maxHeartbeats 1000000 in
set_option maxRecDepth 100000 in
theorem csize_any (c : MC) (ht : c.2.t.size ≤ 600) (w : World) : Calls Tryz.prog 79 #[c.v] w fun e w' => e = .returned (.int .i64 ((20 + c.2.t.size : Nat) : Int)) ∧ Below w.heap.size w w' := by
  obtain ⟨n, b, x, u, t, p, q⟩ := c
  unfold MC.v
  simp only at ht ⊢
  have h0 : (t.size : Int) ≤ 600 := by omega
  go_enter Tryz.func79, Tryz.ntmps79
  go_wp2_with fail
  go_ret
  exact ⟨ret_int (by omega), (Below.refl _ _).alloc (Nat.le_refl _) _⟩
set_option maxHeartbeats 4000000 in
set_option maxRecDepth 100000 in
theorem check_col (nm : ByteArray) (hnm : nm.size ≤ maxLen) (kn : Nat) (h1 : 1 ≤ kn) (h6 : kn ≤ 6) (nl : Bool) (hce : colE nm kn = 0) (l : List MC) (hl : l.length ≤ 10000) (hok : ∀ c ∈ l, okM nl kn c)
    (gc gs : Nat) (V : Value) (w : World) (hT : Tabs w) (c0 : w.cell? ⟨gc, 0, none⟩ = some (.string nm)) (c1 : w.cell? ⟨gc, 1, none⟩ = some (.int .i64 (kn : Int))) (c2 : w.cell? ⟨gc, 2, none⟩ = some (.bool nl))
    (s0 : w.cell? ⟨gs, 0, none⟩ = some V) (hV : InM w V l) :
    Calls Tryz.prog 37 #[.agg #[.slice (some ⟨gc, 0, none⟩) 1 1, .slice (some ⟨gs, 0, none⟩) 1 1]] w fun e w' => e = .returned (.int .i64 ((if 1048576 < tbm l then 31 else 0 : Nat) : Int)) ∧ Below w.heap.size w w' := by
  obtain ⟨A, ca, rfl, hc⟩ := hV
  obtain ⟨hB0, hB1, hB2⟩ := ka_k kn h1 h6
  obtain ⟨r, hr⟩ : ∃ r : Nat, (if 1048576 < tbm l then 31 else 0 : Nat) = r := ⟨_, rfl⟩
  rw [hr]
  have HR := hide hr
  have HC := hide hc
  have HOK := hide hok
  have HTB := hide (fun i c (h : l[i]? = some c) => tbm_take h)
  have HTL := hide (fun i => tbm_le l hok i)
  have HTF : Hid (tbm (l.take l.length) = tbm l) := by show _ = _; rw [List.take_length]
  have KM := hide (fun (c : MC) (hc : c ∈ l) (w : World) (hT : Tabs w) => may_ok nm kn (by omega) (by omega) nl c (hok c hc) w hT)
  have KSZ := hide (fun (c : MC) (hc : c ∈ l) (w : World) => csize_any c (okM_sz (hok c hc)) w)
  clear hr hc hok
  generalize hn : l.length = n at *
  have HN := hide hn
  clear hn
  have KC := hide (fun w hT a b c => columns_gen nm hnm (kn : Int) nl gc 1 w hT a b c)
  have KR := hide (fun w h => rows_any gc gs A n ca w h)
  rw [hce] at KC
  have KK := hide kinds_any
  clear hce hnm
  have hst := fun (w1 : World) (a1 : Addr) (m : Mode) (x y : Nat) => run_store Tryz.prog w1 a1 (.complex .f64 x y) m rfl
  have hgc := cell_in c0
  have hgs := cell_in s0
  have HT := hide hT
  have C0 := hide c0
  have C1 := hide c1
  have C2 := hide c2
  have S0 := hide s0
  clear hT c0 c1 c2 s0
  obtain ⟨W1, hW1⟩ : ∃ W1, w.alloc (.cells #[.slice (some ⟨gc, 0, none⟩) 1 1, .slice (some ⟨gs, 0, none⟩) 1 1] 60) = W1 := ⟨_, rfl⟩
  have hb1 : Below w.heap.size w W1 := by rw [← hW1]; exact (Below.refl _ _).alloc (Nat.le_refl _) _
  have hk1 : Blk W1 w.heap.size 60 #[.slice (some ⟨gc, 0, none⟩) 1 1, .slice (some ⟨gs, 0, none⟩) 1 1] := by rw [← hW1]; exact Blk.new _ _ _
  have KC1 := hide (KC.out W1 (HT.out.below hb1) ((hb1.cell (p := ⟨gc, 0, none⟩) hgc).trans C0.out) ((hb1.cell (p := ⟨gc, 1, none⟩) hgc).trans C1.out) ((hb1.cell (p := ⟨gc, 2, none⟩) hgc).trans C2.out))
  have k0 := hk1.cell 0
  have k1 := hk1.cell 1
  simp at k0 k1
  have HB1 := hide hb1
  have HK1 := hide hk1
  have HW := hide hW1
  clear hb1 hk1 hW1
  go_enter Tryz.func37, Tryz.ntmps37
  go_wp2_with fail
  rw [HW.out]
  refine KC1.out.mono ?_
  rintro e w2 ⟨rfl, hb2⟩
  have b2 := HK1.out.below hb2 HK1.out.lt
  have k0 := b2.cell 0
  have k1 := b2.cell 1
  simp at k0 k1
  have HB2 := hide (HB1.out.trans (hb2.mono HB1.out.size))
  have HK2 := hide b2
  have KR2 := hide (KR.out w2 ((HB2.out.cell (p := ⟨gs, 0, none⟩) hgs).trans S0.out))
  clear hb2 b2 KC1
  go_wp2_with fail
  refine KR2.out.mono ?_
  rintro e w3 ⟨rfl, hb3⟩
  have HB3 := hide (HB2.out.trans (hb3.mono HB2.out.size))
  have HK3 := hide (HK2.out.below hb3 HK2.out.lt)
  clear hb3 KR2 k0 k1
  go_wp2_with fail
  refine (KK.out w3).mono ?_
  rintro e w4 ⟨rfl, hb4⟩
  have HB4 := hide (HB3.out.trans (hb4.mono HB3.out.size))
  have HK4 := hide (HK3.out.below hb4 HK3.out.lt)
  clear hb4
  have H0 := hide (fun cs => show Blk (w4.alloc (.cells cs 132)) w4.heap.size 132 cs from Blk.new w4 cs _)
  have hz4 : w.heap.size < w4.heap.size := HK4.out.lt
  have k1 : ∀ cs, ((w4.alloc (.cells cs 132)).setRow w4.heap.size ka).cell? ⟨w.heap.size, 1, none⟩ = some (.slice (some ⟨gs, 0, none⟩) 1 1) := fun cs => by
    have := ((HK4.out.alloc (.cells cs 132)).otherRow (g := w4.heap.size) (by omega) ka).cell 1
    simpa using this
  go_wp2_with (refine wpList_store_row rfl 132 (.tmp 5) (.tmp 26) rfl w4.heap.size ka rfl rfl 132 _ (H0.out _).out info_ka rfl ka_one ?_)
  refine wp_loop_rounds 2 ?_
  rw [rounds_succ]
  obtain ⟨w5, hw5⟩ : ∃ w5, (w4.alloc (.cells #[.nilFunc, .nilFunc, .nilFunc, .nilFunc, .nilFunc, .nilFunc, .nilFunc, .nilFunc, .nilFunc, .nilFunc, .nilFunc, .nilFunc, .nilFunc, .nilFunc, .nilFunc, .nilFunc, .nilFunc, .nilFunc, .nilFunc, .nilFunc, .nilFunc] 132)).setRow w4.heap.size ka = w5 := ⟨_, rfl⟩
  have hk5 : Blk w5 w4.heap.size 132 ka := by rw [← hw5]; exact (H0.out _).setRow ka
  have ht5 : Blk w5 w.heap.size 60 #[.slice (some ⟨gc, 0, none⟩) 1 1, .slice (some ⟨gs, 0, none⟩) 1 1] := by rw [← hw5]; exact (HK4.out.alloc _).otherRow (by omega) ka
  have hb5 : Below w.heap.size w w5 := by rw [← hw5]; exact below_setRow (HB4.out.alloc HB4.out.size _) HB4.out.size _
  rw [hw5]
  have s0 := (hb5.cell (p := ⟨gs, 0, none⟩) hgs).trans S0.out
  have HK5 := hide hk5
  have HT5 := hide ht5
  have HB5 := hide hb5
  clear hw5 hk5 ht5 hb5 k1 H0 HK4 HB4 HK3 HB3 HK2 HB2 HK1 HB1 HW
  generalize w4.heap.size = kb at *
  go_wp2_with fail
  go_loopw [8, 41] (fun sv iv wr => ∃ (i m : Nat), i ≤ n ∧ iv = .int .i64 (i : Int) ∧ sv = .int .i64 (m : Int) ∧ Hid (m = tbm (l.take i)) ∧ m ≤ 1000000000000 ∧ Hid (Below w5.heap.size w5 wr)) (fun _ iv _ => n - (intOf iv).toNat)
  case atStart => exact ⟨0, 0, by omega, rfl, rfl, rfl, by omega, Below.refl _ _⟩
  case round =>
    obtain ⟨i, m, hi, rfl, rfl, hm, hmm, hbe⟩ := hrel
    by_cases hlt : i < n
    · have hi0 : (0 : Int) ≤ (i : Int) := by omega
      have hi1 : (i : Int) < (n : Int) := by omega
      obtain ⟨x, hx⟩ : ∃ x, l[i]? = some x := ⟨l[i]'(by rw [HN.out]; exact hlt), List.getElem?_eq_getElem _⟩
      obtain ⟨g, hA, hg, hat⟩ := HC.out i x hx
      subst hA
      have hxm := List.mem_of_getElem? hx
      obtain ⟨a0, a1, a2, a3, a4, a5⟩ := hat.below (HB5.out.trans (hbe.out.mono HB5.out.size)) hg
      have KM1 := hide (KM.out x hxm)
      have KS := hide (KSZ.out x hxm)
      have HX := hide (HTB.out i x hx)
      have HX1 := hide (HTL.out (i + 1))
      have HTS := hide (okM_sz (HOK.out x hxm))
      obtain ⟨NU, xb, X, xu, T, xp, xq⟩ := x
      unfold colV kV MC.v at KM1
      unfold MC.v at KS
      simp only at KM1 KS HX HTS a0 a1 a2 a3 a4 a5
      clear hx hat hxm
      have hlt0 := hlt
      clear hlt
      go_wp2_with fail
      have hkz := Blk.new wr #[.bool NU, .bool xb, .int .i64 X, .int .u64 xu, .string T, .complex .f64 xp xq] 45
      have hbz : Below w5.heap.size w5 (wr.alloc (.cells #[.bool NU, .bool xb, .int .i64 X, .int .u64 xu, .string T, .complex .f64 xp xq] 45)) := hbe.out.alloc hbe.out.size _
      obtain ⟨wz, hwz⟩ : ∃ wz, wr.alloc (.cells #[.bool NU, .bool xb, .int .i64 X, .int .u64 xu, .string T, .complex .f64 xp xq] 45) = wz := ⟨_, rfl⟩
      rw [hwz] at hkz hbz ⊢
      have HZ := hide hbz
      have HTZ := hide (HT.out.below (HB5.out.trans (hbz.mono HB5.out.size)))
      have q0 := cell_regrown ((hbz.cell (p := ⟨gc, 0, none⟩) (Nat.lt_of_lt_of_le hgc HB5.out.size)).trans ((HB5.out.cell (p := ⟨gc, 0, none⟩) hgc).trans C0.out))
      have q1 := cell_regrown ((hbz.cell (p := ⟨gc, 1, none⟩) (Nat.lt_of_lt_of_le hgc HB5.out.size)).trans ((HB5.out.cell (p := ⟨gc, 1, none⟩) hgc).trans C1.out))
      have q2 := cell_regrown ((hbz.cell (p := ⟨gc, 2, none⟩) (Nat.lt_of_lt_of_le hgc HB5.out.size)).trans ((HB5.out.cell (p := ⟨gc, 2, none⟩) hgc).trans C2.out))
      have t0 := cell_regrown (((HT5.out.below hbz HT5.out.lt).cell 0).trans rfl)
      have r0 := cell_regrown (((HK5.out.below hbz HK5.out.lt).cell (kn * 3)).trans hB0)
      have r1 := cell_regrown (((HK5.out.below hbz HK5.out.lt).cell (kn * 3 + 1)).trans hB1)
      have r2 := cell_regrown (((HK5.out.below hbz HK5.out.lt).cell (kn * 3 + 2)).trans hB2)
      have z0 := cell_regrown ((hkz.cell 0).trans rfl)
      have z1 := cell_regrown ((hkz.cell 1).trans rfl)
      have z2 := cell_regrown ((hkz.cell 2).trans rfl)
      have z3 := cell_regrown ((hkz.cell 3).trans rfl)
      have z4 := cell_regrown ((hkz.cell 4).trans rfl)
      have z5 := cell_regrown ((hkz.cell 5).trans rfl)
      have KQ := hide (fun d os => Calls.regrown_of (d := d) (os := os) (KM1.out (Sort.grow (redrawn wz d) os) (HTZ.out.below (below_regrown wz d os))))
      have hkz' := hide hkz
      clear hwz hbz hkz a0 a1 a2 a3 a4 a5
      refine wp_region_quiet_below (by kernel_rfl) (by kernel_rfl) ?_
      repeat (go_big_quiet_step (exact KQ.out _ _))
      refine wpQuiet_nil ?_
      intro _ hw'
      obtain ⟨⟨dq, osq⟩, hw''⟩ := hw'
      subst hw''
      have hb4 := below_regrown wz dq osq
      generalize Sort.grow (redrawn wz dq) osq = w6 at *
      clear q0 q1 q2 t0 r0 r1 r2 z0 z1 z2 z3 z4 z5
      have HK6 := hide (hkz'.out.below hb4 hkz'.out.lt)
      have HB6 := hide (HZ.out.trans (hb4.mono HZ.out.size))
      clear hb4 KQ
      obtain ⟨b0, b1, b2, b3, b4, b5, f0, f1, f2, f3, f4, f5⟩ := Blk.six HK6.out
      have KS6 := hide (KS.out w6)
      go_wp2_with fail
      refine KS6.out.mono ?_
      rintro e w7 ⟨rfl, hb7⟩
      have HB7 := hide (HB6.out.trans (hb7.mono HB6.out.size))
      clear hb7 b0 b1 b2 b3 b4 b5 f0 f1 f2 f3 f4 f5 KS6
      have hT0 : (T.size : Int) ≤ 1000000000 := by have := HTS.out; omega
      have hm0 : (0 : Int) ≤ (m : Int) := by omega
      have hm1 : (m : Int) ≤ 1000000000000 := by omega
      go_wp2_with fail
      go_roundw
      case rel =>
        refine ⟨i + 1, m + (20 + T.size), by omega, by go_num, by go_num, ?_, ?_, HB7.out⟩
        · have h1 := hm.out; have h2 := HX.out; show _ = _; omega
        · have h1 := hm.out; have h2 := HX.out; have h3 := HX1.out; omega
      case measure => simp [intOf]; omega
    · obtain rfl : n = i := by omega
      have hme : tbm l = m := by have h1 := hm.out; have h2 := HTF.out; omega
      have hre := HR.out
      rw [hme] at hre
      have HE := hide (HB5.out.trans (hbe.out.mono HB5.out.size))
      have hn1 : (n : Int) ≤ 10000 := by omega
      clear hlt hi hbe hm hme HR
      by_cases hq : 1048576 < m
      · rw [if_pos hq] at hre
        subst hre
        have g2 : (1048576 : Int) < (m : Int) := by omega
        clear hq
        go_wp2_with fail
        rw [rounds_succ]
        go_wp2_with fail
        go_ret
        exact ⟨rfl, HE.out⟩
      · rw [if_neg hq] at hre
        subst hre
        have g2 : (m : Int) ≤ 1048576 := by omega
        clear hq
        go_wp2_with fail
        rw [rounds_succ]
        go_wp2_with fail
        go_ret
        exact ⟨rfl, HE.out⟩
end Go.Proofs.YtfkgmodgkifelaaGreatDoor
namespace Go.Proofs.YtfkgmodgkifelaaGreatDoor
open Go.RowKit

theorem rowIs_blk {w : World} {b n : Nat} {t : TypeId} {f : Nat → Value} (h : w.rowIs b t n f) : ∃ c, Blk w b t c := by
  obtain ⟨c, hb, _⟩ := h
  exact ⟨c, hb⟩
theorem AFr.row {w w' : World} {D B M : Nat} {lv lv' : Value} {k : Int} {l : List CD} (h : AFr D M w lv w' lv') (hd : DS w D B M lv k l) {b n : Nat} {t : TypeId} {f : Nat → Value} (hr : w.rowIs b t n f) (hD : b ≠ D) (hM : b ≠ M) (ht : t ≠ 45) : w'.rowIs b t n f := by
  obtain ⟨c, hb⟩ := rowIs_blk hr
  refine hr.of_block (h.fr.block b hb.lt ?_)
  rintro (h | h | h)
  · exact hD h
  · exact hM h
  · exact own_ne_blk hd.own hb ht h.symm
theorem DS.setRow {w : World} {D B M : Nat} {lv : Value} {k : Int} {l : List CD} (hd : DS w D B M lv k l) {b n : Nat} {t : TypeId} {f : Nat → Value} (hr : w.rowIs b t n f) (hD : b ≠ D) (hM : b ≠ M) (ht : t ≠ 45) (i : Nat) (v : Value) : DS (w.setCell ⟨b, i, none⟩ v) D B M lv k l := by
  obtain ⟨c, hb⟩ := rowIs_blk hr
  exact hd.fr (Fr.setCell w ⟨b, i, none⟩ v) (fun h => hD h.symm) (fun h => hM h.symm) (fun j hj h => own_ne_blk hd.own hb ht (by rw [hj, h]))
theorem AFr.belowC {w w' : World} {D B M : Nat} {lv lv' : Value} {k : Int} {l : List CD} (h : AFr D M w lv w' lv') (hd : DS w D B M lv k l) (hB : B ≤ w.heap.size) : Below B w w' :=
  h.fr.below hB (by
    rintro j (rfl | rfl | h)
    · exact hd.leD
    · exact hd.leM
    · exact (hd.own.lt j h.symm).1)
theorem plc_of {k : Int} (h1 : 1 ≤ k) (h6 : k ≤ 6) {l : List CD} (ok : ∀ x ∈ l, KG x) (nd : ∀ (i j : Nat) (x y : CD), l[i]? = some x → l[j]? = some y → ceq k x y = true → i = j) {c x : CD} {j : Nat} (hc : KG c) (hx : l[j]? = some x) (he : ceq k x c = true) : plcOf k l c = some j := by
  unfold plcOf
  rw [List.findIdx?_eq_some_iff_getElem]
  obtain ⟨hj, hxe⟩ := List.getElem?_eq_some_iff.1 hx
  refine ⟨hj, by rw [hxe]; exact he, fun i hi => ?_⟩
  intro h
  have hil : i < l.length := by omega
  have e1 := (ck_eq k h1 h6 (ok _ (List.getElem_mem hil)) hc).2 h
  have e2 := (ck_eq k h1 h6 (ok _ (List.mem_of_getElem? hx)) hc).2 he
  have := nd i j _ x (List.getElem?_eq_getElem hil) hx ((ck_eq k h1 h6 (ok _ (List.getElem_mem hil)) (ok _ (List.mem_of_getElem? hx))).1 (e1.trans e2.symm))
  omega
theorem plc_no {k : Int} {l : List CD} {c : CD} (h : ∀ x ∈ l, ceq k x c = false) : plcOf k l c = none := plcOf_none (by rw [List.any_eq_false]; intro x hx; rw [h x hx]; simp)
theorem getD_snoc (p : List Nat) (q j : Nat) : (p ++ [q]).getD j 0 = if j = p.length then q else p.getD j 0 := by
  simp only [List.getD_eq_getElem?_getD]
  by_cases h : j < p.length
  · rw [List.getElem?_append_left h, if_neg (by omega)]
  · rw [List.getElem?_append_right (by omega)]
    by_cases h2 : j = p.length
    · subst h2; simp
    · rw [if_neg h2, List.getElem?_eq_none (by simp; omega), List.getElem?_eq_none (by omega)]
/-- How a dictionary is made. -/
def MkPost (k : Int) (n : Nat) (w : World) (r : List CD × List Nat) (e : Ending) (w' : World) : Prop :=
  ∃ (D M a : Nat) (lv : Value), e = .returned (.tuple #[.pointer (some ⟨D, 0, none⟩), .slice (some ⟨a, 0, none⟩) n n]) ∧ DS w' D w.heap.size M lv k r.1 ∧ w'.rowIs a 3 n (fun i => .int .i64 (r.2.getD i 0 : Nat)) ∧ w.heap.size ≤ a ∧ Below w.heap.size w w'
set_option maxHeartbeats 8000000 in
set_option maxRecDepth 100000 in
theorem dmake_any (k : Int) (h1 : 1 ≤ k) (h6 : k ≤ 6) (l : List CD) (hl : Wok l) (v : Value) (w : World) (hv : InC w v l) :
    Calls Tryz.prog 142 #[.int .i64 k, v] w (MkPost k l.length w (dmk k l [] [])) := by
  obtain ⟨A, ca, rfl, hcell⟩ := hv.form
  have HC := hide hcell
  have hlen := hl.len
  have HKG := hide hl.kg
  have KN := hide (dnone_any k w.heap.size w (Nat.le_refl _))
  have KA := hide (fun D B M lv l hl c hc w h hB => dadd_any k h1 h6 D B M lv l hl c hc w h hB)
  have PLC := hide (fun (l : List CD) (ok : ∀ x ∈ l, KG x) nd (c x : CD) (j : Nat) hc hx he => plc_of h1 h6 (l := l) ok nd (c := c) (x := x) (j := j) hc hx he)
  have hmk := run_make_row' (P := Tryz.prog) 161 3 (.int .i64 0) 8 Tryz.underlying161 info_int rfl .i64 .i64 l.length (by omega) (by omega)
  have hst := fun (w1 : World) (a1 : Addr) (m : Mode) (x y : Nat) => run_store Tryz.prog w1 a1 (.complex .f64 x y) m rfl
  have g1 : decide (k < 1) = false := by rw [decide_eq_false_iff_not]; omega
  have g2 : decide (6 < k) = false := by rw [decide_eq_false_iff_not]; omega
  clear hv hcell hl
  generalize hn : l.length = n at *
  have HN := hide hn
  clear hn
  obtain ⟨RES, hRES⟩ : ∃ RES, dmk k l [] [] = RES := ⟨_, rfl⟩
  rw [hRES]
  have HRES := hide hRES
  clear hRES
  have hR := hide (fun w => World.rowIs_made w (.int .i64 0) n 3)
  generalize madeCells #[Value.int .i64 0] n = CZ at *
  go_enter Tryz.func142, Tryz.ntmps142
  go_wp2_with fail
  refine KN.out.mono ?_
  rintro e w1 ⟨rfl, hds1, hb1⟩
  have hDlt := hds1.blk.lt
  have HDS1 := hide hds1
  have HB1 := hide hb1
  clear hds1 hb1
  go_wp2_with fail
  obtain ⟨w2, hw2⟩ : ∃ w2, w1.alloc (.cells CZ 3) = w2 := ⟨_, rfl⟩
  have hb12 : Below w1.heap.size w1 w2 := by rw [← hw2]; exact (Below.refl _ _).alloc (Nat.le_refl _) _
  have hr2 := hR.out w1
  rw [hw2] at hr2 ⊢
  have HR2 := hide hr2
  have HDS2 := hide (HDS1.out.below hb12)
  have HB2 := hide (HB1.out.trans (hb12.mono HB1.out.size))
  have haD : w1.heap.size ≠ w.heap.size + 1 := by omega
  have haM : w1.heap.size ≠ w.heap.size := by omega
  have hlz : w.heap.size ≤ w1.heap.size := by omega
  clear hw2 hb12 hr2 HDS1 HB1 hDlt KN
  generalize w1.heap.size = a at *
  go_loopw [23] (fun iv wr => ∃ (i : Nat) (d : List CD) (p : List Nat) (lv : Value), i ≤ n ∧ iv = .int .i64 (i : Int) ∧ Hid (dmk k (l.drop i) d p = RES) ∧ Hid (d.length ≤ i) ∧ Hid (p.length = i) ∧ Hid (DS wr (w.heap.size + 1) w.heap.size w.heap.size lv k d) ∧ Hid (wr.rowIs a 3 n (fun j => .int .i64 (p.getD j 0 : Nat))) ∧ Hid (Below w.heap.size w wr)) (fun iv _ => n - (intOf iv).toNat)
  case atStart => exact ⟨0, [], [], .slice none 0 0, by omega, rfl, HRES.out, Nat.le_refl _, rfl, HDS2.out, HR2.out.congr (fun i _ => by simp), HB2.out⟩
  case round =>
    obtain ⟨i, d, p, lv, hin, rfl, hgo, hdl, hpl, hds, hrow, hb⟩ := hrel
    by_cases hlt : i < n
    · obtain ⟨x, hx⟩ : ∃ x, l[i]? = some x := ⟨l[i]'(by rw [HN.out]; exact hlt), List.getElem?_eq_getElem _⟩
      obtain ⟨g, hA, hg, hat⟩ := HC.out i x hx
      subst hA
      obtain ⟨a0, a1, a2, a3, a4, a5⟩ := hat.below hb.out hg
      have hkx := HKG.out x (List.mem_of_getElem? hx)
      have HGO := hide (show (∀ j, plcOf k d x = some j → dmk k (l.drop (i + 1)) d (p ++ [j]) = RES) ∧ (plcOf k d x = none → dmk k (l.drop (i + 1)) (d ++ [x]) (p ++ [d.length]) = RES) from ⟨fun j h => by rw [← dmk_some hx d p h]; exact hgo.out, fun h => by rw [← dmk_none hx d p h]; exact hgo.out⟩)
      have KA2 := hide (fun w' h hB => KA.out (w.heap.size + 1) w.heap.size w.heap.size lv d (by have := hdl.out; omega) x hkx w' h hB)
      have HKX := hide hkx
      have HLT := hide hlt
      have hi0 : (0 : Int) ≤ (i : Int) := by omega
      have hi1 : (i : Int) < (n : Int) := by omega
      clear hx hat hgo hlt hkx
      obtain ⟨xb, xx, xu, xt, xp, xq⟩ := x
      unfold CD.v clV clA at KA2
      simp only at KA2 a0 a1 a2 a3 a4 a5
      have hbx : Below wr.heap.size wr (wr.alloc (.cells #[.bool false, .bool xb, .int .i64 xx, .int .u64 xu, .string xt, .complex .f64 xp xq] 45)) := (Below.refl _ _).alloc (Nat.le_refl _) _
      have HDX := hide (hds.out.below hbx)
      have HRX := hide (hrow.out.alloc (.cells #[.bool false, .bool xb, .int .i64 xx, .int .u64 xu, .string xt, .complex .f64 xp xq] 45))
      have HBX := hide (hb.out.trans (hbx.mono hb.out.size))
      clear hbx hds hrow hb
      go_wp2_with fail
      refine (KA2.out _ HDX.out HBX.out.size).mono ?_
      rintro e w3 (⟨hno, rfl, lv2, hds3, haf⟩ | ⟨j, x, hx, he, rfl, hb3⟩)
      · have HDS3 := hide hds3
        have HR3 := hide (haf.row HDX.out HRX.out haD haM (by decide))
        have HB3 := hide (HBX.out.trans (haf.belowC HDX.out HBX.out.size))
        have HG2 := hide (HGO.out.2 (plc_no hno))
        have m0 := HR3.out.cell HLT.out
        have n0 := HR3.out.frozen i
        clear hno hds3 haf a0 a1 a2 a3 a4 a5 KA2 HDX HRX HBX HGO
        go_wp2_with fail
        go_roundw
        case rel =>
          refine ⟨i + 1, d ++ [(⟨xb, xx, xu, xt, xp, xq⟩ : CD)], p ++ [d.length], lv2, by have := HLT.out; omega, by go_num, HG2.out, ?_, ?_, ?_, ?_, HB3.out.setCell (by exact hlz) _⟩
          · show (d ++ _).length ≤ i + 1
            have := hdl.out; simp; omega
          · show (p ++ _).length = i + 1
            have := hpl.out; simp; omega
          · exact HDS3.out.setRow HR3.out haD haM (by decide) _ _
          · refine (HR3.out.set i (.int .i64 (d.length : Int))).congr (fun j hj => ?_)
            show _ = Value.int .i64 (((p ++ [d.length]).getD j 0 : Nat) : Int)
            rw [getD_snoc, hpl.out]
            split <;> rfl
        case measure => have := HLT.out; simp [intOf]; omega
      · have HDS3 := hide (HDX.out.below hb3)
        have HR3 := hide (rowIs_below HRX.out hb3 HRX.out.lt)
        have HB3 := hide (HBX.out.trans (hb3.mono HBX.out.size))
        have HG2 := hide (HGO.out.1 j (PLC.out _ HDX.out.ok HDX.out.nd _ _ _ HKX.out hx he))
        have m0 := HR3.out.cell HLT.out
        have n0 := HR3.out.frozen i
        clear hx he hb3 a0 a1 a2 a3 a4 a5 KA2 HDX HRX HBX HGO
        go_wp2_with fail
        go_roundw
        case rel =>
          refine ⟨i + 1, d, p ++ [j], lv, by have := HLT.out; omega, by go_num, HG2.out, ?_, ?_, ?_, ?_, HB3.out.setCell (by exact hlz) _⟩
          · show d.length ≤ i + 1
            have := hdl.out; omega
          · show (p ++ _).length = i + 1
            have := hpl.out; simp; omega
          · exact HDS3.out.setRow HR3.out haD haM (by decide) _ _
          · refine (HR3.out.set i (.int .i64 (j : Int))).congr (fun t ht => ?_)
            show _ = Value.int .i64 (((p ++ [j]).getD t 0 : Nat) : Int)
            rw [getD_snoc, hpl.out]
            split <;> rfl
        case measure => have := HLT.out; simp [intOf]; omega
    · obtain rfl : n = i := by omega
      have hg := hgo.out
      rw [List.drop_eq_nil_of_le (by rw [HN.out]; exact Nat.le_refl _)] at hg
      obtain rfl : (d, p) = RES := hg
      go_wp2_with fail
      go_ret2
      exact ⟨_, _, _, _, rfl, hds.out, hrow.out, hlz, hb.out⟩
end Go.Proofs.YtfkgmodgkifelaaGreatDoor
namespace Go.Proofs.YtfkgmodgkifelaaGreatDoor
open Go.RowKit

set_option maxHeartbeats 8000000 in
set_option maxRecDepth 100000 in
theorem dxencode_any (k : Int) (h1 : 1 ≤ k) (h6 : k ≤ 6) (l : List CD) (hl : Wok l) (v : Value) (w : World) (hv : InC w v l) :
    Calls Tryz.prog 93 #[.int .i64 k, v] w fun e w' => e = .returned (.string (strN (encX k l))) ∧ Below w.heap.size w w' := by
  have KM := hide (dmake_any k h1 h6 l hl v w hv)
  have XO := hide (xok_of k hl)
  have hlen := hl.len
  have KP := hide (fun (W B : Nat) (sv : Value) (m : List Nat) (c : CD) (hc : KG c) (hs : c.t.size ≤ 11000000) (w : World) (h : Wr w W B sv m) (hm : m.length ≤ 18000000) (hB : B ≤ w.heap.size) => pput_all k h1 h6 W B sv m c hc hs w h hm hB)
  have KU := hide (fun (W B : Nat) (sv : Value) (l : List Nat) (x : Nat) (hx : x < 18446744073709551616) (w : World) (h : Wr w W B sv l) (hl : l.length ≤ 33554300) (hB : B ≤ w.heap.size) => wuvar_any W B sv l x hx w h hl hB)
  have hspec : encX k l = uvar (dmk k l [] []).1.length ++ (dmk k l [] []).1.flatMap (cellB k) ++ (dmk k l [] []).2.flatMap uvar := rfl
  generalize encX k l = FIN at *
  generalize l.length = n at *
  clear hl hv h1 h6
  rcases hr : dmk k l [] [] with ⟨d, p⟩
  rw [hr] at KM XO hspec
  simp only at KM XO hspec
  have HFI := hide hspec
  have hdl : d.length ≤ 10000 := by have := XO.out.dl; simp only at this; omega
  have hpl := XO.out.pl
  simp only at hpl
  obtain ⟨m, hm⟩ : ∃ m, d.length = m := ⟨_, rfl⟩
  have HM := hide hm
  have HQ := hide hpl
  rw [hm] at hdl
  have hm0 : (0 : Int) ≤ (m : Int) := by omega
  have hm1 : (m : Int) ≤ 10000 := by omega
  have hc0 : IntKind.u64.wrap (m : Int) = (m : Int) := by rw [IntKind.wrap_u64]; omega
  have hst := fun (w1 : World) (a1 : Addr) (m : Mode) (x y : Nat) => run_store Tryz.prog w1 a1 (.complex .f64 x y) m rfl
  clear hr hspec hm hpl
  go_enter Tryz.func93, Tryz.ntmps93
  go_wp2_with fail
  refine KM.out.mono ?_
  rintro e w2 ⟨D, M, a, lv, rfl, hds, hrow, hla, hb2⟩
  simp only at hds hrow
  have KL := hide (dlen_any D w.heap.size M lv k d)
  rw [HM.out] at KL
  have hod := hds.own
  rw [HM.out] at hod
  obtain ⟨DA, dc, rfl⟩ := own_form3 hod
  have hDlt := hds.blk.lt
  have HDS := hide hds
  have HRW := hide hrow
  have HB2 := hide hb2
  have HOD := hide hod
  clear KM hds hrow hb2 hod
  have hbA : Below w2.heap.size w2 (w2.alloc (.cells #[.slice none 0 0] 77)) := (Below.refl _ _).alloc (Nat.le_refl _) _
  have hwA : Wr (w2.alloc (.cells #[.slice none 0 0] 77)) w2.heap.size w2.heap.size (.slice none 0 0) [] := ⟨Blk.new _ _ _, ownU8_nil _ _, Nat.le_refl _⟩
  have hsA : w2.heap.size ≤ (w2.alloc (.cells #[.slice none 0 0] 77)).heap.size := hbA.size
  have HBA := hide hbA
  have HWA := hide hwA
  have HDA := hide (HDS.out.below hbA)
  have KL2 := hide (KL.out _ HDA.out)
  have KU2 := hide (KU.out _ _ _ _ m (by omega) _ HWA.out (by simp) hsA)
  rw [List.nil_append] at KU2
  clear hbA hwA hsA
  go_wp2_with fail
  refine KL2.out.mono ?_
  rintro e wz ⟨rfl, rfl⟩
  go_wp2_with fail
  refine KU2.out.mono ?_
  rintro e w3 ⟨rfl, sv3, hw3, hs3⟩
  have HW3 := hide hw3
  have HB3 := hide (HBA.out.trans (hs3.below HWA.out HBA.out.size))
  have HOD3 := hide (own_below HOD.out HB3.out)
  have d1 := (HDS.out.blk.below HB3.out hDlt).cell 1
  simp at d1
  have hl0 := uvar_len10 (x := m) (by omega)
  clear hw3 hs3 HBA HWA HDA KL KL2 KU2
  go_wp2_with fail
  go_loopw [29] (fun iv wr => ∃ i : Nat, i ≤ m ∧ iv = .int .i64 (i : Int) ∧ ∃ sv', Hid (Wr wr w2.heap.size w2.heap.size sv' (uvar m ++ (d.take i).flatMap (cellB k))) ∧ Hid (Below w2.heap.size w2 wr)) (fun iv _ => m - (intOf iv).toNat)
  case atStart => exact ⟨0, by omega, rfl, sv3, by show Wr _ _ _ _ _; simpa using HW3.out, HB3.out⟩
  case round =>
    obtain ⟨i, hi, rfl, sv', hw, hb⟩ := hrel
    by_cases hlt : i < m
    · obtain ⟨x, hx⟩ : ∃ x, d[i]? = some x := ⟨d[i]'(by rw [HM.out]; exact hlt), List.getElem?_eq_getElem _⟩
      have hor := own_below HOD.out hb.out
      obtain ⟨g, cg, hAg⟩ := own_addr hor (by omega)
      have hA : DA = some ⟨g, 0, none⟩ := by injection hAg
      subst hA
      have hog := own_atC hor HM.out.symm hx
      obtain ⟨a0, a1, a2, a3, a4, a5⟩ := hog
      have hxm := List.mem_of_getElem? hx
      have hxs : x.t.size ≤ 1100000 := by have := tby_mem hxm; have := XO.out.wok.by_; simp only at this; omega
      have hpre : (uvar m ++ (d.take i).flatMap (cellB k)).length ≤ 1100010 := by have := XO.out.wok.pre i k; simp only at this; rw [List.length_append]; omega
      have KP2 := hide (fun o => KP.out _ _ _ _ x (XO.out.wok.kg x hxm) (by omega) (wr.alloc o) (hw.out.below ((Below.refl _ _).alloc (Nat.le_refl _) _)) (by omega) (by simp; exact Nat.le_succ_of_le hb.out.size))
      rw [List.append_assoc, ← take_flat k hx] at KP2
      have HLT := hide hlt
      have hi0 : (0 : Int) ≤ (i : Int) := by omega
      have hi1 : (i : Int) < (m : Int) := by omega
      clear hx hxm hxs hor hAg hpre hlt
      obtain ⟨xb, xx, xu, xt, xp, xq⟩ := x
      unfold CD.v clV clA at KP2
      simp only at KP2 a0 a1 a2 a3 a4 a5
      go_wp2_with fail
      refine (KP2.out _).mono ?_
      rintro e w4 ⟨rfl, sv4, hw4, hs4⟩
      have HW4 := hide hw4
      have HB4 := hide ((hb.out.alloc hb.out.size _).trans (hs4.below (hw.out.below ((Below.refl wr.heap.size wr).alloc (Nat.le_refl _) _)) (by simp; exact Nat.le_succ_of_le hb.out.size)))
      clear hw4 hs4 a0 a1 a2 a3 a4 a5 KP2
      go_wp2_with fail
      go_roundw
      case rel => exact ⟨i + 1, by have := HLT.out; omega, by go_num, sv4, HW4.out, HB4.out⟩
      case measure => have := HLT.out; simp [intOf]; omega
    · obtain rfl : m = i := by omega
      have hw2 := hw.out
      rw [List.take_of_length_le (by rw [HM.out]; exact Nat.le_refl _)] at hw2
      have HW4 := hide hw2
      have hSL : (uvar m ++ d.flatMap (cellB k)).length ≤ 1100010 := by
        have := XO.out.wok.pre d.length k
        simp only at this
        rw [List.take_length] at this
        rw [List.length_append]; omega
      have HRW4 := hide (rowIs_below HRW.out hb.out HRW.out.lt)
      have HB4 := hide hb.out
      have HSL := hide hSL
      clear hlt hi hw hw2 hb hSL
      go_wp2_with fail
      obtain ⟨wo, rfl⟩ : ∃ wo : World, wo = wr := ⟨_, rfl⟩
      go_loopw [39] (fun iv wx => ∃ i : Nat, i ≤ n ∧ iv = .int .i64 (i : Int) ∧ ∃ sv', Hid (Wr wx w2.heap.size w2.heap.size sv' (uvar m ++ d.flatMap (cellB k) ++ (p.take i).flatMap uvar)) ∧ Hid (Below w2.heap.size w2 wx)) (fun iv _ => n - (intOf iv).toNat)
      case atStart => exact ⟨0, by omega, rfl, sv', by show Wr _ _ _ _ _; simpa using HW4.out, HB4.out⟩
      case round =>
        obtain ⟨i, hi, rfl, sv5, hw, hb⟩ := hrel
        by_cases hlt : i < n
        · obtain ⟨j, hj⟩ : ∃ j, p[i]? = some j := ⟨p[i]'(by rw [HQ.out]; exact hlt), List.getElem?_eq_getElem _⟩
          have hjb := XO.out.pb j (List.mem_of_getElem? hj)
          have a0 := (rowIs_below HRW.out hb.out HRW.out.lt).cell hlt
          have hgd : p.getD i 0 = j := by simp [List.getD, hj]
          rw [hgd] at a0
          have hpre : (uvar m ++ d.flatMap (cellB k) ++ (p.take i).flatMap uvar).length ≤ 1300000 := by have := XO.out.pre (by omega) i; simp only at this; rw [List.length_append]; have := HSL.out; omega
          have KU2 := hide (KU.out _ _ _ _ j (by omega) _ hw.out (by omega) hb.out.size)
          rw [List.append_assoc, ← take_flatU hj] at KU2
          have HLT := hide hlt
          have hi0 : (0 : Int) ≤ (i : Int) := by omega
          have hi1 : (i : Int) < (n : Int) := by omega
          have hj0 : (0 : Int) ≤ (j : Int) := by omega
          have hj1 : (j : Int) ≤ 10000 := by omega
          have hcj : IntKind.u64.wrap (j : Int) = (j : Int) := by rw [IntKind.wrap_u64]; omega
          clear hlt hj hgd hpre
          go_wp2_with fail
          refine KU2.out.mono ?_
          rintro e w5 ⟨rfl, sv6, hw5, hs5⟩
          have HW5 := hide hw5
          have HB5 := hide (hb.out.trans (hs5.below hw.out hb.out.size))
          clear hw5 hs5 a0 KU2
          go_wp2_with fail
          go_roundw
          case rel => exact ⟨i + 1, by have := HLT.out; omega, by go_num, sv6, HW5.out, HB5.out⟩
          case measure => have := HLT.out; simp [intOf]; omega
        · obtain rfl : n = i := by omega
          have hT2 := hw.out
          rw [List.take_of_length_le (by rw [HQ.out]; exact Nat.le_refl _)] at hT2
          have K := hide (wstring_any _ _ _ _ _ hT2)
          rw [← HM.out, ← HFI.out] at K
          clear hT2 hlt hi
          go_wp2_with fail
          refine K.out.mono ?_
          rintro e w6 ⟨rfl, rfl⟩
          go_wp2_with fail
          go_ret
          exact ⟨rfl, HB2.out.trans (hb.out.mono HB2.out.size)⟩
end Go.Proofs.YtfkgmodgkifelaaGreatDoor
