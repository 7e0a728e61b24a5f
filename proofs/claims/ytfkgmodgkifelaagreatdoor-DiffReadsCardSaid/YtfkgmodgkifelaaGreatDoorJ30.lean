/- Columns: steps of points: what each call gives, and the document's loop. Columns: whether a cell of a kind, or a missing one, may be: the program. -/
import Derived.Test.YtfkgmodgkifelaaGreatDoorJ29
import Derived.Test.YtfkgmodgkifelaaGreatDoorJ27
import Derived.Test.YtfkgmodgkifelaaGreatDoorJ20
namespace Go.Proofs.YtfkgmodgkifelaaGreatDoor
open Go.RowKit

/-- The bytes of points by steps. -/
def pts : Int → Int → List Nat → List CD → Nat × List Nat
  | _, _, D, [] => (0, D)
  | a, b, D, c :: l => if farB (fi c.p - a) = true ∨ farB (fi c.q - b) = true then (12, []) else pts (fi c.p) (fi c.q) (D ++ (uvar (zz (fi c.p - a)) ++ uvar (zz (fi c.q - b)))) l
theorem pts_on {l : List CD} {i : Nat} {c : CD} (h : l[i]? = some c) (a b : Int) (D : List Nat) : pts a b D (l.drop i) = if farB (fi c.p - a) = true ∨ farB (fi c.q - b) = true then (12, []) else pts (fi c.p) (fi c.q) (D ++ (uvar (zz (fi c.p - a)) ++ uvar (zz (fi c.q - b)))) (l.drop (i + 1)) := by
  have hi := (List.getElem?_eq_some_iff.1 h).1
  rw [List.drop_eq_getElem_cons hi, (List.getElem?_eq_some_iff.1 h).2, pts]
theorem fi_abs {x : Nat} {a : Int} (ha : a.natAbs ≤ 9007199254740992) (he : x = floatOfInt .f64 a) : (fi x).natAbs ≤ 9007199254740992 := by rw [he, fi_int a ha]; exact ha
theorem KG.pa {c : CD} (h : KG c) : (fi c.p).natAbs ≤ 9007199254740992 := by obtain ⟨a, ha, he⟩ := h.p1; exact fi_abs ha he
theorem KG.qa {c : CD} (h : KG c) : (fi c.q).natAbs ≤ 9007199254740992 := by obtain ⟨a, ha, he⟩ := h.q1; exact fi_abs ha he
theorem KG.pf {c : CD} (h : KG c) : c.p = floatOfInt .f64 (fi c.p) := by obtain ⟨a, ha, he⟩ := h.p1; rw [he, fi_int a ha]
theorem KG.qf {c : CD} (h : KG c) : c.q = floatOfInt .f64 (fi c.q) := by obtain ⟨a, ha, he⟩ := h.q1; rw [he, fi_int a ha]
theorem KG.pw {c : CD} (h : KG c) : Wh c.p (fi c.p) := by have := wh_of (fi c.p) h.pa; rwa [← h.pf] at this
theorem KG.qw {c : CD} (h : KG c) : Wh c.q (fi c.q) := by have := wh_of (fi c.q) h.qa; rwa [← h.qf] at this
theorem farB_lt {x : Int} (h : ¬ farB x = true) : -9007199254740992 ≤ x ∧ x ≤ 9007199254740992 := by have := far_abs h; omega
set_option maxHeartbeats 1000000 in
set_option maxRecDepth 100000 in
theorem swhole10_any (x : Nat) (n : Int) (h : Wh x n) (w : World) :
    Calls Tryz.prog 163 #[.float .f64 x] w fun e w' => e = .returned (.bool true) ∧ w = w' := by
  have h1 := h.ge
  have h2 := h.le
  have h3 := h.fi
  have h4 := fun w => run_convert_float_int (P := Tryz.prog) w 153 2 .f64 .i64 x n (by kernel_rfl) Tryz.underlying2 h.ti
  clear h
  go_enter Tryz.func163, Tryz.ntmps163
  go_wp2_with fail
  go_ret
  exact ⟨rfl, rfl⟩
set_option maxHeartbeats 4000000 in
set_option maxRecDepth 100000 in
theorem sdencodeP (l : List CD) (hl : Wok l) (v : Value) (w : World) (hv : InC w v l) :
    Calls Tryz.prog 150 #[.int .i64 6, v] w fun e w' => e = .returned (.tuple #[.string (strN (pts 0 0 [] l).2), .int .i64 ((pts 0 0 [] l).1 : Nat)]) ∧ Below w.heap.size w w' := by
  obtain ⟨A, ca, rfl, hcell⟩ := hv.form
  have HC := hide hcell
  have HL := hide hl
  have hlen := hl.len
  have KZ := hide (fun (x : Int) (h1 : -9223372036854775808 ≤ x) (h2 : x ≤ 9223372036854775807) (w : World) => szig_any x h1 h2 w)
  have KU := hide (fun (x : Nat) (hx : x < 18446744073709551616) (w : World) => suvar_any x hx w)
  have KW := hide (fun (x : Nat) (n : Int) (h : Wh x n) (w : World) => swhole10_any x n h w)
  have hst := fun (w1 : World) (a1 : Addr) (m : Mode) (x y : Nat) => run_store Tryz.prog w1 a1 (.complex .f64 x y) m rfl
  obtain ⟨FIN, hFIN⟩ : ∃ FIN, pts 0 0 [] l = FIN := ⟨_, rfl⟩
  rw [hFIN]
  have HFI := hide hFIN
  clear hv hcell hl hFIN
  generalize hn : l.length = n at *
  have HN := hide hn
  clear hn
  go_enter Tryz.func150, Tryz.ntmps150
  go_wp2_with fail
  go_loopw [6, 8] (fun sv iv wr => ∃ (i : Nat) (c : CD) (D : List Nat), i ≤ n ∧ iv = .int .i64 (i : Int) ∧ (∃ S : ByteArray, sv = .string S ∧ Hid (S = strN D)) ∧ Hid (FIN = pts (fi c.p) (fi c.q) D (l.drop i)) ∧ Hid (D.length ≤ 20 * i) ∧ Hid (KG c) ∧ Hid (Blk wr w.heap.size 45 (clA c.b c.x c.u c.t c.p c.q)) ∧ Hid (Below w.heap.size w wr)) (fun _ iv _ => n - (intOf iv).toNat)
  case atStart =>
    refine ⟨0, CD.z, [], by omega, rfl, ⟨_, rfl, strN_nil.symm⟩, ?_, Nat.le_refl _, kg_z, ?_, ?_⟩
    · show FIN = _
      have z : fi 0 = 0 := by kernel_rfl
      rw [show fi CD.z.p = 0 from z, show fi CD.z.q = 0 from z, ← HFI.out]; simp
    · first | exact Blk.new _ _ _ | exact blk_setC (Blk.new _ _ _) _ _ _ _ _ _
    · first | exact (Below.refl _ _).alloc (Nat.le_refl _) _ | exact (((((((Below.refl _ _).alloc (Nat.le_refl _) _).setCell (Nat.le_refl _) _).setCell (Nat.le_refl _) _).setCell (Nat.le_refl _) _).setCell (Nat.le_refl _) _).setCell (Nat.le_refl _) _).setCell (Nat.le_refl _) _
  case round =>
    obtain ⟨i, c, D, hin, rfl, ⟨S, rfl, hS⟩, hfi, hsz, hkc, hblk, hb⟩ := hrel
    by_cases hlt : i < n
    · obtain ⟨x, hx⟩ : ∃ x, l[i]? = some x := ⟨l[i]'(by rw [HN.out]; exact hlt), List.getElem?_eq_getElem _⟩
      obtain ⟨g, hA, hg, hat⟩ := HC.out i x hx
      subst hA
      obtain ⟨a0, a1, a2, a3, a4, a5⟩ := hat.below hb.out hg
      have hkx := HL.out.kg x (List.mem_of_getElem? hx)
      have hf := hfi.out
      rw [pts_on hx] at hf
      have KW1 := hide (KW.out x.p (fi x.p) hkx.pw)
      have KW2 := hide (KW.out x.q (fi x.q) hkx.qw)
      have n1 := hkx.pa
      have n2 := hkx.qa
      have n3 := hkc.out.pa
      have n4 := hkc.out.qa
      have c1 := fun w => run_convert_float_int (P := Tryz.prog) w 153 2 .f64 .i64 x.p (fi x.p) (by kernel_rfl) Tryz.underlying2 hkx.pi
      have c2 := fun w => run_convert_float_int (P := Tryz.prog) w 153 2 .f64 .i64 x.q (fi x.q) (by kernel_rfl) Tryz.underlying2 hkx.qi
      have c3 := fun w => run_convert_float_int (P := Tryz.prog) w 153 2 .f64 .i64 c.p (fi c.p) (by kernel_rfl) Tryz.underlying2 hkc.out.pi
      have c4 := fun w => run_convert_float_int (P := Tryz.prog) w 153 2 .f64 .i64 c.q (fi c.q) (by kernel_rfl) Tryz.underlying2 hkc.out.qi
      have HKX := hide hkx
      have HLT := hide hlt
      have hi0 : (0 : Int) ≤ (i : Int) := by omega
      have hi1 : (i : Int) < (n : Int) := by omega
      obtain ⟨p0, p1, p2, p3, p4, p5, _, _, _, _, _, _⟩ := Blk.six hblk.out
      have HBK := hide hblk.out
      have HB := hide hb.out
      have HG := hide hg
      have HAT := hide hat
      have HF := hide hf
      have w1 : wrap64 (fi x.p - fi c.p) = fi x.p - fi c.p := by unfold wrap64; omega
      have w2 : wrap64 (fi x.q - fi c.q) = fi x.q - fi c.q := by unfold wrap64; omega
      obtain ⟨cb, cx, cu, ct, cp, cq⟩ := c
      obtain ⟨xb, xx, xu, xt, xp, xq⟩ := x
      simp only at KW1 KW2 a0 a1 a2 a3 a4 a5 p0 p1 p2 p3 p4 p5 n1 n2 n3 n4 c1 c2 c3 c4 w1 w2 HF
      generalize hvx : fi xp = vx at *
      generalize hvy : fi xq = vy at *
      generalize hvc : fi cp = vc at *
      generalize hvd : fi cq = vd at *
      have HVX := hide hvx
      have HVY := hide hvy
      clear hx hat hkx hf hfi hkc hblk hb hg hvx hvy hvc hvd
      go_wp2_with fail
      refine (KW1.out _).mono ?_
      rintro e w1 ⟨rfl, rfl⟩
      go_wp2_with fail
      refine (KW2.out _).mono ?_
      rintro e w1 ⟨rfl, rfl⟩
      go_wp2_with fail
      have r5 := cell_regrown a5
      have q5 := cell_regrown p5
      refine wp_region_quiet_below (by kernel_rfl) (by kernel_rfl) ?_
      repeat (go_big_quiet_step (fail))
      refine wpQuiet_nil ?_
      intro _ hw'
      obtain ⟨⟨dq, osq⟩, hw''⟩ := hw'
      subst hw''
      have hb4 := below_regrown wr dq osq
      generalize Sort.grow (redrawn wr dq) osq = w4 at *
      have HB4 := hide (HB.out.trans (hb4.mono HB.out.size))
      have HK4 := hide (HBK.out.below hb4 HBK.out.lt)
      clear hb4 r5 q5 a0 a1 a2 a3 a4 a5 p0 p1 p2 p3 p4 p5
      obtain ⟨a0, a1, a2, a3, a4, a5⟩ := HAT.out.below HB4.out HG.out
      obtain ⟨p0, p1, p2, p3, p4, p5, f0, f1, f2, f3, f4, f5⟩ := Blk.six HK4.out
      go_wp2_with fail
      have r5 := cell_regrown a5
      have q5 := cell_regrown p5
      refine wp_region_quiet_below (by kernel_rfl) (by kernel_rfl) ?_
      repeat (go_big_quiet_step (fail))
      refine wpQuiet_nil ?_
      intro _ hw'
      obtain ⟨⟨dq2, osq2⟩, hw''⟩ := hw'
      subst hw''
      have hb5 := below_regrown w4 dq2 osq2
      generalize Sort.grow (redrawn w4 dq2) osq2 = w5 at *
      have HB5 := hide (HB4.out.trans (hb5.mono HB4.out.size))
      have HK5 := hide (HK4.out.below hb5 HK4.out.lt)
      clear hb5 r5 q5 a0 a1 a2 a3 a4 a5 p0 p1 p2 p3 p4 p5 f0 f1 f2 f3 f4 f5
      obtain ⟨a0, a1, a2, a3, a4, a5⟩ := HAT.out.below HB5.out HG.out
      obtain ⟨p0, p1, p2, p3, p4, p5, f0, f1, f2, f3, f4, f5⟩ := Blk.six HK5.out
      clear c1 c2 c3 c4 w1 w2
      have HD := hide (show 0 < 1 from by omega)
      generalize hda : vx - vc = da at *
      generalize hdb : vy - vd = db at *
      cases hfa : farB da
      · have F1 := hide (sfar_no da hfa)
        cases hfb : farB db
        · have F2 := hide (sfar_no db hfb)
          have HF2 := HF.out
          rw [hfa, hfb, if_neg (by simp)] at HF2
          have HF3 := hide HF2
          have ha1 := farB_lt (x := da) (by rw [hfa]; simp)
          have hb1 := farB_lt (x := db) (by rw [hfb]; simp)
          have KZ1 := hide (fun w => KZ.out da (by omega) (by omega) w)
          have KZ2 := hide (fun w => KZ.out db (by omega) (by omega) w)
          have z1 := zz_lt53 ha1
          have z2 := zz_lt53 hb1
          have KU1 := hide (fun w => KU.out _ z1 w)
          have KU2 := hide (fun w => KU.out _ z2 w)
          have l1 := uvar_len10 z1
          have l2 := uvar_len10 z2
          have HSN := hide (show S ++ strN (uvar (zz da)) ++ strN (uvar (zz db)) = strN (D ++ (uvar (zz da) ++ uvar (zz db))) from by rw [strN_app, strN_app, hS.out, ByteArray.append_assoc])
          have HZ2 := hide (show (D ++ (uvar (zz da) ++ uvar (zz db))).length ≤ 20 * (i + 1) from by have := hsz.out; rw [List.length_append, List.length_append]; omega)
          have hadd1 := fun w1 => run_string_add_sum (P := Tryz.prog) w1 S (strN (uvar (zz da))) (by have := hsz.out; rw [hS.out, strN_size, strN_size]; omega)
          have hadd2 := fun w1 => run_string_add_sum (P := Tryz.prog) w1 (S ++ strN (uvar (zz da))) (strN (uvar (zz db))) (by have := hsz.out; rw [ByteArray.size_append, hS.out, strN_size, strN_size, strN_size]; omega)
          generalize strN (uvar (zz da)) = Y1 at *
          generalize strN (uvar (zz db)) = Y2 at *
          generalize hZ1 : zz da = Z1 at *
          generalize hZ2 : zz db = Z2 at *
          clear HF HF2 ha1 hb1 z1 z2 l1 l2 hfa hfb hda hdb n1 n2 n3 n4 hZ1 hZ2
          go_wp2_with fail
          refine (F1.out _).mono ?_
          rintro e w6 ⟨rfl, rfl⟩
          go_wp2_with fail
          refine (F2.out _).mono ?_
          rintro e w6 ⟨rfl, rfl⟩
          go_wp2_with fail
          refine (KZ1.out _).mono ?_
          rintro e w6 ⟨rfl, rfl⟩
          go_wp2_with fail
          refine (KU1.out _).mono ?_
          rintro e w6 ⟨rfl, hb6⟩
          go_wp2_with fail
          refine (KZ2.out _).mono ?_
          rintro e w7 ⟨rfl, rfl⟩
          go_wp2_with fail
          refine (KU2.out _).mono ?_
          rintro e w7 ⟨rfl, hb7⟩
          have hb67 := hb6.trans (hb7.mono hb6.size)
          have HB7 := hide (HB5.out.trans (hb67.mono HB5.out.size))
          have HK7 := hide (HK5.out.below hb67 HK5.out.lt)
          clear hb6 hb7 hb67 a0 a1 a2 a3 a4 a5 p0 p1 p2 p3 p4 p5 f0 f1 f2 f3 f4 f5
          obtain ⟨a0, a1, a2, a3, a4, a5⟩ := HAT.out.below HB7.out HG.out
          obtain ⟨p0, p1, p2, p3, p4, p5, f0, f1, f2, f3, f4, f5⟩ := Blk.six HK7.out
          go_wp2_with fail
          go_roundw
          case rel => exact ⟨i + 1, ⟨xb, xx, xu, xt, xp, xq⟩, _, by have := HLT.out; omega, by go_num, ⟨_, rfl, HSN.out⟩, (by show FIN = pts (fi xp) (fi xq) _ _; rw [HVX.out, HVY.out]; exact HF3.out), HZ2.out, HKX.out, blk_setC HK7.out _ _ _ _ _ _, (((((HB7.out.setCell (Nat.le_refl _) _).setCell (Nat.le_refl _) _).setCell (Nat.le_refl _) _).setCell (Nat.le_refl _) _).setCell (Nat.le_refl _) _).setCell (Nat.le_refl _) _⟩
          case measure => have := HLT.out; simp [intOf]; omega
        · have F2 := hide (sfar_yes db hfb)
          have HF2 := HF.out
          rw [hfa, hfb, if_pos (by simp)] at HF2
          have HF3 := hide HF2
          clear HF HF2 hfa hfb hda hdb n1 n2 n3 n4
          go_wp2_with fail
          refine (F1.out _).mono ?_
          rintro e w6 ⟨rfl, rfl⟩
          go_wp2_with fail
          refine (F2.out _).mono ?_
          rintro e w6 ⟨rfl, rfl⟩
          go_wp2_with fail
          go_ret2
          rw [HF3.out]
          exact ⟨by rw [strN_nil]; rfl, HB5.out⟩
      · have F1 := hide (sfar_yes da hfa)
        have HF2 := HF.out
        rw [hfa, if_pos (by simp)] at HF2
        have HF3 := hide HF2
        clear HF HF2 hfa hda hdb n1 n2 n3 n4
        go_wp2_with fail
        refine (F1.out _).mono ?_
        rintro e w6 ⟨rfl, rfl⟩
        go_wp2_with fail
        go_ret2
        rw [HF3.out]
        exact ⟨by rw [strN_nil]; rfl, HB5.out⟩
    · obtain rfl : n = i := by omega
      have hf := hfi.out
      rw [List.drop_eq_nil_of_le (by rw [HN.out]; exact Nat.le_refl _), pts] at hf
      have HF := hide hf
      clear hlt hin hf
      go_wp2_with fail
      go_ret2
      rw [HF.out]
      exact ⟨by rw [← hS.out]; rfl, hb.out⟩
end Go.Proofs.YtfkgmodgkifelaaGreatDoor
namespace Go.Proofs.YtfkgmodgkifelaaGreatDoor
open Go.RowKit

theorem e_eta {a b : CD} (h1 : a.b = b.b) (h2 : a.x = b.x) (h3 : a.u = b.u) (h4 : a.t = b.t) (h5 : a.p = b.p) (h6 : a.q = b.q) : a = b := by
  cases a; cases b; simp_all
theorem Pur.f1 {c : CD} (h : Pur 1 c) : c = ⟨c.b, 0, 0, ByteArray.empty, 0, 0⟩ := e_eta rfl (h.x (by decide)) (h.u (by decide)) (h.t (by decide)) (h.p (by decide)) (h.q (by decide))
theorem Pur.f2 {c : CD} (h : Pur 2 c) : c = ⟨false, c.x, 0, ByteArray.empty, 0, 0⟩ := e_eta (h.b (by decide)) rfl (h.u (by decide)) (h.t (by decide)) (h.p (by decide)) (h.q (by decide))
theorem Pur.f3 {c : CD} (h : Pur 3 c) : c = ⟨false, 0, c.u, ByteArray.empty, 0, 0⟩ := e_eta (h.b (by decide)) (h.x (by decide)) rfl (h.t (by decide)) (h.p (by decide)) (h.q (by decide))
theorem Pur.f4 {c : CD} (h : Pur 4 c) : c = ⟨false, 0, 0, c.t, 0, 0⟩ := e_eta (h.b (by decide)) (h.x (by decide)) (h.u (by decide)) rfl (h.p (by decide)) (h.q (by decide))
theorem Pur.f5 {c : CD} (h : Pur 5 c) : c = ⟨false, 0, 0, c.t, 0, 0⟩ := e_eta (h.b (by decide)) (h.x (by decide)) (h.u (by decide)) rfl (h.p (by decide)) (h.q (by decide))
theorem Pur.f6 {c : CD} (h : Pur 6 c) : c = ⟨false, 0, 0, ByteArray.empty, c.p, c.q⟩ := e_eta (h.b (by decide)) (h.x (by decide)) (h.u (by decide)) (h.t (by decide)) rfl rfl
set_option maxHeartbeats 1000000 in
set_option maxRecDepth 100000 in
theorem noBool_any (b : Bool) (w : World) : Calls Tryz.prog 115 #[clV b 0 0 ByteArray.empty 0 0] w fun e w' => e = .returned (clV false 0 0 ByteArray.empty 0 0) ∧ Below w.heap.size w w' := by
  have hst := fun (w1 : World) (a1 : Addr) (m : Mode) (x y : Nat) => run_store Tryz.prog w1 a1 (.complex .f64 x y) m rfl
  unfold clV clA
  go_enter Tryz.func115, Tryz.ntmps115
  go_wp2_with fail
  exact bodyPost_ret (results_cell_row rfl _ _ (w.heap.size + 1) 45 #[.bool false, .bool false, .int .i64 0, .int .u64 0, .string ByteArray.empty, .complex .f64 0 0] (0, 0) _ rfl (blk_n2 _ _ _ _).out Tryz.underlying45 rfl info_c) rfl ⟨rfl, ((Below.refl _ _).alloc (Nat.le_refl _) _).alloc (by simp) _⟩
set_option maxHeartbeats 1000000 in
set_option maxRecDepth 100000 in
theorem noUint_any (u : Int) (w : World) : Calls Tryz.prog 119 #[clV false 0 u ByteArray.empty 0 0] w fun e w' => e = .returned (clV false 0 0 ByteArray.empty 0 0) ∧ Below w.heap.size w w' := by
  have hst := fun (w1 : World) (a1 : Addr) (m : Mode) (x y : Nat) => run_store Tryz.prog w1 a1 (.complex .f64 x y) m rfl
  unfold clV clA
  go_enter Tryz.func119, Tryz.ntmps119
  go_wp2_with fail
  exact bodyPost_ret (results_cell_row rfl _ _ (w.heap.size + 1) 45 #[.bool false, .bool false, .int .i64 0, .int .u64 0, .string ByteArray.empty, .complex .f64 0 0] (0, 0) _ rfl (blk_n2 _ _ _ _).out Tryz.underlying45 rfl info_c) rfl ⟨rfl, ((Below.refl _ _).alloc (Nat.le_refl _) _).alloc (by simp) _⟩
set_option maxHeartbeats 1000000 in
set_option maxRecDepth 100000 in
theorem noPoint_any (p q : Nat) (w : World) : Calls Tryz.prog 126 #[clV false 0 0 ByteArray.empty p q] w fun e w' => e = .returned (clV false 0 0 ByteArray.empty 0 0) ∧ Below w.heap.size w w' := by
  have hst := fun (w1 : World) (a1 : Addr) (m : Mode) (x y : Nat) => run_store Tryz.prog w1 a1 (.complex .f64 x y) m rfl
  unfold clV clA
  go_enter Tryz.func126, Tryz.ntmps126
  go_wp2_with fail
  exact bodyPost_ret (results_cell_row rfl _ _ (w.heap.size + 1) 45 #[.bool false, .bool false, .int .i64 0, .int .u64 0, .string ByteArray.empty, .complex .f64 0 0] (0, 0) _ rfl (blk_n2 _ _ _ _).out Tryz.underlying45 rfl info_c) rfl ⟨rfl, ((Below.refl _ _).alloc (Nat.le_refl _) _).alloc (by simp) _⟩
set_option maxHeartbeats 1000000 in
set_option maxRecDepth 100000 in
theorem mayText_any (t : ByteArray) (ht : t.size ≤ maxLen) (hv : Lib.validD t.data.toList = true) (w : World) (hT : Tabs w) : Calls Tryz.prog 123 #[clV false 0 0 t 0 0] w fun e w' => e = .returned (.bool true) ∧ Below w.heap.size w w' := by
  have KV := hide (fun o => valid_any t (w.alloc o) ht (hT.below ((Below.refl _ _).alloc (Nat.le_refl _) _)))
  rw [hv] at KV
  clear hv ht hT
  unfold clV clA
  go_enter Tryz.func123, Tryz.ntmps123
  go_wp2_with fail
  refine (KV.out _).mono ?_
  rintro e w1 ⟨rfl, hb1⟩
  have HB := hide (((Below.refl w.heap.size w).alloc (Nat.le_refl _) _).trans (hb1.mono (by simp)))
  clear hb1
  go_wp2_with fail
  go_ret
  exact ⟨rfl, HB.out⟩
set_option maxHeartbeats 1000000 in
set_option maxRecDepth 100000 in
theorem swhole_any (x : Nat) (n : Int) (h : Wh x n) (w : World) :
    Calls Tryz.prog 125 #[.float .f64 x] w fun e w' => e = .returned (.bool true) ∧ w = w' := by
  have h1 := h.ge
  have h2 := h.le
  have h3 := h.fi
  have h4 := fun w => run_convert_float_int (P := Tryz.prog) w 153 2 .f64 .i64 x n (by kernel_rfl) Tryz.underlying2 h.ti
  clear h
  go_enter Tryz.func125, Tryz.ntmps125
  go_wp2_with fail
  go_ret
  exact ⟨rfl, rfl⟩
set_option maxHeartbeats 1000000 in
set_option maxRecDepth 100000 in
theorem mayPoint_any (p q : Nat) (n m : Int) (hp : Wh p n) (hq : Wh q m) (w : World) : Calls Tryz.prog 124 #[clV false 0 0 ByteArray.empty p q] w fun e w' => e = .returned (.bool true) ∧ Below w.heap.size w w' := by
  have K1 := hide (fun w => swhole_any p n hp w)
  have K2 := hide (fun w => swhole_any q m hq w)
  clear hp hq
  unfold clV clA
  go_enter Tryz.func124, Tryz.ntmps124
  go_wp2_with fail
  refine (K1.out _).mono ?_
  rintro e w1 ⟨rfl, rfl⟩
  go_wp2_with fail
  refine (K2.out _).mono ?_
  rintro e w2 ⟨rfl, rfl⟩
  go_wp2_with fail
  go_ret
  exact ⟨rfl, (Below.refl _ _).alloc (Nat.le_refl _) _⟩
/-- How a column is told to a function. -/
def colV (nm : ByteArray) (k : Int) (nl : Bool) : Value := .agg #[.string nm, .int .i64 k, .bool nl]
def MC.v (c : MC) : Value := .agg #[.bool c.1, .bool c.2.b, .int .i64 c.2.x, .int .u64 c.2.u, .string c.2.t, .complex .f64 c.2.p c.2.q]
set_option maxHeartbeats 4000000 in
set_option maxRecDepth 100000 in
theorem may_there (M F : FuncId) (G : Value) (nm : ByteArray) (k : Int) (nu : Bool) (c : CD)
    (hE : ∀ args w, (callFunc M args).run Tryz.prog w = .ok (.enter M args) w)
    (hF : ∀ args w, (callFunc F args).run Tryz.prog w = .ok (.enter F args) w)
    (hM : ∀ w, Tabs w → Calls Tryz.prog M #[c.v] w fun e w' => e = .returned (.bool true) ∧ Below w.heap.size w w')
    (hK : ∀ w, Calls Tryz.prog F #[c.v] w fun e w' => e = .returned (clV false 0 0 ByteArray.empty 0 0) ∧ Below w.heap.size w w') (w : World) (hT : Tabs w) :
    Calls Tryz.prog 78 #[colV nm k nu, .agg #[.func (.func M) #[] #[], .func (.func F) #[] #[], G], MC.v (false, c)] w fun e w' => e = .returned (.bool true) ∧ Below w.heap.size w w' := by
  have KE := hide (fun o1 o2 o3 => hM (((w.alloc o1).alloc o2).alloc o3) (hT.below ((((Below.refl w.heap.size w).alloc (Nat.le_refl _) o1).alloc (by simp) o2).alloc (by simp; omega) o3)))
  have KK := hide hK
  clear hK hM
  unfold colV MC.v
  unfold CD.v clV clA at KE KK
  obtain ⟨cb, cx, cu, ct, cp, cq⟩ := c
  simp only at KE KK ⊢
  have HB := hide (fun o1 o2 o3 => (((Below.refl w.heap.size w).alloc (Nat.le_refl _) o1).alloc (by simp) o2).alloc (by simp; omega) o3)
  go_enter Tryz.func78, Tryz.ntmps78
  go_wp2_with fail
  refine (KE.out _ _ _).mono ?_
  rintro e w1 ⟨rfl, hb1⟩
  have b1 : Blk w1 (w.heap.size + 1) 131 #[.func (.func M) #[] #[], .func (.func F) #[] #[], G] := Blk.below ((blk_n2 w _ _ _).alloc _) hb1 (by simp)
  have b2 : Blk w1 (w.heap.size + 1 + 1) 45 #[.bool false, .bool cb, .int .i64 cx, .int .u64 cu, .string ct, .complex .f64 cp cq] := Blk.below (blk_n3 _ _ _ _ _) hb1 (by simp)
  obtain ⟨c0, c1, c2, c3, c4, c5, f0, f1, f2, f3, f4, f5⟩ := Blk.six b2
  have d1 := b1.cell 1
  simp at d1
  have HB1 := hide ((HB.out _ _ _).trans (hb1.mono (by simp; omega)))
  clear b1 b2 hb1
  go_wp2_with fail
  refine (KK.out _).mono ?_
  rintro e w2 ⟨rfl, hb2⟩
  have HB2 := hide (HB1.out.trans (hb2.mono HB1.out.size))
  clear hb2
  have hq : ∀ w, (binOp .eql 45 (.agg #[.bool false, .bool false, .int .i64 0, .int .u64 0, .string ByteArray.empty, .complex .f64 0 0]) (.agg #[.bool false, .bool false, .int .i64 0, .int .u64 0, .string { data := #[] }, .complex .f64 0 0])).run Tryz.prog w = .ok (.bool true) w := fun _ => by kernel_rfl
  go_wp2_with fail
  go_ret
  exact ⟨rfl, HB2.out⟩
set_option maxHeartbeats 4000000 in
set_option maxRecDepth 100000 in
theorem may_gone (K0 : Value) (hK0 : ∃ a b c, K0 = .agg #[a, b, c]) (nm : ByteArray) (k : Int) (w : World) :
    Calls Tryz.prog 78 #[colV nm k true, K0, MC.v (true, CD.z)] w fun e w' => e = .returned (.bool true) ∧ Below w.heap.size w w' := by
  obtain ⟨M, F, G, rfl⟩ := hK0
  unfold colV MC.v CD.z
  simp only
  have HB := hide (fun o1 o2 o3 => (((Below.refl w.heap.size w).alloc (Nat.le_refl _) o1).alloc (by simp) o2).alloc (by simp; omega) o3)
  have hq : ∀ w, (binOp .eql 45 (.agg #[.bool false, .bool false, .int .i64 0, .int .u64 0, .string ByteArray.empty, .complex .f64 0 0]) (.agg #[.bool false, .bool false, .int .i64 0, .int .u64 0, .string { data := #[] }, .complex .f64 0 0])).run Tryz.prog w = .ok (.bool true) w := fun _ => by kernel_rfl
  go_enter Tryz.func78, Tryz.ntmps78
  go_wp2_with fail
  go_ret
  exact ⟨rfl, HB.out _ _ _⟩
/-- A cell that may be of a column. -/
def okM (nl : Bool) (k : Int) (c : MC) : Prop := if c.1 = true then nl = true ∧ c.2 = CD.z else Pur k c.2
/-- The three functions of a kind. -/
def kM (k : Int) : FuncId := if k = 5 then 123 else if k = 6 then 124 else 114
def kF (k : Int) : FuncId := if k = 1 then 115 else if k = 2 then 117 else if k = 3 then 119 else if k = 6 then 126 else 121
def kG (k : Int) : FuncId := if k = 1 then 116 else if k = 2 then 118 else if k = 3 then 120 else if k = 6 then 127 else 122
def kV (k : Int) : Value := .agg #[.func (.func (kM k)) #[] #[], .func (.func (kF k)) #[] #[], .func (.func (kG k)) #[] #[]]
set_option maxRecDepth 100000 in
theorem ka_k (kn : Nat) (h1 : 1 ≤ kn) (h6 : kn ≤ 6) : ka[kn * 3]? = some (.func (.func (kM kn)) #[] #[]) ∧ ka[kn * 3 + 1]? = some (.func (.func (kF kn)) #[] #[]) ∧ ka[kn * 3 + 2]? = some (.func (.func (kG kn)) #[] #[]) := by
  have hk : kn = 1 ∨ kn = 2 ∨ kn = 3 ∨ kn = 4 ∨ kn = 5 ∨ kn = 6 := by omega
  rcases hk with rfl | rfl | rfl | rfl | rfl | rfl
  all_goals exact ⟨rfl, rfl, rfl⟩
set_option maxRecDepth 100000 in
theorem en_every : ∀ args w, (callFunc 114 args).run Tryz.prog w = .ok (.enter 114 args) w := enters_of Tryz.func114 (by kernel_rfl) rfl
set_option maxRecDepth 100000 in
theorem en_k1 : ∀ args w, (callFunc 115 args).run Tryz.prog w = .ok (.enter 115 args) w := enters_of Tryz.func115 (by kernel_rfl) rfl
set_option maxRecDepth 100000 in
theorem en_k3 : ∀ args w, (callFunc 117 args).run Tryz.prog w = .ok (.enter 117 args) w := enters_of Tryz.func117 (by kernel_rfl) rfl
set_option maxRecDepth 100000 in
theorem en_k5 : ∀ args w, (callFunc 119 args).run Tryz.prog w = .ok (.enter 119 args) w := enters_of Tryz.func119 (by kernel_rfl) rfl
set_option maxRecDepth 100000 in
theorem en_k7 : ∀ args w, (callFunc 123 args).run Tryz.prog w = .ok (.enter 123 args) w := enters_of Tryz.func123 (by kernel_rfl) rfl
set_option maxRecDepth 100000 in
theorem en_k8 : ∀ args w, (callFunc 124 args).run Tryz.prog w = .ok (.enter 124 args) w := enters_of Tryz.func124 (by kernel_rfl) rfl
set_option maxRecDepth 100000 in
theorem en_k9 : ∀ args w, (callFunc 126 args).run Tryz.prog w = .ok (.enter 126 args) w := enters_of Tryz.func126 (by kernel_rfl) rfl
set_option maxRecDepth 100000 in
theorem en_noText : ∀ args w, (callFunc 121 args).run Tryz.prog w = .ok (.enter 121 args) w := enters_of Tryz.func121 (by kernel_rfl) rfl
theorem kV_1 : kV 1 = .agg #[.func (.func 114) #[] #[], .func (.func 115) #[] #[], .func (.func 116) #[] #[]] := by unfold kV kM kF kG; simp
theorem kV_2 : kV 2 = .agg #[.func (.func 114) #[] #[], .func (.func 117) #[] #[], .func (.func 118) #[] #[]] := by unfold kV kM kF kG; simp
theorem kV_3 : kV 3 = .agg #[.func (.func 114) #[] #[], .func (.func 119) #[] #[], .func (.func 120) #[] #[]] := by unfold kV kM kF kG; simp
theorem kV_4 : kV 4 = .agg #[.func (.func 114) #[] #[], .func (.func 121) #[] #[], .func (.func 122) #[] #[]] := by unfold kV kM kF kG; simp
theorem kV_5 : kV 5 = .agg #[.func (.func 123) #[] #[], .func (.func 121) #[] #[], .func (.func 122) #[] #[]] := by unfold kV kM kF kG; simp
theorem kV_6 : kV 6 = .agg #[.func (.func 124) #[] #[], .func (.func 126) #[] #[], .func (.func 127) #[] #[]] := by unfold kV kM kF kG; simp
set_option maxHeartbeats 2000000 in
set_option maxRecDepth 100000 in
theorem may_ok (nm : ByteArray) (k : Int) (h1 : 1 ≤ k) (h6 : k ≤ 6) (nl : Bool) (c : MC) (hc : okM nl k c) (w : World) (hT : Tabs w) :
    Calls Tryz.prog 78 #[colV nm k nl, kV k, c.v] w fun e w' => e = .returned (.bool true) ∧ Below w.heap.size w w' := by
  obtain ⟨n, c⟩ := c
  cases n
  · have hp : Pur k c := hc
    have hk : k = 1 ∨ k = 2 ∨ k = 3 ∨ k = 4 ∨ k = 5 ∨ k = 6 := by omega
    have ev : ∀ c : CD, ∀ w, Tabs w → Calls Tryz.prog 114 #[c.v] w fun e w' => e = .returned (.bool true) ∧ Below w.heap.size w w' := fun c w _ => every_any c.v ⟨_, _, _, _, _, _, rfl⟩ w
    rcases hk with rfl | rfl | rfl | rfl | rfl | rfl
    · rw [hp.f1, kV_1]
      exact may_there 114 115 _ nm 1 nl ⟨c.b, 0, 0, ByteArray.empty, 0, 0⟩ en_every en_k1 (ev ⟨c.b, 0, 0, ByteArray.empty, 0, 0⟩) (noBool_any c.b) w hT
    · rw [hp.f2, kV_2]
      exact may_there 114 117 _ nm 2 nl ⟨false, c.x, 0, ByteArray.empty, 0, 0⟩ en_every en_k3 (ev ⟨false, c.x, 0, ByteArray.empty, 0, 0⟩) (noInt_any c.x ByteArray.empty) w hT
    · rw [hp.f3, kV_3]
      exact may_there 114 119 _ nm 3 nl ⟨false, 0, c.u, ByteArray.empty, 0, 0⟩ en_every en_k5 (ev ⟨false, 0, c.u, ByteArray.empty, 0, 0⟩) (noUint_any c.u) w hT
    · rw [hp.f4, kV_4]
      exact may_there 114 121 _ nm 4 nl ⟨false, 0, 0, c.t, 0, 0⟩ en_every en_noText (ev ⟨false, 0, 0, c.t, 0, 0⟩) (noText_any 0 c.t) w hT
    · rw [hp.f5, kV_5]
      exact may_there 123 121 _ nm 5 nl ⟨false, 0, 0, c.t, 0, 0⟩ en_k7 en_noText (fun w h => mayText_any c.t hp.kg.t1 (hp.v rfl) w h) (noText_any 0 c.t) w hT
    · rw [hp.f6, kV_6]
      exact may_there 124 126 _ nm 6 nl ⟨false, 0, 0, ByteArray.empty, c.p, c.q⟩ en_k8 en_k9 (fun w _ => mayPoint_any c.p c.q _ _ hp.kg.pw hp.kg.qw w) (noPoint_any c.p c.q) w hT
  · obtain ⟨rfl, rfl⟩ : nl = true ∧ c = CD.z := hc
    exact may_gone (kV k) ⟨_, _, _, rfl⟩ nm k w
end Go.Proofs.YtfkgmodgkifelaaGreatDoor
