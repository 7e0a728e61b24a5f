/- Columns: the document's bytes by steps, whole numbers. Whole numbers as floats: differences, and turned round. Columns: steps of points: what each call gives, and the document's loop. -/
import Derived.Test.YtfkgmodgkifelaaGreatDoorJ28
import Derived.Test.YtfkgmodgkifelaaGreatDoorJ14
namespace Go.Proofs.YtfkgmodgkifelaaGreatDoor
open Go.RowKit

theorem encS_on {k : Int} {l : List CD} {i : Nat} {c : CD} (h : l[i]? = some c) (a : Nat) : encS k a (l.drop i) = uvar (zz (stN a (wd k c))) ++ encS k (wd k c) (l.drop (i + 1)) := by
  have hi := (List.getElem?_eq_some_iff.1 h).1
  rw [List.drop_eq_getElem_cons hi, (List.getElem?_eq_some_iff.1 h).2, encS]
theorem blk_setC {w : World} {L : Nat} {t : TypeId} {b0 : Bool} {x0 u0 : Int} {t0 : ByteArray} {p0 q0 : Nat} (h : Blk w L t (clA b0 x0 u0 t0 p0 q0)) (b : Bool) (x u : Int) (s : ByteArray) (p q : Nat) :
    Blk ((((((w.setCell ⟨L, 0, none⟩ (.bool false)).setCell ⟨L, 1, none⟩ (.bool b)).setCell ⟨L, 2, none⟩ (.int .i64 x)).setCell ⟨L, 3, none⟩ (.int .u64 u)).setCell ⟨L, 4, none⟩ (.string s)).setCell ⟨L, 5, none⟩ (.complex .f64 p q)) L t (clA b x u s p q) :=
  (((((h.set 0 (.bool false)).set 1 (.bool b)).set 2 (.int .i64 x)).set 3 (.int .u64 u)).set 4 (.string s)).set 5 (.complex .f64 p q)
theorem wd_z (k : Int) : wd k CD.z = 0 := by unfold wd CD.z; split <;> rfl
set_option maxHeartbeats 4000000 in
set_option maxRecDepth 100000 in
theorem sdencodeN (k : Int) (hk : k = 2 ∨ k = 3) (l : List CD) (hl : Wok l) (v : Value) (w : World) (hv : InC w v l) :
    Calls Tryz.prog 150 #[.int .i64 k, v] w fun e w' => e = .returned (.tuple #[.string (strN (encS k 0 l)), .int .i64 0]) ∧ Below w.heap.size w w' := by
  obtain ⟨A, ca, rfl, hcell⟩ := hv.form
  have HC := hide hcell
  have HL := hide hl
  have hlen := hl.len
  have hk6 : ((k : Int) == 6) = false := by rw [beq_eq_false_iff_ne]; omega
  have KW := hide (fun (c : CD) (hc : KG c) (w : World) => sword_any k hk c hc w)
  have KS := hide (fun (a b : Nat) (ha : a < 18446744073709551616) (hb : b < 18446744073709551616) (w : World) => sstep_any a b ha hb w)
  have KZ := hide (fun (x : Int) (h1 : -9223372036854775808 ≤ x) (h2 : x ≤ 9223372036854775807) (w : World) => szig_any x h1 h2 w)
  have KU := hide (fun (x : Nat) (hx : x < 18446744073709551616) (w : World) => suvar_any x hx w)
  have hst := fun (w1 : World) (a1 : Addr) (m : Mode) (x y : Nat) => run_store Tryz.prog w1 a1 (.complex .f64 x y) m rfl
  obtain ⟨FIN, hFIN⟩ : ∃ FIN, encS k 0 l = FIN := ⟨_, rfl⟩
  rw [hFIN]
  have HFI := hide hFIN
  clear hv hcell hl hk hFIN
  generalize hn : l.length = n at *
  have HN := hide hn
  clear hn
  go_enter Tryz.func150, Tryz.ntmps150
  go_wp2_with fail
  go_loopw [6, 8] (fun sv iv wr => ∃ (i : Nat) (c : CD) (D : List Nat), i ≤ n ∧ iv = .int .i64 (i : Int) ∧ (∃ S : ByteArray, sv = .string S ∧ Hid (S = strN D)) ∧ Hid (FIN = D ++ encS k (wd k c) (l.drop i)) ∧ Hid (D.length ≤ 10 * i) ∧ Hid (KG c) ∧ Hid (Blk wr w.heap.size 45 (clA c.b c.x c.u c.t c.p c.q)) ∧ Hid (Below w.heap.size w wr)) (fun _ iv _ => n - (intOf iv).toNat)
  case atStart =>
    refine ⟨0, CD.z, [], by omega, rfl, ⟨_, rfl, strN_nil.symm⟩, by show FIN = _; rw [wd_z, ← HFI.out]; simp, Nat.le_refl _, kg_z, ?_, ?_⟩
    · first | exact Blk.new _ _ _ | exact blk_setC (Blk.new _ _ _) _ _ _ _ _ _
    · first | exact (Below.refl _ _).alloc (Nat.le_refl _) _ | exact (((((((Below.refl _ _).alloc (Nat.le_refl _) _).setCell (Nat.le_refl _) _).setCell (Nat.le_refl _) _).setCell (Nat.le_refl _) _).setCell (Nat.le_refl _) _).setCell (Nat.le_refl _) _).setCell (Nat.le_refl _) _
  case round =>
    obtain ⟨i, c, D, hin, rfl, ⟨S, rfl, hS⟩, hfi, hsz, hkc, hblk, hb⟩ := hrel
    by_cases hlt : i < n
    · obtain ⟨x, hx⟩ : ∃ x, l[i]? = some x := ⟨l[i]'(by rw [HN.out]; exact hlt), List.getElem?_eq_getElem _⟩
      obtain ⟨g, hA, hg, hat⟩ := HC.out i x hx
      subst hA
      obtain ⟨a0, a1, a2, a3, a4, a5⟩ := hat.below hb.out hg
      have hkx := HL.out.kg x (List.mem_of_getElem? hx)
      have hf := hfi.out
      rw [encS_on hx] at hf
      have HF2 := hide (show FIN = (D ++ uvar (zz (stN (wd k c) (wd k x)))) ++ encS k (wd k x) (l.drop (i + 1)) from by rw [hf, List.append_assoc])
      have KW1 := hide (fun w => KW.out c hkc.out w)
      have KW2 := hide (fun w => KW.out x hkx w)
      have KS1 := hide (fun w => KS.out (wd k c) (wd k x) (wd_lt hkc.out) (wd_lt hkx) w)
      have KZ1 := hide (fun w => KZ.out (stN (wd k c) (wd k x)) (stN_lo _ _) (stN_hi _ _) w)
      have hzz : zz (stN (wd k c) (wd k x)) < 18446744073709551616 := zz_lt (stN_lo _ _) (stN_hi _ _)
      have KU1 := hide (fun w => KU.out _ hzz w)
      have hlu := uvar_len10 hzz
      have HSN := hide (show S ++ strN (uvar (zz (stN (wd k c) (wd k x)))) = strN (D ++ uvar (zz (stN (wd k c) (wd k x)))) from by rw [strN_app, hS.out])
      have HZ2 := hide (show (D ++ uvar (zz (stN (wd k c) (wd k x)))).length ≤ 10 * (i + 1) from by have := hsz.out; rw [List.length_append]; omega)
      have hadd := fun w1 => run_string_add_sum (P := Tryz.prog) w1 S (strN (uvar (zz (stN (wd k c) (wd k x))))) (by have := hsz.out; rw [hS.out, strN_size, strN_size]; omega)
      have HKX := hide hkx
      have HLT := hide hlt
      have hi0 : (0 : Int) ≤ (i : Int) := by omega
      have hi1 : (i : Int) < (n : Int) := by omega
      obtain ⟨p0, p1, p2, p3, p4, p5, _, _, _, _, _, _⟩ := Blk.six hblk.out
      have HBK := hide hblk.out
      have HB := hide hb.out
      have HG := hide hg
      have hgne : g ≠ w.heap.size := by omega
      have HAT := hide hat
      obtain ⟨cb, cx, cu, ct, cp, cq⟩ := c
      obtain ⟨xb, xx, xu, xt, xp, xq⟩ := x
      unfold CD.v clV clA at KW1 KW2
      simp only at KW1 KW2 a0 a1 a2 a3 a4 a5 p0 p1 p2 p3 p4 p5
      generalize hWA : wd k ⟨cb, cx, cu, ct, cp, cq⟩ = WA at *
      generalize hWX : wd k ⟨xb, xx, xu, xt, xp, xq⟩ = WX at *
      have HWX := hide hWX
      generalize strN (uvar (zz (stN WA WX))) = Y at *
      generalize hZ : zz (stN WA WX) = Z at *
      generalize stN WA WX = T at *
      clear hx hat hkx hf hzz hlu hlt hfi hkc hblk hb hg hWA hWX hZ
      have r0 := cell_regrown a0
      have r1 := cell_regrown a1
      have r2 := cell_regrown a2
      have r3 := cell_regrown a3
      have r4 := cell_regrown a4
      have r5 := cell_regrown a5
      have q0 := cell_regrown p0
      have q1 := cell_regrown p1
      have q2 := cell_regrown p2
      have q3 := cell_regrown p3
      have q4 := cell_regrown p4
      have q5 := cell_regrown p5
      have Q1 := hide (fun d os => Calls.regrown_of (d := d) (os := os) (KW1.out (Sort.grow (redrawn wr d) os)))
      have Q2 := hide (fun d os => Calls.regrown_of (d := d) (os := os) (KW2.out (Sort.grow (redrawn wr d) os)))
      have Q3 := hide (fun d os => Calls.regrown_of (d := d) (os := os) ((KS1.out (Sort.grow (redrawn wr d) os)).mono (by rintro e w' ⟨rfl, rfl⟩; exact ⟨rfl, Below.refl _ _⟩)))
      have Q4 := hide (fun d os => Calls.regrown_of (d := d) (os := os) ((KZ1.out (Sort.grow (redrawn wr d) os)).mono (by rintro e w' ⟨rfl, rfl⟩; exact ⟨rfl, Below.refl _ _⟩)))
      have Q5 := hide (fun d os => Calls.regrown_of (d := d) (os := os) (KU1.out (Sort.grow (redrawn wr d) os)))
      clear a0 a1 a2 a3 a4 a5 p0 p1 p2 p3 p4 p5
      go_wp2_with fail
      refine wp_region_quiet_below (by kernel_rfl) (by kernel_rfl) ?_
      repeat (go_big_quiet_step (first | (with_reducible exact Q1.out _ _) | (with_reducible exact Q2.out _ _) | (with_reducible exact Q3.out _ _) | (with_reducible exact Q4.out _ _) | (with_reducible exact Q5.out _ _)))
      refine wpQuiet_nil ?_
      intro _ hw'
      obtain ⟨⟨dq, osq⟩, hw''⟩ := hw'
      subst hw''
      have hb4 := below_regrown wr dq osq
      generalize Sort.grow (redrawn wr dq) osq = w4 at *
      have HB4 := hide (HB.out.trans (hb4.mono HB.out.size))
      have HK4 := hide (HBK.out.below hb4 HBK.out.lt)
      obtain ⟨a0, a1, a2, a3, a4, a5⟩ := HAT.out.below HB4.out HG.out
      obtain ⟨p0, p1, p2, p3, p4, p5, f0, f1, f2, f3, f4, f5⟩ := Blk.six HK4.out
      clear hb4 r0 r1 r2 r3 r4 r5 q0 q1 q2 q3 q4 q5 Q1 Q2 Q3 Q4 Q5
      go_wp2_with fail
      go_roundw
      case rel => exact ⟨i + 1, ⟨xb, xx, xu, xt, xp, xq⟩, _, by have := HLT.out; omega, by go_num, ⟨_, rfl, HSN.out⟩, (by rw [HWX.out]; exact HF2.out), HZ2.out, HKX.out, blk_setC HK4.out _ _ _ _ _ _, (((((HB4.out.setCell (Nat.le_refl _) _).setCell (Nat.le_refl _) _).setCell (Nat.le_refl _) _).setCell (Nat.le_refl _) _).setCell (Nat.le_refl _) _).setCell (Nat.le_refl _) _⟩
      case measure => have := HLT.out; simp [intOf]; omega
    · obtain rfl : n = i := by omega
      have hf := hfi.out
      rw [List.drop_eq_nil_of_le (by rw [HN.out]; exact Nat.le_refl _), encS, List.append_nil] at hf
      have HF := hide hf
      clear hlt hin hf
      go_wp2_with fail
      go_ret2
      exact ⟨by rw [HF.out, ← hS.out]; rfl, hb.out⟩
end Go.Proofs.YtfkgmodgkifelaaGreatDoor
namespace Go.Proofs.YtfkgmodgkifelaaGreatDoor

theorem read_neg (x : Nat) : Ieee.double.read (x ^^^ 9223372036854775808) = (Ieee.double.read x).opposite := by
  have hsw : Ieee.double.signWeight = 2 ^ 63 := by decide
  have e63 : (9223372036854775808 : Nat) = 2 ^ 63 := by decide
  have e1 : (x ^^^ 9223372036854775808) % 2 ^ 63 = x % 2 ^ 63 := by
    rw [e63, Nat.xor_mod_two_pow, Nat.mod_self, Nat.xor_zero]
  have e2 : (x ^^^ 9223372036854775808) / 2 ^ 63 = x / 2 ^ 63 ^^^ 1 := by
    rw [e63, Nat.xor_div_two_pow, Nat.div_self (by decide)]
  have e3 : ((x ^^^ 9223372036854775808) / 2 ^ 63 % 2 == 1) = !(x / 2 ^ 63 % 2 == 1) := by
    rw [e2]
    have h := Nat.xor_mod_two_eq_one (a := x / 2 ^ 63) (b := 1)
    by_cases h1 : x / 2 ^ 63 % 2 = 1
    · have h2 : ¬ (x / 2 ^ 63 ^^^ 1) % 2 = 1 := by rw [h]; simp [h1]
      rw [beq_eq_false_iff_ne.2 h2, h1]; rfl
    · have h2 : (x / 2 ^ 63 ^^^ 1) % 2 = 1 := by rw [h]; simp [h1]
      rw [h2, beq_eq_false_iff_ne.2 h1]; rfl
  unfold Ieee.Format.read
  simp only [hsw, e1, e3]
  split
  · rfl
  · split
    · rfl
    · split <;> rfl
theorem cut_opp (way : Ieee.Toward) (hw : way = .zero) (s t : Bool) (n d : Nat) : way.cut s n d = way.cut t n d := by
  subst hw; rfl
/-- 'int64' of a float turned round. -/
theorem toInt_neg (x : Nat) (n : Int) (hn : n.natAbs ≤ 9007199254740992) (h : floatToIntVal .f64 x .i64 = some n) : floatToIntVal .f64 (Op.negFloat .f64 x) .i64 = some (-n) := by
  have hneg : Op.negFloat .f64 x = x ^^^ 9223372036854775808 := rfl
  rw [hneg]
  unfold floatToIntVal at h ⊢
  show (match (Ieee.double.read (x ^^^ 9223372036854775808)).toInt .zero with | some n => _ | none => _) = _
  have h' : (match (Ieee.double.read x).toInt .zero with | some n => if IntKind.i64.min ≤ n ∧ n ≤ IntKind.i64.max then some n else none | none => none) = some n := h
  rw [read_neg]
  have hto : ∀ m, (Ieee.double.read x).toInt .zero = some m → (Ieee.double.read x).opposite.toInt .zero = some (-m) := by
    intro m
    generalize Ieee.double.read x = d
    cases d with
    | number s mg e =>
      intro hm
      unfold Ieee.Datum.toInt Ieee.Datum.integral at hm
      unfold Ieee.Datum.toInt Ieee.Datum.integral Ieee.Datum.opposite
      simp only [Option.some.injEq] at hm ⊢
      rw [← hm, cut_opp .zero rfl (!s) s]
      unfold Ieee.signed
      cases s <;> simp
    | infinity s => intro hm; cases hm
    | nan s f => intro hm; cases hm
  cases hr : (Ieee.double.read x).toInt .zero with
  | none => rw [hr] at h'; cases h'
  | some m =>
    rw [hr] at h'
    simp only at h'
    split at h'
    · injection h' with h'
      subst h'
      rw [hto _ hr]
      have hmin : IntKind.i64.min = -9223372036854775808 := by decide
      have hmax : IntKind.i64.max = 9223372036854775807 := by decide
      simp only [hmin, hmax]
      rw [if_pos (by omega)]
    · cases h'
theorem signed_opp (s : Bool) (m k : Nat) : Ieee.signed (!s) m k = -Ieee.signed s m k := by
  unfold Ieee.signed
  cases s <;> simp
/-- A difference of whole numbers is exact, where it does not grow too far. -/
theorem sub_int (a b : Int) (ha : a.natAbs ≤ 9007199254740992) (hb : b.natAbs ≤ 9007199254740992) (hc : (a - b).natAbs ≤ 9007199254740992) :
    Ieee.double.sub (floatOfInt .f64 a) (floatOfInt .f64 b) = some (floatOfInt .f64 (a - b)) := by
  obtain ⟨s, m, k, e1, h1, hs, _⟩ := read_int a ha
  obtain ⟨t, n, l, e2, h2, ht, _⟩ := read_int b hb
  unfold Ieee.Format.sub
  rw [e1, e2]
  unfold Ieee.Datum.opposite Ieee.Datum.sum
  simp only [min_place, Option.map_some, signed_opp]
  have g1 := signed_of s m k (max k l) a (by omega) h1
  have g2 := signed_of t n l (max k l) b (by omega) h2
  have hz0 : a - b = 0 → (s && !t) = false := by
    intro h0
    have hab : a = b := by omega
    subst hab
    rw [e1] at e2
    injection e2 with e2
    subst e2
    cases s <;> rfl
  generalize Ieee.signed s m ((1 - (k : Int)) - (1 - ((max k l : Nat) : Int))).toNat = X at *
  generalize Ieee.signed t n ((1 - (l : Int)) - (1 - ((max k l : Nat) : Int))).toNat = Y at *
  generalize max k l = K at *
  have hP : (0 : Int) < 2 ^ K := Int.pow_pos (by omega)
  have hsum : 2 * (X + -Y) = (a - b) * 2 ^ K := by rw [Int.sub_mul, ← g1, ← g2]; omega
  congr 1
  by_cases h0 : a - b = 0
  · have hXY : X + -Y = 0 := by rw [h0, Int.zero_mul] at hsum; omega
    rw [hXY, h0, if_pos rfl]
    rw [hz0 h0]
    have hz : floatOfInt .f64 0 = Ieee.double.word false 0 := by kernel_rfl
    rw [hz]
    show Ieee.double.nearest false (0 : Int).natAbs _ = _
    unfold Ieee.Format.nearest
    rw [if_pos Int.natAbs_zero]
  · have hXY : X + -Y ≠ 0 := by
      intro h
      rw [h, Int.mul_zero] at hsum
      rcases Int.mul_eq_zero.1 hsum.symm with q | q
      · exact h0 q
      · omega
    rw [if_neg hXY]
    have hsg : decide (X + -Y < 0) = decide (a - b < 0) := by
      rw [decide_eq_decide]
      constructor
      · intro h
        apply Int.not_le.1
        intro hn
        have : 0 ≤ (a - b) * 2 ^ K := Int.mul_nonneg hn (by omega)
        omega
      · intro h
        have : (a - b) * 2 ^ K < 0 := Int.mul_neg_of_neg_of_pos h hP
        omega
    have hab : 2 * (X + -Y).natAbs = (a - b).natAbs * 2 ^ K := by
      have h3 := congrArg Int.natAbs hsum
      rw [Int.natAbs_mul, Int.natAbs_mul, Int.natAbs_pow] at h3
      simpa using h3
    have hpos : 0 < (a - b).natAbs := by omega
    obtain ⟨q1, hq1, w1⟩ := nearest_of (decide (a - b < 0)) (X + -Y).natAbs K (a - b).natAbs hpos hc hab
    obtain ⟨q2, hq2, w2⟩ := nearest_of (decide (a - b < 0)) (a - b).natAbs 1 (a - b).natAbs hpos hc (by omega)
    have hq : q1 = q2 := by omega
    subst hq
    show Ieee.double.nearest (decide (X + -Y < 0)) (X + -Y).natAbs (1 - (K : Int)) = _
    rw [hsg, w1]
    have hf : floatOfInt .f64 (a - b) = Ieee.double.nearest (decide (a - b < 0)) (a - b).natAbs (1 - ((1 : Nat) : Int)) := rfl
    rw [hf, w2]
theorem csub_int (a b c d : Int) (ha : a.natAbs ≤ 9007199254740992) (hb : b.natAbs ≤ 9007199254740992) (hc : c.natAbs ≤ 9007199254740992) (hd : d.natAbs ≤ 9007199254740992) (hac : (a - c).natAbs ≤ 9007199254740992) (hbd : (b - d).natAbs ≤ 9007199254740992) :
    cSumBits .sub .f64 (floatOfInt .f64 a) (floatOfInt .f64 b) (floatOfInt .f64 c) (floatOfInt .f64 d) = some (floatOfInt .f64 (a - c), floatOfInt .f64 (b - d)) := by
  unfold cSumBits floatBits
  show (Ieee.double.sub _ _).bind (fun re => (Ieee.double.sub _ _).bind fun im => some (re, im)) = _
  rw [sub_int a c ha hc hac, sub_int b d hb hd hbd]
  rfl
/-- A difference of two numbers is some number, whatever comes of it. -/
theorem sub_some (a b : Int) (ha : a.natAbs ≤ 9007199254740992) (hb : b.natAbs ≤ 9007199254740992) : ∃ r, Ieee.double.sub (floatOfInt .f64 a) (floatOfInt .f64 b) = some r := by
  obtain ⟨s, m, k, e1, _, _, _⟩ := read_int a ha
  obtain ⟨t, n, l, e2, _, _, _⟩ := read_int b hb
  unfold Ieee.Format.sub
  rw [e1, e2]
  exact ⟨_, rfl⟩
theorem csub_some (a b c d : Int) (ha : a.natAbs ≤ 9007199254740992) (hb : b.natAbs ≤ 9007199254740992) (hc : c.natAbs ≤ 9007199254740992) (hd : d.natAbs ≤ 9007199254740992) :
    ∃ re im, cSumBits .sub .f64 (floatOfInt .f64 a) (floatOfInt .f64 b) (floatOfInt .f64 c) (floatOfInt .f64 d) = some (re, im) := by
  obtain ⟨re, e1⟩ := sub_some a c ha hc
  obtain ⟨im, e2⟩ := sub_some b d hb hd
  refine ⟨re, im, ?_⟩
  unfold cSumBits floatBits
  show (Ieee.double.sub _ _).bind (fun re => (Ieee.double.sub _ _).bind fun im => some (re, im)) = _
  rw [e1, e2]
  rfl
end Go.Proofs.YtfkgmodgkifelaaGreatDoor
namespace Go.Proofs.YtfkgmodgkifelaaGreatDoor
open Go.RowKit

/-- The bytes of points by steps. -/
def pts : Int → Int → List Nat → List CD → Nat × List Nat
  | _, _, D, [] => (0, D)
  | a, b, D, c :: l => if farB (fi c.p - a) = true ∨ farB (fi c.q - b) = true then (12, []) else pts (fi c.p) (fi c.q) (D ++ (uvar (zz (fi c.p - a)) ++ uvar (zz (fi c.q - b)))) l
theorem pts_on {l : List CD} {i : Nat} {c : CD} (h : l[i]? = some c) (a b : Int) (D : List Nat) : pts a b D (l.drop i) = if farB (fi c.p - a) = true ∨ farB (fi c.q - b) = true then (12, []) else pts (fi c.p) (fi c.q) (D ++ (uvar (zz (fi c.p - a)) ++ uvar (zz (fi c.q - b)))) (l.drop (i + 1)) := by
  have hi := (List.getElem?_eq_some_iff.1 h).1
  rw [List.drop_eq_getElem_cons hi, (List.getElem?_eq_some_iff.1 h).2, pts]
theorem fi_abs {x : Nat} {a : Int} (ha : a.natAbs ≤ 9007199254740992) (he : x = floatOfInt .f64 a) : (fi x).natAbs ≤ 9007199254740992 := by rw [he, fi_int a ha]; exact ha
theorem KG.pa {c : CD} (h : KG c) : (fi c.p).natAbs ≤ 9007199254740992 := by obtain ⟨a, ha, he⟩ := h.p1; exact fi_abs ha he
theorem KG.qa {c : CD} (h : KG c) : (fi c.q).natAbs ≤ 9007199254740992 := by obtain ⟨a, ha, he⟩ := h.q1; exact fi_abs ha he
theorem KG.pf {c : CD} (h : KG c) : c.p = floatOfInt .f64 (fi c.p) := by obtain ⟨a, ha, he⟩ := h.p1; rw [he, fi_int a ha]
theorem KG.qf {c : CD} (h : KG c) : c.q = floatOfInt .f64 (fi c.q) := by obtain ⟨a, ha, he⟩ := h.q1; rw [he, fi_int a ha]
theorem KG.pw {c : CD} (h : KG c) : Wh c.p (fi c.p) := by have := wh_of (fi c.p) h.pa; rwa [← h.pf] at this
theorem KG.qw {c : CD} (h : KG c) : Wh c.q (fi c.q) := by have := wh_of (fi c.q) h.qa; rwa [← h.qf] at this
theorem farB_lt {x : Int} (h : ¬ farB x = true) : -9007199254740992 ≤ x ∧ x ≤ 9007199254740992 := by have := far_abs h; omega
set_option maxHeartbeats 1000000 in
set_option maxRecDepth 100000 in
theorem swhole10_any (x : Nat) (n : Int) (h : Wh x n) (w : World) :
    Calls Tryz.prog 163 #[.float .f64 x] w fun e w' => e = .returned (.bool true) ∧ w = w' := by
  have h1 := h.ge
  have h2 := h.le
  have h3 := h.fi
  have h4 := fun w => run_convert_float_int (P := Tryz.prog) w 153 2 .f64 .i64 x n (by kernel_rfl) Tryz.underlying2 h.ti
  clear h
  go_enter Tryz.func163, Tryz.ntmps163
  go_wp2_with fail
  go_ret
  exact ⟨rfl, rfl⟩
set_option maxHeartbeats 4000000 in
set_option maxRecDepth 100000 in
theorem sdencodeP (l : List CD) (hl : Wok l) (v : Value) (w : World) (hv : InC w v l) :
    Calls Tryz.prog 150 #[.int .i64 6, v] w fun e w' => e = .returned (.tuple #[.string (strN (pts 0 0 [] l).2), .int .i64 ((pts 0 0 [] l).1 : Nat)]) ∧ Below w.heap.size w w' := by
  obtain ⟨A, ca, rfl, hcell⟩ := hv.form
  have HC := hide hcell
  have HL := hide hl
  have hlen := hl.len
  have KZ := hide (fun (x : Int) (h1 : -9223372036854775808 ≤ x) (h2 : x ≤ 9223372036854775807) (w : World) => szig_any x h1 h2 w)
  have KU := hide (fun (x : Nat) (hx : x < 18446744073709551616) (w : World) => suvar_any x hx w)
  have KW := hide (fun (x : Nat) (n : Int) (h : Wh x n) (w : World) => swhole10_any x n h w)
  have hst := fun (w1 : World) (a1 : Addr) (m : Mode) (x y : Nat) => run_store Tryz.prog w1 a1 (.complex .f64 x y) m rfl
  obtain ⟨FIN, hFIN⟩ : ∃ FIN, pts 0 0 [] l = FIN := ⟨_, rfl⟩
  rw [hFIN]
  have HFI := hide hFIN
  clear hv hcell hl hFIN
  generalize hn : l.length = n at *
  have HN := hide hn
  clear hn
  go_enter Tryz.func150, Tryz.ntmps150
  go_wp2_with fail
  go_loopw [6, 8] (fun sv iv wr => ∃ (i : Nat) (c : CD) (D : List Nat), i ≤ n ∧ iv = .int .i64 (i : Int) ∧ (∃ S : ByteArray, sv = .string S ∧ Hid (S = strN D)) ∧ Hid (FIN = pts (fi c.p) (fi c.q) D (l.drop i)) ∧ Hid (D.length ≤ 20 * i) ∧ Hid (KG c) ∧ Hid (Blk wr w.heap.size 45 (clA c.b c.x c.u c.t c.p c.q)) ∧ Hid (Below w.heap.size w wr)) (fun _ iv _ => n - (intOf iv).toNat)
  case atStart =>
    refine ⟨0, CD.z, [], by omega, rfl, ⟨_, rfl, strN_nil.symm⟩, ?_, Nat.le_refl _, kg_z, ?_, ?_⟩
    · show FIN = _
      have z : fi 0 = 0 := by kernel_rfl
      rw [show fi CD.z.p = 0 from z, show fi CD.z.q = 0 from z, ← HFI.out]; simp
    · first | exact Blk.new _ _ _ | exact blk_setC (Blk.new _ _ _) _ _ _ _ _ _
    · first | exact (Below.refl _ _).alloc (Nat.le_refl _) _ | exact (((((((Below.refl _ _).alloc (Nat.le_refl _) _).setCell (Nat.le_refl _) _).setCell (Nat.le_refl _) _).setCell (Nat.le_refl _) _).setCell (Nat.le_refl _) _).setCell (Nat.le_refl _) _).setCell (Nat.le_refl _) _
  case round =>
    obtain ⟨i, c, D, hin, rfl, ⟨S, rfl, hS⟩, hfi, hsz, hkc, hblk, hb⟩ := hrel
    by_cases hlt : i < n
    · obtain ⟨x, hx⟩ : ∃ x, l[i]? = some x := ⟨l[i]'(by rw [HN.out]; exact hlt), List.getElem?_eq_getElem _⟩
      obtain ⟨g, hA, hg, hat⟩ := HC.out i x hx
      subst hA
      obtain ⟨a0, a1, a2, a3, a4, a5⟩ := hat.below hb.out hg
      have hkx := HL.out.kg x (List.mem_of_getElem? hx)
      have hf := hfi.out
      rw [pts_on hx] at hf
      have KW1 := hide (KW.out x.p (fi x.p) hkx.pw)
      have KW2 := hide (KW.out x.q (fi x.q) hkx.qw)
      have n1 := hkx.pa
      have n2 := hkx.qa
      have n3 := hkc.out.pa
      have n4 := hkc.out.qa
      have c1 := fun w => run_convert_float_int (P := Tryz.prog) w 153 2 .f64 .i64 x.p (fi x.p) (by kernel_rfl) Tryz.underlying2 hkx.pi
      have c2 := fun w => run_convert_float_int (P := Tryz.prog) w 153 2 .f64 .i64 x.q (fi x.q) (by kernel_rfl) Tryz.underlying2 hkx.qi
      have c3 := fun w => run_convert_float_int (P := Tryz.prog) w 153 2 .f64 .i64 c.p (fi c.p) (by kernel_rfl) Tryz.underlying2 hkc.out.pi
      have c4 := fun w => run_convert_float_int (P := Tryz.prog) w 153 2 .f64 .i64 c.q (fi c.q) (by kernel_rfl) Tryz.underlying2 hkc.out.qi
      have HKX := hide hkx
      have HLT := hide hlt
      have hi0 : (0 : Int) ≤ (i : Int) := by omega
      have hi1 : (i : Int) < (n : Int) := by omega
      obtain ⟨p0, p1, p2, p3, p4, p5, _, _, _, _, _, _⟩ := Blk.six hblk.out
      have HBK := hide hblk.out
      have HB := hide hb.out
      have HG := hide hg
      have HAT := hide hat
      have HF := hide hf
      have w1 : wrap64 (fi x.p - fi c.p) = fi x.p - fi c.p := by unfold wrap64; omega
      have w2 : wrap64 (fi x.q - fi c.q) = fi x.q - fi c.q := by unfold wrap64; omega
      obtain ⟨cb, cx, cu, ct, cp, cq⟩ := c
      obtain ⟨xb, xx, xu, xt, xp, xq⟩ := x
      simp only at KW1 KW2 a0 a1 a2 a3 a4 a5 p0 p1 p2 p3 p4 p5 n1 n2 n3 n4 c1 c2 c3 c4 w1 w2 HF
      generalize hvx : fi xp = vx at *
      generalize hvy : fi xq = vy at *
      generalize hvc : fi cp = vc at *
      generalize hvd : fi cq = vd at *
      have HVX := hide hvx
      have HVY := hide hvy
      clear hx hat hkx hf hfi hkc hblk hb hg hvx hvy hvc hvd
      go_wp2_with fail
      refine (KW1.out _).mono ?_
      rintro e w1 ⟨rfl, rfl⟩
      go_wp2_with fail
      refine (KW2.out _).mono ?_
      rintro e w1 ⟨rfl, rfl⟩
      go_wp2_with fail
      have r5 := cell_regrown a5
      have q5 := cell_regrown p5
      refine wp_region_quiet_below (by kernel_rfl) (by kernel_rfl) ?_
      repeat (go_big_quiet_step (fail))
      refine wpQuiet_nil ?_
      intro _ hw'
      obtain ⟨⟨dq, osq⟩, hw''⟩ := hw'
      subst hw''
      have hb4 := below_regrown wr dq osq
      generalize Sort.grow (redrawn wr dq) osq = w4 at *
      have HB4 := hide (HB.out.trans (hb4.mono HB.out.size))
      have HK4 := hide (HBK.out.below hb4 HBK.out.lt)
      clear hb4 r5 q5 a0 a1 a2 a3 a4 a5 p0 p1 p2 p3 p4 p5
      obtain ⟨a0, a1, a2, a3, a4, a5⟩ := HAT.out.below HB4.out HG.out
      obtain ⟨p0, p1, p2, p3, p4, p5, f0, f1, f2, f3, f4, f5⟩ := Blk.six HK4.out
      go_wp2_with fail
      have r5 := cell_regrown a5
      have q5 := cell_regrown p5
      refine wp_region_quiet_below (by kernel_rfl) (by kernel_rfl) ?_
      repeat (go_big_quiet_step (fail))
      refine wpQuiet_nil ?_
      intro _ hw'
      obtain ⟨⟨dq2, osq2⟩, hw''⟩ := hw'
      subst hw''
      have hb5 := below_regrown w4 dq2 osq2
      generalize Sort.grow (redrawn w4 dq2) osq2 = w5 at *
      have HB5 := hide (HB4.out.trans (hb5.mono HB4.out.size))
      have HK5 := hide (HK4.out.below hb5 HK4.out.lt)
      clear hb5 r5 q5 a0 a1 a2 a3 a4 a5 p0 p1 p2 p3 p4 p5 f0 f1 f2 f3 f4 f5
      obtain ⟨a0, a1, a2, a3, a4, a5⟩ := HAT.out.below HB5.out HG.out
      obtain ⟨p0, p1, p2, p3, p4, p5, f0, f1, f2, f3, f4, f5⟩ := Blk.six HK5.out
      clear c1 c2 c3 c4 w1 w2
      have HD := hide (show 0 < 1 from by omega)
      generalize hda : vx - vc = da at *
      generalize hdb : vy - vd = db at *
      cases hfa : farB da
      · have F1 := hide (sfar_no da hfa)
        cases hfb : farB db
        · have F2 := hide (sfar_no db hfb)
          have HF2 := HF.out
          rw [hfa, hfb, if_neg (by simp)] at HF2
          have HF3 := hide HF2
          have ha1 := farB_lt (x := da) (by rw [hfa]; simp)
          have hb1 := farB_lt (x := db) (by rw [hfb]; simp)
          have KZ1 := hide (fun w => KZ.out da (by omega) (by omega) w)
          have KZ2 := hide (fun w => KZ.out db (by omega) (by omega) w)
          have z1 := zz_lt53 ha1
          have z2 := zz_lt53 hb1
          have KU1 := hide (fun w => KU.out _ z1 w)
          have KU2 := hide (fun w => KU.out _ z2 w)
          have l1 := uvar_len10 z1
          have l2 := uvar_len10 z2
          have HSN := hide (show S ++ strN (uvar (zz da)) ++ strN (uvar (zz db)) = strN (D ++ (uvar (zz da) ++ uvar (zz db))) from by rw [strN_app, strN_app, hS.out, ByteArray.append_assoc])
          have HZ2 := hide (show (D ++ (uvar (zz da) ++ uvar (zz db))).length ≤ 20 * (i + 1) from by have := hsz.out; rw [List.length_append, List.length_append]; omega)
          have hadd1 := fun w1 => run_string_add_sum (P := Tryz.prog) w1 S (strN (uvar (zz da))) (by have := hsz.out; rw [hS.out, strN_size, strN_size]; omega)
          have hadd2 := fun w1 => run_string_add_sum (P := Tryz.prog) w1 (S ++ strN (uvar (zz da))) (strN (uvar (zz db))) (by have := hsz.out; rw [ByteArray.size_append, hS.out, strN_size, strN_size, strN_size]; omega)
          generalize strN (uvar (zz da)) = Y1 at *
          generalize strN (uvar (zz db)) = Y2 at *
          generalize hZ1 : zz da = Z1 at *
          generalize hZ2 : zz db = Z2 at *
          clear HF HF2 ha1 hb1 z1 z2 l1 l2 hfa hfb hda hdb n1 n2 n3 n4 hZ1 hZ2
          go_wp2_with fail
          refine (F1.out _).mono ?_
          rintro e w6 ⟨rfl, rfl⟩
          go_wp2_with fail
          refine (F2.out _).mono ?_
          rintro e w6 ⟨rfl, rfl⟩
          go_wp2_with fail
          refine (KZ1.out _).mono ?_
          rintro e w6 ⟨rfl, rfl⟩
          go_wp2_with fail
          refine (KU1.out _).mono ?_
          rintro e w6 ⟨rfl, hb6⟩
          go_wp2_with fail
          refine (KZ2.out _).mono ?_
          rintro e w7 ⟨rfl, rfl⟩
          go_wp2_with fail
          refine (KU2.out _).mono ?_
          rintro e w7 ⟨rfl, hb7⟩
          have hb67 := hb6.trans (hb7.mono hb6.size)
          have HB7 := hide (HB5.out.trans (hb67.mono HB5.out.size))
          have HK7 := hide (HK5.out.below hb67 HK5.out.lt)
          clear hb6 hb7 hb67 a0 a1 a2 a3 a4 a5 p0 p1 p2 p3 p4 p5 f0 f1 f2 f3 f4 f5
          obtain ⟨a0, a1, a2, a3, a4, a5⟩ := HAT.out.below HB7.out HG.out
          obtain ⟨p0, p1, p2, p3, p4, p5, f0, f1, f2, f3, f4, f5⟩ := Blk.six HK7.out
          go_wp2_with fail
          go_roundw
          case rel => exact ⟨i + 1, ⟨xb, xx, xu, xt, xp, xq⟩, _, by have := HLT.out; omega, by go_num, ⟨_, rfl, HSN.out⟩, (by show FIN = pts (fi xp) (fi xq) _ _; rw [HVX.out, HVY.out]; exact HF3.out), HZ2.out, HKX.out, blk_setC HK7.out _ _ _ _ _ _, (((((HB7.out.setCell (Nat.le_refl _) _).setCell (Nat.le_refl _) _).setCell (Nat.le_refl _) _).setCell (Nat.le_refl _) _).setCell (Nat.le_refl _) _).setCell (Nat.le_refl _) _⟩
          case measure => have := HLT.out; simp [intOf]; omega
        · have F2 := hide (sfar_yes db hfb)
          have HF2 := HF.out
          rw [hfa, hfb, if_pos (by simp)] at HF2
          have HF3 := hide HF2
          clear HF HF2 hfa hfb hda hdb n1 n2 n3 n4
          go_wp2_with fail
          refine (F1.out _).mono ?_
          rintro e w6 ⟨rfl, rfl⟩
          go_wp2_with fail
          refine (F2.out _).mono ?_
          rintro e w6 ⟨rfl, rfl⟩
          go_wp2_with fail
          go_ret2
          rw [HF3.out]
          exact ⟨by rw [strN_nil]; rfl, HB5.out⟩
      · have F1 := hide (sfar_yes da hfa)
        have HF2 := HF.out
        rw [hfa, if_pos (by simp)] at HF2
        have HF3 := hide HF2
        clear HF HF2 hfa hda hdb n1 n2 n3 n4
        go_wp2_with fail
        refine (F1.out _).mono ?_
        rintro e w6 ⟨rfl, rfl⟩
        go_wp2_with fail
        go_ret2
        rw [HF3.out]
        exact ⟨by rw [strN_nil]; rfl, HB5.out⟩
    · obtain rfl : n = i := by omega
      have hf := hfi.out
      rw [List.drop_eq_nil_of_le (by rw [HN.out]; exact Nat.le_refl _), pts] at hf
      have HF := hide hf
      clear hlt hin hf
      go_wp2_with fail
      go_ret2
      rw [HF.out]
      exact ⟨by rw [← hS.out]; rfl, hb.out⟩
end Go.Proofs.YtfkgmodgkifelaaGreatDoor
