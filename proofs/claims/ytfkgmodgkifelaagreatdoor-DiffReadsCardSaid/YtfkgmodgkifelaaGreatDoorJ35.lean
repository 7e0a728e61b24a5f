/- Columns: the program's bytes by steps, whole numbers: the loop. Columns: the program's bytes by steps, points. Columns: the four ways, as the program has them. -/
import Derived.Test.YtfkgmodgkifelaaGreatDoorJ34
import Derived.Test.YtfkgmodgkifelaaGreatDoorJ30
import Derived.Test.YtfkgmodgkifelaaGreatDoorJ32
namespace Go.Proofs.YtfkgmodgkifelaaGreatDoor
open Go.RowKit

set_option maxHeartbeats 4000000 in
set_option maxRecDepth 100000 in
theorem pdencodeN (k : Int) (hk : k = 2 ∨ k = 3) (l : List CD) (hl : Wok l) (v : Value) (w : World) (hv : InC w v l) :
    Calls Tryz.prog 91 #[.int .i64 k, v] w fun e w' => e = .returned (.tuple #[.string (strN (encS k 0 l)), .int .i64 0]) ∧ Below w.heap.size w w' := by
  obtain ⟨A, ca, rfl, hcell⟩ := hv.form
  have HC := hide hcell
  have HL := hide hl
  have hlen := hl.len
  have hk6 : ((k : Int) != 6) = true := by rw [bne_iff_ne]; omega
  have KH := hide (has_any k (by omega))
  have KS := hide (fun (c x : CD) hc hx (w : World) => pstepN k hk c x hc hx w)
  have hst := fun (w1 : World) (a1 : Addr) (m : Mode) (x y : Nat) => run_store Tryz.prog w1 a1 (.complex .f64 x y) m rfl
  obtain ⟨FIN, hFIN⟩ : ∃ FIN, encS k 0 l = FIN := ⟨_, rfl⟩
  rw [hFIN]
  have HFI := hide hFIN
  clear hv hcell hl hk hFIN
  generalize hn : l.length = n at *
  have HN := hide hn
  clear hn
  go_enter Tryz.func91, Tryz.ntmps91
  go_wp2_with fail
  refine (KH.out _).mono ?_
  rintro e w1 ⟨rfl, rfl⟩
  go_wp2_with fail
  go_loopw [17] (fun iv wr => ∃ (i : Nat) (c : CD) (D : List Nat) (sv' : Value), i ≤ n ∧ iv = .int .i64 (i : Int) ∧ Hid (FIN = D ++ encS k (wd k c) (l.drop i)) ∧ Hid (D.length ≤ 10 * i) ∧ Hid (KG c) ∧ Hid (Wr wr w.heap.size w.heap.size sv' D) ∧ Hid (Blk wr (w.heap.size + 1) 45 (clA c.b c.x c.u c.t c.p c.q)) ∧ Hid (Below w.heap.size w wr)) (fun iv _ => n - (intOf iv).toNat)
  case atStart =>
    refine ⟨0, CD.z, [], .slice none 0 0, by omega, rfl, by show FIN = _; rw [wd_z, ← HFI.out]; simp, Nat.le_refl _, kg_z, ⟨(Blk.new _ _ _).alloc _, ownU8_nil _ _, Nat.le_refl _⟩, ?_, ((Below.refl _ _).alloc (Nat.le_refl _) _).alloc (by simp) _⟩
    have := Blk.new (w.alloc (.cells #[.slice none 0 0] 77)) (clA false 0 0 ByteArray.empty 0 0) 45
    rwa [show (w.alloc (.cells #[.slice none 0 0] 77)).heap.size = w.heap.size + 1 by simp] at this
  case round =>
    obtain ⟨i, c, D, sv', hin, rfl, hfi, hsz, hkc, hw, hblk, hb⟩ := hrel
    by_cases hlt : i < n
    · obtain ⟨x, hx⟩ : ∃ x, l[i]? = some x := ⟨l[i]'(by rw [HN.out]; exact hlt), List.getElem?_eq_getElem _⟩
      obtain ⟨g, hA, hg, hat⟩ := HC.out i x hx
      subst hA
      obtain ⟨a0, a1, a2, a3, a4, a5⟩ := hat.below hb.out hg
      have hkx := HL.out.kg x (List.mem_of_getElem? hx)
      have hf := hfi.out
      rw [encS_on hx] at hf
      have HF2 := hide (show FIN = (D ++ uvar (zz (stN (wd k c) (wd k x)))) ++ encS k (wd k x) (l.drop (i + 1)) from by rw [hf, List.append_assoc])
      have hlu := uvar_len10 (zz_lt (stN_lo (wd k c) (wd k x)) (stN_hi (wd k c) (wd k x)))
      have HZ2 := hide (show (D ++ uvar (zz (stN (wd k c) (wd k x)))).length ≤ 10 * (i + 1) from by have := hsz.out; rw [List.length_append]; omega)
      have KS1 := hide (fun w => KS.out c x hkc.out hkx w)
      have HKX := hide hkx
      have HLT := hide hlt
      have hi0 : (0 : Int) ≤ (i : Int) := by omega
      have hi1 : (i : Int) < (n : Int) := by omega
      have hl0 := fun o => (hblk.out.alloc o).cell 0
      have hl1 := fun o => (hblk.out.alloc o).cell 1
      have hl2 := fun o => (hblk.out.alloc o).cell 2
      have hl3 := fun o => (hblk.out.alloc o).cell 3
      have hl4 := fun o => (hblk.out.alloc o).cell 4
      have hl5 := fun o => (hblk.out.alloc o).cell 5
      simp [clA] at hl0 hl1 hl2 hl3 hl4 hl5
      obtain ⟨xb, xx, xu, xt, xp, xq⟩ := x
      obtain ⟨cb, cx, cu, ct, cp, cq⟩ := c
      unfold CD.v clV clA at KS1
      simp only at KS1 a0 a1 a2 a3 a4 a5 hl0 hl1 hl2 hl3 hl4 hl5
      have hT := stN_lo (wd k ⟨cb, cx, cu, ct, cp, cq⟩) (wd k ⟨xb, xx, xu, xt, xp, xq⟩)
      have hT2 := stN_hi (wd k ⟨cb, cx, cu, ct, cp, cq⟩) (wd k ⟨xb, xx, xu, xt, xp, xq⟩)
      generalize stN (wd k ⟨cb, cx, cu, ct, cp, cq⟩) (wd k ⟨xb, xx, xu, xt, xp, xq⟩) = T at *
      clear hx hat hkx hf hlu hlt hg
      go_wp2_with fail
      refine (KS1.out _).mono ?_
      rintro e w1 ⟨rfl, hb1⟩
      clear a0 a1 a2 a3 a4 a5 hl0 hl1 hl2 hl3 hl4 hl5
      have hL1 := hide ((hblk.out.alloc _).below hb1 (hblk.out.alloc _).lt)
      have h91 := hide ((Blk.new _ _ _).below hb1 (Blk.new _ _ _).lt)
      have hW1 := hide ((hw.out.below ((Below.refl _ _).alloc (Nat.le_refl _) _)).below hb1)
      have hB1 := hide ((hb.out.alloc hb.out.size _).trans (hb1.mono (by simp; exact Nat.le_succ_of_le hb.out.size)))
      clear hb1
      unfold cl
      have hWa := hide (fun o => hW1.out.below ((Below.refl w1.heap.size w1).alloc (Nat.le_refl _) o))
      have hBa := hide (fun o => hB1.out.alloc hB1.out.size o)
      have hb9 := hide (Nat.ne_of_gt hw.out.blk.lt)
      have hn9 := hide (OwnU8.ne hW1.out.own h91.out (by decide))
      have hnL := hide (OwnU8.ne hW1.out.own hL1.out (by decide))
      have KV := hide (fun o => wsvar_any _ _ _ _ T hT hT2 _ (hWa.out o) (by have := hsz.out; omega) (hBa.out o).size)
      clear hT hT2
      go_wp2_with fail
      refine (KV.out _).mono ?_
      rintro e w2 ⟨rfl, sv2, hw2, hs2⟩
      have H9 := (h91.out.alloc _).fr hs2.fr (by
        rintro (h | h)
        · exact hb9.out h
        · exact hn9.out h.symm)
      have HL2 := hide ((hL1.out.alloc _).fr hs2.fr (by
        rintro (h | h)
        · omega
        · exact hnL.out h.symm))
      have HB2 := hide ((hBa.out _).trans (hs2.below (hWa.out _) (hBa.out _).size))
      have HW2 := hide hw2
      clear hw2 hs2
      obtain ⟨d0, d1, d2, d3, d4, d5, _, _, _, _, _, _⟩ := Blk.six H9
      obtain ⟨e0, e1, e2, e3, e4, e5, f0, f1, f2, f3, f4, f5⟩ := Blk.six HL2.out
      clear H9
      go_wp2_with fail
      go_roundw
      case rel =>
        refine ⟨i + 1, ⟨xb, xx, xu, xt, xp, xq⟩, _, sv2, by have := HLT.out; omega, by go_num, HF2.out, HZ2.out, HKX.out, ?_, blk_setC HL2.out _ _ _ _ _ _, ?_⟩
        · have hfs := ((((((Fr.refl w2 (fun k => k = w.heap.size + 1)).set 0 (.bool false)).set 1 (.bool xb)).set 2 (.int .i64 xx)).set 3 (.int .u64 xu)).set 4 (.string xt)).set 5 (.complex .f64 xp xq)
          exact ⟨HW2.out.blk.fr hfs (by omega), HW2.out.own.fr hfs (fun k hk h => OwnU8.ne HW2.out.own HL2.out (by decide) (by rw [hk, h])), Nat.le_refl _⟩
        · exact (((((HB2.out.setCell (Nat.le_succ _) _).setCell (Nat.le_succ _) _).setCell (Nat.le_succ _) _).setCell (Nat.le_succ _) _).setCell (Nat.le_succ _) _).setCell (Nat.le_succ _) _
      case measure => have := HLT.out; simp [intOf]; omega
    · obtain rfl : n = i := by omega
      have hf := hfi.out
      rw [List.drop_eq_nil_of_le (by rw [HN.out]; exact Nat.le_refl _), encS, List.append_nil] at hf
      have KQ := hide (wstring_any _ _ _ _ _ hw.out)
      rw [← hf] at KQ
      clear hlt hin hf
      go_wp2_with fail
      refine KQ.out.mono ?_
      rintro e w2 ⟨rfl, rfl⟩
      go_wp2_with fail
      go_ret2
      exact ⟨rfl, hb.out⟩
end Go.Proofs.YtfkgmodgkifelaaGreatDoor
namespace Go.Proofs.YtfkgmodgkifelaaGreatDoor
open Go.RowKit

set_option maxHeartbeats 1000000 in
set_option maxRecDepth 100000 in
theorem dsum_w (x y : Nat) (a b : Int) (hx : floatToIntVal .f64 x .i64 = some a) (hy : floatToIntVal .f64 y .i64 = some b) (ha : a.natAbs ≤ 9007199254740992) (hb : b.natAbs ≤ 9007199254740992) (w : World) :
    Calls Tryz.prog 157 #[.float .f64 x, .float .f64 y] w fun e w' => e = .returned (.bool (!farB (a + b))) ∧ w = w' := by
  have h4 := fun w => run_convert_float_int (P := Tryz.prog) w 153 2 .f64 .i64 x a (by kernel_rfl) Tryz.underlying2 hx
  have h5 := fun w => run_convert_float_int (P := Tryz.prog) w 153 2 .f64 .i64 y b (by kernel_rfl) Tryz.underlying2 hy
  have h6 : wrap64 (a + b) = a + b := by unfold wrap64; omega
  clear hx hy
  by_cases h1 : a + b < -9007199254740992
  · have e : Hid ((!farB (a + b)) = false) := by show _ = _; unfold farB; simp [h1]
    have h7 : decide (-9007199254740992 ≤ a + b) = false := by rw [decide_eq_false_iff_not]; omega
    rw [e.out]
    clear ha hb
    go_enter Tryz.func157, Tryz.ntmps157
    go_wp2_with fail
    go_ret
    exact ⟨rfl, rfl⟩
  · by_cases h2 : 9007199254740992 < a + b
    · have e : Hid ((!farB (a + b)) = false) := by show _ = _; unfold farB; simp [h2]
      have h7 : decide (-9007199254740992 ≤ a + b) = true := by rw [decide_eq_true_eq]; omega
      have h8 : decide (a + b ≤ 9007199254740992) = false := by rw [decide_eq_false_iff_not]; omega
      rw [e.out]
      clear ha hb h1
      go_enter Tryz.func157, Tryz.ntmps157
      go_wp2_with fail
      go_ret
      exact ⟨rfl, rfl⟩
    · have e : Hid ((!farB (a + b)) = true) := by show _ = _; unfold farB; simp [h1, h2]
      have h7 : decide (-9007199254740992 ≤ a + b) = true := by rw [decide_eq_true_eq]; omega
      have h8 : decide (a + b ≤ 9007199254740992) = true := by rw [decide_eq_true_eq]; omega
      rw [e.out]
      clear ha hb h1 h2
      go_enter Tryz.func157, Tryz.ntmps157
      go_wp2_with fail
      go_ret
      exact ⟨rfl, rfl⟩
set_option maxHeartbeats 1000000 in
set_option maxRecDepth 100000 in
theorem reach_w (x y z t : Nat) (a b c d : Int) (hx : floatToIntVal .f64 x .i64 = some a) (hy : floatToIntVal .f64 y .i64 = some b) (hz : floatToIntVal .f64 z .i64 = some c) (ht : floatToIntVal .f64 t .i64 = some d)
    (ha : a.natAbs ≤ 9007199254740992) (hb : b.natAbs ≤ 9007199254740992) (hc : c.natAbs ≤ 9007199254740992) (hd : d.natAbs ≤ 9007199254740992) (w : World) :
    Calls Tryz.prog 139 #[.complex .f64 x y, .complex .f64 z t] w fun e w' => e = .returned (.bool (!farB (a + c) && !farB (b + d))) ∧ w = w' := by
  have K1 := hide (dsum_w x z a c hx hz ha hc)
  have K2 := hide (dsum_w y t b d hy ht hb hd)
  clear ha hb hc hd hx hy hz ht
  cases h1 : (!farB (a + c))
  · rw [h1] at K1
    clear h1
    go_enter Tryz.func139, Tryz.ntmps139
    go_wp2_with fail
    refine (K1.out _).mono ?_
    rintro e w1 ⟨rfl, rfl⟩
    go_wp2_with fail
    go_ret
    exact ⟨rfl, rfl⟩
  · rw [h1] at K1
    clear h1
    generalize (!farB (b + d)) = r at *
    go_enter Tryz.func139, Tryz.ntmps139
    go_wp2_with fail
    refine (K1.out _).mono ?_
    rintro e w1 ⟨rfl, rfl⟩
    go_wp2_with fail
    refine (K2.out _).mono ?_
    rintro e w1 ⟨rfl, rfl⟩
    go_wp2_with fail
    go_ret
    exact ⟨rfl, rfl⟩
/-- A step between two points that may be: what delta.Step gives; where it is not too far it is the step. -/
theorem pstepP (c x : CD) (hc : KG c) (hx : KG x) : ∃ re im : Nat, (farB (fi x.p - fi c.p) = false → farB (fi x.q - fi c.q) = false → re = floatOfInt .f64 (fi x.p - fi c.p) ∧ im = floatOfInt .f64 (fi x.q - fi c.q)) ∧
    ∀ w, Calls Tryz.prog 136 #[.int .i64 6, c.v, x.v] w fun e w' => e = .returned (.tuple #[cl 0 0 re im, .int .i64 0]) ∧ Below w.heap.size w w' := by
  have n1 := hx.pa
  have n2 := hx.qa
  have n3 := hc.pa
  have n4 := hc.qa
  obtain ⟨re, im, h⟩ := csub_some (fi x.p) (fi x.q) (fi c.p) (fi c.q) n1 n2 n3 n4
  refine ⟨re, im, fun h1 h2 => ?_, fun w => ?_⟩
  · have h3 := csub_int (fi x.p) (fi x.q) (fi c.p) (fi c.q) n1 n2 n3 n4 (far_abs (by rw [h1]; simp)) (far_abs (by rw [h2]; simp))
    rw [h] at h3
    injection h3 with h3
    injection h3 with h4 h5
    exact ⟨h4, h5⟩
  · rw [← hx.pf, ← hx.qf, ← hc.pf, ← hc.qf] at h
    exact cstep_point c.b x.b c.t x.t c.x x.x c.u x.u c.p c.q x.p x.q re im h w
set_option maxHeartbeats 4000000 in
set_option maxRecDepth 100000 in
theorem pdencodeP (l : List CD) (hl : Wok l) (v : Value) (w : World) (hv : InC w v l) :
    Calls Tryz.prog 91 #[.int .i64 6, v] w fun e w' => e = .returned (.tuple #[.string (strN (pts 0 0 [] l).2), .int .i64 ((pts 0 0 [] l).1 : Nat)]) ∧ Below w.heap.size w w' := by
  obtain ⟨A, ca, rfl, hcell⟩ := hv.form
  have HC := hide hcell
  have HL := hide hl
  have hlen := hl.len
  have KH := hide (has_any 6 (by omega))
  have KS := hide (fun (c x : CD) hc hx => (pstepP c x hc hx))
  have hst := fun (w1 : World) (a1 : Addr) (m : Mode) (x y : Nat) => run_store Tryz.prog w1 a1 (.complex .f64 x y) m rfl
  obtain ⟨FIN, hFIN⟩ : ∃ FIN, pts 0 0 [] l = FIN := ⟨_, rfl⟩
  rw [hFIN]
  have HFI := hide hFIN
  clear hv hcell hl hFIN
  generalize hn : l.length = n at *
  have HN := hide hn
  clear hn
  go_enter Tryz.func91, Tryz.ntmps91
  go_wp2_with fail
  refine (KH.out _).mono ?_
  rintro e w1 ⟨rfl, rfl⟩
  go_wp2_with fail
  go_loopw [17] (fun iv wr => ∃ (i : Nat) (c : CD) (D : List Nat) (sv' : Value), i ≤ n ∧ iv = .int .i64 (i : Int) ∧ Hid (FIN = pts (fi c.p) (fi c.q) D (l.drop i)) ∧ Hid (D.length ≤ 20 * i) ∧ Hid (KG c) ∧ Hid (Wr wr w.heap.size w.heap.size sv' D) ∧ Hid (Blk wr (w.heap.size + 1) 45 (clA c.b c.x c.u c.t c.p c.q)) ∧ Hid (Below w.heap.size w wr)) (fun iv _ => n - (intOf iv).toNat)
  case atStart =>
    refine ⟨0, CD.z, [], .slice none 0 0, by omega, rfl, by show FIN = _; rw [show fi CD.z.p = 0 from (by kernel_rfl : fi 0 = 0), show fi CD.z.q = 0 from (by kernel_rfl : fi 0 = 0), ← HFI.out]; simp, Nat.le_refl _, kg_z, ⟨(Blk.new _ _ _).alloc _, ownU8_nil _ _, Nat.le_refl _⟩, ?_, ((Below.refl _ _).alloc (Nat.le_refl _) _).alloc (by simp) _⟩
    have := Blk.new (w.alloc (.cells #[.slice none 0 0] 77)) (clA false 0 0 ByteArray.empty 0 0) 45
    rwa [show (w.alloc (.cells #[.slice none 0 0] 77)).heap.size = w.heap.size + 1 by simp] at this
  case round =>
    obtain ⟨i, c, D, sv', hin, rfl, hfi, hsz, hkc, hw, hblk, hb⟩ := hrel
    by_cases hlt : i < n
    · obtain ⟨x, hx⟩ : ∃ x, l[i]? = some x := ⟨l[i]'(by rw [HN.out]; exact hlt), List.getElem?_eq_getElem _⟩
      obtain ⟨g, hA, hg, hat⟩ := HC.out i x hx
      subst hA
      obtain ⟨a0, a1, a2, a3, a4, a5⟩ := hat.below hb.out hg
      have hkx := HL.out.kg x (List.mem_of_getElem? hx)
      have hf := hfi.out
      rw [pts_on hx] at hf
      have n1 := hkx.pa
      have n2 := hkx.qa
      have n3 := hkc.out.pa
      have n4 := hkc.out.qa
      obtain ⟨re, im, hre, hstep⟩ := KS.out c x hkc.out hkx
      have KS1 := hide hstep
      have HRE := hide hre
      have KM := hide (fun w => may_any x.p x.q (fi x.p) (fi x.q) hkx.pw hkx.qw w)
      have KR := hide (fun w => reach_w x.p x.q (Op.negFloat .f64 c.p) (Op.negFloat .f64 c.q) (fi x.p) (fi x.q) (-(fi c.p)) (-(fi c.q)) hkx.pi hkx.qi (toInt_neg _ _ n3 hkc.out.pi) (toInt_neg _ _ n4 hkc.out.qi) n1 n2 (by omega) (by omega) w)
      rw [show fi x.p + -fi c.p = fi x.p - fi c.p from rfl, show fi x.q + -fi c.q = fi x.q - fi c.q from rfl] at KR
      have HKX := hide hkx
      have HLT := hide hlt
      have hi0 : (0 : Int) ≤ (i : Int) := by omega
      have hi1 : (i : Int) < (n : Int) := by omega
      have hl0 := fun o => (hblk.out.alloc o).cell 0
      have hl1 := fun o => (hblk.out.alloc o).cell 1
      have hl2 := fun o => (hblk.out.alloc o).cell 2
      have hl3 := fun o => (hblk.out.alloc o).cell 3
      have hl4 := fun o => (hblk.out.alloc o).cell 4
      have hl5 := fun o => (hblk.out.alloc o).cell 5
      simp [clA] at hl0 hl1 hl2 hl3 hl4 hl5
      have HF := hide hf
      obtain ⟨xb, xx, xu, xt, xp, xq⟩ := x
      obtain ⟨cb, cx, cu, ct, cp, cq⟩ := c
      unfold CD.v clV clA at KS1
      simp only at KS1 KM KR HRE HF a0 a1 a2 a3 a4 a5 hl0 hl1 hl2 hl3 hl4 hl5
      generalize hda : fi xp - fi cp = da at *
      generalize hdb : fi xq - fi cq = db at *
      clear hx hat hkx hf hg n1 n2 n3 n4 hre hstep hda hdb
      go_wp2_with fail
      refine (KS1.out _).mono ?_
      rintro e w1 ⟨rfl, hb1⟩
      clear a0 a1 a2 a3 a4 a5 hl0 hl1 hl2 hl3 hl4 hl5
      have hL1 := hide ((hblk.out.alloc _).below hb1 (hblk.out.alloc _).lt)
      have h91 := hide ((Blk.new _ _ _).below hb1 (Blk.new _ _ _).lt)
      have hW1 := hide ((hw.out.below ((Below.refl _ _).alloc (Nat.le_refl _) _)).below hb1)
      have hB1 := hide ((hb.out.alloc hb.out.size _).trans (hb1.mono (by simp; exact Nat.le_succ_of_le hb.out.size)))
      clear hb1
      unfold cl
      have hWa := hide (fun o => hW1.out.below ((Below.refl w1.heap.size w1).alloc (Nat.le_refl _) o))
      have hBa := hide (fun o => hB1.out.alloc hB1.out.size o)
      have hb9 := hide (Nat.ne_of_gt hw.out.blk.lt)
      have hn9 := hide (OwnU8.ne hW1.out.own h91.out (by decide))
      have hnL := hide (OwnU8.ne hW1.out.own hL1.out (by decide))
      have g9 := fun o => (h91.out.alloc o).cell 5
      have gL := fun o => (hL1.out.alloc o).cell 5
      simp [clA] at g9 gL
      have hneg : ∀ x y : Nat, Op.unary .neg (.complex .f64 x y) = pure (.complex .f64 (Op.negFloat .f64 x) (Op.negFloat .f64 y)) := fun _ _ => rfl
      by_cases hfar : farB da = true ∨ farB db = true
      · have HF2 := HF.out
        rw [if_pos hfar] at HF2
        have HF3 := hide HF2
        have hr : (!farB da && !farB db) = false := by rcases hfar with h | h <;> simp [h]
        rw [hr] at KR
        clear HF HF2 hfar hr HRE
        go_wp2_with fail
        refine (KM.out _).mono ?_
        rintro e w0 ⟨rfl, rfl⟩
        go_wp2_with fail
        refine (KR.out _).mono ?_
        rintro e w0 ⟨rfl, rfl⟩
        go_wp2_with fail
        go_ret2
        rw [HF3.out]
        exact ⟨by rw [strN_nil]; rfl, hBa.out _⟩
      · have HF2 := HF.out
        rw [if_neg hfar] at HF2
        have HF3 := hide HF2
        rw [not_or] at hfar
        have hfa : farB da = false := by simpa using hfar.1
        have hfb : farB db = false := by simpa using hfar.2
        obtain ⟨e1, e2⟩ := HRE.out hfa hfb
        rw [hfa, hfb] at KR
        have m1 := far_abs hfar.1
        have m2 := far_abs hfar.2
        have hkg : KG ⟨false, 0, 0, ByteArray.empty, re, im⟩ := ⟨by show (-9223372036854775808 : Int) ≤ 0; omega, by show (0 : Int) ≤ 9223372036854775807; omega, Int.le_refl 0, by show (0 : Int) < 18446744073709551616; omega, by simp [maxLen, ByteArray.size], ⟨da, m1, e1⟩, ⟨db, m2, e2⟩⟩
        have hcb : cellB 6 ⟨false, 0, 0, ByteArray.empty, re, im⟩ = uvar (zz da) ++ uvar (zz db) := by
          unfold cellB
          simp only [show ¬ ((6 : Int) = 1) by omega, show ¬ ((6 : Int) = 2) by omega, show ¬ ((6 : Int) = 3) by omega, show ¬ ((6 : Int) = 4 ∨ (6 : Int) = 5) by omega, if_false]
          rw [e1, e2, fi_int da m1, fi_int db m2]
        have l1 := uvar_len10 (zz_lt53 (farB_lt hfar.1))
        have l2 := uvar_len10 (zz_lt53 (farB_lt hfar.2))
        have HZ2 := hide (show (D ++ (uvar (zz da) ++ uvar (zz db))).length ≤ 20 * (i + 1) from by have := hsz.out; rw [List.length_append, List.length_append]; omega)
        have KP := hide (fun o => pput_all 6 (by omega) (by omega) _ _ _ _ ⟨false, 0, 0, ByteArray.empty, re, im⟩ hkg (by simp [ByteArray.size]) _ (hWa.out o) (by have := hsz.out; omega) (hBa.out o).size)
        rw [hcb] at KP
        unfold CD.v clV clA at KP
        simp only at KP
        have HKF := hide (show True from trivial)
        clear HF HF2 hfar hfa hfb e1 e2 m1 m2 hkg hcb l1 l2 HRE
        go_wp2_with fail
        refine (KM.out _).mono ?_
        rintro e w0 ⟨rfl, rfl⟩
        go_wp2_with fail
        refine (KR.out _).mono ?_
        rintro e w0 ⟨rfl, rfl⟩
        go_wp2_with fail
        clear g9 gL
        refine (KP.out _).mono ?_
        rintro e w2 ⟨rfl, sv2, hw2, hs2⟩
        have H9 := (h91.out.alloc _).fr hs2.fr (by
          rintro (h | h)
          · exact hb9.out h
          · exact hn9.out h.symm)
        have HL2 := hide ((hL1.out.alloc _).fr hs2.fr (by
          rintro (h | h)
          · omega
          · exact hnL.out h.symm))
        have HB2 := hide ((hBa.out _).trans (hs2.below (hWa.out _) (hBa.out _).size))
        have HW2 := hide hw2
        clear hw2 hs2
        obtain ⟨d0, d1, d2, d3, d4, d5, _, _, _, _, _, _⟩ := Blk.six H9
        obtain ⟨e0, e1, e2, e3, e4, e5, f0, f1, f2, f3, f4, f5⟩ := Blk.six HL2.out
        clear H9
        go_wp2_with fail
        go_roundw
        case rel =>
          refine ⟨i + 1, ⟨xb, xx, xu, xt, xp, xq⟩, _, sv2, by have := HLT.out; omega, by go_num, HF3.out, HZ2.out, HKX.out, ?_, blk_setC HL2.out _ _ _ _ _ _, ?_⟩
          · have hfs := ((((((Fr.refl w2 (fun k => k = w.heap.size + 1)).set 0 (.bool false)).set 1 (.bool xb)).set 2 (.int .i64 xx)).set 3 (.int .u64 xu)).set 4 (.string xt)).set 5 (.complex .f64 xp xq)
            exact ⟨HW2.out.blk.fr hfs (by omega), HW2.out.own.fr hfs (fun k hk h => OwnU8.ne HW2.out.own HL2.out (by decide) (by rw [hk, h])), Nat.le_refl _⟩
          · exact (((((HB2.out.setCell (Nat.le_succ _) _).setCell (Nat.le_succ _) _).setCell (Nat.le_succ _) _).setCell (Nat.le_succ _) _).setCell (Nat.le_succ _) _).setCell (Nat.le_succ _) _
        case measure => have := HLT.out; simp [intOf]; omega
    · obtain rfl : n = i := by omega
      have hf := hfi.out
      rw [List.drop_eq_nil_of_le (by rw [HN.out]; exact Nat.le_refl _), pts] at hf
      have HF := hide hf
      have KQ := hide (wstring_any _ _ _ _ _ hw.out)
      clear hlt hin hf
      go_wp2_with fail
      refine KQ.out.mono ?_
      rintro e w2 ⟨rfl, rfl⟩
      go_wp2_with fail
      go_ret2
      rw [HF.out]
      exact ⟨rfl, hb.out⟩
end Go.Proofs.YtfkgmodgkifelaaGreatDoor
namespace Go.Proofs.YtfkgmodgkifelaaGreatDoor
open Go.RowKit

set_option maxHeartbeats 1000000 in
set_option maxRecDepth 100000 in
theorem sure_any (F : FuncId) (w : World) :
    Calls Tryz.prog 86 #[.func (.func F) #[] #[]] w fun e w' => e = .returned (.func (.func 128) #[] #[.pointer (some ⟨w.heap.size, 0, none⟩)]) ∧ w.alloc (.cells #[.func (.func F) #[] #[]] 149) = w' := by
  go_enter Tryz.func86, Tryz.ntmps86
  go_wp2_with fail
  go_ret
  exact ⟨rfl, rfl⟩
set_option maxHeartbeats 1000000 in
set_option maxRecDepth 100000 in
theorem sure1_any (E : FuncId) (hE : ∀ args w, (callFunc E args).run Tryz.prog w = .ok (.enter E args) w) (k : Int) (v : Value) (S : ByteArray) (p : Nat) (w : World) (hp : w.cell? ⟨p, 0, none⟩ = some (.func (.func E) #[] #[]))
    (hK : Calls Tryz.prog E #[.int .i64 k, v] w fun e w' => e = .returned (.string S) ∧ Below w.heap.size w w') :
    Calls Tryz.prog 128 #[.int .i64 k, v, .pointer (some ⟨p, 0, none⟩)] w fun e w' => e = .returned (.tuple #[.string S, .int .i64 0]) ∧ Below w.heap.size w w' := by
  have KK := hide hK
  clear hK
  go_enter Tryz.func128, Tryz.ntmps128
  go_wp2_with fail
  refine KK.out.mono ?_
  rintro e w1 ⟨rfl, hb1⟩
  go_wp2_with fail
  go_ret2
  exact ⟨rfl, hb1⟩
/-- The ways, one behind the other. -/
def wayA (p1 p2 p3 : Nat) : Array Value := #[.nilFunc, .nilFunc,
  .func (.func 128) #[] #[.pointer (some ⟨p1, 0, none⟩)], .func (.func 88) #[] #[],
  .func (.func 128) #[] #[.pointer (some ⟨p2, 0, none⟩)], .func (.func 90) #[] #[],
  .func (.func 91) #[] #[], .func (.func 92) #[] #[],
  .func (.func 128) #[] #[.pointer (some ⟨p3, 0, none⟩)], .func (.func 94) #[] #[]]
theorem info_wa (a b c : Nat) : (Tryz.prog.info? 104).map (·.size) = some (wayA a b c).size := by kernel_rfl
theorem wa_one (a b c : Nat) : (wayA a b c).all (·.oneCell') = true := by simp [wayA, Value.oneCell']
theorem blk_m4 (w : World) (a b c : Obj) (cs : Array Value) (t : TypeId) : Blk ((((w.alloc a).alloc b).alloc c).alloc (.cells cs t)) (w.heap.size + 1 + 1 + 1) t cs := by
  have := Blk.new (((w.alloc a).alloc b).alloc c) cs t
  rwa [show (((w.alloc a).alloc b).alloc c).heap.size = w.heap.size + 1 + 1 + 1 by simp] at this
theorem blk_m5 (w : World) (a b c d : Obj) (cs : Array Value) (t : TypeId) : Blk (((((w.alloc a).alloc b).alloc c).alloc d).alloc (.cells cs t)) (w.heap.size + 1 + 1 + 1 + 1) t cs := by
  have := Blk.new ((((w.alloc a).alloc b).alloc c).alloc d) cs t
  rwa [show ((((w.alloc a).alloc b).alloc c).alloc d).heap.size = w.heap.size + 1 + 1 + 1 + 1 by simp] at this
set_option maxHeartbeats 4000000 in
set_option maxRecDepth 100000 in
theorem ways_any (w : World) : Calls Tryz.prog 51 #[] w fun e w' => (∃ p1 p2 p3, e = .returned (.agg (wayA p1 p2 p3)) ∧ Blk w' p1 149 #[.func (.func 87) #[] #[]] ∧ Blk w' p2 149 #[.func (.func 89) #[] #[]] ∧ Blk w' p3 149 #[.func (.func 93) #[] #[]]) ∧ Below w.heap.size w w' := by
  have KS := hide sure_any
  go_enter Tryz.func51, Tryz.ntmps51
  go_wp2_with fail
  refine (KS.out _ _).mono ?_
  rintro e w1 ⟨rfl, rfl⟩
  go_wp2_with fail
  refine (KS.out _ _).mono ?_
  rintro e w1 ⟨rfl, rfl⟩
  go_wp2_with fail
  refine (KS.out _ _).mono ?_
  rintro e w1 ⟨rfl, rfl⟩
  go_wp2_with fail
  have HZ := hide (fun o1 o2 o3 o4 o5 => (((((Below.refl w.heap.size w).alloc (Nat.le_refl _) o1).alloc (by simp) o2).alloc (by simp; omega) o3).alloc (by simp; omega) o4).alloc (by simp; omega) o5)
  refine bodyPost_ret (results_cell_row rfl _ _ w.heap.size 104 (wayA (w.heap.size + 1 + 1) (w.heap.size + 1 + 1 + 1) (w.heap.size + 1 + 1 + 1 + 1)) (0, 0) _ rfl (((((Blk.new w _ _).alloc _).alloc _).alloc _).alloc _).out Tryz.underlying104 rfl (info_wa _ _ _)) rfl ?_
  refine ⟨⟨_, _, _, rfl, ?_, ?_, ?_⟩, HZ.out _ _ _ _ _⟩
  · exact ((blk_n3 w _ _ _ _).alloc _).alloc _
  · exact (blk_m4 w _ _ _ _ _).alloc _
  · exact blk_m5 w _ _ _ _ _ _
end Go.Proofs.YtfkgmodgkifelaaGreatDoor
