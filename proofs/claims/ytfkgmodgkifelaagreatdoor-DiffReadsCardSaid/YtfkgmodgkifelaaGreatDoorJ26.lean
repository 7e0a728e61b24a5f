/- Dictionaries: the document's place of a cell. Dictionaries, read: the document's answer. Dictionaries, read: both answers at every input, and the law, told what its example answers. -/
import Derived.Test.YtfkgmodgkifelaaGreatDoorJ15
import Derived.Lib.QuietBelow
import Derived.Test.YtfkgmodgkifelaaGreatDoorJ16
namespace Go.Proofs.YtfkgmodgkifelaaGreatDoor
open Go.RowKit

/-- How the search for a place ends. -/
def PlaPost (k : Int) (l : List CD) (c : CD) (w : World) (e : Ending) (w' : World) : Prop :=
  (l.any (fun x => ceq k x c) = false ∧ e = .returned (.int .i64 (-1)) ∧ Below w.heap.size w w') ∨ (l.any (fun x => ceq k x c) = true ∧ ∃ i : Nat, i ≤ 100000 ∧ l.findIdx? (fun x => ceq k x c) = some i ∧ e = .returned (.int .i64 (i : Int)) ∧ Below w.heap.size w w')
set_option maxHeartbeats 4000000 in
set_option maxRecDepth 100000 in
theorem splace_any (k : Int) (h1 : 1 ≤ k) (h6 : k ≤ 6) (l : List CD) (hl : l.length ≤ 100000) (c : CD) (B : Nat) (V : Value) (w : World) (ho : w.ownsRow B 45 6 V l.length (l.flatMap cellsC)) :
    Calls Tryz.prog 102 #[.int .i64 k, V, c.v] w (PlaPost k l c w) := by
  have KE := hide (fun (a : CD) (w : World) => requal_any k h1 h6 a c w)
  obtain ⟨A, ca, rfl⟩ := own_form3 ho
  have HO := hide ho
  have hl1 : (l.length : Int) ≤ 100000 := by omega
  generalize hn : l.length = n at *
  have HN := hide hn
  clear ho hn
  obtain ⟨cb, cx, cu, ct, cp, cq⟩ := c
  unfold CD.v clV clA
  unfold CD.v clV clA at KE
  simp only at KE ⊢
  go_enter Tryz.func102, Tryz.ntmps102
  go_wp2_with fail
  have hk1 := Blk.new w #[.bool false, .bool cb, .int .i64 cx, .int .u64 cu, .string ct, .complex .f64 cp cq] 45
  have hb1 : Below w.heap.size w (w.alloc (.cells #[.bool false, .bool cb, .int .i64 cx, .int .u64 cu, .string ct, .complex .f64 cp cq] 45)) := (Below.refl _ _).alloc (Nat.le_refl _) _
  obtain ⟨W1, hW1⟩ : ∃ W1, w.alloc (.cells #[.bool false, .bool cb, .int .i64 cx, .int .u64 cu, .string ct, .complex .f64 cp cq] 45) = W1 := ⟨_, rfl⟩
  rw [hW1] at hk1 hb1 ⊢
  have HK1 := hide hk1
  have HB1 := hide hb1
  have HO1 := hide (own_below HO.out hb1)
  clear hW1 hk1 hb1
  go_loopw [7] (fun iv wr => ∃ i : Nat, i ≤ n ∧ iv = .int .i64 (i : Int) ∧ Hid (∀ (j : Nat) (x : CD), j < i → l[j]? = some x → ceq k x ⟨cb, cx, cu, ct, cp, cq⟩ = false) ∧ Hid (Below W1.heap.size W1 wr)) (fun iv _ => n - (intOf iv).toNat)
  case atStart => exact ⟨0, by omega, rfl, (by show ∀ (j : Nat) (x : CD), j < 0 → _; intro j x h; omega), Below.refl _ _⟩
  case round =>
    obtain ⟨i, hin, rfl, hno, hbe⟩ := hrel
    have hi0 : (0 : Int) ≤ (i : Int) := by omega
    have hi9 : (i : Int) ≤ 100000 := by omega
    by_cases hlt : i < n
    · have hi1 : (i : Int) < (n : Int) := by omega
      obtain ⟨x, hx⟩ : ∃ x, l[i]? = some x := ⟨l[i]'(by rw [HN.out]; exact hlt), List.getElem?_eq_getElem _⟩
      have hor := own_below HO1.out hbe.out
      obtain ⟨g, cg, hAg⟩ := own_addr hor (by omega)
      have hA : A = some ⟨g, 0, none⟩ := by injection hAg
      subst hA
      have hog := own_atC hor HN.out.symm hx
      obtain ⟨a0, a1, a2, a3, a4, a5⟩ := hog
      obtain ⟨b0, b1, b2, b3, b4, b5, _, _, _, _, _, _⟩ := Blk.six (HK1.out.below hbe.out HK1.out.lt)
      have HX := hide hx
      have KX := hide (KE.out x)
      obtain ⟨xb, xx, xu, xt, xp, xq⟩ := x
      simp only at KX a0 a1 a2 a3 a4 a5
      have HLT := hide hlt
      have r0 := cell_regrown a0
      have r1 := cell_regrown a1
      have r2 := cell_regrown a2
      have r3 := cell_regrown a3
      have r4 := cell_regrown a4
      have r5 := cell_regrown a5
      have q0 := cell_regrown b0
      have q1 := cell_regrown b1
      have q2 := cell_regrown b2
      have q3 := cell_regrown b3
      have q4 := cell_regrown b4
      have q5 := cell_regrown b5
      have KQ := hide (fun d os => Calls.regrown_of (d := d) (os := os) (KX.out (Sort.grow (redrawn wr d) os)))
      clear hx hlt hor hAg a0 a1 a2 a3 a4 a5 b0 b1 b2 b3 b4 b5
      go_wp2_with fail
      refine wp_region_quiet_below (by kernel_rfl) (by kernel_rfl) ?_
      repeat (go_big_quiet_step (exact KQ.out _ _))
      refine wpQuiet_nil ?_
      intro _ hw'
      obtain ⟨⟨dq, osq⟩, hw''⟩ := hw'
      subst hw''
      have hb4 := below_regrown wr dq osq
      generalize Sort.grow (redrawn wr dq) osq = w4 at *
      have HB4 := hide (hbe.out.trans (hb4.mono hbe.out.size))
      clear hb4 r0 r1 r2 r3 r4 r5 q0 q1 q2 q3 q4 q5 KQ
      generalize hOK : ceq k ⟨xb, xx, xu, xt, xp, xq⟩ ⟨cb, cx, cu, ct, cp, cq⟩ = OK at *
      have HOK := hide hOK
      clear hOK
      cases OK
      · go_wp2_with fail
        go_roundw
        case rel =>
          refine ⟨i + 1, by have := HLT.out; omega, by go_num, ?_, HB4.out⟩
          show ∀ (j : Nat) (x : CD), j < i + 1 → _
          intro j y hj hy
          by_cases hji : j = i
          · subst hji
            rw [HX.out] at hy
            injection hy with hy
            rw [← hy]; exact HOK.out
          · exact hno.out j y (by omega) hy
        case measure => have := HLT.out; simp [intOf]; omega
      · go_wp2_with fail
        go_ret
        refine .inr ⟨by rw [List.any_eq_true]; exact ⟨_, List.mem_of_getElem? HX.out, HOK.out⟩, i, by omega, ?_, rfl, HB1.out.trans (HB4.out.mono HB1.out.size)⟩
        rw [List.findIdx?_eq_some_iff_getElem]
        have hil := (List.getElem?_eq_some_iff.1 HX.out)
        refine ⟨hil.1, by rw [hil.2]; exact HOK.out, fun j hj => ?_⟩
        rw [hno.out j _ hj (List.getElem?_eq_getElem (by have := hil.1; omega))]
        simp
    · obtain rfl : n = i := by omega
      clear hlt hin
      go_wp2_with fail
      go_ret
      refine .inl ⟨?_, rfl, HB1.out.trans (hbe.out.mono HB1.out.size)⟩
      rw [List.any_eq_false]
      intro x hx
      obtain ⟨j, hj⟩ := List.getElem?_of_mem hx
      have hjn := (List.getElem?_eq_some_iff.1 hj).1
      rw [hno.out j x (by rw [← HN.out]; exact hjn) hj]
      simp
end Go.Proofs.YtfkgmodgkifelaaGreatDoor
namespace Go.Proofs.YtfkgmodgkifelaaGreatDoor
open Go.RowKit

set_option maxHeartbeats 8000000 in
set_option maxRecDepth 100000 in
theorem sddecode_in (k : Int) (h1 : 1 ≤ k) (h6 : k ≤ 6) (s : ByteArray) (hs : s.size ≤ maxLen) (n : Nat) (hn : n ≤ 10000) (w : World) (hT : Tabs w) :
    Calls Tryz.prog 59 #[.int .i64 k, .string s, .int .i64 n] w (DPost w (dspecD k (bn s) n)) := by
  have KK := hide (skind_any k true (by show _ = _; rw [eq_comm, decide_eq_true_eq]; exact ⟨h1, h6⟩))
  have KF := hide (fun (s' : ByteArray) (hs : s'.size ≤ maxLen) (w : World) => sfew_any s' hs w)
  have KS := hide (fun (s' : ByteArray) (hs : s'.size ≤ maxLen) (w : World) (hT : Tabs w) => sread_all k h1 h6 s' hs w hT)
  have KP := hide (fun l hl c B V w ho => splace_any k h1 h6 l hl c B V w ho)
  rcases hf : few (bn s) 0 with ⟨many, a, e0⟩
  have hle := few_le0 (bn s)
  have h64 := few_lt64 (bn s)
  rw [hf, bn_len] at hle
  rw [hf] at h64
  simp only at hle h64
  have K1 := hide (KF.out s hs)
  rw [hf] at K1
  simp only at K1
  have hspec : dspecD k (bn s) n = if e0 = 0 then (if n < many then (12, []) else if (dgo k (bn s) many a []).1 = 0 then pgo (bn s) (dgo k (bn s) many a []).2.2 n (dgo k (bn s) many a []).2.1 0 [] else ((dgo k (bn s) many a []).1, [])) else (e0, []) := by
    unfold dspecD; rw [hf]
  generalize dspecD k (bn s) n = FIN at *
  have HFI := hide hspec
  obtain ⟨i0, hi, hz0, hz1, hz2⟩ := info_parts info_cC
  have HT := hide hT
  have hS := hide hs
  have hn0 : (0 : Int) ≤ (n : Int) := by omega
  have hn1 : (n : Int) ≤ 10000 := by omega
  have hms : s.size ≤ 9223372036854775807 := by unfold maxLen at hs; omega
  have hst := fun (w1 : World) (a1 : Addr) (m : Mode) (x y : Nat) => run_store Tryz.prog w1 a1 (.complex .f64 x y) m rfl
  clear hspec hf hT hs h1 h6
  go_enter Tryz.func59, Tryz.ntmps59
  go_wp2_with fail
  refine (KK.out _).mono ?_
  rintro e w1 ⟨rfl, rfl⟩
  go_wp2_with fail
  refine (K1.out _).mono ?_
  rintro e w1 ⟨rfl, rfl⟩
  by_cases he : e0 = 0
  · subst he
    have hfi := HFI.out
    rw [if_pos rfl] at hfi
    have HFJ := hide hfi
    clear HFI hfi
    by_cases hbig : n < many
    · obtain rfl : FIN = (12, []) := by have h := HFJ.out; rwa [if_pos hbig] at h
      have g1 : (n : Int) < (many : Int) := by omega
      clear HFJ hbig
      go_wp2_with fail
      go_ret2
      exact ⟨_, rfl, inC_nil _, Below.refl _ _⟩
    · have hfi := HFJ.out
      rw [if_neg hbig] at hfi
      obtain ⟨RES, hRES⟩ : ∃ RES, dgo k (bn s) many a [] = RES := ⟨_, rfl⟩
      rw [hRES] at hfi
      have HFK := hide hfi
      have HRES := hide hRES
      have g1 : decide ((n : Int) < (many : Int)) = false := by rw [decide_eq_false_iff_not]; omega
      have g1n : decide (n < many) = false := by rw [decide_eq_false_iff_not]; omega
      have hmm : many ≤ 10000 := by omega
      have hfit : many ≤ n := by omega
      have hmi : (many : Int) ≤ 10000 := by omega
      have HX0 := hide (bn_drop s a)
      have hx0 : (s.extract a s.size).size = s.size - a := by simp
      clear HFJ hfi hRES hbig
      go_wp2_with fail
      go_loopw [1, 11, 12] (fun sv dv iv wr => ∃ (i p : Nat) (l : List CD) (s' : ByteArray), i ≤ many ∧ iv = .int .u64 (i : Int) ∧ sv = .string s' ∧ Hid (bn s' = (bn s).drop p) ∧ p ≤ s.size ∧ Hid (s'.size = s.size - p) ∧ Hid (l.length = i) ∧ Hid (dgo k (bn s) (many - i) p l = RES) ∧ Hid (wr.ownsRow w.heap.size 45 6 dv i (l.flatMap cellsC)) ∧ Hid (Below w.heap.size w wr)) (fun _ _ iv _ => many - (intOf iv).toNat)
      case atStart => exact ⟨0, a, [], s.extract a s.size, by omega, rfl, rfl, HX0.out, hle, hx0, rfl, HRES.out, World.ownsRow_nil _ _ _ _, Below.refl _ _⟩
      case round =>
        obtain ⟨i, p, l, s', hi9, rfl, rfl, hbn, hp, hsz, hll, hgo, how, hbe⟩ := hrel
        obtain ⟨A, ca, rfl⟩ := own_form3 how.out
        have hi0 : (0 : Int) ≤ (i : Int) := by omega
        have hss : s'.size ≤ s.size := by have := hsz.out; omega
        have hss2 : s'.size ≤ 9223372036854775807 := by omega
        by_cases hlt : i < many
        · obtain ⟨j, hj⟩ : ∃ j, many - i = j + 1 := ⟨many - i - 1, by omega⟩
          have hi1 : (i : Int) < (many : Int) := by omega
          rcases hg : gp k ((bn s).drop p) with ⟨c, m, e', er⟩
          have hle2 := gp_le k ((bn s).drop p)
          have K2 := hide (KS.out s' (Nat.le_trans hss hS.out) wr (HT.out.below hbe.out))
          have hr := hgo.out
          rw [hj, dgo_on k (bn s) j p l c m e' er hg] at hr
          rw [hbn.out, hg] at K2
          rw [hg, List.length_drop, bn_len] at hle2
          simp only at K2 hle2
          have HRR := hide hr
          have HLT := hide hlt
          have HJ := hide hj
          have hmle : m ≤ s'.size := by have := hsz.out; omega
          have HPC := hide (fun w2 h => KP.out l (by have := hll.out; omega) c w.heap.size (.slice A i ca) w2 h)
          have HMP := hide (show p + m ≤ s.size by omega)
          obtain ⟨cb, cx, cu, ct, cp, cq⟩ := c
          unfold CD.v clV clA at K2 HPC
          simp only at K2 HPC
          clear hr hg hgo hlt hj hle2
          go_wp2_with fail
          refine K2.out.mono ?_
          rintro e w2 ⟨rfl, hb2⟩
          have HB2 := hide (hbe.out.trans (hb2.mono hbe.out.size))
          have HO2 := hide (own_below how.out hb2)
          have hb2s := HB2.out.size
          clear hb2 K2
          by_cases her : er = 0
          · subst her
            have hrr := HRR.out
            rw [if_pos rfl] at hrr
            have HRS := hide hrr
            have HBA := hide ((Below.refl w2.heap.size w2).alloc (Nat.le_refl _) (.cells #[.bool false, .bool cb, .int .i64 cx, .int .u64 cu, .string ct, .complex .f64 cp cq] 45))
            have hkx := Blk.new w2 #[.bool false, .bool cb, .int .i64 cx, .int .u64 cu, .string ct, .complex .f64 cp cq] 45
            have how2 := own_below HO2.out HBA.out
            have hl2 := hll.out
            obtain ⟨wz, hwz⟩ : ∃ wz, w2.alloc (.cells #[.bool false, .bool cb, .int .i64 cx, .int .u64 cu, .string ct, .complex .f64 cp cq] 45) = wz := ⟨_, rfl⟩
            have HPC2 := HPC.out wz (by rw [hl2, ← hwz]; exact how2)
            have HBZ0 := HBA.out
            rw [hwz] at hkx how2 HBZ0
            have HWZ := hide hwz
            have HKX := hide hkx
            have HOZ := hide how2
            have HBZ := hide (HB2.out.trans (HBZ0.mono HB2.out.size))
            have HPD := hide HPC2
            clear HPC2 HBZ0 hkx how2 hl2 hwz hrr HRR HPC
            go_wp2_with fail
            rw [HWZ.out]
            refine HPD.out.mono ?_
            rintro e w3 (⟨hno, rfl, hb3⟩ | ⟨hyes, i2, hi2, _, rfl, hb3⟩)
            · have hrr := HRS.out
              rw [if_neg (by rw [hno]; simp)] at hrr
              have HRT := hide hrr
              have HB3 := hide (HBZ.out.trans (hb3.mono HBZ.out.size))
              have HO3 := hide (own_below HOZ.out hb3)
              have HK3 := hide (HKX.out.below hb3 HKX.out.lt)
              obtain ⟨x0, x1, x2, x3, x4, x5, _, _, _, _, _, _⟩ := Blk.six HK3.out
              have HOA := hide (fun o => HO3.out.alloc o)
              have NB := hide (fun cs t => (Blk.new w3 cs t).out)
              have hB3 := HB3.out.size
              have HSN := hide (show bn (s'.extract m s'.size) = (bn s).drop (p + m) from by rw [bn_drop, hbn.out, List.drop_drop])
              have HSZ := hide (show (s'.extract m s'.size).size = s.size - (p + m) from by have := hsz.out; simp; omega)
              have hl16 : i < 10000 := by have := HLT.out; omega
              clear hno hb3 hrr HRS HPD HWZ
              go_wp2_with (at_builtin; refine wpList_append_own_at _ rfl _ _ 25 rfl w.heap.size 45 i0 _ 6 56 Tryz.underlying25 hi hz0 hz1 hz2 rfl (by decide) _ _ _ rfl (HOA.out _) ⟨w3.heap.size, 0, none⟩ 1 1 [.bool false, .bool cb, .int .i64 cx, .int .u64 cu, .string ct, .complex .f64 cp cq] rfl rfl (World.news_of_block (NB.out _ _)) (by simp [Value.oneCell']) (by simp only [maxLen]; omega) (by omega) (by simp; omega) ?_; intro v1 w4 hown1 hgrow1 _ hat1)
              have HB4 := hide ((HB3.out.alloc HB3.out.size _).grown hgrow1 (by simp; omega) (fun q hq => (HO3.out.lt q hq).1))
              have HO4 := hide hown1
              clear hown1 hgrow1 hat1 x0 x1 x2 x3 x4 x5
              go_roundw
              case rel =>
                refine ⟨i + 1, p + m, l ++ [⟨cb, cx, cu, ct, cp, cq⟩], s'.extract m s'.size, by omega, by go_num, rfl, HSN.out, HMP.out, HSZ.out, ?_, ?_, ?_, HB4.out⟩
                · have := hll.out; show _ = _; simp; omega
                · rw [show many - (i + 1) = j by have := HJ.out; omega]; exact HRT.out
                · rw [cellsC_snoc]; exact HO4.out
              case measure => have := HLT.out; simp [intOf]; omega
            · have hrr := HRS.out
              rw [if_pos hyes] at hrr
              obtain rfl : FIN = (12, []) := by have h := HFK.out; rw [← hrr] at h; simpa using h
              have HB3 := hide (HBZ.out.trans (hb3.mono HBZ.out.size))
              have i20 : (0 : Int) ≤ (i2 : Int) := by omega
              clear hyes hb3 hrr HRS HPD HWZ HFK
              go_wp2_with fail
              go_ret2
              exact ⟨_, rfl, inC_nil _, HB3.out⟩
          · have hne : ((er : Int) != 0) = true := by rw [bne_iff_ne]; omega
            have hrr := HRR.out
            rw [if_neg her] at hrr
            obtain rfl : FIN = (er, []) := by have h := HFK.out; rw [← hrr] at h; simpa [her] using h
            clear HRR hrr HFK her
            go_wp2_with fail
            go_ret2
            exact ⟨_, rfl, inC_nil _, HB2.out.alloc HB2.out.size _⟩
        · obtain rfl : many = i := by omega
          have hr := hgo.out
          rw [Nat.sub_self] at hr
          have hr2 : (0, p, l) = RES := hr
          have hfk := HFK.out
          rw [← hr2] at hfk
          have hfl : FIN = pgo (bn s) l n p 0 [] := by simpa using hfk
          have HFL := hide hfl
          clear hr hr2 hfk hfl hgo HFK hlt hi9
          have hL1 : (l.length : Int) ≤ 10000 := by have := hll.out; omega
          have HLL := hide hll.out
          clear hll
          go_wp2_with fail
          obtain ⟨wo, rfl⟩ : ∃ wo : World, wo = wr := ⟨_, rfl⟩
          have HB2 := hide hbe.out
          have HD2 := hide how.out
          have hsz0 := hsz.out
          have HBN := hide hbn.out
          go_loopw [1, 16, 17, 18] (fun sv ov nv iv wx => ∃ (t q seen : Nat) (out : List CD) (s3 : ByteArray), t ≤ n ∧ iv = .int .i64 (t : Int) ∧ sv = .string s3 ∧ nv = .int .i64 (seen : Int) ∧ seen ≤ t ∧ Hid (bn s3 = (bn s).drop q) ∧ q ≤ s.size ∧ Hid (s3.size = s.size - q) ∧ Hid (out.length = t) ∧ Hid (pgo (bn s) l (n - t) q seen out = FIN) ∧ Hid (wx.ownsRow wo.heap.size 45 6 ov t (out.flatMap cellsC)) ∧ Hid (Below wo.heap.size wo wx)) (fun _ _ _ iv _ => n - (intOf iv).toNat)
          case atStart => exact ⟨0, p, 0, [], s', by omega, rfl, rfl, rfl, Nat.le_refl _, HBN.out, hp, hsz0, rfl, HFL.out.symm, World.ownsRow_nil _ _ _ _, Below.refl _ _⟩
          case round =>
            obtain ⟨t, q, seen, out, s3, htn, rfl, rfl, rfl, hst9, hbn3, hq, hsz3, hol, hgo3, how3, hbe3⟩ := hrel
            obtain ⟨OA, oc, rfl⟩ := own_form3 how3.out
            have HO3 := hide how3.out
            have HBE3 := hide hbe3.out
            have HOL := hide hol.out
            have ht0 : (0 : Int) ≤ (t : Int) := by omega
            have hs0 : (seen : Int) ≤ 10000 := by omega
            have h3s : s3.size ≤ s.size := by have := hsz3.out; omega
            have h3m : s3.size ≤ 9223372036854775807 := by omega
            have hgg := hgo3.out
            have HSZ3 := hide hsz3.out
            have HBN3 := hide hbn3.out
            clear hgo3 hol hsz3 hbn3 how3 hbe3
            by_cases hlt : t < n
            · obtain ⟨j, hj⟩ : ∃ j, n - t = j + 1 := ⟨n - t - 1, by omega⟩
              have ht1 : (t : Int) < (n : Int) := by omega
              rcases hf3 : few ((bn s).drop q) 0 with ⟨x, b, e1⟩
              have hle3 := few_le0 ((bn s).drop q)
              have h643 := few_lt64 ((bn s).drop q)
              rw [hj, pgo_on (bn s) l j q seen out x b e1 hf3, HLL.out] at hgg
              have K3 := hide (KF.out s3 (Nat.le_trans h3s hS.out))
              rw [HBN3.out, hf3] at K3
              rw [hf3, List.length_drop, bn_len] at hle3
              rw [hf3] at h643
              simp only at K3 hle3 h643
              have HRR := hide hgg
              have HLT := hide hlt
              have HJ := hide hj
              have hbs : b ≤ s3.size := by have := HSZ3.out; omega
              clear hgg hlt hj hf3
              go_wp2_with fail
              refine (K3.out _).mono ?_
              rintro e w3 ⟨rfl, rfl⟩
              by_cases he1 : e1 = 0
              · subst he1
                have hrr := HRR.out
                rw [if_pos rfl] at hrr
                have HRS := hide hrr
                clear HRR hrr
                by_cases hbad : seen < x ∨ many ≤ x
                · obtain rfl : FIN = (12, []) := by have h := HRS.out; rw [if_pos hbad] at h; exact h.symm
                  clear HRS
                  by_cases hb1 : seen < x
                  · have g2 : (seen : Int) < (x : Int) := by omega
                    have g3 : decide (seen < x) = true := by simp; omega
                    clear hb1 hbad
                    go_wp2_with fail
                    go_ret2
                    exact ⟨_, rfl, inC_nil _, HB2.out.trans (HBE3.out.mono HB2.out.size)⟩
                  · have g2 : decide (seen < x) = false := by simp; omega
                    have g3 : many ≤ x := by omega
                    have g4 : decide (many ≤ x) = true := by simp; omega
                    clear hb1 hbad
                    go_wp2_with fail
                    go_ret2
                    exact ⟨_, rfl, inC_nil _, HB2.out.trans (HBE3.out.mono HB2.out.size)⟩
                · have hrr := HRS.out
                  rw [if_neg hbad] at hrr
                  have hxL : x < many := by omega
                  have hxs : x ≤ seen := by omega
                  obtain ⟨c, hc⟩ : ∃ c, l[x]? = some c := ⟨l[x]'(by rw [HLL.out]; exact hxL), List.getElem?_eq_getElem _⟩
                  have hgd : l.getD x CD.z = c := by simp [List.getD, hc]
                  rw [hgd] at hrr
                  have HRT := hide hrr
                  have hod := own_below HD2.out HBE3.out
                  obtain ⟨g, cg, hAg⟩ := own_addr hod (by omega)
                  have hA : A = some ⟨g, 0, none⟩ := by injection hAg
                  subst hA
                  obtain ⟨b0, b1, b2, b3, b4, b5⟩ := own_atC hod HLL.out.symm hc
                  obtain ⟨cb, cx, cu, ct, cp, cq⟩ := c
                  simp only at b0 b1 b2 b3 b4 b5
                  have x0 : (0 : Int) ≤ (x : Int) := by omega
                  have x1 : (x : Int) < (many : Int) := by omega
                  have x2 : (x : Int) ≤ 10000 := by omega
                  have g2 : decide (seen < x) = false := by simp; omega
                  have g4 : decide (many ≤ x) = false := by simp; omega
                  have NB := hide (fun cs t => (Blk.new wr cs t).out)
                  have HO2 := hide (fun o => HO3.out.alloc o)
                  have hwos := HBE3.out.size
                  have h16 := HLT.out
                  have HSN := hide (show bn (s3.extract b s3.size) = (bn s).drop (q + b) from by rw [bn_drop, HBN3.out, List.drop_drop])
                  have HSZ := hide (show (s3.extract b s3.size).size = s.size - (q + b) from by have := HSZ3.out; simp; omega)
                  clear hc hgd hrr HRS hbad hod hAg K3
                  by_cases hxe : x = seen
                  · have g5 : ((x : Int) == (seen : Int)) = true := by simp [hxe]
                    have HRU := hide HRT.out.symm
                    rw [if_pos hxe] at HRU
                    clear HRT hxe
                    go_wp2_with (at_builtin; refine wpList_append_own_at _ rfl _ _ 25 rfl wo.heap.size 45 i0 _ 6 56 Tryz.underlying25 hi hz0 hz1 hz2 rfl (by decide) _ _ _ rfl (HO2.out _) ⟨wr.heap.size, 0, none⟩ 1 1 [.bool false, .bool cb, .int .i64 cx, .int .u64 cu, .string ct, .complex .f64 cp cq] rfl rfl (World.news_of_block (NB.out _ _)) (by simp [Value.oneCell']) (by simp only [maxLen]; omega) (by omega) (by simp; omega) ?_; intro v1 w4 hown1 hgrow1 _ hat1)
                    have HB4 := hide ((HBE3.out.alloc HBE3.out.size _).grown hgrow1 (by simp; omega) (fun z hz => (HO3.out.lt z hz).1))
                    have HO4 := hide hown1
                    clear hown1 hgrow1 hat1
                    go_roundw
                    case rel =>
                      refine ⟨t + 1, q + b, seen + 1, out ++ [⟨cb, cx, cu, ct, cp, cq⟩], s3.extract b s3.size, by omega, by go_num, rfl, by go_num, by omega, HSN.out, by omega, HSZ.out, ?_, ?_, ?_, HB4.out⟩
                      · have := HOL.out; show _ = _; simp; omega
                      · rw [show n - (t + 1) = j by have := HJ.out; omega]; exact HRU.out.symm
                      · rw [cellsC_snoc]; exact HO4.out
                    case measure => have := HLT.out; simp [intOf]; omega
                  · have g5 : ((x : Int) == (seen : Int)) = false := by simp; omega
                    have HRU := hide HRT.out.symm
                    rw [if_neg hxe] at HRU
                    have g6 : (x : Int) < (seen : Int) := by omega
                    clear HRT hxe
                    go_wp2_with (at_builtin; refine wpList_append_own_at _ rfl _ _ 25 rfl wo.heap.size 45 i0 _ 6 56 Tryz.underlying25 hi hz0 hz1 hz2 rfl (by decide) _ _ _ rfl (HO2.out _) ⟨wr.heap.size, 0, none⟩ 1 1 [.bool false, .bool cb, .int .i64 cx, .int .u64 cu, .string ct, .complex .f64 cp cq] rfl rfl (World.news_of_block (NB.out _ _)) (by simp [Value.oneCell']) (by simp only [maxLen]; omega) (by omega) (by simp; omega) ?_; intro v1 w4 hown1 hgrow1 _ hat1)
                    have HB4 := hide ((HBE3.out.alloc HBE3.out.size _).grown hgrow1 (by simp; omega) (fun z hz => (HO3.out.lt z hz).1))
                    have HO4 := hide hown1
                    clear hown1 hgrow1 hat1
                    go_roundw
                    case rel =>
                      refine ⟨t + 1, q + b, seen, out ++ [⟨cb, cx, cu, ct, cp, cq⟩], s3.extract b s3.size, by omega, by go_num, rfl, rfl, by omega, HSN.out, by omega, HSZ.out, ?_, ?_, ?_, HB4.out⟩
                      · have := HOL.out; show _ = _; simp; omega
                      · rw [show n - (t + 1) = j by have := HJ.out; omega]; exact HRU.out.symm
                      · rw [cellsC_snoc]; exact HO4.out
                    case measure => have := HLT.out; simp [intOf]; omega
              · have hne : ((e1 : Int) != 0) = true := by rw [bne_iff_ne]; omega
                obtain rfl : FIN = (e1, []) := by have h := HRR.out; rw [if_neg he1] at h; exact h.symm
                clear HRR he1
                go_wp2_with fail
                go_ret2
                exact ⟨_, rfl, inC_nil _, HB2.out.trans (HBE3.out.mono HB2.out.size)⟩
            · obtain rfl : n = t := by omega
              rw [Nat.sub_self] at hgg
              have hg2 : (if q < (bn s).length then (11, []) else if seen < l.length then (12, []) else (0, out)) = FIN := hgg
              rw [bn_len, HLL.out] at hg2
              have HRR := hide hg2
              clear hgg hg2 hlt
              by_cases hqs : q < s.size
              · obtain rfl : FIN = (11, []) := by have h := HRR.out; rw [if_pos hqs] at h; exact h.symm
                have hsome := str_someD (a := s3) (by have := HSZ3.out; omega)
                have hzne : (!s3.toList.isEmpty) = true := by rw [hsome]; rfl
                clear HRR hqs
                go_wp2_with fail
                go_ret2
                exact ⟨_, rfl, inC_nil _, HB2.out.trans (HBE3.out.mono HB2.out.size)⟩
              · have hz : s3 = { data := #[] } := by
                  apply bn_inj
                  have := bn_len s3
                  rw [show s3.size = 0 by have := HSZ3.out; omega] at this
                  rw [List.eq_nil_of_length_eq_zero this]; rfl
                subst hz
                have hrr := HRR.out
                rw [if_neg hqs] at hrr
                have HRS := hide hrr
                clear HRR hrr hqs
                by_cases hsm : seen < many
                · obtain rfl : FIN = (12, []) := by have h := HRS.out; rw [if_pos hsm] at h; exact h.symm
                  have g2 : (seen : Int) < (many : Int) := by omega
                  clear HRS hsm
                  go_wp2_with fail
                  go_ret2
                  exact ⟨_, rfl, inC_nil _, HB2.out.trans (HBE3.out.mono HB2.out.size)⟩
                · obtain rfl : FIN = (0, out) := by have h := HRS.out; rw [if_neg hsm] at h; exact h.symm
                  have g2 : decide ((seen : Int) < (many : Int)) = false := by simp; omega
                  have g3 : decide (seen < many) = false := by simp; omega
                  clear HRS hsm
                  go_wp2_with fail
                  go_ret2
                  exact ⟨_, rfl, inC_own HO3.out HOL.out.symm, HB2.out.trans (HBE3.out.mono HB2.out.size)⟩
  · have hne : ((e0 : Int) != 0) = true := by rw [bne_iff_ne]; omega
    obtain rfl : FIN = (e0, []) := by have h := HFI.out; rwa [if_neg he] at h
    clear HFI he
    go_wp2_with fail
    go_ret2
    exact ⟨_, rfl, inC_nil _, Below.refl _ _⟩
end Go.Proofs.YtfkgmodgkifelaaGreatDoor
namespace Go.Proofs.YtfkgmodgkifelaaGreatDoor
open Go.RowKit

theorem dgo_num (k : Int) (D : List Nat) : ∀ (m p : Nat) (l : List CD), (∀ c ∈ l, c.num) → ∀ c ∈ (dgo k D m p l).2.2, c.num := by
  intro m
  induction m with
  | zero => intro p l h; exact h
  | succ m ih =>
    intro p l h
    rw [dgo]
    split
    · split
      · simp
      · refine ih _ _ ?_
        intro c hc
        rcases List.mem_append.1 hc with h2 | h2
        · exact h c h2
        · rw [List.mem_singleton] at h2; rw [h2]; exact gp_num _ _
    · simp
theorem pgo_inv (D : List Nat) (dl : List CD) (hd : ∀ c ∈ dl, c.num) : ∀ (m p seen : Nat) (out : List CD), (∀ c ∈ out, c.num) → (∀ c ∈ (pgo D dl m p seen out).2, c.num) ∧ (pgo D dl m p seen out).2.length ≤ out.length + m := by
  intro m
  induction m with
  | zero =>
    intro p seen out h
    rw [pgo]
    split
    · exact ⟨by simp, by simp⟩
    · split
      · exact ⟨by simp, by simp⟩
      · exact ⟨h, by simp⟩
  | succ m ih =>
    intro p seen out h
    rw [pgo]
    split
    · split
      · exact ⟨by simp, by simp⟩
      · have h2 := ih (p + (few (D.drop p) 0).2.1) (if (few (D.drop p) 0).1 = seen then seen + 1 else seen) (out ++ [dl.getD (few (D.drop p) 0).1 CD.z]) (by
          intro c hc
          rcases List.mem_append.1 hc with h2 | h2
          · exact h c h2
          · rw [List.mem_singleton] at h2
            rw [h2, List.getD]
            cases hq : dl[(few (D.drop p) 0).1]? with
            | none => exact num_z
            | some x => exact hd x (List.mem_of_getElem? hq))
        refine ⟨h2.1, Nat.le_trans h2.2 (by simp; omega)⟩
    · exact ⟨by simp, by simp⟩
theorem dspecD_inv (k : Int) (D : List Nat) (n : Nat) : (∀ c ∈ (dspecD k D n).2, c.num) ∧ (dspecD k D n).2.length ≤ n := by
  unfold dspecD
  split
  · split
    · exact ⟨by simp, by simp⟩
    · split
      · have := pgo_inv D (dgo k D (few D 0).1 (few D 0).2.1 []).2.2 (dgo_num k D _ _ [] (by simp)) n (dgo k D (few D 0).1 (few D 0).2.1 []).2.1 0 [] (by simp)
        exact ⟨this.1, by simpa using this.2⟩
      · exact ⟨by simp, by simp⟩
  · exact ⟨by simp, by simp⟩
def xspec (k : Int) (D : List Nat) (n : Int) : Nat × List CD :=
  if k < 1 ∨ 6 < k then (14, []) else if n < 0 ∨ 10000 < n then (1, []) else dspecD k D n.toNat
theorem xspec_num (k : Int) (D : List Nat) (n : Int) : ∀ c ∈ (xspec k D n).2, c.num := by
  unfold xspec
  split
  · simp
  · split
    · simp
    · exact (dspecD_inv k D n.toNat).1
theorem xspec_len (k : Int) (D : List Nat) (n : Int) : (xspec k D n).2.length ≤ 10000 := by
  unfold xspec
  split
  · simp
  · split
    · simp
    · rename_i h
      have := (dspecD_inv k D n.toNat).2
      omega
set_option maxHeartbeats 2000000 in
set_option maxRecDepth 100000 in
theorem xdecode_arg (k : Int) (h1 : 1 ≤ k) (h6 : k ≤ 6) (s : ByteArray) (n : Int) (h : n < 0 ∨ 10000 < n) (w : World) :
    Calls Tryz.prog 94 #[.int .i64 k, .string s, .int .i64 n] w (DPost w (1, [])) := by
  rcases h with h | h
  · go_enter Tryz.func94, Tryz.ntmps94
    go_wp2_with fail
    go_ret2
    exact ⟨_, rfl, inC_nil _, Below.refl _ _⟩
  · have h0 : ¬ n < 0 := by omega
    have hd : decide (n < 0) = false := by simp; omega
    go_enter Tryz.func94, Tryz.ntmps94
    go_wp2_with fail
    go_ret2
    exact ⟨_, rfl, inC_nil _, Below.refl _ _⟩
set_option maxHeartbeats 2000000 in
set_option maxRecDepth 100000 in
theorem xdecode_kind (k : Int) (hk : k < 1 ∨ 6 < k) (s : ByteArray) (n : Int) (w : World) :
    Calls Tryz.prog 94 #[.int .i64 k, .string s, .int .i64 n] w (DPost w (14, [])) := by
  rcases hk with h | h
  · go_enter Tryz.func94, Tryz.ntmps94
    go_wp2_with fail
    go_ret2
    exact ⟨_, rfl, inC_nil _, Below.refl _ _⟩
  · have h0 : ¬ k < 1 := by omega
    have hd : decide (k < 1) = false := by simp; omega
    go_enter Tryz.func94, Tryz.ntmps94
    go_wp2_with fail
    go_ret2
    exact ⟨_, rfl, inC_nil _, Below.refl _ _⟩
set_option maxHeartbeats 2000000 in
set_option maxRecDepth 100000 in
theorem sxdecode_arg (k : Int) (h1 : 1 ≤ k) (h6 : k ≤ 6) (s : ByteArray) (n : Int) (h : n < 0 ∨ 10000 < n) (w : World) :
    Calls Tryz.prog 59 #[.int .i64 k, .string s, .int .i64 n] w (DPost w (1, [])) := by
  have KK := hide (skind_any k true (by show _ = _; rw [eq_comm, decide_eq_true_eq]; exact ⟨h1, h6⟩))
  clear h1 h6
  rcases h with h | h
  · go_enter Tryz.func59, Tryz.ntmps59
    go_wp2_with fail
    refine (KK.out _).mono ?_
    rintro e w0 ⟨rfl, rfl⟩
    go_wp2_with fail
    go_ret2
    exact ⟨_, rfl, inC_nil _, Below.refl _ _⟩
  · have hd : decide (n < 0) = false := by simp; omega
    go_enter Tryz.func59, Tryz.ntmps59
    go_wp2_with fail
    refine (KK.out _).mono ?_
    rintro e w0 ⟨rfl, rfl⟩
    go_wp2_with fail
    go_ret2
    exact ⟨_, rfl, inC_nil _, Below.refl _ _⟩
set_option maxHeartbeats 2000000 in
set_option maxRecDepth 100000 in
theorem sxdecode_kind (k : Int) (hk : k < 1 ∨ 6 < k) (s : ByteArray) (n : Int) (w : World) :
    Calls Tryz.prog 59 #[.int .i64 k, .string s, .int .i64 n] w (DPost w (14, [])) := by
  have KK := hide (skind_any k false (by show _ = _; rw [eq_comm, decide_eq_false_iff_not]; omega))
  clear hk
  go_enter Tryz.func59, Tryz.ntmps59
  go_wp2_with fail
  refine (KK.out _).mono ?_
  rintro e w0 ⟨rfl, rfl⟩
  go_wp2_with fail
  go_ret2
  exact ⟨_, rfl, inC_nil _, Below.refl _ _⟩
theorem xdecode_any (k : Int) (s : ByteArray) (hs : s.size ≤ maxLen) (n : Int) (w : World) (hT : Tabs w) :
    Calls Tryz.prog 94 #[.int .i64 k, .string s, .int .i64 n] w (DPost w (xspec k (bn s) n)) := by
  unfold xspec
  by_cases hk : k < 1 ∨ 6 < k
  · rw [if_pos hk]; exact xdecode_kind k hk s n w
  · rw [if_neg hk]
    by_cases hn : n < 0 ∨ 10000 < n
    · rw [if_pos hn]; exact xdecode_arg k (by omega) (by omega) s n hn w
    · rw [if_neg hn]
      obtain ⟨m, rfl⟩ : ∃ m : Nat, n = m := ⟨n.toNat, by omega⟩
      exact ddecode_in k (by omega) (by omega) s hs m (by omega) w hT
theorem sxdecode_any (k : Int) (s : ByteArray) (hs : s.size ≤ maxLen) (n : Int) (w : World) (hT : Tabs w) :
    Calls Tryz.prog 59 #[.int .i64 k, .string s, .int .i64 n] w (DPost w (xspec k (bn s) n)) := by
  unfold xspec
  by_cases hk : k < 1 ∨ 6 < k
  · rw [if_pos hk]; exact sxdecode_kind k hk s n w
  · rw [if_neg hk]
    by_cases hn : n < 0 ∨ 10000 < n
    · rw [if_pos hn]; exact sxdecode_arg k (by omega) (by omega) s n hn w
    · rw [if_neg hn]
      obtain ⟨m, rfl⟩ : ∃ m : Nat, n = m := ⟨n.toNat, by omega⟩
      exact sddecode_in k (by omega) (by omega) s hs m (by omega) w hT

end Go.Proofs.YtfkgmodgkifelaaGreatDoor
