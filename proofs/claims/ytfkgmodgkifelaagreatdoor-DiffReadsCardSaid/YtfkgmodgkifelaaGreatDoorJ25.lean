/- Runs, read: the plain function, and runs.Decode's loop. -/
import Derived.Test.YtfkgmodgkifelaaGreatDoorJ24
import Derived.Deep.LoopGhost
import Derived.Lib.QuietBelow
namespace Go.Proofs.YtfkgmodgkifelaaGreatDoor
open Go.RowKit

def lastEq (k : Int) (L : List (CD × Nat)) (c : CD) : Bool := match L.getLast? with | none => false | some x => ceq k x.1 c
theorem lastEq_nil (k : Int) (c : CD) : lastEq k [] c = false := rfl
theorem lastEq_snoc (k : Int) (L : List (CD × Nat)) (x : CD × Nat) (c : CD) : lastEq k (L ++ [x]) c = ceq k x.1 c := by simp [lastEq]
/-- The runs that stand from a place on, behind others. -/
def rgo (k : Int) (D : List Nat) (n : Nat) : Nat → Nat → List (CD × Nat) → Nat × List (CD × Nat)
  | 0, _, L => (0, L)
  | f + 1, p, L =>
    if D.length ≤ p then (if tot L < n then (10, []) else (0, L))
    else if (few (D.drop p) 0).2.2 = 0 then
      (if (gp k (D.drop (p + (few (D.drop p) 0).2.1))).2.2.2 = 0 then
        (if (few (D.drop p) 0).1 = 0 ∨ n - tot L < (few (D.drop p) 0).1 ∨ lastEq k L (gp k (D.drop (p + (few (D.drop p) 0).2.1))).1 = true then (12, [])
         else rgo k D n f (p + (few (D.drop p) 0).2.1 + (gp k (D.drop (p + (few (D.drop p) 0).2.1))).2.1) (L ++ [((gp k (D.drop (p + (few (D.drop p) 0).2.1))).1, (few (D.drop p) 0).1)]))
       else ((gp k (D.drop (p + (few (D.drop p) 0).2.1))).2.2.2, []))
    else ((few (D.drop p) 0).2.2, [])
theorem rgo_end (k : Int) (D : List Nat) (n f p : Nat) (L : List (CD × Nat)) (h : D.length ≤ p) : rgo k D n (f + 1) p L = if tot L < n then (10, []) else (0, L) := by
  rw [rgo, if_pos h]
theorem rgo_on (k : Int) (D : List Nat) (n f p : Nat) (L : List (CD × Nat)) (h : ¬ D.length ≤ p) (many a e0 : Nat) (hf : few (D.drop p) 0 = (many, a, e0)) (c : CD) (m e' er : Nat) (hg : gp k (D.drop (p + a)) = (c, m, e', er)) :
    rgo k D n (f + 1) p L = if e0 = 0 then (if er = 0 then (if many = 0 ∨ n - tot L < many ∨ lastEq k L c = true then (12, []) else rgo k D n f (p + a + m) (L ++ [(c, many)])) else (er, [])) else (e0, []) := by
  rw [rgo, if_neg h]
  simp only [hf, hg]
theorem own_drewN {w : World} {B e sz n : Nat} {v : Value} {xs : List Value} (h : w.ownsRow B e sz v n xs) (q : Nat) : (w.drewN q).ownsRow B e sz v n xs := own_fr h (Fr.drewN w q (fun _ => False)) (fun _ _ h => h)
theorem rleft_0 (R : Nat) (s : ByteArray) (p : Nat) (hs : s.size ≤ maxLen) (hp : p = s.size) (w : World) (h : Rd w R s p 0) :
    Calls Tryz.prog 53 #[.pointer (some ⟨R, 0, none⟩)] w fun r w' => r = .returned (.int .i64 0) ∧ Below w.heap.size w w' := by
  have K := rleft_any R s p 0 hs (by omega) w h
  rw [show ((s.size - p : Nat) : Int) = 0 by omega] at K
  exact K
theorem rleft_1 (R : Nat) (s : ByteArray) (p d : Nat) (hs : s.size ≤ maxLen) (hp : p ≤ s.size) (hd : s.size - p = d) (w : World) (h : Rd w R s p 0) :
    Calls Tryz.prog 53 #[.pointer (some ⟨R, 0, none⟩)] w fun r w' => r = .returned (.int .i64 (d : Int)) ∧ Below w.heap.size w w' := by
  have K := rleft_any R s p 0 hs hp w h
  rw [hd] at K
  exact K
theorem tot_len (L : List (CD × Nat)) (h : ∀ x ∈ L, 1 ≤ x.2) : L.length ≤ tot L := by
  induction L with
  | nil => simp
  | cons x L ih =>
    have h1 := h x (by simp)
    have h2 := ih (fun y hy => h y (by simp [hy]))
    simp only [tot, List.length_cons, List.map_cons, List.sum_cons] at *; omega
set_option maxHeartbeats 8000000 in
set_option maxRecDepth 100000 in
theorem rdecode_loop (k : Int) (h1 : 1 ≤ k) (h6 : k ≤ 6) (s : ByteArray) (hs : s.size ≤ maxLen) (n : Nat) (hn : n ≤ 10000) (w : World) (hT : Tabs w) (RES : Nat × List (CD × Nat)) (hRES : Hid (rgo k (bn s) n (s.size + 1) 0 [] = RES)) :
    Calls Tryz.prog 90 #[.int .i64 k, .string s, .int .i64 n] w (DPost w (RES.1, cellsL RES.2)) := by
  have KR := hide (rd_new s)
  have hn0 : (0 : Int) ≤ (n : Int) := by omega
  have hn1 : (n : Int) ≤ 10000 := by omega
  have KL0 := hide (fun (R p : Nat) (hp : p = s.size) (w : World) (h : Rd w R s p 0) => rleft_0 R s p hs hp w h)
  have KL1 := hide (fun (R p d : Nat) (hp : p ≤ s.size) (hd : s.size - p = d) (w : World) (h : Rd w R s p 0) => rleft_1 R s p d hs hp hd w h)
  have KN := hide (fun (R p : Nat) (hp : p ≤ s.size) (w : World) (h : Rd w R s p 0) (hT : Tabs w) => rnext_any k h1 h6 R s p hs hp w h hT)
  have KE := hide (fun (a b : CD) (w : World) => sequal_any k h1 h6 a b w)
  have KC := hide rcells_any
  obtain ⟨i0, hi, hz0, hz1, hz2⟩ := info_parts info_rR
  have HT := hide hT
  clear hT hs
  have hst := fun (w1 : World) (a1 : Addr) (m : Mode) (x y : Nat) => run_store Tryz.prog w1 a1 (.complex .f64 x y) m rfl
  go_enter Tryz.func90, Tryz.ntmps90
  go_wp2_with fail
  refine (KR.out _).mono ?_
  rintro e w1 ⟨R, rfl, hr1, hR, hb1⟩
  have HR1 := hide hr1
  have HB1 := hide hb1
  clear hr1 hb1
  go_wp2_with fail
  go_loopg [9, 10] (s.size + 1) (fun gk lv fv wr => ∃ (p : Nat) (L : List (CD × Nat)), p ≤ s.size ∧ Hid (s.size - p < gk) ∧ Hid (rgo k (bn s) n gk p L = RES) ∧ (∃ lf : Nat, Hid (lf = n - tot L) ∧ lf ≤ 10000 ∧ fv = .int .i64 (lf : Int)) ∧ Hid (tot L ≤ n) ∧ Hid (∀ x ∈ L, 1 ≤ x.2) ∧ wr.ownsRow w.heap.size 173 7 lv L.length (L.flatMap cellsR) ∧ Rd wr R s p 0 ∧ Below w.heap.size w wr)
  case atStart => exact ⟨0, [], by omega, by show _ < _; omega, hRES.out, ⟨n, by show _ = _; simp [tot], hn, rfl⟩, by show _ ≤ _; simp [tot], by show ∀ x ∈ _, _; simp, World.ownsRow_nil _ _ _ _, HR1.out, HB1.out⟩
  case round =>
    obtain ⟨p, L, hp, hgk, hrgo, ⟨lf, hlf, hlf1, rfl⟩, htot, hpos, ha, hrd, hbe⟩ := hrel
    have hgk0 := hgk.out
    obtain ⟨g', rfl⟩ : ∃ g', gk = g' + 1 := ⟨gk - 1, by omega⟩
    clear hgk0
    have HA := hide ha
    have HRD := hide hrd
    have HBE := hide hbe
    obtain ⟨Aa, ca, rfl⟩ := own_form3 ha
    clear ha hrd hbe
    by_cases hend : p = s.size
    · have K := hide (KL0.out R p hend wr HRD.out)
      have hr := hrgo.out
      rw [rgo_end k (bn s) n g' p L (by rw [bn_len]; omega)] at hr
      have HRR := hide hr
      clear hr
      by_cases hlt : tot L < n
      · have hrr := HRR.out
        rw [if_pos hlt] at hrr
        have hlf2 := hlf.out
        have hlf0 : (0 : Int) < (lf : Int) := by omega
        clear hlf2
        subst hrr
        clear HRR hlt
        go_wp2_with fail
        refine K.out.mono ?_
        rintro e w2 ⟨rfl, hb2⟩
        have HB2 := hide (HBE.out.trans (hb2.mono HBE.out.size))
        clear hb2
        go_wp2_with fail
        go_ret2
        exact ⟨_, rfl, inC_nil _, HB2.out⟩
      · have hrr := HRR.out
        rw [if_neg hlt] at hrr
        have hlf2 := hlf.out
        have htt := htot.out
        obtain rfl : lf = 0 := by omega
        have hK := hide (fun W (h : W.ownsRow w.heap.size 173 7 (.slice Aa L.length ca) L.length (L.flatMap cellsR)) => KC.out L (by omega) hpos.out (by have := tot_len L hpos.out; omega) W w.heap.size _ h)
        subst hrr
        clear HRR hlt hlf2 htt
        unfold DPost at hK
        go_wp2_with fail
        refine K.out.mono ?_
        rintro e w2 ⟨rfl, hb2⟩
        have HB2 := hide (HBE.out.trans (hb2.mono HBE.out.size))
        have K2 := hide (hK.out w2 (own_below HA.out hb2))
        clear hb2 hK
        go_wp2_with fail
        refine K2.out.mono ?_
        rintro e w3 ⟨v, rfl, hv, hb3⟩
        have HV := hide hv
        have HB3 := hide (HB2.out.trans (hb3.mono HB2.out.size))
        clear hv hb3
        go_wp2_with fail
        go_ret2
        exact ⟨_, rfl, HV.out, HB3.out⟩
    · obtain ⟨d, hd⟩ : ∃ d, s.size - p = d := ⟨_, rfl⟩
      have hd0 : (0 : Int) < (d : Int) := by omega
      have K := hide (KL1.out R p d hp hd wr HRD.out)
      rcases hf : few ((bn s).drop p) 0 with ⟨many, a, e0⟩
      rcases hg : gp k ((bn s).drop (p + a)) with ⟨c, m, e', er⟩
      have hr := hrgo.out
      rw [rgo_on k (bn s) n g' p L (by rw [bn_len]; omega) many a e0 hf c m e' er hg] at hr
      have HRR := hide hr
      have hpa : 0 < a ∨ e0 ≠ 0 := by
        have := few_le ((bn s).drop p) 0
        rw [hf] at this
        simp only at this
        omega
      have hla := few_le0 ((bn s).drop p)
      rw [hf, List.length_drop, bn_len] at hla
      have hlm := gp_le k ((bn s).drop (p + a))
      rw [hg, List.length_drop, bn_len] at hlm
      have hee := gp_e k ((bn s).drop (p + a))
      rw [hg] at hee
      simp only at hla hlm hee
      have KNN := hide (fun w (h : Rd w R s p 0) (hT : Tabs w) => KN.out R p hp w h hT lf hlf1 many a e0 hf c m e' er hg)
      clear hr hd hf hg
      by_cases he0 : e0 = 0
      · by_cases her : er = 0
        · have he' := hee her
          by_cases hbad : many = 0 ∨ lf < many
          · have hrr := HRR.out
            rw [if_pos he0, if_pos her, if_pos (by have := hlf.out; rcases hbad with h | h; exact .inl h; exact .inr (.inl (by omega)))] at hrr
            have KN2 := hide (fun w h hT => KNN.out w h hT (runV CD.z 0) (p + a + m) e' 12 (by
              rcases hbad with h | h
              · exact .inr (.inr (.inl ⟨he0, her, h, rfl, rfl, rfl, rfl⟩))
              · exact .inr (.inr (.inr (.inl ⟨he0, her, h, rfl, rfl, rfl, rfl⟩)))))
            unfold runV runA CD.z at KN2
            simp only at KN2
            subst hrr
            clear HRR hbad hee hpa hla hlm KNN he' he0 her
            go_wp2_with fail
            refine K.out.mono ?_
            rintro e w2 ⟨rfl, hb2⟩
            have HB2 := hide (HBE.out.trans (hb2.mono HBE.out.size))
            have KN3 := hide (KN2.out w2 (HRD.out.below hb2) (HT.out.below HB2.out))
            clear hb2 KN2
            go_wp2_with fail
            refine KN3.out.mono ?_
            rintro e w3 ⟨rfl, _, hf3⟩
            have HB3 := hide (HB2.out.trans (hf3.below HB2.out.size (fun j hj => by omega)))
            clear hf3
            go_wp2_with fail
            go_ret2
            exact ⟨_, rfl, inC_nil _, HB3.out.alloc HB3.out.size _⟩
          · have KN2 := hide (fun w h hT => KNN.out w h hT (runV c many) (p + a + m) e' 0 (.inr (.inr (.inr (.inr ⟨he0, her, by omega, by omega, rfl, rfl, rfl, rfl⟩)))))
            rw [he'] at KN2
            unfold runV runA at KN2
            have hrr := HRR.out
            rw [if_pos he0, if_pos her] at hrr
            have HRR2 := hide hrr
            have hm1 : 1 ≤ many := by omega
            have hmf : many ≤ lf := by omega
            have hpam : p + a + m ≤ s.size := by omega
            have hap : 0 < a := by omega
            clear hrr HRR hee hpa hla hlm KNN he' he0 her
            have hnb : many = 0 ∨ n - tot L < many ∨ lastEq k L c = true ↔ lastEq k L c = true := by
              have := hlf.out
              constructor
              · rintro (h | h | h)
                · omega
                · omega
                · exact h
              · exact fun h => .inr (.inr h)
            have HNB := hide hnb
            obtain ⟨cb, cx, cu, ct, cp, cq⟩ := c
            simp only at KN2
            clear hnb hbad
            have HNL0 : Hid (L.length = L.length) := rfl
            generalize hnl : L.length = nl at *
            have HNL := hide hnl
            clear hnl HNL0
            rcases List.eq_nil_or_concat L with rfl | ⟨L', x, rfl⟩
            · obtain rfl : nl = 0 := HNL.out.symm
              have hrr := HRR2.out
              rw [if_neg (fun h => by have := HNB.out.1 h; rw [lastEq_nil] at this; cases this)] at hrr
              have HRR3 := hide hrr
              clear HRR2 HNB hrr
              go_wp2_with fail
              refine K.out.mono ?_
              rintro e w2 ⟨rfl, hb2⟩
              have HB2 := hide (HBE.out.trans (hb2.mono HBE.out.size))
              have HA2 := hide (own_below HA.out hb2)
              have HRD2 := hide (HRD.out.below hb2)
              have KN3 := hide (KN2.out w2 HRD2.out (HT.out.below HB2.out))
              clear hb2 KN2
              go_wp2_with fail
              refine KN3.out.mono ?_
              rintro e w3 ⟨rfl, hr3, hf3⟩
              have HR3 := hide hr3
              have HB3 := hide (HB2.out.trans (hf3.below HB2.out.size (fun j hj => by omega)))
              have HA3 := hide (own_fr HA2.out hf3 (fun j hj h => own_ne_blk HA2.out HRD2.out (by decide) (by rw [hj, h])))
              clear hr3 hf3
              go_wp2_with fail
              go_quiet (fail)
              have HAQ := hide (own_drewN (HA3.out.alloc (.cells (runA ⟨cb, cx, cu, ct, cp, cq⟩ many) 173)) nq)
              have HBQ := hide (below_drewN (HB3.out.alloc HB3.out.size (.cells (runA ⟨cb, cx, cu, ct, cp, cq⟩ many) 173)) nq)
              have HRQ := hide ((HR3.out.alloc (.cells (runA ⟨cb, cx, cu, ct, cp, cq⟩ many) 173)).drewN nq)
              have hbt := (Blk.new w3 (runA ⟨cb, cx, cu, ct, cp, cq⟩ many) 173).drewN nq
              unfold runA at HAQ HBQ HRQ
              simp only at HAQ HBQ HRQ
              obtain ⟨wq, hwq⟩ : ∃ wq, (w3.alloc (.cells (runA ⟨cb, cx, cu, ct, cp, cq⟩ many) 173)).drewN nq = wq := ⟨_, rfl⟩
              rw [hwq] at hbt
              unfold runA at hwq
              simp only at hwq
              rw [hwq] at HAQ HBQ HRQ ⊢
              clear hwq
              have HBT := hide hbt
              have hTl := hbt.lt
              obtain ⟨b0, b1, b2, b3, b4, b5, b6, f0, f1, f2, f3, f4, f5, f6⟩ := blk_six7 hbt
              simp only at b0 b1 b2 b3 b4 b5 b6
              clear hbt
              have HTG := hide (fun (w5 : World) (o : Obj) (hg : (wq.alloc o).grownBy w5 (Value.slice Aa 0 ca).ownBlock) => blk_six7 (((HBT.out.alloc o).grown hg (fun h => by have := (HA3.out.lt w3.heap.size h.symm).2; omega))))
              go_wp2_with (at_builtin; refine wpList_append_own_at _ rfl _ _ 174 rfl w.heap.size 173 i0 _ 7 64 Tryz.underlying174 hi hz0 hz1 hz2 rfl (by decide) _ _ _ rfl (HAQ.out.alloc _) ⟨wq.heap.size, 0, none⟩ 1 1 [.bool false, .bool cb, .int .i64 cx, .int .u64 cu, .string ct, .complex .f64 cp cq, .int .i64 (many : Int)] rfl rfl (World.news_of_block (Blk.new _ _ _).out) (by simp [Value.oneCell']) (by simp only [maxLen]; omega) (by omega) (by simpa using Nat.le_succ_of_le HBQ.out.size) ?_; intro v1 w5 hown1 hgrow1 _ hat1; obtain ⟨e0, e1, e2, e3, e4, e5, e6, k0, k1, k2, k3, k4, k5, k6⟩ := HTG.out w5 _ hgrow1; simp only at e0 e1 e2 e3 e4 e5 e6)
              have HB5 := hide ((HBQ.out.alloc HBQ.out.size _).grown hgrow1 (by simpa using Nat.le_succ_of_le HBQ.out.size) (fun j hj => (HAQ.out.lt j hj).1))
              have HR5 := hide ((HRQ.out.alloc _).grown hgrow1 (fun h => own_ne_blk HAQ.out HRQ.out (by decide) h.symm))
              have HOW := hide hown1
              clear hown1 hgrow1 hat1
              go_roundg g'
              case measure => omega
              case rel =>
                have hl := hlf.out
                have ht : tot ([] ++ [((⟨cb, cx, cu, ct, cp, cq⟩ : CD), many)]) = tot [] + many := tot_snoc _ _
                refine ⟨p + a + m, [] ++ [((⟨cb, cx, cu, ct, cp, cq⟩ : CD), many)], hpam, by have := hgk.out; show _ < _; omega, HRR3.out, ⟨lf - many, ?_, by omega, congrArg (Value.int .i64) (by omega)⟩, ?_, ?_, ?_, HR5.out, HB5.out⟩
                · show _ = _; rw [ht]; omega
                · show _ ≤ _; rw [ht]; omega
                · show ∀ x ∈ _, _; intro x hx; rw [List.nil_append, List.mem_singleton] at hx; rw [hx]; exact hm1
                · exact HOW.out
            · obtain ⟨j, hj⟩ : ∃ j, L'.length = j := ⟨_, rfl⟩
              obtain rfl : nl = j + 1 := by have := HNL.out; rw [List.concat_eq_append, List.length_append, hj] at this; simpa using this.symm
              rw [List.concat_eq_append] at HA HNB HRR2 hlf htot hpos HNL
              obtain ⟨g, cap, hv⟩ := own_addr HA.out (by omega)
              injection hv with hv1 _ hv2
              subst hv1 hv2
              have hxj : (L' ++ [x])[j]? = some x := by rw [← hj]; simp
              rw [lastEq_snoc] at HNB
              have KEE := hide (fun w => KE.out x.1 ⟨cb, cx, cu, ct, cp, cq⟩ w)
              have HXJ := hide hxj
              have hjl : j + 1 ≤ 10000 := by
                have t1 := tot_len _ hpos.out
                have t2 := htot.out
                rw [HNL.out] at t1
                omega
              clear hxj hj
              obtain ⟨xc, xm⟩ := x
              obtain ⟨xb, xx, xu, xt, xp, xq⟩ := xc
              unfold CD.v clV clA at KEE
              simp only at KEE HNB
              cases hq : ceq k ⟨xb, xx, xu, xt, xp, xq⟩ ⟨cb, cx, cu, ct, cp, cq⟩
              · rw [hq] at KEE HNB
                have hrr := HRR2.out
                rw [if_neg (fun h => by rw [lastEq_snoc, hq] at h; have := HNB.out.1 h; cases this)] at hrr
                have HRR3 := hide hrr
                clear HRR2 HNB hrr hq
                go_wp2_with fail
                refine K.out.mono ?_
                rintro e w2 ⟨rfl, hb2⟩
                have HB2 := hide (HBE.out.trans (hb2.mono HBE.out.size))
                have HA2 := hide (own_below HA.out hb2)
                have HRD2 := hide (HRD.out.below hb2)
                have KN3 := hide (KN2.out w2 HRD2.out (HT.out.below HB2.out))
                clear hb2 KN2
                go_wp2_with fail
                refine KN3.out.mono ?_
                rintro e w3 ⟨rfl, hr3, hf3⟩
                have HR3 := hide hr3
                have HB3 := hide (HB2.out.trans (hf3.below HB2.out.size (fun j hj => by omega)))
                have HA3 := hide (own_fr HA2.out hf3 (fun j hj h => own_ne_blk HA2.out HRD2.out (by decide) (by rw [hj, h])))
                clear hr3 hf3
                have hA3a := HA3.out.alloc (.cells (runA ⟨cb, cx, cu, ct, cp, cq⟩ many) 173)
                have hT3a := Blk.new w3 (runA ⟨cb, cx, cu, ct, cp, cq⟩ many) 173
                have hB3a := HB3.out.alloc HB3.out.size (.cells (runA ⟨cb, cx, cu, ct, cp, cq⟩ many) 173)
                have hR3a := HR3.out.alloc (.cells (runA ⟨cb, cx, cu, ct, cp, cq⟩ many) 173)
                have hgl := (HA3.out.lt g rfl).2
                have hj0 : (0 : Int) ≤ (j : Int) := by omega
                have hj1 : (j : Int) ≤ 10000 := by omega
                go_wp2_with fail
                obtain ⟨wz, hwz⟩ : ∃ wz, w3.alloc (.cells (runA ⟨cb, cx, cu, ct, cp, cq⟩ many) 173) = wz := ⟨_, rfl⟩
                rw [hwz] at hA3a hT3a hB3a hR3a
                have HAZ := hide hA3a
                have HTZ := hide hT3a
                have HBZ := hide hB3a
                have HRZ := hide hR3a
                unfold runA at hwz
                simp only at hwz
                rw [hwz]
                obtain ⟨a0, a1, a2, a3, a4, a5, a6⟩ := own_atR hA3a HNL.out.symm HXJ.out
                obtain ⟨b0, b1, b2, b3, b4, b5, b6, f0, f1, f2, f3, f4, f5, f6⟩ := blk_six7 hT3a
                simp only at a0 a1 a2 a3 a4 a5 a6 b0 b1 b2 b3 b4 b5 b6
                have KQ := hide (fun d os => Calls.regrown_of (d := d) (os := os) (KEE.out (Sort.grow (redrawn wz d) os)))
                have q0 := cell_regrown a0
                have q1 := cell_regrown a1
                have q2 := cell_regrown a2
                have q3 := cell_regrown a3
                have q4 := cell_regrown a4
                have q5 := cell_regrown a5
                have r0 := cell_regrown b0
                have r1 := cell_regrown b1
                have r2 := cell_regrown b2
                have r3 := cell_regrown b3
                have r4 := cell_regrown b4
                have r5 := cell_regrown b5
                clear hwz hA3a hT3a hB3a hR3a a0 a1 a2 a3 a4 a5 a6 b0 b1 b2 b3 b4 b5 b6 f0 f1 f2 f3 f4 f5 f6
                have hjj : (j : Int) < (j : Int) + 1 := by omega
                refine wp_region_quiet_below (by kernel_rfl) (by kernel_rfl) ?_
                repeat (go_big_quiet_step (exact KQ.out _ _))
                refine wpQuiet_nil ?_
                intro _ hw'
                obtain ⟨⟨dq, osq⟩, hw''⟩ := hw'
                subst hw''
                have hb4 := below_regrown wz dq osq
                generalize Sort.grow (redrawn wz dq) osq = w4 at *
                clear q0 q1 q2 q3 q4 q5 r0 r1 r2 r3 r4 r5 hjj
                have HAQ := hide (own_below HAZ.out hb4)
                have HBQ := hide (HBZ.out.trans (hb4.mono HBZ.out.size))
                have HRQ := hide (HRZ.out.below hb4 HRZ.out.lt)
                have hbt := HTZ.out.below hb4 HTZ.out.lt
                generalize w4 = wq at *
                clear hb4
                have HBT := hide hbt
                have hTl := hbt.lt
                obtain ⟨b0, b1, b2, b3, b4, b5, b6, f0, f1, f2, f3, f4, f5, f6⟩ := blk_six7 hbt
                simp only at b0 b1 b2 b3 b4 b5 b6
                clear hbt
                have HTG := hide (fun (w5 : World) (o : Obj) (hg : (wq.alloc o).grownBy w5 (Value.slice (some ⟨g, 0, none⟩) (j + 1) ca).ownBlock) => blk_six7 (((HBT.out.alloc o).grown hg (fun h => by have := (HA3.out.lt w3.heap.size h.symm).2; omega))))
                go_wp2_with (at_builtin; refine wpList_append_own_at _ rfl _ _ 174 rfl w.heap.size 173 i0 _ 7 64 Tryz.underlying174 hi hz0 hz1 hz2 rfl (by decide) _ _ _ rfl (HAQ.out.alloc _) ⟨wq.heap.size, 0, none⟩ 1 1 [.bool false, .bool cb, .int .i64 cx, .int .u64 cu, .string ct, .complex .f64 cp cq, .int .i64 (many : Int)] rfl rfl (World.news_of_block (Blk.new _ _ _).out) (by simp [Value.oneCell']) (by simp only [maxLen]; omega) (by omega) (by simpa using Nat.le_succ_of_le HBQ.out.size) ?_; intro v1 w5 hown1 hgrow1 _ hat1; obtain ⟨e0, e1, e2, e3, e4, e5, e6, k0, k1, k2, k3, k4, k5, k6⟩ := HTG.out w5 _ hgrow1; simp only at e0 e1 e2 e3 e4 e5 e6)
                have HB5 := hide ((HBQ.out.alloc HBQ.out.size _).grown hgrow1 (by simpa using Nat.le_succ_of_le HBQ.out.size) (fun j hj => (HAQ.out.lt j hj).1))
                have HR5 := hide ((HRQ.out.alloc _).grown hgrow1 (fun h => own_ne_blk HAQ.out HRQ.out (by decide) h.symm))
                have HOW := hide hown1
                clear hown1 hgrow1 hat1
                go_roundg g'
                case measure => omega
                case rel =>
                  have hl := hlf.out
                  have ht : tot ((L' ++ [((⟨xb, xx, xu, xt, xp, xq⟩ : CD), xm)]) ++ [((⟨cb, cx, cu, ct, cp, cq⟩ : CD), many)]) = tot (L' ++ [((⟨xb, xx, xu, xt, xp, xq⟩ : CD), xm)]) + many := tot_snoc _ _
                  refine ⟨p + a + m, (L' ++ [((⟨xb, xx, xu, xt, xp, xq⟩ : CD), xm)]) ++ [((⟨cb, cx, cu, ct, cp, cq⟩ : CD), many)], hpam, by have := hgk.out; show _ < _; omega, HRR3.out, ⟨lf - many, ?_, by omega, congrArg (Value.int .i64) (by omega)⟩, ?_, ?_, ?_, HR5.out, HB5.out⟩
                  · show _ = _; rw [ht]; omega
                  · have := htot.out; show _ ≤ _; rw [ht]; omega
                  · show ∀ x ∈ _, _; intro x hx
                    rcases List.mem_append.1 hx with h | h
                    · exact hpos.out x h
                    · rw [List.mem_singleton] at h; rw [h]; exact hm1
                  · rw [List.length_append, HNL.out, cellsR_snoc]; exact HOW.out
              · rw [hq] at KEE HNB
                have hrr := HRR2.out
                rw [if_pos (by rw [lastEq_snoc, hq]; exact HNB.out.2 rfl)] at hrr
                subst hrr
                clear HRR2 HNB hq
                go_wp2_with fail
                refine K.out.mono ?_
                rintro e w2 ⟨rfl, hb2⟩
                have HB2 := hide (HBE.out.trans (hb2.mono HBE.out.size))
                have HA2 := hide (own_below HA.out hb2)
                have HRD2 := hide (HRD.out.below hb2)
                have KN3 := hide (KN2.out w2 HRD2.out (HT.out.below HB2.out))
                clear hb2 KN2
                go_wp2_with fail
                refine KN3.out.mono ?_
                rintro e w3 ⟨rfl, hr3, hf3⟩
                have HR3 := hide hr3
                have HB3 := hide (HB2.out.trans (hf3.below HB2.out.size (fun j hj => by omega)))
                have HA3 := hide (own_fr HA2.out hf3 (fun j hj h => own_ne_blk HA2.out HRD2.out (by decide) (by rw [hj, h])))
                clear hr3 hf3
                have hA3a := HA3.out.alloc (.cells (runA ⟨cb, cx, cu, ct, cp, cq⟩ many) 173)
                have hT3a := Blk.new w3 (runA ⟨cb, cx, cu, ct, cp, cq⟩ many) 173
                have hB3a := HB3.out.alloc HB3.out.size (.cells (runA ⟨cb, cx, cu, ct, cp, cq⟩ many) 173)
                have hR3a := HR3.out.alloc (.cells (runA ⟨cb, cx, cu, ct, cp, cq⟩ many) 173)
                have hgl := (HA3.out.lt g rfl).2
                have hj0 : (0 : Int) ≤ (j : Int) := by omega
                have hj1 : (j : Int) ≤ 10000 := by omega
                go_wp2_with fail
                obtain ⟨wz, hwz⟩ : ∃ wz, w3.alloc (.cells (runA ⟨cb, cx, cu, ct, cp, cq⟩ many) 173) = wz := ⟨_, rfl⟩
                rw [hwz] at hA3a hT3a hB3a hR3a
                have HAZ := hide hA3a
                have HTZ := hide hT3a
                have HBZ := hide hB3a
                have HRZ := hide hR3a
                unfold runA at hwz
                simp only at hwz
                rw [hwz]
                obtain ⟨a0, a1, a2, a3, a4, a5, a6⟩ := own_atR hA3a HNL.out.symm HXJ.out
                obtain ⟨b0, b1, b2, b3, b4, b5, b6, f0, f1, f2, f3, f4, f5, f6⟩ := blk_six7 hT3a
                simp only at a0 a1 a2 a3 a4 a5 a6 b0 b1 b2 b3 b4 b5 b6
                have KQ := hide (fun d os => Calls.regrown_of (d := d) (os := os) (KEE.out (Sort.grow (redrawn wz d) os)))
                have q0 := cell_regrown a0
                have q1 := cell_regrown a1
                have q2 := cell_regrown a2
                have q3 := cell_regrown a3
                have q4 := cell_regrown a4
                have q5 := cell_regrown a5
                have r0 := cell_regrown b0
                have r1 := cell_regrown b1
                have r2 := cell_regrown b2
                have r3 := cell_regrown b3
                have r4 := cell_regrown b4
                have r5 := cell_regrown b5
                clear hwz hA3a hT3a hB3a hR3a a0 a1 a2 a3 a4 a5 a6 b0 b1 b2 b3 b4 b5 b6 f0 f1 f2 f3 f4 f5 f6
                have hjj : (j : Int) < (j : Int) + 1 := by omega
                refine wp_region_quiet_below (by kernel_rfl) (by kernel_rfl) ?_
                repeat (go_big_quiet_step (exact KQ.out _ _))
                refine wpQuiet_nil ?_
                intro _ hw'
                obtain ⟨⟨dq, osq⟩, hw''⟩ := hw'
                subst hw''
                have hb4 := below_regrown wz dq osq
                generalize Sort.grow (redrawn wz dq) osq = w4 at *
                clear q0 q1 q2 q3 q4 q5 r0 r1 r2 r3 r4 r5 hjj
                have HBQ := hide (HBZ.out.trans (hb4.mono HBZ.out.size))
                clear hb4
                go_wp2_with fail
                go_ret2
                exact ⟨_, rfl, inC_nil _, HBQ.out⟩
        · have hrr := HRR.out
          rw [if_pos he0, if_neg her] at hrr
          have KN2 := hide (fun w h hT => KNN.out w h hT (runV CD.z 0) (p + a + m) e' er (.inr (.inl ⟨he0, by omega, rfl, rfl, rfl, rfl⟩)))
          unfold runV runA CD.z at KN2
          simp only at KN2
          have hne : ((er : Int) != 0) = true := by rw [bne_iff_ne]; omega
          subst hrr
          clear HRR hee hpa hla hlm KNN he0 her
          go_wp2_with fail
          refine K.out.mono ?_
          rintro e w2 ⟨rfl, hb2⟩
          have HB2 := hide (HBE.out.trans (hb2.mono HBE.out.size))
          have KN3 := hide (KN2.out w2 (HRD.out.below hb2) (HT.out.below HB2.out))
          clear hb2 KN2
          go_wp2_with fail
          refine KN3.out.mono ?_
          rintro e w3 ⟨rfl, _, hf3⟩
          have HB3 := hide (HB2.out.trans (hf3.below HB2.out.size (fun j hj => by omega)))
          clear hf3
          go_wp2_with fail
          go_ret2
          exact ⟨_, rfl, inC_nil _, HB3.out.alloc HB3.out.size _⟩
      · have hrr := HRR.out
        rw [if_neg he0] at hrr
        have KN2 := hide (fun w h hT => KNN.out w h hT (runV CD.z 0) (p + a) e0 e0 (.inl ⟨by omega, rfl, rfl, rfl, rfl⟩))
        unfold runV runA CD.z at KN2
        simp only at KN2
        have hne : ((e0 : Int) != 0) = true := by rw [bne_iff_ne]; omega
        subst hrr
        clear HRR hee hpa hla hlm KNN he0
        go_wp2_with fail
        refine K.out.mono ?_
        rintro e w2 ⟨rfl, hb2⟩
        have HB2 := hide (HBE.out.trans (hb2.mono HBE.out.size))
        have KN3 := hide (KN2.out w2 (HRD.out.below hb2) (HT.out.below HB2.out))
        clear hb2 KN2
        go_wp2_with fail
        refine KN3.out.mono ?_
        rintro e w3 ⟨rfl, _, hf3⟩
        have HB3 := hide (HB2.out.trans (hf3.below HB2.out.size (fun j hj => by omega)))
        clear hf3
        go_wp2_with fail
        go_ret2
        exact ⟨_, rfl, inC_nil _, HB3.out.alloc HB3.out.size _⟩

theorem cellsL_last (L : List (CD × Nat)) (x : CD × Nat) (hx : 1 ≤ x.2) (t : Nat) (ht : tot (L ++ [x]) = t + 1) : (cellsL (L ++ [x]))[t]? = some x.1 := by
  rw [tot_snoc] at ht
  rw [cellsL_snoc, List.getElem?_append_right (by rw [cellsL_len]; omega), cellsL_len, List.getElem?_replicate, if_pos (by omega)]
set_option maxHeartbeats 8000000 in
set_option maxRecDepth 100000 in
theorem srdecode_loop (k : Int) (h1 : 1 ≤ k) (h6 : k ≤ 6) (s : ByteArray) (hs : s.size ≤ maxLen) (n : Nat) (hn : n ≤ 10000) (w : World) (hT : Tabs w) (RES : Nat × List (CD × Nat)) (hRES : Hid (rgo k (bn s) n (s.size + 1) 0 [] = RES)) :
    Calls Tryz.prog 57 #[.int .i64 k, .string s, .int .i64 n] w (DPost w (RES.1, cellsL RES.2)) := by
  have KK := hide (skind_any k true (by show _ = _; rw [eq_comm, decide_eq_true_eq]; exact ⟨h1, h6⟩))
  have hn0 : (0 : Int) ≤ (n : Int) := by omega
  have hn1 : (n : Int) ≤ 10000 := by omega
  have KF := hide (fun (s' : ByteArray) (hs : s'.size ≤ maxLen) (w : World) => sfew_any s' hs w)
  have KS := hide (fun (s' : ByteArray) (hs : s'.size ≤ maxLen) (w : World) (hT : Tabs w) => sread_all k h1 h6 s' hs w hT)
  have KE := hide (fun (a b : CD) (w : World) => requal_any k h1 h6 a b w)
  obtain ⟨i0, hi, hz0, hz1, hz2⟩ := info_parts info_cC
  have HT := hide hT
  have hS := hide hs
  clear hT hs
  have hst := fun (w1 : World) (a1 : Addr) (m : Mode) (x y : Nat) => run_store Tryz.prog w1 a1 (.complex .f64 x y) m rfl
  go_enter Tryz.func57, Tryz.ntmps57
  go_wp2_with fail
  refine (KK.out _).mono ?_
  rintro e w1 ⟨rfl, rfl⟩
  go_wp2_with fail
  go_loopg [1, 8] (s.size + 1) (fun gk sv lv wr => ∃ (p : Nat) (L : List (CD × Nat)), p ≤ s.size ∧ Hid (s.size - p < gk) ∧ Hid (rgo k (bn s) n gk p L = RES) ∧ (∃ s' : ByteArray, sv = .string s' ∧ Hid (bn s' = (bn s).drop p) ∧ s'.size ≤ s.size) ∧ (∃ T : Nat, Hid (T = tot L) ∧ T ≤ n ∧ wr.ownsRow w.heap.size 45 6 lv T ((cellsL L).flatMap cellsC)) ∧ Hid (∀ x ∈ L, 1 ≤ x.2) ∧ Below w.heap.size w wr)
  case atStart => exact ⟨0, [], by omega, by show _ < _; omega, hRES.out, ⟨s, rfl, rfl, Nat.le_refl _⟩, ⟨0, rfl, by omega, World.ownsRow_nil _ _ _ _⟩, by show ∀ x ∈ _, _; simp, Below.refl _ _⟩
  case round =>
    obtain ⟨p, L, hp, hgk, hrgo, ⟨s', rfl, HS', hs'⟩, ⟨T, hTL, hTn, ha⟩, hpos, hbe⟩ := hrel
    have hgk0 := hgk.out
    obtain ⟨g', rfl⟩ : ∃ g', gk = g' + 1 := ⟨gk - 1, by omega⟩
    clear hgk0
    have HA := hide ha
    have HBE := hide hbe
    have hl := congrArg List.length HS'.out
    rw [bn_len, List.length_drop, bn_len] at hl
    obtain ⟨Aa, ca, rfl⟩ := own_form3 ha
    clear ha hbe
    by_cases hend : p = s.size
    · have hr := hrgo.out
      rw [rgo_end k (bn s) n g' p L (by rw [bn_len]; omega)] at hr
      have hz1 : s' = { data := #[] } := by
        apply bn_inj
        have := bn_len s'
        rw [show s'.size = 0 by omega] at this
        rw [List.eq_nil_of_length_eq_zero this]; rfl
      subst hz1
      by_cases hlt : T < n
      · rw [if_pos (by rw [← hTL.out]; exact hlt)] at hr
        have hlt' : (T : Int) < (n : Int) := by omega
        subst hr
        clear hl hlt
        go_wp2_with fail
        go_ret2
        exact ⟨_, rfl, inC_nil _, HBE.out⟩
      · rw [if_neg (by rw [← hTL.out]; exact hlt)] at hr
        have hlt' : decide ((T : Int) < (n : Int)) = false := by rw [decide_eq_false_iff_not]; omega
        have hlt2 : decide (T < n) = false := by rw [decide_eq_false_iff_not]; exact hlt
        subst hr
        clear hl hlt
        go_wp2_with fail
        go_ret2
        exact ⟨_, rfl, inC_own HA.out (by rw [cellsL_len]; exact hTL.out), HBE.out⟩
    · have hsz := str_someD (a := s') (by omega)
      have hzne : (!s'.toList.isEmpty) = true := by rw [hsz]; rfl
      rcases hf : few ((bn s).drop p) 0 with ⟨many, a, e0⟩
      rcases hg : gp k ((bn s).drop (p + a)) with ⟨c, m, e', er⟩
      have hr := hrgo.out
      rw [rgo_on k (bn s) n g' p L (by rw [bn_len]; omega) many a e0 hf c m e' er hg, ← hTL.out] at hr
      have HRR := hide hr
      have hpa : 0 < a ∨ e0 ≠ 0 := by
        have := few_le ((bn s).drop p) 0
        rw [hf] at this
        simp only at this
        omega
      have hla := few_le0 ((bn s).drop p)
      rw [hf, List.length_drop, bn_len] at hla
      have hlm := gp_le k ((bn s).drop (p + a))
      rw [hg, List.length_drop, bn_len] at hlm
      have h64 := few_lt64 ((bn s).drop p)
      rw [hf] at h64
      simp only at hla hlm h64
      have hms : s'.size ≤ 9223372036854775807 := by have := hS.out; unfold maxLen at this; omega
      have K1 := hide (KF.out s' (Nat.le_trans hs' hS.out))
      rw [HS'.out, hf] at K1
      simp only at K1
      have hx2 : bn (s'.extract a s'.size) = (bn s).drop (p + a) := by rw [bn_drop, HS'.out, List.drop_drop]
      have hx3 : (s'.extract a s'.size).size = s'.size - a := by simp
      have K2 := hide (fun w hT => KS.out (s'.extract a s'.size) (by have := hS.out; omega) w hT)
      rw [hx2, hg] at K2
      simp only at K2
      obtain ⟨cb, cx, cu, ct, cp, cq⟩ := c
      unfold CD.v clV clA at K2
      simp only at K2
      have has : a ≤ s'.size := by omega
      clear hr hf hg hx2 hx3 hsz
      by_cases he0 : e0 = 0
      · by_cases her : er = 0
        · subst he0 her
          have hrr := HRR.out
          rw [if_pos rfl, if_pos rfl] at hrr
          have HRR2 := hide hrr
          have hap : 0 < a := by omega
          have hpam : p + a + m ≤ s.size := by omega
          have hsam : a + m ≤ s'.size := by omega
          have HSN : Hid (bn (s'.extract (a + m) s'.size) = (bn s).drop (p + a + m)) := by show _ = _; rw [bn_drop, HS'.out, List.drop_drop, Nat.add_assoc]
          have hsn2 : (s'.extract (a + m) s'.size).size ≤ s.size := by simp; omega
          clear hrr HRR hpa hla hlm hl
          go_wp2_with fail
          refine (K1.out _).mono ?_
          rintro e w2 ⟨rfl, rfl⟩
          have K3 := hide (K2.out wr (HT.out.below HBE.out))
          go_wp2_with fail
          refine K3.out.mono ?_
          rintro e w3 ⟨rfl, hb3⟩
          have HB3 := hide (HBE.out.trans (hb3.mono HBE.out.size))
          have HA3 := hide (own_below HA.out hb3)
          clear hb3 K3 K2 K1
          have hA3a := HA3.out.alloc (.cells (clA cb cx cu ct cp cq) 45)
          have hT3a := Blk.new w3 (clA cb cx cu ct cp cq) 45
          have hB3a := HB3.out.alloc HB3.out.size (.cells (clA cb cx cu ct cp cq) 45)
          go_wp2_with fail
          obtain ⟨wz, hwz⟩ : ∃ wz, w3.alloc (.cells (clA cb cx cu ct cp cq) 45) = wz := ⟨_, rfl⟩
          rw [hwz] at hA3a hT3a hB3a
          have HAZ := hide hA3a
          have HTZ := hide hT3a
          have HBZ := hide hB3a
          have HT3 := hide (show ∀ j, (Value.slice Aa T ca).ownBlock = some j → j ≠ w3.heap.size from fun j hj h => by have := (HA3.out.lt j hj).2; omega)
          unfold clA at hwz
          skip
          rw [hwz]
          clear hwz hA3a hB3a
          obtain ⟨b0, b1, b2, b3, b4, b5, f0, f1, f2, f3, f4, f5⟩ := Blk.six (by exact hT3a)
          have r0 := cell_regrown b0
          have r1 := cell_regrown b1
          have r2 := cell_regrown b2
          have r3 := cell_regrown b3
          have r4 := cell_regrown b4
          have r5 := cell_regrown b5
          clear b0 b1 b2 b3 b4 b5 f0 f1 f2 f3 f4 f5 hT3a
          have hT0 : (0 : Int) ≤ (T : Int) := by omega
          have hTn' : (T : Int) ≤ (n : Int) := by omega
          by_cases hm0 : many = 0
          · rw [if_pos (.inl hm0)] at HRR2
            subst hm0
            have hrr := HRR2.out
            subst hrr
            clear HRR2
            refine wp_region_quiet_below (by kernel_rfl) (by kernel_rfl) ?_
            repeat (go_big_quiet_step (fail))
            refine wpQuiet_nil ?_
            intro _ hw'
            obtain ⟨⟨dq, osq⟩, hw''⟩ := hw'
            subst hw''
            have hb4 := below_regrown wz dq osq
            generalize Sort.grow (redrawn wz dq) osq = w4 at *
            clear r0 r1 r2 r3 r4 r5
            go_wp2_with fail
            go_ret2
            exact ⟨_, rfl, inC_nil _, HBZ.out.trans (hb4.mono HBZ.out.size)⟩
          · have hz0m : ((many : Int) == 0) = false := by rw [beq_eq_false_iff_ne]; omega
            by_cases hbig : n - T < many
            · rw [if_pos (.inr (.inl hbig))] at HRR2
              have hrr := HRR2.out
              subst hrr
              have hbig' : (n : Int) - (T : Int) < (many : Int) := by omega
              clear HRR2 hm0 hbig
              refine wp_region_quiet_below (by kernel_rfl) (by kernel_rfl) ?_
              repeat (go_big_quiet_step (fail))
              refine wpQuiet_nil ?_
              intro _ hw'
              obtain ⟨⟨dq, osq⟩, hw''⟩ := hw'
              subst hw''
              have hb4 := below_regrown wz dq osq
              generalize Sort.grow (redrawn wz dq) osq = w4 at *
              clear r0 r1 r2 r3 r4 r5
              go_wp2_with fail
              go_ret2
              exact ⟨_, rfl, inC_nil _, HBZ.out.trans (hb4.mono HBZ.out.size)⟩
            · have hfit : decide ((n : Int) - (T : Int) < (many : Int)) = false := by rw [decide_eq_false_iff_not]; omega
              have hnb : (many = 0 ∨ n - T < many ∨ lastEq k L ⟨cb, cx, cu, ct, cp, cq⟩ = true) ↔ lastEq k L ⟨cb, cx, cu, ct, cp, cq⟩ = true := by
                constructor
                · rintro (h | h | h)
                  · omega
                  · omega
                  · exact h
                · exact fun h => .inr (.inr h)
              have HNB := hide hnb
              have hfit2 : (many : Int) ≤ (n : Int) - (T : Int) := by omega
              have hmT : T + many ≤ 10000 := by omega
              have hmT2 : T + many ≤ n := by omega
              have hm1 : 1 ≤ many := by omega
              clear hnb hbig
              rcases List.eq_nil_or_concat L with rfl | ⟨L', x, rfl⟩
              · obtain rfl : T = 0 := hTL.out
                have hfit3 : (many : Int) ≤ (n : Int) := by omega
                have hfit4 : decide (n < many) = false := by rw [decide_eq_false_iff_not]; omega
                skip
                have hrr := HRR2.out
                rw [if_neg (fun h => by have := HNB.out.1 h; rw [lastEq_nil] at this; cases this)] at hrr
                have HRR3 := hide hrr
                clear HRR2 HNB hrr hm0
                refine wp_region_quiet_below (by kernel_rfl) (by kernel_rfl) ?_
                repeat (go_big_quiet_step (fail))
                refine wpQuiet_nil ?_
                intro _ hw'
                obtain ⟨⟨dq, osq⟩, hw''⟩ := hw'
                subst hw''
                have hb4 := below_regrown wz dq osq
                generalize Sort.grow (redrawn wz dq) osq = w4 at *
                clear r0 r1 r2 r3 r4 r5
                have HPX : Hid (∀ x ∈ ([] ++ [((⟨cb, cx, cu, ct, cp, cq⟩ : CD), many)]), 1 ≤ x.2) := by
                  show ∀ x ∈ _, _; intro x hx; rw [List.nil_append, List.mem_singleton] at hx; rw [hx]; exact hm1
                have HLX : Hid (([] : List (CD × Nat)) = []) := rfl
                have HAQ := hide (own_below HAZ.out hb4)
                have HBQ := hide (HBZ.out.trans (hb4.mono HBZ.out.size))
                have HTQ := hide (HTZ.out.below hb4 HTZ.out.lt)
                have hTlt := HTQ.out.lt
                clear hb4
                go_wp2_with fail
                go_loopw [8, 15] (fun ov qv wx => ∃ q : Nat, q ≤ many ∧ qv = .int .u64 (q : Int) ∧ wx.ownsRow w.heap.size 45 6 ov (0 + q) ((cellsL [] ++ List.replicate q (⟨cb, cx, cu, ct, cp, cq⟩ : CD)).flatMap cellsC) ∧ (∀ j, ov.ownBlock = some j → j ≠ w3.heap.size) ∧ Blk wx w3.heap.size 45 (clA cb cx cu ct cp cq) ∧ Below w.heap.size w wx) (fun _ qv _ => many - (intOf qv).toNat)
                case atStart => exact ⟨0, by omega, rfl, by simpa using HAQ.out, HT3.out, HTQ.out, HBQ.out⟩
                case round =>
                  obtain ⟨q, hq, rfl, hb, hne, hbl, hbe2⟩ := hrel
                  obtain ⟨Ab, cb2, rfl⟩ := own_form3 hb
                  by_cases hlq : q < many
                  · have hblt := hbl.lt
                    obtain ⟨c0, c1, c2, c3, c4, c5, f0, f1, f2, f3, f4, f5⟩ := Blk.six (by exact hbl)
                    have HB2 := hide hb
                    have HNE2 := hide hne
                    have HBL2 := hide hbl
                    have HE2 := hide hbe2
                    have hq0 : (q : Int) < (many : Int) := by omega
                    have HR : Hid (List.replicate (q + 1) (⟨cb, cx, cu, ct, cp, cq⟩ : CD) = List.replicate q (⟨cb, cx, cu, ct, cp, cq⟩ : CD) ++ [⟨cb, cx, cu, ct, cp, cq⟩]) := by show _ = _; rw [List.replicate_succ']
                    clear hb hbl hbe2 hne
                    go_wp2_with (at_builtin; refine wpList_append_own_at _ rfl _ _ 25 rfl w.heap.size 45 i0 _ 6 56 Tryz.underlying25 hi hz0 hz1 hz2 rfl (by decide) _ _ _ rfl (HB2.out.alloc _) ⟨wr.heap.size, 0, none⟩ 1 1 [.bool false, .bool cb, .int .i64 cx, .int .u64 cu, .string ct, .complex .f64 cp cq] rfl rfl (World.news_of_block (Blk.new _ _ _).out) (by simp [Value.oneCell']) (by simp only [maxLen]; omega) (by omega) (by simpa using Nat.le_succ_of_le HE2.out.size) ?_; intro v1 w5 hown1 hgrow1 _ hat1)
                    have HE3 := hide ((HE2.out.alloc HE2.out.size _).grown hgrow1 (by simpa using Nat.le_succ_of_le HE2.out.size) (fun j hj => (HB2.out.lt j hj).1))
                    have HBL3 := hide ((HBL2.out.alloc _).grown hgrow1 (fun h => HNE2.out _ h.symm rfl))
                    have HN3 : Hid (∀ j, v1.ownBlock = some j → j ≠ w3.heap.size) := fun j hj => by
                      rcases hat1 with h | h
                      · exact HNE2.out j (h ▸ hj)
                      · rw [h] at hj
                        injection hj with hj
                        simp at hj
                        omega
                    have HB3' : Hid (w5.ownsRow w.heap.size 45 6 v1 (0 + (q + 1)) ((cellsL [] ++ List.replicate (q + 1) (⟨cb, cx, cu, ct, cp, cq⟩ : CD)).flatMap cellsC)) := by
                      show World.ownsRow _ _ _ _ _ _ _
                      rw [HR.out, ← List.append_assoc, cellsC_snoc]; exact hown1
                    clear hown1 hgrow1 hat1
                    go_roundw
                    case rel => exact ⟨q + 1, by omega, by go_num, HB3'.out, HN3.out, HBL3.out, HE3.out⟩
                    case measure => simp [intOf] <;> omega
                  · obtain rfl : q = many := by omega
                    have HB2 := hide hb
                    have HE2 := hide hbe2
                    clear hb hbl hbe2 hne
                    go_wp2_with fail
                    go_roundg g'
                    case measure => omega
                    case rel =>
                      have hB := HB2.out
                      rw [← cellsL_snoc [] ((⟨cb, cx, cu, ct, cp, cq⟩ : CD), q)] at hB
                      refine ⟨p + a + m, [] ++ [((⟨cb, cx, cu, ct, cp, cq⟩ : CD), q)], hpam, by have := hgk.out; show _ < _; omega, HRR3.out, ⟨_, rfl, HSN.out, hsn2⟩, ⟨0 + q, ?_, by omega, hB⟩, HPX.out, HE2.out⟩
                      show _ = _
                      rw [tot_snoc, ← hTL.out]
              · rw [List.concat_eq_append] at HA HRR2 hTL hpos HNB HA3 HAZ
                have hx1 := hpos.out x (by simp)
                obtain ⟨t, rfl⟩ : ∃ t, T = t + 1 := ⟨T - 1, by have := hTL.out; rw [tot_snoc] at this; omega⟩
                have hfit3 : (many : Int) ≤ (n : Int) - ((t : Int) + 1) := by omega
                have hfit4 : decide ((n : Int) - ((t : Int) + 1) < (many : Int)) = false := by rw [decide_eq_false_iff_not]; omega
                have hxt := cellsL_last L' x hx1 t hTL.out.symm
                obtain ⟨g, cap, hv⟩ := own_addr HAZ.out (by omega)
                injection hv with hv1 _ hv2
                subst hv1 hv2
                rw [lastEq_snoc] at HNB
                have KEE := hide (fun w => KE.out x.1 ⟨cb, cx, cu, ct, cp, cq⟩ w)
                have hat := own_atC HAZ.out (by rw [cellsL_len]; exact hTL.out) hxt
                obtain ⟨xc, xm⟩ := x
                obtain ⟨xb, xx, xu, xt, xp, xq⟩ := xc
                unfold CD.v clV clA at KEE
                simp only at KEE HNB
                obtain ⟨a0, a1, a2, a3, a4, a5⟩ := hat
                simp only at a0 a1 a2 a3 a4 a5
                have q0 := cell_regrown a0
                have q1 := cell_regrown a1
                have q2 := cell_regrown a2
                have q3 := cell_regrown a3
                have q4 := cell_regrown a4
                have q5 := cell_regrown a5
                have ht0 : (0 : Int) ≤ (t : Int) := by omega
                have ht1 : (t : Int) ≤ 10000 := by omega
                have ht2 : (t : Int) < (t : Int) + 1 := by omega
                have ht3 : (0 : Int) < (t : Int) + 1 := by omega
                clear a0 a1 a2 a3 a4 a5 hxt hm0
                cases hq : ceq k ⟨xb, xx, xu, xt, xp, xq⟩ ⟨cb, cx, cu, ct, cp, cq⟩
                · rw [hq] at KEE HNB
                  have hrr := HRR2.out
                  rw [if_neg (fun h => by rw [lastEq_snoc, hq] at h; have := HNB.out.1 h; cases this)] at hrr
                  have HRR3 := hide hrr
                  clear HRR2 HNB hrr hq
                  have KQ := hide (fun d os => Calls.regrown_of (d := d) (os := os) (KEE.out (Sort.grow (redrawn wz d) os)))
                  refine wp_region_quiet_below (by kernel_rfl) (by kernel_rfl) ?_
                  repeat (go_big_quiet_step (exact KQ.out _ _))
                  refine wpQuiet_nil ?_
                  intro _ hw'
                  obtain ⟨⟨dq, osq⟩, hw''⟩ := hw'
                  subst hw''
                  have hb4 := below_regrown wz dq osq
                  generalize Sort.grow (redrawn wz dq) osq = w4 at *
                  clear r0 r1 r2 r3 r4 r5
                  clear q0 q1 q2 q3 q4 q5 ht2 ht3
                  have HPX : Hid (∀ x ∈ ((L' ++ [((⟨xb, xx, xu, xt, xp, xq⟩ : CD), xm)]) ++ [((⟨cb, cx, cu, ct, cp, cq⟩ : CD), many)]), 1 ≤ x.2) := by
                    show ∀ x ∈ _, _; intro x hx
                    rcases List.mem_append.1 hx with h | h
                    · exact hpos.out x h
                    · rw [List.mem_singleton] at h; rw [h]; exact hm1
                  have HAQ := hide (own_below HAZ.out hb4)
                  have HBQ := hide (HBZ.out.trans (hb4.mono HBZ.out.size))
                  have HTQ := hide (HTZ.out.below hb4 HTZ.out.lt)
                  have hTlt := HTQ.out.lt
                  clear hb4
                  go_wp2_with fail
                  go_loopw [8, 15] (fun ov qv wx => ∃ q : Nat, q ≤ many ∧ qv = .int .u64 (q : Int) ∧ wx.ownsRow w.heap.size 45 6 ov ((t + 1) + q) ((cellsL (L' ++ [((⟨xb, xx, xu, xt, xp, xq⟩ : CD), xm)]) ++ List.replicate q (⟨cb, cx, cu, ct, cp, cq⟩ : CD)).flatMap cellsC) ∧ (∀ j, ov.ownBlock = some j → j ≠ w3.heap.size) ∧ Blk wx w3.heap.size 45 (clA cb cx cu ct cp cq) ∧ Below w.heap.size w wx) (fun _ qv _ => many - (intOf qv).toNat)
                  case atStart => exact ⟨0, by omega, rfl, by simpa using HAQ.out, HT3.out, HTQ.out, HBQ.out⟩
                  case round =>
                    obtain ⟨q, hq, rfl, hb, hne, hbl, hbe2⟩ := hrel
                    obtain ⟨Ab, cb2, rfl⟩ := own_form3 hb
                    by_cases hlq : q < many
                    · have hblt := hbl.lt
                      obtain ⟨c0, c1, c2, c3, c4, c5, f0, f1, f2, f3, f4, f5⟩ := Blk.six (by exact hbl)
                      have HB2 := hide hb
                      have HNE2 := hide hne
                      have HBL2 := hide hbl
                      have HE2 := hide hbe2
                      have hq0 : (q : Int) < (many : Int) := by omega
                      have HR : Hid (List.replicate (q + 1) (⟨cb, cx, cu, ct, cp, cq⟩ : CD) = List.replicate q (⟨cb, cx, cu, ct, cp, cq⟩ : CD) ++ [⟨cb, cx, cu, ct, cp, cq⟩]) := by show _ = _; rw [List.replicate_succ']
                      clear hb hbl hbe2 hne
                      go_wp2_with (at_builtin; refine wpList_append_own_at _ rfl _ _ 25 rfl w.heap.size 45 i0 _ 6 56 Tryz.underlying25 hi hz0 hz1 hz2 rfl (by decide) _ _ _ rfl (HB2.out.alloc _) ⟨wr.heap.size, 0, none⟩ 1 1 [.bool false, .bool cb, .int .i64 cx, .int .u64 cu, .string ct, .complex .f64 cp cq] rfl rfl (World.news_of_block (Blk.new _ _ _).out) (by simp [Value.oneCell']) (by simp only [maxLen]; omega) (by omega) (by simpa using Nat.le_succ_of_le HE2.out.size) ?_; intro v1 w5 hown1 hgrow1 _ hat1)
                      have HE3 := hide ((HE2.out.alloc HE2.out.size _).grown hgrow1 (by simpa using Nat.le_succ_of_le HE2.out.size) (fun j hj => (HB2.out.lt j hj).1))
                      have HBL3 := hide ((HBL2.out.alloc _).grown hgrow1 (fun h => HNE2.out _ h.symm rfl))
                      have HN3 : Hid (∀ j, v1.ownBlock = some j → j ≠ w3.heap.size) := fun j hj => by
                        rcases hat1 with h | h
                        · exact HNE2.out j (h ▸ hj)
                        · rw [h] at hj
                          injection hj with hj
                          simp at hj
                          omega
                      have HB3' : Hid (w5.ownsRow w.heap.size 45 6 v1 ((t + 1) + (q + 1)) ((cellsL (L' ++ [((⟨xb, xx, xu, xt, xp, xq⟩ : CD), xm)]) ++ List.replicate (q + 1) (⟨cb, cx, cu, ct, cp, cq⟩ : CD)).flatMap cellsC)) := by
                        show World.ownsRow _ _ _ _ _ _ _
                        rw [HR.out, ← List.append_assoc, cellsC_snoc]; exact hown1
                      clear hown1 hgrow1 hat1
                      go_roundw
                      case rel => exact ⟨q + 1, by omega, by go_num, HB3'.out, HN3.out, HBL3.out, HE3.out⟩
                      case measure => simp [intOf] <;> omega
                    · obtain rfl : q = many := by omega
                      have HB2 := hide hb
                      have HE2 := hide hbe2
                      clear hb hbl hbe2 hne
                      go_wp2_with fail
                      go_roundg g'
                      case measure => omega
                      case rel =>
                        have hB := HB2.out
                        rw [← cellsL_snoc (L' ++ [((⟨xb, xx, xu, xt, xp, xq⟩ : CD), xm)]) ((⟨cb, cx, cu, ct, cp, cq⟩ : CD), q)] at hB
                        refine ⟨p + a + m, (L' ++ [((⟨xb, xx, xu, xt, xp, xq⟩ : CD), xm)]) ++ [((⟨cb, cx, cu, ct, cp, cq⟩ : CD), q)], hpam, by have := hgk.out; show _ < _; omega, HRR3.out, ⟨_, rfl, HSN.out, hsn2⟩, ⟨(t + 1) + q, ?_, by omega, hB⟩, HPX.out, HE2.out⟩
                        show _ = _
                        rw [tot_snoc, ← hTL.out]
                · rw [hq] at KEE HNB
                  have hrr := HRR2.out
                  rw [if_pos (by rw [lastEq_snoc, hq]; exact HNB.out.2 rfl)] at hrr
                  subst hrr
                  clear HRR2 HNB hq
                  have KQ := hide (fun d os => Calls.regrown_of (d := d) (os := os) (KEE.out (Sort.grow (redrawn wz d) os)))
                  refine wp_region_quiet_below (by kernel_rfl) (by kernel_rfl) ?_
                  repeat (go_big_quiet_step (exact KQ.out _ _))
                  refine wpQuiet_nil ?_
                  intro _ hw'
                  obtain ⟨⟨dq, osq⟩, hw''⟩ := hw'
                  subst hw''
                  have hb4 := below_regrown wz dq osq
                  generalize Sort.grow (redrawn wz dq) osq = w4 at *
                  clear r0 r1 r2 r3 r4 r5
                  go_wp2_with fail
                  go_ret2
                  exact ⟨_, rfl, inC_nil _, HBZ.out.trans (hb4.mono HBZ.out.size)⟩
        · have hrr := HRR.out
          rw [if_pos he0, if_neg her] at hrr
          have hne : ((er : Int) != 0) = true := by rw [bne_iff_ne]; omega
          subst hrr he0
          clear HRR hpa hla hlm her hl
          go_wp2_with fail
          refine (K1.out _).mono ?_
          rintro e w2 ⟨rfl, rfl⟩
          have K3 := hide (K2.out wr (HT.out.below HBE.out))
          go_wp2_with fail
          refine K3.out.mono ?_
          rintro e w3 ⟨rfl, hb3⟩
          have HB3 := hide (HBE.out.trans (hb3.mono HBE.out.size))
          clear hb3
          go_wp2_with fail
          go_ret2
          exact ⟨_, rfl, inC_nil _, HB3.out.alloc HB3.out.size _⟩
      · have hrr := HRR.out
        rw [if_neg he0] at hrr
        have hne : ((e0 : Int) != 0) = true := by rw [bne_iff_ne]; omega
        subst hrr
        clear HRR hpa hla hlm he0 hl
        go_wp2_with fail
        refine (K1.out _).mono ?_
        rintro e w2 ⟨rfl, rfl⟩
        go_wp2_with fail
        go_ret2
        exact ⟨_, rfl, inC_nil _, HBE.out⟩

def rspec (k : Int) (D : List Nat) (n : Int) : Nat × List CD :=
  if k < 1 ∨ 6 < k then (14, []) else if n < 0 ∨ 10000 < n then (1, []) else ((rgo k D n.toNat (D.length + 1) 0 []).1, cellsL (rgo k D n.toNat (D.length + 1) 0 []).2)
theorem rgo_inv (k : Int) (D : List Nat) (n : Nat) : ∀ (f p : Nat) (L : List (CD × Nat)), tot L ≤ n → (∀ x ∈ L, x.1.num) → tot (rgo k D n f p L).2 ≤ n ∧ ∀ x ∈ (rgo k D n f p L).2, x.1.num := by
  intro f
  induction f with
  | zero => intro p L h1 h2; exact ⟨h1, h2⟩
  | succ f ih =>
    intro p L h1 h2
    have hz : tot ([] : List (CD × Nat)) ≤ n ∧ ∀ x ∈ ([] : List (CD × Nat)), x.1.num := ⟨by simp [tot], by simp⟩
    unfold rgo
    split
    · split
      · exact hz
      · exact ⟨h1, h2⟩
    · split
      · split
        · split
          · exact hz
          · rename_i hc
            refine ih _ _ ?_ ?_
            · rw [tot_snoc]
              by_cases hb : n - tot L < (few (D.drop p) 0).1
              · exact absurd (Or.inr (Or.inl hb)) hc
              · show tot L + (few (D.drop p) 0).1 ≤ n
                omega
            · intro x hx
              rcases List.mem_append.1 hx with h | h
              · exact h2 x h
              · rw [List.mem_singleton] at h; rw [h]; exact gp_num _ _
        · exact hz
      · exact hz
theorem rspec_num (k : Int) (D : List Nat) (n : Int) : ∀ c ∈ (rspec k D n).2, c.num := by
  unfold rspec
  intro c hc
  split at hc
  · cases hc
  · split at hc
    · cases hc
    · unfold cellsL at hc
      obtain ⟨x, hx, hcx⟩ := List.mem_flatMap.1 hc
      rw [(List.mem_replicate.1 hcx).2]
      exact (rgo_inv k D n.toNat (D.length + 1) 0 [] (by simp [tot]) (by simp)).2 x hx
theorem rspec_len (k : Int) (D : List Nat) (n : Int) : (rspec k D n).2.length ≤ 10000 := by
  unfold rspec
  split
  · simp
  · split
    · simp
    · rename_i h
      have := (rgo_inv k D n.toNat (D.length + 1) 0 [] (by simp [tot]) (by simp)).1
      show (cellsL _).length ≤ _
      rw [cellsL_len]
      omega
set_option maxHeartbeats 2000000 in
set_option maxRecDepth 100000 in
theorem rdecode_arg (k : Int) (h1 : 1 ≤ k) (h6 : k ≤ 6) (s : ByteArray) (n : Int) (h : n < 0 ∨ 10000 < n) (w : World) :
    Calls Tryz.prog 90 #[.int .i64 k, .string s, .int .i64 n] w (DPost w (1, [])) := by
  rcases h with h | h
  · go_enter Tryz.func90, Tryz.ntmps90
    go_wp2_with fail
    go_ret2
    exact ⟨_, rfl, inC_nil _, Below.refl _ _⟩
  · have h0 : ¬ n < 0 := by omega
    have hd : decide (n < 0) = false := by simp; omega
    go_enter Tryz.func90, Tryz.ntmps90
    go_wp2_with fail
    go_ret2
    exact ⟨_, rfl, inC_nil _, Below.refl _ _⟩
set_option maxHeartbeats 2000000 in
set_option maxRecDepth 100000 in
theorem rdecode_kind (k : Int) (hk : k < 1 ∨ 6 < k) (s : ByteArray) (n : Int) (w : World) :
    Calls Tryz.prog 90 #[.int .i64 k, .string s, .int .i64 n] w (DPost w (14, [])) := by
  rcases hk with h | h
  · go_enter Tryz.func90, Tryz.ntmps90
    go_wp2_with fail
    go_ret2
    exact ⟨_, rfl, inC_nil _, Below.refl _ _⟩
  · have h0 : ¬ k < 1 := by omega
    have hd : decide (k < 1) = false := by simp; omega
    go_enter Tryz.func90, Tryz.ntmps90
    go_wp2_with fail
    go_ret2
    exact ⟨_, rfl, inC_nil _, Below.refl _ _⟩
set_option maxHeartbeats 2000000 in
set_option maxRecDepth 100000 in
theorem srdecode_arg (k : Int) (h1 : 1 ≤ k) (h6 : k ≤ 6) (s : ByteArray) (n : Int) (h : n < 0 ∨ 10000 < n) (w : World) :
    Calls Tryz.prog 57 #[.int .i64 k, .string s, .int .i64 n] w (DPost w (1, [])) := by
  have KK := hide (skind_any k true (by show _ = _; rw [eq_comm, decide_eq_true_eq]; exact ⟨h1, h6⟩))
  clear h1 h6
  rcases h with h | h
  · go_enter Tryz.func57, Tryz.ntmps57
    go_wp2_with fail
    refine (KK.out _).mono ?_
    rintro e w0 ⟨rfl, rfl⟩
    go_wp2_with fail
    go_ret2
    exact ⟨_, rfl, inC_nil _, Below.refl _ _⟩
  · have hd : decide (n < 0) = false := by simp; omega
    go_enter Tryz.func57, Tryz.ntmps57
    go_wp2_with fail
    refine (KK.out _).mono ?_
    rintro e w0 ⟨rfl, rfl⟩
    go_wp2_with fail
    go_ret2
    exact ⟨_, rfl, inC_nil _, Below.refl _ _⟩
set_option maxHeartbeats 2000000 in
set_option maxRecDepth 100000 in
theorem srdecode_kind (k : Int) (hk : k < 1 ∨ 6 < k) (s : ByteArray) (n : Int) (w : World) :
    Calls Tryz.prog 57 #[.int .i64 k, .string s, .int .i64 n] w (DPost w (14, [])) := by
  have KK := hide (skind_any k false (by show _ = _; rw [eq_comm, decide_eq_false_iff_not]; omega))
  clear hk
  go_enter Tryz.func57, Tryz.ntmps57
  go_wp2_with fail
  refine (KK.out _).mono ?_
  rintro e w0 ⟨rfl, rfl⟩
  go_wp2_with fail
  go_ret2
  exact ⟨_, rfl, inC_nil _, Below.refl _ _⟩
theorem rdecode_any (k : Int) (s : ByteArray) (hs : s.size ≤ maxLen) (n : Int) (w : World) (hT : Tabs w) :
    Calls Tryz.prog 90 #[.int .i64 k, .string s, .int .i64 n] w (DPost w (rspec k (bn s) n)) := by
  unfold rspec
  by_cases hk : k < 1 ∨ 6 < k
  · rw [if_pos hk]; exact rdecode_kind k hk s n w
  · rw [if_neg hk]
    by_cases hn : n < 0 ∨ 10000 < n
    · rw [if_pos hn]; exact rdecode_arg k (by omega) (by omega) s n hn w
    · rw [if_neg hn]
      obtain ⟨m, rfl⟩ : ∃ m : Nat, n = m := ⟨n.toNat, by omega⟩
      exact rdecode_loop k (by omega) (by omega) s hs m (by omega) w hT _ (by show _ = _; rw [bn_len]; rfl)
theorem srdecode_any (k : Int) (s : ByteArray) (hs : s.size ≤ maxLen) (n : Int) (w : World) (hT : Tabs w) :
    Calls Tryz.prog 57 #[.int .i64 k, .string s, .int .i64 n] w (DPost w (rspec k (bn s) n)) := by
  unfold rspec
  by_cases hk : k < 1 ∨ 6 < k
  · rw [if_pos hk]; exact srdecode_kind k hk s n w
  · rw [if_neg hk]
    by_cases hn : n < 0 ∨ 10000 < n
    · rw [if_pos hn]; exact srdecode_arg k (by omega) (by omega) s n hn w
    · rw [if_neg hn]
      obtain ⟨m, rfl⟩ : ∃ m : Nat, n = m := ⟨n.toNat, by omega⟩
      exact srdecode_loop k (by omega) (by omega) s hs m (by omega) w hT _ (by show _ = _; rw [bn_len]; rfl)

end Go.Proofs.YtfkgmodgkifelaaGreatDoor
