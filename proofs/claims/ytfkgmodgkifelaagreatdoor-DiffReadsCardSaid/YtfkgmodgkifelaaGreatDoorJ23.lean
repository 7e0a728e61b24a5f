/- Numbers by their steps, read: the document's loop. -/
import Derived.Test.YtfkgmodgkifelaaGreatDoorJ21
import Derived.Test.YtfkgmodgkifelaaGreatDoorJ22
namespace Go.Proofs.YtfkgmodgkifelaaGreatDoor
open Go.RowKit

set_option maxHeartbeats 1000000 in
set_option maxRecDepth 100000 in
theorem skind10_yes (k : Int) (hk : k = 2 ∨ k = 3 ∨ k = 6) (w : World) : Calls Tryz.prog 99 #[.int .i64 k] w fun e w' => e = .returned (.bool true) ∧ w = w' := by
  rcases hk with rfl | rfl | rfl <;>
  · go_enter Tryz.func99, Tryz.ntmps99
    go_wp2_with fail
    go_ret
    exact ⟨rfl, rfl⟩
set_option maxHeartbeats 1000000 in
set_option maxRecDepth 100000 in
theorem skind10_no (k : Int) (hk : ¬ (k = 2 ∨ k = 3 ∨ k = 6)) (w : World) : Calls Tryz.prog 99 #[.int .i64 k] w fun e w' => e = .returned (.bool false) ∧ w = w' := by
  have h2 : ((k : Int) == 2) = false := by rw [beq_eq_false_iff_ne]; omega
  have h3 : ((k : Int) == 3) = false := by rw [beq_eq_false_iff_ne]; omega
  have h6 : ((k : Int) == 6) = false := by rw [beq_eq_false_iff_ne]; omega
  clear hk
  go_enter Tryz.func99, Tryz.ntmps99
  go_wp2_with fail
  go_ret
  exact ⟨rfl, rfl⟩
def dcells (k : Int) (D : List Nat) (n : Nat) : List CD := (List.range n).map fun i => dcell k (dsq k D (i + 1))
theorem dcells_succ (k : Int) (D : List Nat) (n : Nat) : dcells k D (n + 1) = dcells k D n ++ [dcell k (dsq k D (n + 1))] := by simp [dcells, List.range_succ]
theorem dcells_len (k : Int) (D : List Nat) (n : Nat) : (dcells k D n).length = n := by simp [dcells]
theorem decD_err (k : Int) (D : List Nat) (i n : Nat) (hi : i < n) (h : eN (dferr k D) i = 0) (he : dferr k D i ≠ 0) : decD k D n = (dferr k D i, []) := outR_err _ _ _ _ i n hi h he
theorem decD_long (k : Int) (D : List Nat) (n : Nat) (h : eN (dferr k D) n = 0) (hp : (dsq k D n).pos < D.length) : decD k D n = (11, []) := by
  unfold decD outR
  rw [if_pos h, if_pos hp]
theorem decD_ok (k : Int) (D : List Nat) (n : Nat) (h : eN (dferr k D) n = 0) (hp : ¬ (dsq k D n).pos < D.length) : decD k D n = (0, dcells k D n) := by
  unfold decD outR
  rw [if_pos h, if_neg hp]; rfl
theorem conv_int (a : Int) (ha : a.natAbs ≤ 9007199254740992) (w : World) : (convert 153 2 (.float .f64 (floatOfInt .f64 a))).run Tryz.prog w = .ok (.int .i64 a) w :=
  run_convert_float_int (P := Tryz.prog) w 153 2 .f64 .i64 (floatOfInt .f64 a) a (by kernel_rfl) Tryz.underlying2 (toInt_int a ha)
set_option maxHeartbeats 8000000 in
set_option maxRecDepth 100000 in
theorem sddecode_point (s : ByteArray) (hs : s.size ≤ maxLen) (n : Nat) (hn : n ≤ 10000) (w : World) (hT : Tabs w) :
    Calls Tryz.prog 58 #[.int .i64 6, .string s, .int .i64 n] w (DPost w (decD 6 (bn s) n)) := by
  have KK := hide (skind10_yes 6 (by omega))
  have hn0 : (0 : Int) ≤ (n : Int) := by omega
  have hn1 : (n : Int) ≤ 10000 := by omega
  have KS := hide (fun (s' : ByteArray) (hs : s'.size ≤ maxLen) (w : World) (hT : Tabs w) => sread_all 6 (by omega) (by omega) s' hs w hT)
  obtain ⟨i0, hi, hz0, hz1, hz2⟩ := info_parts info_cC
  have HT := hide hT
  have hS := hide hs
  clear hT hs
  have hst := fun (w1 : World) (a1 : Addr) (m : Mode) (x y : Nat) => run_store Tryz.prog w1 a1 (.complex .f64 x y) m rfl
  go_enter Tryz.func58, Tryz.ntmps58
  go_wp2_with fail
  refine (KK.out _).mono ?_
  rintro e w0 ⟨rfl, rfl⟩
  go_wp2_with fail
  go_loopw [1, 8, 10, 11, 12] (fun sv lv av bv iv wr => ∃ i : Nat, i ≤ n ∧ iv = .int .i64 (i : Int) ∧ (∃ s' : ByteArray, sv = .string s' ∧ Hid (bn s' = (bn s).drop (dsq 6 (bn s) i).pos) ∧ s'.size ≤ s.size) ∧ (∃ A B : Int, Hid (A = (dsq 6 (bn s) i).A) ∧ Hid (B = (dsq 6 (bn s) i).B) ∧ av = .int .i64 A ∧ bv = .int .i64 B) ∧ Hid (eN (dferr 6 (bn s)) i = 0) ∧ wr.ownsRow w.heap.size 45 6 lv i ((dcells 6 (bn s) i).flatMap cellsC) ∧ Below w.heap.size w wr) (fun _ _ _ _ iv _ => n - (intOf iv).toNat)
  case atStart => exact ⟨0, by omega, rfl, ⟨s, rfl, rfl, Nat.le_refl _⟩, ⟨0, 0, rfl, rfl, rfl, rfl⟩, rfl, World.ownsRow_nil _ _ _ _, Below.refl _ _⟩
  case round =>
    obtain ⟨i, hin, rfl, ⟨s', rfl, HS', hs'⟩, ⟨A, B, HAA, HBB, rfl, rfl⟩, he, ha, hbe⟩ := hrel
    obtain ⟨Aa, ca, rfl⟩ := own_form3 ha
    by_cases hlt : i < n
    · have K := hide (KS.out s' (Nat.le_trans hs' hS.out) wr (HT.out.below hbe))
      have HC : Hid (dcells 6 (bn s) (i + 1) = dcells 6 (bn s) i ++ [⟨false, 0, 0, ByteArray.empty, floatOfInt .f64 (A + dA (bn s')), floatOfInt .f64 (B + dB (bn s'))⟩]) := by
        show _ = _
        rw [dcells_succ, HAA.out, HBB.out, HS'.out]; rfl
      have HP : Hid ((dsq 6 (bn s) (i + 1)).pos = (dsq 6 (bn s) i).pos + (gp 6 (bn s')).2.1) := by show _ = _; rw [HS'.out]; rfl
      have HA1 : Hid ((dsq 6 (bn s) (i + 1)).A = A + dA (bn s')) := by show _ = _; rw [HS'.out, HAA.out]; rfl
      have HB1 : Hid ((dsq 6 (bn s) (i + 1)).B = B + dB (bn s')) := by show _ = _; rw [HS'.out, HBB.out]; rfl
      have HE : Hid (eN (dferr 6 (bn s)) (i + 1) = dferr 6 (bn s) i) := eN_succ _ i he.out
      have HX := hide (fun h => decD_err 6 (bn s) i n hlt he.out h)
      have hfe : dferr 6 (bn s) i = if (gp 6 (bn s')).2.2.2 = 0 then (if (!farB (A + dA (bn s')) && !farB (B + dB (bn s'))) = true then 0 else 12) else (gp 6 (bn s')).2.2.2 := by
        unfold dferr derr drch
        rw [if_pos rfl, if_pos rfl, HAA.out, HBB.out, HS'.out]
      have HFE := hide hfe
      have hL := gp_le 6 (bn s')
      have hok := gp6_ok (bn s')
      obtain ⟨n1, n2⟩ := dnear (bn s) i he.out
      rw [← HAA.out] at n1
      rw [← HBB.out] at n2
      rw [bn_len] at hL
      rcases hg : gp 6 (bn s') with ⟨c, m, e', er⟩
      rw [hg] at K HP HFE hL hok
      simp only at K HP HFE hL hok
      have HA := hide ha
      have HBE := hide hbe
      have hms : s'.size ≤ 9223372036854775807 := by have := hS.out; unfold maxLen at this; omega
      clear hg ha hbe hfe
      by_cases h0 : er = 0
      · obtain ⟨rfl, f1, f2⟩ := hok h0
        subst h0
        have n3 := farB_no f1
        have n4 := farB_no f2
        have ca1 := hide (conv_int (dA (bn s')) n3)
        have cb1 := hide (conv_int (dB (bn s')) n4)
        have HFE2 := HFE.out
        rw [if_pos rfl] at HFE2
        have HFE3 := hide HFE2
        generalize dA (bn s') = a at *
        generalize dB (bn s') = b at *
        have b1 : -9007199254740992 ≤ A := by omega
        have b2 : A ≤ 9007199254740992 := by omega
        have b3 : -9007199254740992 ≤ a := by omega
        have b4 : a ≤ 9007199254740992 := by omega
        have b5 : -9007199254740992 ≤ B := by omega
        have b6 : B ≤ 9007199254740992 := by omega
        have b7 : -9007199254740992 ≤ b := by omega
        have b8 : b ≤ 9007199254740992 := by omega
        have ca2 := fun w => ca1.out w
        have cb2 := fun w => cb1.out w
        clear hok f1 f2 n1 n2 n3 n4 HFE HFE2
        unfold CD.v clV clA at K
        simp only at K
        cases hfa : farB (A + a)
        · have F1 := hide (sfar_no (A + a) hfa)
          cases hfb : farB (B + b)
          · have F2 := hide (sfar_no (B + b) hfb)
            have HFE4 := HFE3.out
            rw [hfa, hfb, if_pos (by decide)] at HFE4
            have HE2 : Hid (eN (dferr 6 (bn s)) (i + 1) = 0) := HE.out.trans HFE4
            clear HFE4 hfa hfb HX
            generalize floatOfInt .f64 a = fa at *
            generalize floatOfInt .f64 b = fb at *
            go_wp2_with fail
            refine K.out.mono ?_
            rintro e w1 ⟨rfl, hb1⟩
            have HA2 := hide (own_below HA.out hb1)
            have HB2 := hide (HBE.out.trans (hb1.mono HBE.out.size))
            clear hb1
            go_wp2_with fail
            refine (F1.out _).mono ?_
            rintro e w2 ⟨rfl, rfl⟩
            go_wp2_with fail
            refine (F2.out _).mono ?_
            rintro e w2 ⟨rfl, rfl⟩
            clear ca2 cb2
            go_wp2_with (at_builtin; refine wpList_append_own_at _ rfl _ _ 25 rfl w.heap.size 45 i0 _ 6 56 Tryz.underlying25 hi hz0 hz1 hz2 rfl (by decide) _ _ _ rfl ((HA2.out.alloc _).alloc _) ⟨w1.heap.size + 1, 0, none⟩ 1 1 [.bool false, .bool false, .int .i64 0, .int .u64 0, .string { data := #[] }, .complex .f64 (floatOfInt .f64 (A + a)) (floatOfInt .f64 (B + b))] rfl rfl (World.news_of_block (blk_2 _ _ _ _).out) (by simp [Value.oneCell']) (by simp only [maxLen]; omega) (by omega) (by simpa using Nat.le_succ_of_le (Nat.le_succ_of_le HB2.out.size)) ?_; intro v1 w2 hown1 hgrow1 _ hat1)
            have hba := fun o1 o2 => (HB2.out.alloc HB2.out.size o1).alloc (by simp; exact Nat.le_succ_of_le HB2.out.size) o2
            have HB3 := hide ((hba _ _).grown hgrow1 (by simpa using Nat.le_succ_of_le (Nat.le_succ_of_le HB2.out.size)) (fun j hj => (HA2.out.lt j hj).1))
            have HA3 : Hid (w2.ownsRow w.heap.size 45 6 v1 (i + 1) ((dcells 6 (bn s) (i + 1)).flatMap cellsC)) := by
              show World.ownsRow _ _ _ _ _ _ _
              rw [HC.out, cellsC_snoc]; exact hown1
            clear hba hown1 hgrow1 hat1
            have HS2 : Hid (bn (s'.extract m s'.size) = (bn s).drop (dsq 6 (bn s) (i + 1)).pos) := by
              show _ = _
              rw [bn_drop, HS'.out, List.drop_drop, HP.out]
            have hs2 : (s'.extract m s'.size).size ≤ s.size := by simp; omega
            go_roundw
            case rel => exact ⟨i + 1, by omega, by go_num, ⟨_, rfl, HS2, hs2⟩, ⟨_, _, HA1.out.symm, HB1.out.symm, rfl, rfl⟩, HE2, HA3.out, HB3.out⟩
            case measure => simp [intOf] <;> omega
          · have F2 := hide (sfar_yes (B + b) hfb)
            have HFE4 := HFE3.out
            rw [hfa, hfb, if_neg (by decide)] at HFE4
            have HX2 := hide (HX.out (by omega))
            rw [HFE4] at HX2
            clear HFE4 hfa hfb HX
            generalize floatOfInt .f64 a = fa at *
            generalize floatOfInt .f64 b = fb at *
            go_wp2_with fail
            refine K.out.mono ?_
            rintro e w1 ⟨rfl, hb1⟩
            have HB2 := hide (HBE.out.trans (hb1.mono HBE.out.size))
            clear hb1
            go_wp2_with fail
            refine (F1.out _).mono ?_
            rintro e w2 ⟨rfl, rfl⟩
            go_wp2_with fail
            refine (F2.out _).mono ?_
            rintro e w2 ⟨rfl, rfl⟩
            go_wp2_with fail
            go_ret2
            rw [HX2.out]
            exact ⟨_, rfl, inC_nil _, HB2.out.alloc HB2.out.size _⟩
        · have F1 := hide (sfar_yes (A + a) hfa)
          have HFE4 := HFE3.out
          rw [hfa, if_neg (by simp)] at HFE4
          have HX2 := hide (HX.out (by omega))
          rw [HFE4] at HX2
          clear HFE4 hfa HX
          generalize floatOfInt .f64 a = fa at *
          generalize floatOfInt .f64 b = fb at *
          go_wp2_with fail
          refine K.out.mono ?_
          rintro e w1 ⟨rfl, hb1⟩
          have HB2 := hide (HBE.out.trans (hb1.mono HBE.out.size))
          clear hb1
          go_wp2_with fail
          refine (F1.out _).mono ?_
          rintro e w2 ⟨rfl, rfl⟩
          go_wp2_with fail
          go_ret2
          rw [HX2.out]
          exact ⟨_, rfl, inC_nil _, HB2.out.alloc HB2.out.size _⟩
      · have hne : ((er : Int) != 0) = true := by rw [bne_iff_ne]; omega
        have HFE2 := HFE.out
        rw [if_neg h0] at HFE2
        have HX2 := hide (HX.out (by omega))
        rw [HFE2] at HX2
        clear h0 HX HFE2 hok HFE n1 n2
        obtain ⟨cb, cx, cu, ct, cp, cq⟩ := c
        unfold CD.v clV clA at K
        simp only at K
        go_wp2_with fail
        refine K.out.mono ?_
        rintro e w1 ⟨rfl, hb1⟩
        have HB2 := hide (HBE.out.trans (hb1.mono HBE.out.size))
        clear hb1
        go_wp2_with fail
        go_ret2
        rw [HX2.out]
        exact ⟨_, rfl, inC_nil _, HB2.out.alloc HB2.out.size _⟩
    · obtain rfl : i = n := by omega
      have HA := hide ha
      have HBE := hide hbe
      have hl := congrArg List.length HS'.out
      rw [bn_len, List.length_drop, bn_len] at hl
      clear ha hbe
      by_cases hp : (dsq 6 (bn s) i).pos < s.size
      · have HX := hide (decD_long 6 (bn s) i he.out (by rw [bn_len]; exact hp))
        have hp2 : 0 < s'.size := by omega
        clear hl hp
        have hz1 := str_someD hp2
        have hz2 : (!s'.toList.isEmpty) = true := by rw [hz1]; rfl
        clear hz1
        go_wp2_with fail
        go_ret2
        rw [HX.out]
        exact ⟨_, rfl, inC_nil _, HBE.out⟩
      · have HX := hide (decD_ok 6 (bn s) i he.out (by rw [bn_len]; exact hp))
        have hp2 : s'.size = 0 := by omega
        clear hl hp
        have hz1 : s' = { data := #[] } := by
          apply bn_inj
          have := bn_len s'
          rw [hp2] at this
          rw [List.eq_nil_of_length_eq_zero this]; rfl
        subst hz1
        go_wp2_with fail
        go_ret2
        rw [HX.out]
        exact ⟨_, rfl, inC_own HA.out (dcells_len _ _ _).symm, HBE.out⟩

theorem dferr_num (k : Int) (hk : ¬ k = 6) (D : List Nat) (i : Nat) : dferr k D i = (few (D.drop (dsq k D i).pos) 0).2.2 := by
  unfold dferr derr drch
  simp only [if_neg hk, if_true]
  split
  · rename_i h; rw [h]
  · rfl
set_option maxHeartbeats 8000000 in
set_option maxRecDepth 100000 in
theorem sddecode_int (s : ByteArray) (hs : s.size ≤ maxLen) (n : Nat) (hn : n ≤ 10000) (w : World) :
    Calls Tryz.prog 58 #[.int .i64 2, .string s, .int .i64 n] w (DPost w (decD 2 (bn s) n)) := by
  have KK := hide (skind10_yes 2 (by omega))
  have hn0 : (0 : Int) ≤ (n : Int) := by omega
  have hn1 : (n : Int) ≤ 10000 := by omega
  have KS := hide (fun (s' : ByteArray) (hs : s'.size ≤ maxLen) (w : World) => sfew_any s' hs w)
  obtain ⟨i0, hi, hz0, hz1, hz2⟩ := info_parts info_cC
  have hS := hide hs
  clear hs
  have hst := fun (w1 : World) (a1 : Addr) (m : Mode) (x y : Nat) => run_store Tryz.prog w1 a1 (.complex .f64 x y) m rfl
  go_enter Tryz.func58, Tryz.ntmps58
  go_wp2_with fail
  refine (KK.out _).mono ?_
  rintro e w0 ⟨rfl, rfl⟩
  go_wp2_with fail
  go_loopw [1, 8, 9, 12] (fun sv lv nv iv wr => ∃ i : Nat, i ≤ n ∧ iv = .int .i64 (i : Int) ∧ (∃ s' : ByteArray, sv = .string s' ∧ Hid (bn s' = (bn s).drop (dsq 2 (bn s) i).pos) ∧ s'.size ≤ s.size) ∧ (∃ N : Nat, Hid (N = (dsq 2 (bn s) i).now) ∧ N < 18446744073709551616 ∧ nv = .int .u64 (N : Int)) ∧ Hid (eN (dferr 2 (bn s)) i = 0) ∧ wr.ownsRow w.heap.size 45 6 lv i ((dcells 2 (bn s) i).flatMap cellsC) ∧ Below w.heap.size w wr) (fun _ _ _ iv _ => n - (intOf iv).toNat)
  case atStart => exact ⟨0, by omega, rfl, ⟨s, rfl, rfl, Nat.le_refl _⟩, ⟨0, rfl, by omega, rfl⟩, rfl, World.ownsRow_nil _ _ _ _, Below.refl _ _⟩
  case round =>
    obtain ⟨i, hin, rfl, ⟨s', rfl, HS', hs'⟩, ⟨N, HN, hN, rfl⟩, he, ha, hbe⟩ := hrel
    obtain ⟨Aa, ca, rfl⟩ := own_form3 ha
    by_cases hlt : i < n
    · have K := hide (KS.out s' (Nat.le_trans hs' hS.out) wr)
      have HN1 : Hid ((dsq 2 (bn s) (i + 1)).now = (((N : Int) + dA (bn s')) % 18446744073709551616).toNat) := by show _ = _; rw [HS'.out, HN.out]; rfl
      have HC : Hid (dcells 2 (bn s) (i + 1) = dcells 2 (bn s) i ++ [dcell 2 (dsq 2 (bn s) (i + 1))]) := dcells_succ _ _ _
      have HP : Hid ((dsq 2 (bn s) (i + 1)).pos = (dsq 2 (bn s) i).pos + (few (bn s') 0).2.1) := by show _ = _; rw [HS'.out]; rfl
      have HE : Hid (eN (dferr 2 (bn s)) (i + 1) = dferr 2 (bn s) i) := eN_succ _ i he.out
      have HX := hide (fun h => decD_err 2 (bn s) i n hlt he.out h)
      have hfe : dferr 2 (bn s) i = (few (bn s') 0).2.2 := by
        rw [HS'.out]
        exact dferr_num _ (by decide) _ _
      have HFE := hide hfe
      have hL := few_le0 (bn s')
      have hx := few_lt64 (bn s')
      have hdA : dA (bn s') = back (few (bn s') 0).1 := rfl
      rw [hdA] at HN1
      rw [bn_len] at hL
      rcases hg : few (bn s') 0 with ⟨x, m, er⟩
      rw [hg] at K HP HFE hL hx HN1
      simp only at K HP HFE hL hx HN1
      have KB := hide (fun w => sback_any x hx w)
      generalize back x = b at *
      have HA := hide ha
      have HBE := hide hbe
      have hms : s'.size ≤ 9223372036854775807 := by have := hS.out; unfold maxLen at this; omega
      clear hg ha hbe hfe hdA hx
      by_cases h0 : er = 0
      · subst h0
        have HE2 : Hid (eN (dferr 2 (bn s)) (i + 1) = 0) := HE.out.trans HFE.out
        obtain ⟨N1, hN1⟩ : ∃ N1 : Nat, (((N : Int) + b) % 18446744073709551616).toNat = N1 := ⟨_, rfl⟩
        have hw1 : ((N : Int) + b % 18446744073709551616) % 18446744073709551616 = (N1 : Int) := by omega
        have hw2 : IntKind.u64.wrap ((N : Int) + IntKind.u64.wrap b) = (N1 : Int) := by rw [IntKind.wrap_u64, IntKind.wrap_u64]; exact hw1
        have hlt1 : N1 < 18446744073709551616 := by omega
        rw [hN1] at HN1
        have HCC : Hid (dcell 2 (dsq 2 (bn s) (i + 1)) = ⟨false, wrap64 (N1 : Nat), 0, ByteArray.empty, 0, 0⟩) := by show _ = _; unfold dcell; rw [HN1.out]; rfl
        rw [HCC.out] at HC
        clear hN1 HX
        go_wp2_with fail
        refine K.out.mono ?_
        rintro e w1 ⟨rfl, rfl⟩
        go_wp2_with fail
        refine (KB.out _).mono ?_
        rintro e w1 ⟨rfl, rfl⟩
        go_wp2_with (at_builtin; refine wpList_append_own_at _ rfl _ _ 25 rfl w.heap.size 45 i0 _ 6 56 Tryz.underlying25 hi hz0 hz1 hz2 rfl (by decide) _ _ _ rfl (HA.out.alloc _) ⟨wr.heap.size, 0, none⟩ 1 1 [.bool false, .bool false, .int .i64 (wrap64 (N1 : Int)), .int .u64 0, .string { data := #[] }, .complex .f64 0 0] rfl rfl (World.news_of_block (Blk.new _ _ _).out) (by simp [Value.oneCell']) (by simp only [maxLen]; omega) (by omega) (by simpa using Nat.le_succ_of_le HBE.out.size) ?_; intro v1 w2 hown1 hgrow1 _ hat1)
        have HB3 := hide ((HBE.out.alloc HBE.out.size _).grown hgrow1 (by simpa using Nat.le_succ_of_le HBE.out.size) (fun j hj => (HA.out.lt j hj).1))
        have HA3 : Hid (w2.ownsRow w.heap.size 45 6 v1 (i + 1) ((dcells 2 (bn s) (i + 1)).flatMap cellsC)) := by
          show World.ownsRow _ _ _ _ _ _ _
          rw [HC.out, cellsC_snoc]; exact hown1
        clear hown1 hgrow1 hat1
        have HS2 : Hid (bn (s'.extract m s'.size) = (bn s).drop (dsq 2 (bn s) (i + 1)).pos) := by
          show _ = _
          rw [bn_drop, HS'.out, List.drop_drop, HP.out]
        have hs2 : (s'.extract m s'.size).size ≤ s.size := by simp; omega
        go_roundw
        case rel => exact ⟨i + 1, by omega, by go_num, ⟨_, rfl, HS2, hs2⟩, ⟨_, HN1.out.symm, hlt1, rfl⟩, HE2, HA3.out, HB3.out⟩
        case measure => simp [intOf] <;> omega
      · have hne : ((er : Int) != 0) = true := by rw [bne_iff_ne]; omega
        have HX2 := hide (HX.out (by rw [HFE.out]; exact h0))
        rw [HFE.out] at HX2
        clear h0 HX HFE
        go_wp2_with fail
        refine K.out.mono ?_
        rintro e w1 ⟨rfl, rfl⟩
        go_wp2_with fail
        go_ret2
        rw [HX2.out]
        exact ⟨_, rfl, inC_nil _, HBE.out⟩
    · obtain rfl : i = n := by omega
      have HA := hide ha
      have HBE := hide hbe
      have hl := congrArg List.length HS'.out
      rw [bn_len, List.length_drop, bn_len] at hl
      clear ha hbe
      by_cases hp : (dsq 2 (bn s) i).pos < s.size
      · have HX := hide (decD_long 2 (bn s) i he.out (by rw [bn_len]; exact hp))
        have hp2 : 0 < s'.size := by omega
        clear hl hp
        have hz1 := str_someD hp2
        have hz2 : (!s'.toList.isEmpty) = true := by rw [hz1]; rfl
        clear hz1
        go_wp2_with fail
        go_ret2
        rw [HX.out]
        exact ⟨_, rfl, inC_nil _, HBE.out⟩
      · have HX := hide (decD_ok 2 (bn s) i he.out (by rw [bn_len]; exact hp))
        have hp2 : s'.size = 0 := by omega
        clear hl hp
        have hz1 : s' = { data := #[] } := by
          apply bn_inj
          have := bn_len s'
          rw [hp2] at this
          rw [List.eq_nil_of_length_eq_zero this]; rfl
        subst hz1
        go_wp2_with fail
        go_ret2
        rw [HX.out]
        exact ⟨_, rfl, inC_own HA.out (dcells_len _ _ _).symm, HBE.out⟩
set_option maxHeartbeats 8000000 in
set_option maxRecDepth 100000 in
theorem sddecode_uint (s : ByteArray) (hs : s.size ≤ maxLen) (n : Nat) (hn : n ≤ 10000) (w : World) :
    Calls Tryz.prog 58 #[.int .i64 3, .string s, .int .i64 n] w (DPost w (decD 3 (bn s) n)) := by
  have KK := hide (skind10_yes 3 (by omega))
  have hn0 : (0 : Int) ≤ (n : Int) := by omega
  have hn1 : (n : Int) ≤ 10000 := by omega
  have KS := hide (fun (s' : ByteArray) (hs : s'.size ≤ maxLen) (w : World) => sfew_any s' hs w)
  obtain ⟨i0, hi, hz0, hz1, hz2⟩ := info_parts info_cC
  have hS := hide hs
  clear hs
  have hst := fun (w1 : World) (a1 : Addr) (m : Mode) (x y : Nat) => run_store Tryz.prog w1 a1 (.complex .f64 x y) m rfl
  go_enter Tryz.func58, Tryz.ntmps58
  go_wp2_with fail
  refine (KK.out _).mono ?_
  rintro e w0 ⟨rfl, rfl⟩
  go_wp2_with fail
  go_loopw [1, 8, 9, 12] (fun sv lv nv iv wr => ∃ i : Nat, i ≤ n ∧ iv = .int .i64 (i : Int) ∧ (∃ s' : ByteArray, sv = .string s' ∧ Hid (bn s' = (bn s).drop (dsq 3 (bn s) i).pos) ∧ s'.size ≤ s.size) ∧ (∃ N : Nat, Hid (N = (dsq 3 (bn s) i).now) ∧ N < 18446744073709551616 ∧ nv = .int .u64 (N : Int)) ∧ Hid (eN (dferr 3 (bn s)) i = 0) ∧ wr.ownsRow w.heap.size 45 6 lv i ((dcells 3 (bn s) i).flatMap cellsC) ∧ Below w.heap.size w wr) (fun _ _ _ iv _ => n - (intOf iv).toNat)
  case atStart => exact ⟨0, by omega, rfl, ⟨s, rfl, rfl, Nat.le_refl _⟩, ⟨0, rfl, by omega, rfl⟩, rfl, World.ownsRow_nil _ _ _ _, Below.refl _ _⟩
  case round =>
    obtain ⟨i, hin, rfl, ⟨s', rfl, HS', hs'⟩, ⟨N, HN, hN, rfl⟩, he, ha, hbe⟩ := hrel
    obtain ⟨Aa, ca, rfl⟩ := own_form3 ha
    by_cases hlt : i < n
    · have K := hide (KS.out s' (Nat.le_trans hs' hS.out) wr)
      have HN1 : Hid ((dsq 3 (bn s) (i + 1)).now = (((N : Int) + dA (bn s')) % 18446744073709551616).toNat) := by show _ = _; rw [HS'.out, HN.out]; rfl
      have HC : Hid (dcells 3 (bn s) (i + 1) = dcells 3 (bn s) i ++ [dcell 3 (dsq 3 (bn s) (i + 1))]) := dcells_succ _ _ _
      have HP : Hid ((dsq 3 (bn s) (i + 1)).pos = (dsq 3 (bn s) i).pos + (few (bn s') 0).2.1) := by show _ = _; rw [HS'.out]; rfl
      have HE : Hid (eN (dferr 3 (bn s)) (i + 1) = dferr 3 (bn s) i) := eN_succ _ i he.out
      have HX := hide (fun h => decD_err 3 (bn s) i n hlt he.out h)
      have hfe : dferr 3 (bn s) i = (few (bn s') 0).2.2 := by
        rw [HS'.out]
        exact dferr_num _ (by decide) _ _
      have HFE := hide hfe
      have hL := few_le0 (bn s')
      have hx := few_lt64 (bn s')
      have hdA : dA (bn s') = back (few (bn s') 0).1 := rfl
      rw [hdA] at HN1
      rw [bn_len] at hL
      rcases hg : few (bn s') 0 with ⟨x, m, er⟩
      rw [hg] at K HP HFE hL hx HN1
      simp only at K HP HFE hL hx HN1
      have KB := hide (fun w => sback_any x hx w)
      generalize back x = b at *
      have HA := hide ha
      have HBE := hide hbe
      have hms : s'.size ≤ 9223372036854775807 := by have := hS.out; unfold maxLen at this; omega
      clear hg ha hbe hfe hdA hx
      by_cases h0 : er = 0
      · subst h0
        have HE2 : Hid (eN (dferr 3 (bn s)) (i + 1) = 0) := HE.out.trans HFE.out
        obtain ⟨N1, hN1⟩ : ∃ N1 : Nat, (((N : Int) + b) % 18446744073709551616).toNat = N1 := ⟨_, rfl⟩
        have hw1 : ((N : Int) + b % 18446744073709551616) % 18446744073709551616 = (N1 : Int) := by omega
        have hw2 : IntKind.u64.wrap ((N : Int) + IntKind.u64.wrap b) = (N1 : Int) := by rw [IntKind.wrap_u64, IntKind.wrap_u64]; exact hw1
        have hlt1 : N1 < 18446744073709551616 := by omega
        rw [hN1] at HN1
        have HCC : Hid (dcell 3 (dsq 3 (bn s) (i + 1)) = ⟨false, 0, (N1 : Nat), ByteArray.empty, 0, 0⟩) := by show _ = _; unfold dcell; rw [HN1.out]; rfl
        rw [HCC.out] at HC
        clear hN1 HX
        go_wp2_with fail
        refine K.out.mono ?_
        rintro e w1 ⟨rfl, rfl⟩
        go_wp2_with fail
        refine (KB.out _).mono ?_
        rintro e w1 ⟨rfl, rfl⟩
        go_wp2_with (at_builtin; refine wpList_append_own_at _ rfl _ _ 25 rfl w.heap.size 45 i0 _ 6 56 Tryz.underlying25 hi hz0 hz1 hz2 rfl (by decide) _ _ _ rfl (HA.out.alloc _) ⟨wr.heap.size, 0, none⟩ 1 1 [.bool false, .bool false, .int .i64 0, .int .u64 (N1 : Int), .string { data := #[] }, .complex .f64 0 0] rfl rfl (World.news_of_block (Blk.new _ _ _).out) (by simp [Value.oneCell']) (by simp only [maxLen]; omega) (by omega) (by simpa using Nat.le_succ_of_le HBE.out.size) ?_; intro v1 w2 hown1 hgrow1 _ hat1)
        have HB3 := hide ((HBE.out.alloc HBE.out.size _).grown hgrow1 (by simpa using Nat.le_succ_of_le HBE.out.size) (fun j hj => (HA.out.lt j hj).1))
        have HA3 : Hid (w2.ownsRow w.heap.size 45 6 v1 (i + 1) ((dcells 3 (bn s) (i + 1)).flatMap cellsC)) := by
          show World.ownsRow _ _ _ _ _ _ _
          rw [HC.out, cellsC_snoc]; exact hown1
        clear hown1 hgrow1 hat1
        have HS2 : Hid (bn (s'.extract m s'.size) = (bn s).drop (dsq 3 (bn s) (i + 1)).pos) := by
          show _ = _
          rw [bn_drop, HS'.out, List.drop_drop, HP.out]
        have hs2 : (s'.extract m s'.size).size ≤ s.size := by simp; omega
        go_roundw
        case rel => exact ⟨i + 1, by omega, by go_num, ⟨_, rfl, HS2, hs2⟩, ⟨_, HN1.out.symm, hlt1, rfl⟩, HE2, HA3.out, HB3.out⟩
        case measure => simp [intOf] <;> omega
      · have hne : ((er : Int) != 0) = true := by rw [bne_iff_ne]; omega
        have HX2 := hide (HX.out (by rw [HFE.out]; exact h0))
        rw [HFE.out] at HX2
        clear h0 HX HFE
        go_wp2_with fail
        refine K.out.mono ?_
        rintro e w1 ⟨rfl, rfl⟩
        go_wp2_with fail
        go_ret2
        rw [HX2.out]
        exact ⟨_, rfl, inC_nil _, HBE.out⟩
    · obtain rfl : i = n := by omega
      have HA := hide ha
      have HBE := hide hbe
      have hl := congrArg List.length HS'.out
      rw [bn_len, List.length_drop, bn_len] at hl
      clear ha hbe
      by_cases hp : (dsq 3 (bn s) i).pos < s.size
      · have HX := hide (decD_long 3 (bn s) i he.out (by rw [bn_len]; exact hp))
        have hp2 : 0 < s'.size := by omega
        clear hl hp
        have hz1 := str_someD hp2
        have hz2 : (!s'.toList.isEmpty) = true := by rw [hz1]; rfl
        clear hz1
        go_wp2_with fail
        go_ret2
        rw [HX.out]
        exact ⟨_, rfl, inC_nil _, HBE.out⟩
      · have HX := hide (decD_ok 3 (bn s) i he.out (by rw [bn_len]; exact hp))
        have hp2 : s'.size = 0 := by omega
        clear hl hp
        have hz1 : s' = { data := #[] } := by
          apply bn_inj
          have := bn_len s'
          rw [hp2] at this
          rw [List.eq_nil_of_length_eq_zero this]; rfl
        subst hz1
        go_wp2_with fail
        go_ret2
        rw [HX.out]
        exact ⟨_, rfl, inC_own HA.out (dcells_len _ _ _).symm, HBE.out⟩
/-- So many numbers of any kind, by their steps. -/
def lspec (k : Int) (D : List Nat) (n : Int) : Nat × List CD :=
  if ¬ (k = 2 ∨ k = 3 ∨ k = 6) then (14, []) else if n < 0 ∨ 10000 < n then (1, []) else decD k D n.toNat
theorem dcell_num (k : Int) (D : List Nat) (i : Nat) (h : eN (dferr k D) i = 0) (hk : k = 2 ∨ k = 3 ∨ k = 6) : (dcell k (dsq k D i)).num := by
  unfold dcell
  rcases hk with rfl | rfl | rfl
  · exact ⟨order_zero, order_zero⟩
  · exact ⟨order_zero, order_zero⟩
  · obtain ⟨h1, h2⟩ := dnear D i h
    exact ⟨order_self _ h1, order_self _ h2⟩
theorem lspec_num (k : Int) (D : List Nat) (n : Int) : ∀ c ∈ (lspec k D n).2, c.num := by
  unfold lspec
  intro c hc
  split at hc
  · cases hc
  · rename_i hk
    split at hc
    · cases hc
    · unfold decD outR at hc
      split at hc
      · rename_i he
        split at hc
        · cases hc
        · obtain ⟨i, hi, rfl⟩ := List.mem_map.1 hc
          rw [List.mem_range] at hi
          have := eN_le _ _ he i hi
          exact dcell_num k D (i + 1) ((eN_succ _ i this.2).trans this.1) (Decidable.not_not.1 hk)
      · cases hc
theorem lspec_len (k : Int) (D : List Nat) (n : Int) : (lspec k D n).2.length ≤ 10000 := by
  unfold lspec
  split
  · simp
  · split
    · simp
    · unfold decD outR
      split
      · split
        · simp
        · simp; omega
      · simp
set_option maxHeartbeats 2000000 in
set_option maxRecDepth 100000 in
theorem ddecode_arg (k : Int) (hk : k = 2 ∨ k = 3 ∨ k = 6) (s : ByteArray) (n : Int) (h : n < 0 ∨ 10000 < n) (w : World) :
    Calls Tryz.prog 92 #[.int .i64 k, .string s, .int .i64 n] w (DPost w (1, [])) := by
  have KI := hide (has_any k hk)
  clear hk
  rcases h with h | h
  · go_enter Tryz.func92, Tryz.ntmps92
    go_wp2_with fail
    refine (KI.out _).mono ?_
    rintro e w0 ⟨rfl, rfl⟩
    go_wp2_with fail
    go_ret2
    exact ⟨_, rfl, inC_nil _, Below.refl _ _⟩
  · have hd : decide (n < 0) = false := by simp; omega
    go_enter Tryz.func92, Tryz.ntmps92
    go_wp2_with fail
    refine (KI.out _).mono ?_
    rintro e w0 ⟨rfl, rfl⟩
    go_wp2_with fail
    go_ret2
    exact ⟨_, rfl, inC_nil _, Below.refl _ _⟩
set_option maxHeartbeats 2000000 in
set_option maxRecDepth 100000 in
theorem ddecode_kind (k : Int) (hk : ¬ (k = 2 ∨ k = 3 ∨ k = 6)) (s : ByteArray) (n : Int) (w : World) :
    Calls Tryz.prog 92 #[.int .i64 k, .string s, .int .i64 n] w (DPost w (14, [])) := by
  have KI := hide (has_no k hk)
  clear hk
  go_enter Tryz.func92, Tryz.ntmps92
  go_wp2_with fail
  refine (KI.out _).mono ?_
  rintro e w0 ⟨rfl, rfl⟩
  go_wp2_with fail
  go_ret2
  exact ⟨_, rfl, inC_nil _, Below.refl _ _⟩
set_option maxHeartbeats 2000000 in
set_option maxRecDepth 100000 in
theorem sddecode_arg (k : Int) (hk : k = 2 ∨ k = 3 ∨ k = 6) (s : ByteArray) (n : Int) (h : n < 0 ∨ 10000 < n) (w : World) :
    Calls Tryz.prog 58 #[.int .i64 k, .string s, .int .i64 n] w (DPost w (1, [])) := by
  have KI := hide (skind10_yes k hk)
  clear hk
  rcases h with h | h
  · go_enter Tryz.func58, Tryz.ntmps58
    go_wp2_with fail
    refine (KI.out _).mono ?_
    rintro e w0 ⟨rfl, rfl⟩
    go_wp2_with fail
    go_ret2
    exact ⟨_, rfl, inC_nil _, Below.refl _ _⟩
  · have hd : decide (n < 0) = false := by simp; omega
    go_enter Tryz.func58, Tryz.ntmps58
    go_wp2_with fail
    refine (KI.out _).mono ?_
    rintro e w0 ⟨rfl, rfl⟩
    go_wp2_with fail
    go_ret2
    exact ⟨_, rfl, inC_nil _, Below.refl _ _⟩
set_option maxHeartbeats 2000000 in
set_option maxRecDepth 100000 in
theorem sddecode_kind (k : Int) (hk : ¬ (k = 2 ∨ k = 3 ∨ k = 6)) (s : ByteArray) (n : Int) (w : World) :
    Calls Tryz.prog 58 #[.int .i64 k, .string s, .int .i64 n] w (DPost w (14, [])) := by
  have KI := hide (skind10_no k hk)
  clear hk
  go_enter Tryz.func58, Tryz.ntmps58
  go_wp2_with fail
  refine (KI.out _).mono ?_
  rintro e w0 ⟨rfl, rfl⟩
  go_wp2_with fail
  go_ret2
  exact ⟨_, rfl, inC_nil _, Below.refl _ _⟩
theorem ddecode_any (k : Int) (s : ByteArray) (hs : s.size ≤ maxLen) (n : Int) (w : World) (hT : Tabs w) :
    Calls Tryz.prog 92 #[.int .i64 k, .string s, .int .i64 n] w (DPost w (lspec k (bn s) n)) := by
  unfold lspec
  by_cases hk : k = 2 ∨ k = 3 ∨ k = 6
  · rw [if_neg (Decidable.not_not.2 hk)]
    by_cases hn : n < 0 ∨ 10000 < n
    · rw [if_pos hn]; exact ddecode_arg k hk s n hn w
    · rw [if_neg hn]
      obtain ⟨m, rfl⟩ : ∃ m : Nat, n = m := ⟨n.toNat, by omega⟩
      exact ddecode_loop k hk s hs m (by omega) w hT
  · rw [if_pos hk]; exact ddecode_kind k hk s n w
theorem sddecode_any (k : Int) (s : ByteArray) (hs : s.size ≤ maxLen) (n : Int) (w : World) (hT : Tabs w) :
    Calls Tryz.prog 58 #[.int .i64 k, .string s, .int .i64 n] w (DPost w (lspec k (bn s) n)) := by
  unfold lspec
  by_cases hk : k = 2 ∨ k = 3 ∨ k = 6
  · rw [if_neg (Decidable.not_not.2 hk)]
    by_cases hn : n < 0 ∨ 10000 < n
    · rw [if_pos hn]; exact sddecode_arg k hk s n hn w
    · rw [if_neg hn]
      obtain ⟨m, rfl⟩ : ∃ m : Nat, n = m := ⟨n.toNat, by omega⟩
      rcases hk with rfl | rfl | rfl
      · exact sddecode_int s hs m (by omega) w
      · exact sddecode_uint s hs m (by omega) w
      · exact sddecode_point s hs m (by omega) w hT
  · rw [if_pos hk]; exact sddecode_kind k hk s n w
end Go.Proofs.YtfkgmodgkifelaaGreatDoor
