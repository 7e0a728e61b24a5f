/- The document's loop over cells. -/
import Derived.Test.YtihbcojmonlcgaaDoorPlainD
namespace Go.Proofs.YtihbcojmonlcgaaDoor
open Go.RowKit

theorem str_someD {a : ByteArray} (h : 0 < a.size) : a.toList.isEmpty = false := by
  rw [ByteArray.toList_eq]
  cases ha : a.data.toList with
  | nil =>
    have : a.size = 0 := by
      show a.data.size = 0
      rw [← Array.length_toList, ha]; rfl
    omega
  | cons x l => rfl
set_option maxHeartbeats 4000000 in
set_option maxRecDepth 100000 in
theorem sdecode_loop (k : Int) (h1 : 2 ≤ k) (h6 : k ≤ 6) (s : ByteArray) (hs : s.size ≤ maxLen) (n : Nat) (hn : n ≤ 10000) (w : World) (hT : Tabs w) :
    Calls Tryd.prog 20 #[.int .i64 k, .string s, .int .i64 n] w (DPost w (decR k (bn s) n)) := by
  have KK := hide (skind_any k true (by show _ = _; rw [eq_comm, decide_eq_true_eq]; exact ⟨by omega, h6⟩))
  have hk1 : ((k : Int) == 1) = false := by rw [beq_eq_false_iff_ne]; omega
  have hn0 : (0 : Int) ≤ (n : Int) := by omega
  have hn1 : (n : Int) ≤ 10000 := by omega
  have KS := hide (fun (s' : ByteArray) (hs : s'.size ≤ maxLen) (w : World) (hT : Tabs w) => sread_all k (by omega) h6 s' hs w hT)
  obtain ⟨i0, hi, hz0, hz1, hz2⟩ := info_parts info_cC
  have HT := hide hT
  have hS := hide hs
  clear hT hs h1 h6
  have hst := fun (w1 : World) (a1 : Addr) (m : Mode) (x y : Nat) => run_store Tryd.prog w1 a1 (.complex .f64 x y) m rfl
  go_enter Tryd.func20, Tryd.ntmps20
  go_wp2_with fail
  refine (KK.out _).mono ?_
  rintro e w0 ⟨rfl, rfl⟩
  go_wp2_with fail
  go_loopw [1, 8, 12] (fun sv lv iv wr => ∃ i : Nat, i ≤ n ∧ iv = .int .i64 (i : Int) ∧ (∃ s' : ByteArray, sv = .string s' ∧ Hid (bn s' = (bn s).drop (posn k (bn s) i)) ∧ s'.size ≤ s.size) ∧ Hid (errN k (bn s) i = 0) ∧ wr.ownsRow w.heap.size 34 6 lv i ((cellsN k (bn s) i).flatMap cellsC) ∧ Below w.heap.size w wr) (fun _ _ iv _ => n - (intOf iv).toNat)
  case atStart => exact ⟨0, by omega, rfl, ⟨s, rfl, rfl, Nat.le_refl _⟩, rfl, World.ownsRow_nil _ _ _ _, Below.refl _ _⟩
  case round =>
    obtain ⟨i, hin, rfl, ⟨s', rfl, HS', hs'⟩, he, ha, hbe⟩ := hrel
    obtain ⟨Aa, ca, rfl⟩ := own_form3 ha
    by_cases hlt : i < n
    · have K := hide (KS.out s' (Nat.le_trans hs' hS.out) wr (HT.out.below hbe))
      rw [HS'.out] at K
      have HC : Hid (cellsN k (bn s) (i + 1) = cellsN k (bn s) i ++ [(gp k ((bn s).drop (posn k (bn s) i))).1]) := cellsN_succ _ _ _
      have HP : Hid (posn k (bn s) (i + 1) = posn k (bn s) i + (gp k ((bn s).drop (posn k (bn s) i))).2.1) := rfl
      have HE : Hid (errN k (bn s) (i + 1) = (gp k ((bn s).drop (posn k (bn s) i))).2.2.2) := errN_succ k (bn s) i he.out
      have HX := hide (fun h => decR_err k (bn s) i n hlt he.out h)
      unfold errAt at HX
      have hL := gp_le k ((bn s).drop (posn k (bn s) i))
      rw [← HS'.out, bn_len] at hL
      rw [← HS'.out] at K HC HP HE HX
      rcases hg : gp k (bn s') with ⟨c, m, e', er⟩
      rw [hg] at K HC HP HE HX hL
      simp only at K HC HP HE HX hL
      obtain ⟨cb, cx, cu, ct, cp, cq⟩ := c
      unfold CD.v clV clA at K
      simp only at K
      have HA := hide ha
      have HBE := hide hbe
      have hms : s'.size ≤ 9223372036854775807 := by have := hS.out; unfold maxLen at this; omega
      clear hg ha hbe
      by_cases h0 : er = 0
      · subst h0
        go_wp2_with fail
        refine K.out.mono ?_
        rintro e w1 ⟨rfl, hb1⟩
        have HA2 := hide (own_below HA.out hb1)
        have HB2 := hide (HBE.out.trans (hb1.mono HBE.out.size))
        clear hb1
        go_wp2_with (at_builtin; refine wpList_append_own_at _ rfl _ _ 30 rfl w.heap.size 34 i0 _ 6 56 Tryd.underlying30 hi hz0 hz1 hz2 rfl (by decide) _ _ _ rfl ((HA2.out.alloc _).alloc _) ⟨w1.heap.size + 1, 0, none⟩ 1 1 [.bool false, .bool cb, .int .i64 cx, .int .u64 cu, .string ct, .complex .f64 cp cq] rfl rfl (World.news_of_block (blk_2 _ _ _ _).out) (by simp [Value.oneCell']) (by simp only [maxLen]; omega) (by omega) (by simpa using Nat.le_succ_of_le (Nat.le_succ_of_le HB2.out.size)) ?_; intro v1 w2 hown1 hgrow1 _ hat1)
        have hba := fun o1 o2 => (HB2.out.alloc HB2.out.size o1).alloc (by simp; exact Nat.le_succ_of_le HB2.out.size) o2
        have HB3 := hide ((hba _ _).grown hgrow1 (by simpa using Nat.le_succ_of_le (Nat.le_succ_of_le HB2.out.size)) (fun j hj => (HA2.out.lt j hj).1))
        have HA3 : Hid (w2.ownsRow w.heap.size 34 6 v1 (i + 1) ((cellsN k (bn s) (i + 1)).flatMap cellsC)) := by
          show World.ownsRow _ _ _ _ _ _ _
          rw [HC.out, cellsC_snoc]; exact hown1
        clear hba hown1 hgrow1 hat1
        have HS2 : Hid (bn (s'.extract m s'.size) = (bn s).drop (posn k (bn s) (i + 1))) := by
          show _ = _
          rw [bn_drop, HS'.out, List.drop_drop, HP.out]
        have hs2 : (s'.extract m s'.size).size ≤ s.size := by simp; omega
        go_roundw
        case rel => exact ⟨i + 1, by omega, by go_num, ⟨_, rfl, HS2, hs2⟩, HE.out, HA3.out, HB3.out⟩
        case measure => simp [intOf] <;> omega
      · have hne : ((er : Int) != 0) = true := by rw [bne_iff_ne]; omega
        have HX2 := hide (HX.out h0)
        clear h0 HX
        go_wp2_with fail
        refine K.out.mono ?_
        rintro e w1 ⟨rfl, hb1⟩
        have HB2 := hide (HBE.out.trans (hb1.mono HBE.out.size))
        clear hb1
        go_wp2_with fail
        go_ret2
        rw [HX2.out]
        exact ⟨_, rfl, inC_nil _, HB2.out.alloc HB2.out.size _⟩
    · obtain rfl : i = n := by omega
      have HA := hide ha
      have HBE := hide hbe
      have hl := congrArg List.length HS'.out
      rw [bn_len, List.length_drop, bn_len] at hl
      clear ha hbe
      by_cases hp : posn k (bn s) i < s.size
      · have HX : Hid (decR k (bn s) i = (11, [])) := by show _ = _; unfold decR; rw [if_pos he.out, if_pos (by rw [bn_len]; exact hp)]
        have hp2 : 0 < s'.size := by omega
        clear hl hp
        have hz1 := str_someD hp2
        have hz2 : (!s'.toList.isEmpty) = true := by rw [hz1]; rfl
        clear hz1
        go_wp2_with fail
        go_ret2
        rw [HX.out]
        exact ⟨_, rfl, inC_nil _, HBE.out⟩
      · have HX : Hid (decR k (bn s) i = (0, cellsN k (bn s) i)) := by show _ = _; unfold decR; rw [if_pos he.out, if_neg (by rw [bn_len]; exact hp)]
        have hp2 : s'.size = 0 := by omega
        clear hl hp
        have hz1 : s' = { data := #[] } := by
          apply bn_inj
          have := bn_len s'
          rw [hp2] at this
          rw [List.eq_nil_of_length_eq_zero this]; rfl
        subst hz1
        go_wp2_with fail
        go_ret2
        rw [HX.out]
        exact ⟨_, rfl, inC_own HA.out (cellsN_len _ _ _).symm, HBE.out⟩
end Go.Proofs.YtihbcojmonlcgaaDoor
