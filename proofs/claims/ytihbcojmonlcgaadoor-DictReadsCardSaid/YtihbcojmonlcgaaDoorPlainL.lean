/- The walk of the law PlainGets. -/
import Derived.Test.YtihbcojmonlcgaaDoorPlainP
import Derived.Test.YtihbcojmonlcgaaDoorPlainA
import Derived.Test.YtihbcojmonlcgaaDoorCellsSame
namespace Go.Proofs.YtihbcojmonlcgaaDoor
open Go.RowKit

def NewRd (w : World) (s : ByteArray) (e : Ending) (w' : World) : Prop := ∃ R, e = .returned (.pointer (some ⟨R, 0, none⟩)) ∧ Rd w' R s 0 0 ∧ w.heap.size ≤ R ∧ Below w.heap.size w w'
theorem rd_new (s : ByteArray) (w : World) : Calls Tryd.prog 13 #[.string s] w (NewRd w s) := by
  go_enter Tryd.func13, Tryd.ntmps13
  go_wp2_with fail
  go_ret
  exact ⟨w.heap.size, rfl, Blk.new _ _ _, Nat.le_refl _, (Below.refl _ _).alloc (Nat.le_refl _) _⟩
set_option maxHeartbeats 2000000 in
set_option maxRecDepth 100000 in
theorem gget_nil (k : Int) (w : World) : Calls Tryd.prog 14 #[.pointer none, .int .i64 k] w fun e w' => e = .returned (.tuple #[clZ, .int .i64 2]) ∧ Below w.heap.size w w' := by
  have hst := fun (w1 : World) (a1 : Addr) (m : Mode) (x y : Nat) => run_store Tryd.prog w1 a1 (.complex .f64 x y) m rfl
  go_enter Tryd.func14, Tryd.ntmps14
  go_wp2_with fail
  refine bodyPost_ret (results_cell_tmp_row' rfl _ _ _ w.heap.size 34 #[.bool false, .bool false, .int .i64 0, .int .u64 0, .string { data := #[] }, .complex .f64 0 0] (0, 0) rfl (blk_new1 _ _ _) Tryd.underlying34 (by exact info_c)) rfl ?_
  exact ⟨rfl, (Below.refl _ _).alloc (Nat.le_refl _) _⟩
set_option maxHeartbeats 2000000 in
set_option maxRecDepth 100000 in
theorem gget_kind (k : Int) (hk : k < 1 ∨ 6 < k) (R : Nat) (w : World) : Calls Tryd.prog 14 #[.pointer (some ⟨R, 0, none⟩), .int .i64 k] w fun e w' => e = .returned (.tuple #[clZ, .int .i64 14]) ∧ Below w.heap.size w w' := by
  have KI := hide (is_no k hk)
  clear hk
  have hst := fun (w1 : World) (a1 : Addr) (m : Mode) (x y : Nat) => run_store Tryd.prog w1 a1 (.complex .f64 x y) m rfl
  go_enter Tryd.func14, Tryd.ntmps14
  go_wp2_with fail
  refine (KI.out _).mono ?_
  rintro e w0 ⟨rfl, rfl⟩
  go_wp2_with fail
  refine bodyPost_ret (results_cell_tmp_row' rfl _ _ _ w.heap.size 34 #[.bool false, .bool false, .int .i64 0, .int .u64 0, .string { data := #[] }, .complex .f64 0 0] (0, 0) rfl (blk_new1 _ _ _) Tryd.underlying34 (by exact info_c)) rfl ?_
  exact ⟨rfl, (Below.refl _ _).alloc (Nat.le_refl _) _⟩
set_option maxHeartbeats 1000000 in
set_option maxRecDepth 100000 in
theorem skind_any (k : Int) (b : Bool) (hb : Hid (b = decide (1 ≤ k ∧ k ≤ 6))) (w : World) : Calls Tryd.prog 15 #[.int .i64 k] w fun e w' => e = .returned (.bool b) ∧ w = w' := by
  by_cases h1 : 1 ≤ k
  · by_cases h6 : k ≤ 6
    · obtain rfl : b = true := by rw [hb.out]; simp [h1, h6]
      clear hb
      go_enter Tryd.func15, Tryd.ntmps15
      go_wp2_with fail
      go_ret
      exact ⟨rfl, rfl⟩
    · obtain rfl : b = false := by rw [hb.out]; simp [h6]
      clear hb
      have h6' : decide (k ≤ 6) = false := by simpa using h6
      go_enter Tryd.func15, Tryd.ntmps15
      go_wp2_with fail
      go_ret
      exact ⟨rfl, rfl⟩
  · obtain rfl : b = false := by rw [hb.out]; simp [h1]
    clear hb
    have h1' : decide (1 ≤ k) = false := by simpa using h1
    go_enter Tryd.func15, Tryd.ntmps15
    go_wp2_with fail
    go_ret
    exact ⟨rfl, rfl⟩
/-- One cell against itself. -/
theorem cells_one (c : CD) (hc : c.num) (w : World) (g1 g2 : Nat) (t1 t2 : TypeId) (h1 : Blk w g1 t1 (clA c.b c.x c.u c.t c.p c.q)) (h2 : Blk w g2 t2 (clA c.b c.x c.u c.t c.p c.q)) :
    Calls Tryd.prog 18 #[.slice (some ⟨g1, 0, none⟩) 1 1, .slice (some ⟨g2, 0, none⟩) 1 1] w fun e w' => e = .returned (.bool true) ∧ ∃ m, w' = w.drewN m :=
  cells_same 1 (by omega) g1 g2 1 1 (fun _ => c.b) (fun _ => c.x) (fun _ => c.u) (fun _ => c.t) (fun _ => c.p) (fun _ => c.q) w
    (fun i hi => by obtain rfl : i = 0 := by omega
                    exact atC_blk h1) (fun i hi => by obtain rfl : i = 0 := by omega
                                                      exact atC_blk h2) (fun i _ => hc)
set_option maxHeartbeats 2000000 in
set_option maxRecDepth 100000 in
theorem gets_long (k : Int) (s : ByteArray) (hs : s.size ≤ maxLen) (hl : 300 < s.size) (w : World) :
    Calls Tryd.prog 4 #[.int .i64 k, .string s] w fun e w' => e = .returned (.bool true) ∧ Below w.heap.size w w' := by
  have KA := hide awake8
  unfold maxLen at hs
  go_enter Tryd.func4, Tryd.ntmps4
  go_wp2_with fail
  refine (KA.out _).mono ?_
  rintro e w1 ⟨rfl, hb1⟩
  have HB1 := hide hb1
  clear hb1
  go_wp2_with fail
  go_ret
  exact ⟨rfl, HB1.out⟩
set_option maxHeartbeats 2000000 in
set_option maxRecDepth 100000 in
theorem gets_kind (k : Int) (hk : k < 1 ∨ 6 < k) (s : ByteArray) (hl : ¬ 300 < s.size) (w : World) :
    Calls Tryd.prog 4 #[.int .i64 k, .string s] w fun e w' => e = .returned (.bool true) ∧ Below w.heap.size w w' := by
  have KA := hide awake8
  have KR := hide (rd_new s)
  have KG := hide (gget_kind k hk)
  have KK := hide (skind_any k false (by show _ = _; rw [eq_comm, decide_eq_false_iff_not]; omega))
  clear hk
  have hst := fun (w1 : World) (a1 : Addr) (m : Mode) (x y : Nat) => run_store Tryd.prog w1 a1 (.complex .f64 x y) m rfl
  go_enter Tryd.func4, Tryd.ntmps4
  go_wp2_with fail
  refine (KR.out _).mono ?_
  rintro e w1 ⟨R, rfl, hr1, hR, hb1⟩
  have HR1 := hide hr1
  have HB1 := hide hb1
  clear hr1 hb1
  unfold clZ clV clA at KG
  go_wp2_with fail
  refine (KG.out _ _).mono ?_
  rintro e w2 ⟨rfl, hb2⟩
  have KT := hide (fun o => rat_any R s 0 0 _ ((HR1.out.below hb2).below ((Below.refl w2.heap.size w2).alloc (Nat.le_refl _) o)))
  have HB2 := hide (HB1.out.trans (hb2.mono HB1.out.size))
  clear hb2
  go_wp2_with fail
  refine (KK.out _).mono ?_
  rintro e w3 ⟨rfl, rfl⟩
  go_wp2_with fail
  refine (KT.out _).mono ?_
  rintro e w3 ⟨rfl, rfl⟩
  go_wp2_with fail
  refine (KA.out _).mono ?_
  rintro e w4 ⟨rfl, hb4⟩
  have HB4 := hide ((HB2.out.alloc HB2.out.size _).trans (hb4.mono (by simp; exact Nat.le_succ_of_le HB2.out.size)))
  clear hb4
  go_wp2_with fail
  go_ret
  exact ⟨rfl, HB4.out⟩
theorem blk_s1 (w : World) (a d : Obj) (cs : Array Value) (t : TypeId) : Blk (((w.alloc a).alloc (.cells cs t)).alloc d) (w.heap.size + 1) t cs := by
  have := (Blk.new (w.alloc a) cs t).alloc d
  rwa [show (w.alloc a).heap.size = w.heap.size + 1 by simp] at this
theorem blk_s2 (w : World) (a d : Obj) (cs : Array Value) (t : TypeId) : Blk (((w.alloc a).alloc d).alloc (.cells cs t)) (w.heap.size + 1 + 1) t cs := by
  have := Blk.new ((w.alloc a).alloc d) cs t
  rwa [show ((w.alloc a).alloc d).heap.size = w.heap.size + 1 + 1 by simp] at this
set_option maxHeartbeats 4000000 in
set_option maxRecDepth 100000 in
theorem gets_yes (k : Int) (h1 : 1 ≤ k) (h6 : k ≤ 6) (s : ByteArray) (hl : ¬ 300 < s.size) (w : World) (hT : Tabs w) (c : CD) (n e' er : Nat) (hg : Hid (gp k (bn s) = (c, n, e', er))) (hc : c.num) (hcase : Hid (er = 0 ∨ (0 < er ∧ c = CD.z))) :
    Calls Tryd.prog 4 #[.int .i64 k, .string s] w fun e w' => e = .returned (.bool true) ∧ Below w.heap.size w w' := by
  have hs : s.size ≤ maxLen := by unfold maxLen; omega
  have KA := hide awake8
  have KR := hide (rd_new s)
  have KG := hide (fun (R : Nat) (w : World) (hr : Rd w R s 0 0) (hT : Tabs w) => gget_all k h1 h6 R s 0 hs (by omega) w hr hT)
  rw [List.drop_zero, hg.out] at KG
  have KS := hide (fun (w : World) (hT : Tabs w) => sread_all k h1 h6 s hs w hT)
  rw [hg.out] at KS
  simp only [Nat.zero_add] at KG KS
  have KN := hide (gget_nil k)
  have KC := hide (cells_one c hc)
  have KK := hide (skind_any k true (by show _ = _; rw [eq_comm, decide_eq_true_eq]; exact ⟨h1, h6⟩))
  have HT := hide hT
  clear hg hs hc hT
  have hst := fun (w1 : World) (a1 : Addr) (m : Mode) (x y : Nat) => run_store Tryd.prog w1 a1 (.complex .f64 x y) m rfl
  have hne1 : ((er : Int) != (er : Int)) = false := by simp
  have hne2 : ((n : Int) != (n : Int)) = false := by simp
  obtain ⟨cb, cx, cu, ct, cp, cq⟩ := c
  unfold CD.v at KG KS
  simp only at KG KS KC
  go_enter Tryd.func4, Tryd.ntmps4
  go_wp2_with fail
  refine (KR.out _).mono ?_
  rintro e w1 ⟨R, rfl, hr1, hR, hb1⟩
  have HR1 := hide hr1
  have HB1 := hide hb1
  have HT1 := hide (HT.out.below hb1)
  have hr1lt := Blk.lt hr1
  clear hr1 hb1
  unfold clV clA at KG
  go_wp2_with fail
  refine (KG.out _ _ HR1.out HT1.out).mono ?_
  rintro e w2 ⟨rfl, hr2, hf2⟩
  have HR2 := hide hr2
  have HB2 := hide (HB1.out.trans (hf2.below HB1.out.size (fun k hk => by omega)))
  have HT2 := hide (HT1.out.fr HR1.out hf2)
  have hr2lt := Blk.lt hr2
  clear hr2 hf2
  go_wp2_with fail
  refine (KK.out _).mono ?_
  rintro e w3 ⟨rfl, rfl⟩
  have KS2 := hide (fun o => KS.out (w2.alloc o) (HT2.out.below ((Below.refl w2.heap.size w2).alloc (Nat.le_refl _) o)))
  unfold clV clA at KS2
  go_wp2_with fail
  refine (KS2.out _).mono ?_
  rintro e w4 ⟨rfl, hb4⟩
  have h6 := hide ((Blk.new w2 (clA cb cx cu ct cp cq) 34).below hb4 (Blk.new _ _ _).lt)
  have hz4 := hb4.size
  simp at hz4
  have HB4 := hide ((HB2.out.alloc HB2.out.size _).trans (hb4.mono (by simp; exact Nat.le_succ_of_le HB2.out.size)))
  have KT := hide (fun o => rat_any R s n e' _ (((HR2.out.alloc _).below hb4 (by simp; omega)).alloc o))
  clear hb4
  go_wp2_with fail
  refine (KT.out _).mono ?_
  rintro e w5 ⟨rfl, rfl⟩
  unfold clZ clV clA at KN
  go_wp2_with fail
  refine (KN.out _).mono ?_
  rintro e w5 ⟨rfl, hb5⟩
  have h65 := hide ((h6.out.alloc _).below hb5 (h6.out.alloc _).lt)
  have h85 := hide ((Blk.new w4 (clA cb cx cu ct cp cq) 34).below hb5 (Blk.new _ _ _).lt)
  have hz5 := hb5.size
  simp at hz5
  have HB5 := hide ((HB4.out.alloc HB4.out.size _).trans (hb5.mono (by simp; exact Nat.le_succ_of_le HB4.out.size)))
  clear hb5 h6 KT KS2 KS KN KG KK HR2 HR1 HT2 HT1 HB2 HB1 HB4
  have l6 : w2.heap.size < w5.heap.size := by omega
  have l8 : w4.heap.size < w5.heap.size := by omega
  have n68 : w2.heap.size ≠ w4.heap.size := by omega
  have n86 : w4.heap.size ≠ w2.heap.size := by omega
  obtain ⟨a0, a1, a2, a3, a4, a5, f0, f1, f2, f3, f4, f5⟩ := Blk.six (by exact h65.out)
  obtain ⟨d0, d1, d2, d3, d4, d5, g0, g1, g2, g3, g4, g5⟩ := Blk.six (by exact h85.out)
  rcases hcase.out with rfl | ⟨hpos, hcz⟩
  · have HE := hide (fun (w' : World) (h : w5.heap.size ≤ w'.heap.size) (hb : Below w.heap.size w w') => KA.out w')
    go_wp2_with fail
    refine (KC.out _ _ _ _ _ (blk_s1 _ _ _ _ _) (blk_s2 _ _ _ _ _)).mono ?_
    rintro e w6 ⟨rfl, m, rfl⟩
    have HB6 := hide (fun o1 o2 o3 => below_drewN (((HB5.out.alloc HB5.out.size o1).alloc (by simp; exact Nat.le_succ_of_le HB5.out.size) o2).alloc (by simp; exact Nat.le_succ_of_le (Nat.le_succ_of_le HB5.out.size)) o3) m)
    clear a0 a1 a2 a3 a4 a5 d0 d1 d2 d3 d4 d5 f0 f1 f2 f3 f4 f5 g0 g1 g2 g3 g4 g5 HE
    go_wp2_with fail
    refine (KA.out _).mono ?_
    rintro e w7 ⟨rfl, hb7⟩
    have HB7 := hide ((HB6.out _ _ _).trans (hb7.mono (HB6.out _ _ _).size))
    clear hb7
    go_wp2_with fail
    go_ret
    exact ⟨rfl, HB7.out⟩
  · have hne3 : ((er : Int) != 0) = true := by rw [bne_iff_ne]; omega
    injection hcz with z1 z2 z3 z4 z5 z6
    subst z1 z2 z3 z4 z5 z6
    have HF := hide (st6_fr w5 w4.heap.size (.bool false) (.bool false) (.int .i64 0) (.int .u64 0) (.string { data := #[] }) (.complex .f64 0 0))
    have HS := hide (HB5.out.trans (HF.out.below (B := w.heap.size) HB5.out.size (fun k hk => by have := HB5.out.size; omega)))
    have HZ : Hid ((st6 w5 w4.heap.size (.bool false) (.bool false) (.int .i64 0) (.int .u64 0) (.string { data := #[] }) (.complex .f64 0 0)).heap.size = w5.heap.size) := by show _ = _; simp [st6]
    have S1 := hide (fun a d cs t => blk_s1 (st6 w5 w4.heap.size (.bool false) (.bool false) (.int .i64 0) (.int .u64 0) (.string { data := #[] }) (.complex .f64 0 0)) a d cs t)
    have S2 := hide (fun a d cs t => blk_s2 (st6 w5 w4.heap.size (.bool false) (.bool false) (.int .i64 0) (.int .u64 0) (.string { data := #[] }) (.complex .f64 0 0)) a d cs t)
    rw [HZ.out] at S1 S2
    unfold st6 at S1 S2 HS
    clear HF HZ
    go_wp2_with fail
    refine (KC.out _ _ _ _ _ (S1.out _ _ _ _) (S2.out _ _ _ _)).mono ?_
    rintro e w6 ⟨rfl, m, rfl⟩
    have HB6 := hide (fun o1 o2 o3 => below_drewN (((HS.out.alloc HS.out.size o1).alloc (by simp; exact Nat.le_succ_of_le HB5.out.size) o2).alloc (by simp; exact Nat.le_succ_of_le (Nat.le_succ_of_le HB5.out.size)) o3) m)
    clear a0 a1 a2 a3 a4 a5 d0 d1 d2 d3 d4 d5 f0 f1 f2 f3 f4 f5 g0 g1 g2 g3 g4 g5 S1 S2
    go_wp2_with fail
    refine (KA.out _).mono ?_
    rintro e w7 ⟨rfl, hb7⟩
    have HB7 := hide ((HB6.out _ _ _).trans (hb7.mono (HB6.out _ _ _).size))
    clear hb7
    go_wp2_with fail
    go_ret
    exact ⟨rfl, HB7.out⟩
theorem plainGets_walk (k : Int) (hw : (Lit.int .i64 k).wf = true) (s : ByteArray) (hs : s.size ≤ maxLen) (w : World) (hT : Tabs w) :
    Calls Tryd.prog 4 #[.int .i64 k, .string s] w fun e w' => e = .returned (.bool true) ∧ Below w.heap.size w w' := by
  by_cases hl : 300 < s.size
  · exact gets_long k s hs hl w
  · by_cases hk : k < 1 ∨ 6 < k
    · exact gets_kind k hk s hl w
    · have hz := gp_z k (bn s)
      have hn := gp_num k (bn s)
      rcases hg : gp k (bn s) with ⟨c, n, e', er⟩
      rw [hg] at hz hn
      exact gets_yes k (by omega) (by omega) s hl w hT c n e' er hg hn (by
        show _ ∨ _
        by_cases h0 : er = 0
        · exact .inl h0
        · exact .inr ⟨by omega, hz.resolve_left h0⟩)
end Go.Proofs.YtihbcojmonlcgaaDoor
