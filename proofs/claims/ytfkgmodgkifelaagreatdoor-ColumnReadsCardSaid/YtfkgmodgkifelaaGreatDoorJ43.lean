/- Columns: two lists of cells some of which may be missing that are the same, part by part. ColumnReads: the chapter's example, and the walk of the law. -/
import Derived.Test.YtfkgmodgkifelaaGreatDoorJ42
import Derived.Test.YtfkgmodgkifelaaGreatDoorJ10
import Derived.BigQuiet
namespace Go.Proofs.YtfkgmodgkifelaaGreatDoor
open Go.RowKit

set_option maxHeartbeats 4000000 in
set_option maxRecDepth 100000 in
theorem cells_sameM (n : Nat) (hn : n ≤ 100000) (g1 g2 c1 c2 : Nat) (nu b : Nat → Bool) (x u : Nat → Int) (t : Nat → ByteArray) (p q : Nat → Nat) (w : World)
    (H1 : Hid (∀ i, i < n → AtM w g1 (i * 6) (nu i) (b i) (x i) (u i) (t i) (p i) (q i))) (H2 : Hid (∀ i, i < n → AtM w g2 (i * 6) (nu i) (b i) (x i) (u i) (t i) (p i) (q i)))
    (H3 : Hid (∀ i, i < n → FloatKind.f64.format.order (p i) (p i) = some .eq ∧ FloatKind.f64.format.order (q i) (q i) = some .eq)) :
    Calls Tryz.prog 8 #[.slice (some ⟨g1, 0, none⟩) n c1, .slice (some ⟨g2, 0, none⟩) n c2] w fun e w' => e = .returned (.bool true) ∧ ∃ m, w' = w.drewN m := by
  go_enter Tryz.func8, Tryz.ntmps8
  go_wp2_with fail
  go_loopw [5] (fun iv wr => ∃ i m : Nat, i ≤ n ∧ iv = .int .i64 (i : Int) ∧ wr = w.drewN m) (fun iv _ => n - (intOf iv).toNat)
  case atStart => exact ⟨0, 0, by omega, rfl, rfl⟩
  case round =>
    obtain ⟨i, m, hi, rfl, rfl⟩ := hrel
    by_cases hlt : i < n
    · obtain ⟨a0, a1, a2, a3, a4, a5⟩ := H1.out i hlt
      obtain ⟨d0, d1, d2, d3, d4, d5⟩ := H2.out i hlt
      obtain ⟨r1, r2⟩ := H3.out i hlt
      generalize b i = B at *
      generalize nu i = NU at *
      generalize x i = X at *
      generalize u i = U at *
      generalize t i = T at *
      generalize p i = P at *
      generalize q i = Q at *
      have hi0 : (0 : Int) ≤ (i : Int) := by omega
      have hi1 : (i : Int) < (n : Int) := by omega
      have hB : (B != B) = false := by simp
      have hNU : (NU != NU) = false := by simp
      have hT : (T.toList != T.toList) = false := by simp
      go_wp2_with fail
      refine wp_region_quiet_big (by kernel_rfl) (by kernel_rfl) (by kernel_rfl) ?_
      dsimp only [List.append]
      as_aux_lemma =>
      iterate 10 (try go_big_quiet_step (fail))
      as_aux_lemma =>
      iterate 10 (try go_big_quiet_step (fail))
      as_aux_lemma =>
      iterate 10 (try go_big_quiet_step (fail))
      as_aux_lemma =>
      iterate 10 (try go_big_quiet_step (fail))
      as_aux_lemma =>
      iterate 10 (try go_big_quiet_step (fail))
      as_aux_lemma =>
      iterate 10 (try go_big_quiet_step (fail))
      as_aux_lemma =>
      iterate 10 (try go_big_quiet_step (fail))
      as_aux_lemma =>
      iterate 10 (try go_big_quiet_step (fail))
      as_aux_lemma =>
      iterate 10 (try go_big_quiet_step (fail))
      as_aux_lemma =>
      iterate 10 (try go_big_quiet_step (fail))
      as_aux_lemma =>
      iterate 10 (try go_big_quiet_step (fail))
      as_aux_lemma =>
      refine wpQuiet_nil ?_
      intro _ hw'
      obtain ⟨nq, hw''⟩ := hw'
      subst hw''
      clear a0 a1 a2 a3 a4 a5 d0 d1 d2 d3 d4 d5
      go_wp2_with fail
      go_roundw
      case rel => exact ⟨i + 1, m + nq, by omega, by go_num, rfl⟩
      case measure => simp [intOf] <;> omega
    · go_wp2_with fail
      go_ret
      exact ⟨rfl, m, rfl⟩
/-- The same cells, twice. -/
theorem cells_listM (l : List MC) (hl : l.length ≤ 100000) (hn : ∀ c ∈ l, c.2.num) (w : World) (va vb : Value) (ha : InM w va l) (hb : InM w vb l) :
    Calls Tryz.prog 8 #[va, vb] w fun e w' => e = .returned (.bool true) ∧ ∃ m, w' = w.drewN m := by
  obtain ⟨A, ca, rfl, hA⟩ := ha
  obtain ⟨B, cb, rfl, hB⟩ := hb
  rcases Nat.eq_zero_or_pos l.length with h0 | h0
  · rw [h0]; exact cells_nil A B ca cb w
  · have hx : ∀ i, i < l.length → l[i]? = some (l.getD i (false, CD.z)) := fun i hi => by simp [List.getD, hi]
    obtain ⟨g, hg, _, _⟩ := hA 0 _ (hx 0 h0)
    obtain ⟨g2, hg2, _, _⟩ := hB 0 _ (hx 0 h0)
    subst hg hg2
    have inj : ∀ {x y : Nat}, (some (⟨x, 0, none⟩ : Addr)) = some ⟨y, 0, none⟩ → y = x := fun h => by injection h with h; injection h with h; exact h.symm
    exact cells_sameM l.length hl g g2 ca cb (fun i => (l.getD i (false, CD.z)).1) (fun i => (l.getD i (false, CD.z)).2.b) (fun i => (l.getD i (false, CD.z)).2.x) (fun i => (l.getD i (false, CD.z)).2.u) (fun i => (l.getD i (false, CD.z)).2.t) (fun i => (l.getD i (false, CD.z)).2.p) (fun i => (l.getD i (false, CD.z)).2.q) w
      (fun i hi => by obtain ⟨y, hy, _, h⟩ := hA i _ (hx i hi); rw [inj hy] at h; exact h) (fun i hi => by obtain ⟨y, hy, _, h⟩ := hB i _ (hx i hi); rw [inj hy] at h; exact h) (fun i hi => hn _ (List.mem_of_getElem? (hx i hi)))
theorem okM_num {nl : Bool} {k : Int} {c : MC} (h : okM nl k c) : c.2.num := by
  unfold okM at h
  split at h
  · rw [h.2]; exact num_z
  · have hp := h.kg.pf
    have hq := h.kg.qf
    obtain ⟨n, b, x, u, t, p, q⟩ := c
    simp only at hp hq
    have n1 := h.kg.pa
    have n2 := h.kg.qa
    simp only at n1 n2
    show CD.num ⟨b, x, u, t, p, q⟩
    generalize fi p = a at *
    generalize fi q = b2 at *
    subst hp hq
    exact num_mk _ _ _ _ _ _ (order_self _ n1) (order_self _ n2)
theorem cdecS_num (nm : ByteArray) (k : Int) (nl : Bool) (s : ByteArray) (hs : s.size ≤ 600) : (cdecS nm k nl s).2.length ≤ 10000 ∧ ∀ c ∈ (cdecS nm k nl s).2, c.2.num := by
  unfold cdecS
  split
  · exact ⟨by simp, by simp⟩
  · rename_i hc
    have hce : colE nm k = 0 := by simpa using hc
    obtain ⟨h1, h6⟩ := colE_k hce
    split
    · exact ⟨by simp, by simp⟩
    · rename_i he
      have hok := cellsS_ok h1 h6 (nl := nl) (bys_bn s hs) (by simpa using he)
      split
      · exact ⟨by simp, by simp⟩
      · exact ⟨hok.1, fun c hc => okM_num (hok.2 c hc)⟩
end Go.Proofs.YtfkgmodgkifelaaGreatDoor
namespace Go.Proofs.YtfkgmodgkifelaaGreatDoor
open Go.RowKit

def c7 : MC := (false, ⟨false, 7, 0, ByteArray.empty, 0, 0⟩)
def l7 : List MC := [c7, c7, c7, c7]
theorem c7_ok : okM false 2 c7 := by
  show Pur 2 ⟨false, 7, 0, ByteArray.empty, 0, 0⟩
  exact ⟨kg_mk0 _ _ _ _ (by omega) (by omega) (by omega) (by omega) e_sz, e_sz6, fun _ => rfl, fun h => absurd rfl h, fun _ => rfl, fun _ => rfl, fun h => by omega, fun _ => rfl, fun _ => rfl⟩
theorem enc7 : encC 2 false l7 = ⟨#[4, 3, 14, 0, 0, 0]⟩ := by kernel_rfl
theorem col7 : colE ⟨#[97]⟩ 2 = 0 := by kernel_rfl
set_option maxHeartbeats 2000000 in
set_option maxRecDepth 100000 in
theorem awake12 (w : World) (hT : Tabs w) :
    Calls Tryz.prog 5 #[] w fun e w' => e = .returned (.bool true) ∧ Below w.heap.size w w' := by
  have hb : ∀ o, Below w.heap.size w (w.alloc o) := fun o => (Below.refl _ _).alloc (Nat.le_refl _) _
  have hin : InM (w.alloc (.cells #[.bool false, .bool false, .int .i64 7, .int .u64 0, .string ByteArray.empty, .complex .f64 0 0, .bool false, .bool false, .int .i64 7, .int .u64 0, .string ByteArray.empty, .complex .f64 0 0, .bool false, .bool false, .int .i64 7, .int .u64 0, .string ByteArray.empty, .complex .f64 0 0, .bool false, .bool false, .int .i64 7, .int .u64 0, .string ByteArray.empty, .complex .f64 0 0] 45)) (.slice (some ⟨w.heap.size, 0, none⟩) 4 4) l7 := by
    refine ⟨_, 4, rfl, fun i x hx => ⟨w.heap.size, rfl, by simp, ?_⟩⟩
    have hk := Blk.new w #[.bool false, .bool false, .int .i64 7, .int .u64 0, .string ByteArray.empty, .complex .f64 0 0, .bool false, .bool false, .int .i64 7, .int .u64 0, .string ByteArray.empty, .complex .f64 0 0, .bool false, .bool false, .int .i64 7, .int .u64 0, .string ByteArray.empty, .complex .f64 0 0, .bool false, .bool false, .int .i64 7, .int .u64 0, .string ByteArray.empty, .complex .f64 0 0] 45
    match i, hx with
    | 0, hx => obtain rfl : c7 = x := by simpa [l7] using hx
               exact ⟨hk.cell 0, hk.cell 1, hk.cell 2, hk.cell 3, hk.cell 4, hk.cell 5⟩
    | 1, hx => obtain rfl : c7 = x := by simpa [l7] using hx
               exact ⟨hk.cell 6, hk.cell 7, hk.cell 8, hk.cell 9, hk.cell 10, hk.cell 11⟩
    | 2, hx => obtain rfl : c7 = x := by simpa [l7] using hx
               exact ⟨hk.cell 12, hk.cell 13, hk.cell 14, hk.cell 15, hk.cell 16, hk.cell 17⟩
    | 3, hx => obtain rfl : c7 = x := by simpa [l7] using hx
               exact ⟨hk.cell 18, hk.cell 19, hk.cell 20, hk.cell 21, hk.cell 22, hk.cell 23⟩
    | i + 4, hx => simp [l7] at hx
  have K := hide (encode_col ⟨#[97]⟩ (by decide) 2 (by omega) (by omega) false col7 l7 (by decide) (fun c hc => by
    have : c = c7 := by simpa [l7] using hc
    rw [this]; exact c7_ok) _ _ (hT.below (hb _)) hin)
  rw [if_neg (by decide)] at K
  have HB := hide hb
  rw [show encC ((2 : Nat) : Int) false l7 = ⟨#[4, 3, 14, 0, 0, 0]⟩ from enc7] at K
  unfold colV at K
  clear hT hb hin
  go_enter Tryz.func5, Tryz.ntmps5
  go_wp2_with fail
  refine K.out.mono ?_
  rintro e w1 ⟨rfl, hb1⟩
  have HB1 := hide ((HB.out _).trans (hb1.mono (by simp)))
  clear hb1
  go_wp2_with fail
  go_ret
  exact ⟨rfl, HB1.out⟩
set_option maxHeartbeats 4000000 in
set_option maxRecDepth 100000 in
theorem columnReads_walk (nm : ByteArray) (hnm : nm.size ≤ maxLen) (k : Int) (nl : Bool) (s : ByteArray) (hs : s.size ≤ maxLen) (w : World) (hT : Tabs w) :
    Calls Tryz.prog 3 #[.agg #[.string nm, .int .i64 k, .bool nl], .string s] w fun e w' => e = .returned (.bool true) ∧ Below w.heap.size w w' := by
  have HA := hide (fun o => (Below.refl w.heap.size w).alloc (Nat.le_refl _) o)
  have KA := hide (fun (w' : World) (hb : Below w.heap.size w w') => awake12 w' (hT.below hb))
  by_cases h600 : s.size ≤ 600
  · by_cases h200 : nm.size ≤ 200
    · have KD := hide (fun (w' : World) (hb : Below w.heap.size w w') => cdecode_any nm hnm k nl s h600 w' (hT.below hb))
      have KS := hide (fun (w' : World) (hb : Below w.heap.size w w') => scdecode_any nm hnm k nl s h600 w' (hT.below hb))
      obtain ⟨hl, hnum⟩ := cdecS_num nm k nl s h600
      unfold DPostM colV at KD KS
      generalize (cdecS nm k nl s).1 = er at *
      generalize (cdecS nm k nl s).2 = l at *
      have KC := hide (fun w' va vb ha hb => cells_listM l (by omega) hnum w' va vb ha hb)
      have h1 : (s.size : Int) ≤ 600 := by omega
      have h2 : (nm.size : Int) ≤ 200 := by omega
      have hq : ((er : Int) == (er : Int)) = true := beq_self_eq_true _
      have HBC := hide (Blk.new w #[.string nm, .int .i64 k, .bool nl] 23)
      clear h600 h200 hs hnm hT hnum hl
      go_enter Tryz.func3, Tryz.ntmps3
      go_wp2_with fail
      refine (KD.out _ (HA.out _)).mono ?_
      rintro e w1 ⟨va, rfl, hva, hb1⟩
      have HVA := hide hva
      have HE1 := hide ((HA.out _).trans (hb1.mono (by simp)))
      have HC1 := hide (HBC.out.below hb1 (by simp))
      have j0 := HC1.out.cell 0
      have j1 := HC1.out.cell 1
      have j2 := HC1.out.cell 2
      simp at j0 j1 j2
      clear hva hb1
      go_wp2_with fail
      refine (KS.out _ HE1.out).mono ?_
      rintro e w2 ⟨vb, rfl, hvb, hb2⟩
      have HVB := hide hvb
      have HVA2 := hide (HVA.out.below hb2)
      have HE2 := hide (HE1.out.trans (hb2.mono HE1.out.size))
      clear hvb hb2 j0 j1 j2
      go_wp2_with fail
      refine (KC.out _ _ _ HVA2.out HVB.out).mono ?_
      rintro e w3 ⟨rfl, m, rfl⟩
      have HE3 := hide (below_drewN HE2.out m)
      go_wp2_with fail
      refine (KA.out _ HE3.out).mono ?_
      rintro e w4 ⟨rfl, hb4⟩
      have HE4 := hide (HE3.out.trans (hb4.mono HE3.out.size))
      clear hb4
      go_wp2_with fail
      go_ret
      exact ⟨rfl, HE4.out⟩
    · have h1 : (s.size : Int) ≤ 600 := by omega
      have h2 : (200 : Int) < (nm.size : Int) := by omega
      clear h600 h200 hT hs hnm
      go_enter Tryz.func3, Tryz.ntmps3
      go_wp2_with fail
      refine (KA.out _ (HA.out _)).mono ?_
      rintro e w4 ⟨rfl, hb4⟩
      have HE4 := hide ((HA.out _).trans (hb4.mono (by simp)))
      clear hb4
      go_wp2_with fail
      go_ret
      exact ⟨rfl, HE4.out⟩
  · have h1 : (600 : Int) < (s.size : Int) := by omega
    have h0 := hs
    unfold maxLen at h0
    clear h600 hT hs hnm
    go_enter Tryz.func3, Tryz.ntmps3
    go_wp2_with fail
    refine (KA.out _ (HA.out _)).mono ?_
    rintro e w4 ⟨rfl, hb4⟩
    have HE4 := hide ((HA.out _).trans (hb4.mono (by simp)))
    clear hb4
    go_wp2_with fail
    go_ret
    exact ⟨rfl, HE4.out⟩
end Go.Proofs.YtfkgmodgkifelaaGreatDoor
