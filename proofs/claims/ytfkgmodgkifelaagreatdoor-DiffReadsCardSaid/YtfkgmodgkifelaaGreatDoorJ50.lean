/- The chapter's example: what is cloned. The chapter's example: a table of one column of whole numbers. The chapter's example: which rows differ. The chapter's example: the rows that differ. -/
import Derived.Test.YtfkgmodgkifelaaGreatDoorJ49
import Derived.Lib.SliceRun
import Derived.Laws.EntriesVeiled
import Derived.Deep.RegionHeldLaw
import Derived.Test.YtfkgmodgkifelaaGreatDoorJ24
import Derived.Lib.QuietBelow
namespace Go.Proofs.YtfkgmodgkifelaaGreatDoor
open Go.RowKit

theorem cellsM_len : ∀ l : List MC, (l.flatMap cellsM).length = l.length * 6 := by
  intro l
  induction l with
  | nil => rfl
  | cons a l ih => rw [List.flatMap_cons, List.length_append, ih, List.length_cons]; show 6 + _ = _; omega
theorem cellsK_len : ∀ l : List Col, (l.flatMap cellsK).length = l.length * 3 := by
  intro l
  induction l with
  | nil => rfl
  | cons a l ih => rw [List.flatMap_cons, List.length_append, ih, List.length_cons]; show 3 + _ = _; omega
theorem cellsM_one (l : List MC) : ∀ u ∈ l.flatMap cellsM, u.oneCell' = true := by
  intro u hu
  obtain ⟨c, _, h⟩ := List.mem_flatMap.1 hu
  unfold cellsM at h
  simp only [List.mem_cons, List.not_mem_nil, or_false] at h
  rcases h with rfl | rfl | rfl | rfl | rfl | rfl <;> rfl
theorem cellsK_one (l : List Col) : ∀ u ∈ l.flatMap cellsK, u.oneCell' = true := by
  intro u hu
  obtain ⟨c, _, h⟩ := List.mem_flatMap.1 hu
  unfold cellsK at h
  simp only [List.mem_cons, List.not_mem_nil, or_false] at h
  rcases h with rfl | rfl | rfl <;> rfl
set_option maxHeartbeats 4000000 in
set_option maxRecDepth 100000 in
theorem clone_cells (l : List MC) (hl : l.length ≤ 10000) (ad : Addr) (c : Nat) (w : World) (hnews : ∀ j u, (l.flatMap cellsM)[j]? = some u → w.cell? (ad.add j) = some u) :
    Calls Tryz.prog 105 #[.slice (some ad) l.length c] w fun e w' => (∃ A k, e = .returned (.slice A l.length k) ∧ InM w' (.slice A l.length k) l) ∧ Below w.heap.size w w' := by
  obtain ⟨i0, hi, hz0, hz1, hz2⟩ := info_parts info_cC
  have hb0 : ∀ o, Below w.heap.size w (w.alloc o) := fun o => (Below.refl _ _).alloc (Nat.le_refl _) _
  have HO := hide (World.ownsRow_made w #[] 0 (base := w.heap.size) (e := 45) (size := 6) (Nat.le_refl _) (Nat.zero_le _) rfl)
  have HNW := hide (fun o j u (h : (l.flatMap cellsM)[j]? = some u) => ((hb0 o).cell (p := ad.add j) (World.block_lt_of_cell? w _ (hnews j u h))).trans (hnews j u h))
  have HLM := hide (cellsM_len l)
  have HOM := hide (cellsM_one l)
  have HB := hide hb0
  have HLL := hide hl
  have hnil : ∀ w : World, (binOp .eql 25 (.slice (some ad) l.length c) (.slice none 0 0)).run Tryz.prog w = .ok (.bool false) w := fun w => Lib.run_eql_slice_nil w 25 _ (some ad) _ _ 0 0 Tryz.underlying25
  clear hnews hb0
  go_enter Tryz.func105, Tryz.ntmps105
  go_wp2_with (at_builtin; refine wpList_append_own_at _ rfl _ _ 25 rfl w.heap.size 45 i0 _ 6 56 Tryz.underlying25 hi hz0 hz1 hz2 rfl (by decide) _ 0 [] rfl HO.out ad l.length c (l.flatMap cellsM) rfl HLM.out (HNW.out _) HOM.out (by simp only [maxLen]; omega) (by omega) (by simp) ?_; intro v1 w2 hown1 hgrow1 _ hat1)
  have HV := hide (inM_own (l := l) (by rw [List.nil_append] at hown1; exact hown1) (Nat.zero_add _))
  obtain ⟨A, k, hv⟩ := HV.out.formL
  have HB2 := hide ((HB.out _).trans ((Fr.of_grown hgrow1).below (HB.out (.cells #[] 45)).size (fun q hq => (HO.out.lt q hq.symm).1)))
  subst hv
  clear hown1 hgrow1 hat1
  go_ret
  exact ⟨⟨A, k, rfl, HV.out⟩, HB2.out⟩
set_option maxHeartbeats 4000000 in
set_option maxRecDepth 100000 in
theorem clone_cols (l : List Col) (hl : l.length ≤ 10000) (ad : Addr) (c : Nat) (w : World) (hnews : ∀ j u, (l.flatMap cellsK)[j]? = some u → w.cell? (ad.add j) = some u) :
    Calls Tryz.prog 65 #[.slice (some ad) l.length c] w fun e w' => (∃ A k, e = .returned (.slice A l.length k) ∧ InK w' (.slice A l.length k) l) ∧ Below w.heap.size w w' := by
  obtain ⟨i0, hi, hz0, hz1, hz2⟩ := info_parts info_cK
  have hb0 : ∀ o, Below w.heap.size w (w.alloc o) := fun o => (Below.refl _ _).alloc (Nat.le_refl _) _
  have HO := hide (World.ownsRow_made w #[] 0 (base := w.heap.size) (e := 23) (size := 3) (Nat.le_refl _) (Nat.zero_le _) rfl)
  have HNW := hide (fun o j u (h : (l.flatMap cellsK)[j]? = some u) => ((hb0 o).cell (p := ad.add j) (World.block_lt_of_cell? w _ (hnews j u h))).trans (hnews j u h))
  have HLM := hide (cellsK_len l)
  have HOM := hide (cellsK_one l)
  have HB := hide hb0
  have HLL := hide hl
  have hnil : ∀ w : World, (binOp .eql 31 (.slice (some ad) l.length c) (.slice none 0 0)).run Tryz.prog w = .ok (.bool false) w := fun w => Lib.run_eql_slice_nil w 31 _ (some ad) _ _ 0 0 Tryz.underlying31
  clear hnews hb0
  go_enter Tryz.func65, Tryz.ntmps65
  go_wp2_with (at_builtin; refine wpList_append_own_at _ rfl _ _ 31 rfl w.heap.size 23 i0 _ 3 32 Tryz.underlying31 hi hz0 hz1 hz2 rfl (by decide) _ 0 [] rfl HO.out ad l.length c (l.flatMap cellsK) rfl HLM.out (HNW.out _) HOM.out (by simp only [maxLen]; omega) (by omega) (by simp) ?_; intro v1 w2 hown1 hgrow1 _ hat1)
  have HV := hide (inK_own (l := l) (by rw [List.nil_append] at hown1; exact hown1) (Nat.zero_add _))
  obtain ⟨A, k, hv⟩ := HV.out.form
  have HB2 := hide ((HB.out _).trans ((Fr.of_grown hgrow1).below (HB.out (.cells #[] 23)).size (fun q hq => (HO.out.lt q hq.symm).1)))
  subst hv
  clear hown1 hgrow1 hat1
  go_ret
  exact ⟨⟨A, k, rfl, HV.out⟩, HB2.out⟩
end Go.Proofs.YtfkgmodgkifelaaGreatDoor
namespace Go.Proofs.YtfkgmodgkifelaaGreatDoor
open Go.RowKit

def ic (x : Int) : MC := (false, ⟨false, x, 0, ByteArray.empty, 0, 0⟩)
/-- A slice of whole numbers, in its block from the beginning. -/
structure InI (w : World) (g : Nat) (xs : List Int) : Prop where
  lt : g < w.heap.size
  at_ : ∀ (i : Nat) x, xs[i]? = some x → w.cell? ⟨g, i, none⟩ = some (.int .i64 x)
theorem info_t2 : (Tryz.prog.info? 60).map (·.size) = some 2 := by kernel_rfl
theorem blk_q4 (w : World) (a b c : Obj) (cs : Array Value) (t : TypeId) : Blk ((((w.alloc a).alloc b).alloc c).alloc (.cells cs t)) (w.heap.size + 1 + 1 + 1) t cs := by
  have := Blk.new (((w.alloc a).alloc b).alloc c) cs t
  rwa [show (((w.alloc a).alloc b).alloc c).heap.size = w.heap.size + 1 + 1 + 1 by simp] at this
theorem one_rel {h i g cap ca : Nat} {A : Option Addr} {wr w1 w2 : World} {o : Obj} {R : List Value} (HZ : Blk wr h 60 #[.slice none 0 0, .slice none 0 0]) (HV : Blk wr (h + 1 + 1) 25 #[.slice A i ca]) (HTB : Blk wr (h + 1 + 1 + 1) 60 #[.slice (some ⟨h + 1, 0, none⟩) 1 1, .slice (some ⟨h + 1 + 1, 0, none⟩) 1 1])
    (HBE : Below (h + 1 + 1) w1 wr) (hlt : ∀ k, (Value.slice A i ca).ownBlock = some k → h + 1 + 1 + 1 + 1 ≤ k)
    (hown : w2.ownsRow (h + 1 + 1 + 1 + 1) 45 6 (.slice (some ⟨g, 0, none⟩) (i + 1) cap) (i + 1) R)
    (hgrow : (wr.alloc o).drew.grownBy w2 (Value.slice A i ca).ownBlock) :
    Hid (∃ V, Blk (w2.setCell ⟨h + 1 + 1, 0, none⟩ (.slice (some ⟨g, 0, none⟩) (i + 1) cap)) h 60 #[.slice none 0 0, .slice none 0 0] ∧ Blk (w2.setCell ⟨h + 1 + 1, 0, none⟩ (.slice (some ⟨g, 0, none⟩) (i + 1) cap)) (h + 1 + 1) 25 #[V] ∧ Blk (w2.setCell ⟨h + 1 + 1, 0, none⟩ (.slice (some ⟨g, 0, none⟩) (i + 1) cap)) (h + 1 + 1 + 1) 60 #[.slice (some ⟨h + 1, 0, none⟩) 1 1, .slice (some ⟨h + 1 + 1, 0, none⟩) 1 1]
      ∧ (w2.setCell ⟨h + 1 + 1, 0, none⟩ (.slice (some ⟨g, 0, none⟩) (i + 1) cap)).ownsRow (h + 1 + 1 + 1 + 1) 45 6 V (i + 1) R ∧ Below (h + 1 + 1) w1 (w2.setCell ⟨h + 1 + 1, 0, none⟩ (.slice (some ⟨g, 0, none⟩) (i + 1) cap))) := by
  have hz := ((HZ.alloc o).drew).fr (Fr.of_grown hgrow) (fun hk => by have := hlt _ hk.symm; omega)
  have h1 := ((HV.alloc o).drew).fr (Fr.of_grown hgrow) (fun hk => by have := hlt _ hk.symm; omega)
  have h2 := ((HTB.alloc o).drew).fr (Fr.of_grown hgrow) (fun hk => by have := hlt _ hk.symm; omega)
  have hg := (hown.lt g rfl).1
  have h3 := (HBE.alloc (by have := HV.lt; omega) o).drew.grown hgrow (by have := HV.lt; simp; omega) (fun k hk => by have := hlt k hk; omega)
  refine ⟨.slice (some ⟨g, 0, none⟩) (i + 1) cap, hz.other (by simp; omega) _, h1.set 0 _, h2.other (by simp) _, ?_, h3.setCell (Nat.le_refl _) _⟩
  exact own_fr hown (Fr.setCell w2 _ _) (fun k hk hb => by
    simp [Value.ownBlock] at hk
    simp at hb
    omega)
theorem own_capG {w : World} {B n c sz : Nat} {A : Option Addr} {e : TypeId} {xs : List Value} (h : w.ownsRow B e sz (.slice A n c) n xs) : n ≤ c := by
  rcases Nat.eq_zero_or_pos n with h0 | h0
  · omega
  · obtain ⟨g, c', hv⟩ := own_addr h h0
    injection hv with h1 _ h3
    subst h1
    exact own_capC h
theorem st2_blk {w : World} {L : Nat} {t : TypeId} {b0 b1 : Value} (h : Blk w L t #[b0, b1]) (a0 a1 : Value) : Blk ((w.setCell ⟨L, 0, none⟩ a0).setCell ⟨L, 1, none⟩ a1) L t #[a0, a1] := (h.set 0 a0).set 1 a1
set_option maxHeartbeats 40000000 in
set_option maxRecDepth 100000 in
theorem one_any (xs : List Int) (hn : xs.length ≤ 100) (g0 c0 : Nat) (w : World) (hv : InI w g0 xs) :
    Calls Tryz.prog 24 #[.slice (some ⟨g0, 0, none⟩) xs.length c0] w fun e w' => (∃ gc gs A k, e = .returned (.agg #[.slice (some ⟨gc, 0, none⟩) 1 1, .slice (some ⟨gs, 0, none⟩) 1 1]) ∧ Blk w' gc 23 #[.string ⟨#[97]⟩, .int .i64 2, .bool false] ∧ Blk w' gs 25 #[.slice A xs.length k] ∧ InM w' (.slice A xs.length k) (xs.map ic) ∧ xs.length ≤ k) ∧ Below w.heap.size w w' := by
  obtain ⟨i0, hi, hz0, hz1, hz2⟩ := info_parts info_cC
  obtain ⟨w1, hw1⟩ : ∃ w1, (((w.alloc (.cells #[.slice none 0 0, .slice none 0 0] 60)).alloc (.cells #[.string ⟨#[97]⟩, .int .i64 2, .bool false] 23)).alloc (.cells #[.slice none 0 0] 25)).alloc (.cells #[.slice (some ⟨w.heap.size + 1, 0, none⟩) 1 1, .slice (some ⟨w.heap.size + 1 + 1, 0, none⟩) 1 1] 60) = w1 := ⟨_, rfl⟩
  have hb1 : Below w.heap.size w w1 := by rw [← hw1]; exact ((((Below.refl w.heap.size w).alloc (Nat.le_refl _) _).alloc (by simp) _).alloc (by simp; omega) _).alloc (by simp; omega) _
  have kz : Blk w1 w.heap.size 60 #[.slice none 0 0, .slice none 0 0] := by rw [← hw1]; exact (((Blk.new _ _ _).alloc _).alloc _).alloc _
  have k1 : Blk w1 (w.heap.size + 1) 23 #[.string ⟨#[97]⟩, .int .i64 2, .bool false] := by rw [← hw1]; exact ((blk_n2 _ _ _ _).alloc _).alloc _
  have k2 : Blk w1 (w.heap.size + 1 + 1) 25 #[.slice none 0 0] := by rw [← hw1]; exact (blk_n3 _ _ _ _ _).alloc _
  have k3 : Blk w1 (w.heap.size + 1 + 1 + 1) 60 #[.slice (some ⟨w.heap.size + 1, 0, none⟩) 1 1, .slice (some ⟨w.heap.size + 1 + 1, 0, none⟩) 1 1] := by rw [← hw1]; exact blk_q4 _ _ _ _ _ _
  have hz4 : w.heap.size + 1 + 1 + 1 + 1 ≤ w1.heap.size := k3.lt
  have HW1 := hide hw1
  have HB1 := hide hb1
  have KZ := hide kz
  have K1 := hide k1
  have K2 := hide k2
  have K3 := hide k3
  have HIN := hide hv.at_
  have hg0 := hv.lt
  clear hw1 hb1 kz k1 k2 k3 hv
  generalize hnn : xs.length = n at *
  have HN := hide hnn
  clear hnn
  go_enter Tryz.func24, Tryz.ntmps24
  go_wp2_with fail
  rw [HW1.out]
  go_loopw [4] (fun iv wr => ∃ (i : Nat), i ≤ n ∧ iv = .int .i64 (i : Int) ∧ Hid (∃ V, Blk wr w.heap.size 60 #[.slice none 0 0, .slice none 0 0] ∧ Blk wr (w.heap.size + 1 + 1) 25 #[V] ∧ Blk wr (w.heap.size + 1 + 1 + 1) 60 #[.slice (some ⟨w.heap.size + 1, 0, none⟩) 1 1, .slice (some ⟨w.heap.size + 1 + 1, 0, none⟩) 1 1]
      ∧ wr.ownsRow (w.heap.size + 1 + 1 + 1 + 1) 45 6 V i (((xs.take i).map ic).flatMap cellsM) ∧ Below (w.heap.size + 1 + 1) w1 wr)) (fun iv _ => n - (intOf iv).toNat)
  case atStart => exact ⟨0, by omega, rfl, .slice none 0 0, KZ.out, K2.out, K3.out, World.ownsRow_nil _ _ _ _, Below.refl _ _⟩
  case round =>
    obtain ⟨i, hin, rfl, hrel⟩ := hrel
    obtain ⟨V, hZ, hV, hTab, hown, hbe⟩ := hrel.out
    obtain ⟨A, ca, rfl⟩ := own_form3 hown
    have hi0 : (0 : Int) ≤ (i : Int) := by omega
    have hi1 : (i : Int) ≤ (n : Int) := by omega
    by_cases hlt : i < n
    · have hi2 : (i : Int) < (n : Int) := by omega
      obtain ⟨x, hx⟩ : ∃ x, xs[i]? = some x := ⟨xs[i]'(by rw [HN.out]; exact hlt), List.getElem?_eq_getElem _⟩
      have e0 : wr.cell? ⟨g0, i, none⟩ = some (.int .i64 x) := (hbe.cell (p := ⟨g0, i, none⟩) (by show g0 < _; omega)).trans ((HB1.out.cell (p := ⟨g0, i, none⟩) hg0).trans (HIN.out i x hx))
      have HTK := hide (show ((xs.take (i + 1)).map ic).flatMap cellsM = ((xs.take i).map ic).flatMap cellsM ++ [.bool false, .bool false, .int .i64 x, .int .u64 0, .string ByteArray.empty, .complex .f64 0 0] by rw [take_at hx]; simp [ic, cellsM])
      have HZZ := hide hZ
      have HV := hide hV
      have HTB := hide hTab
      have HOW := hide hown
      have HBE := hide hbe
      have t1 := hTab.cell 1
      have v0 := hV.cell 0
      have f0 := hV.frozen 0
      simp at t1 v0
      have hsz : w.heap.size + 1 + 1 + 1 + 1 ≤ wr.heap.size := hTab.lt
      have hne2 := hide (show some (w.heap.size + 1 + 1) ≠ (Value.slice A i ca).ownBlock from fun h => by have := (HOW.out.lt _ h.symm).1; omega)
      have hne3 := hide (show some (w.heap.size + 1 + 1 + 1) ≠ (Value.slice A i ca).ownBlock from fun h => by have := (HOW.out.lt _ h.symm).1; omega)
      have HOA := hide (fun o => (HOW.out.alloc o).drew)
      have NB := hide (fun cs t => ((Blk.new wr cs t).drew).out)
      have t2 := fun o : Obj => ((HTB.out.alloc o).drew).cell 1
      have v2 := fun o : Obj => ((HV.out.alloc o).drew).cell 0
      have f2 := fun o : Obj => ((HV.out.alloc o).drew).frozen 0
      have HLT := hide hlt
      clear hrel hZ hV hTab hown hbe hx hlt
      go_wp2_with fail
      go_region_law ((refine step_append_lies _ rfl (.tmp 20) (.tmp 26) 25 rfl (w.heap.size + 1 + 1 + 1 + 1) 45 i0 clZ 6 56 Tryz.underlying25 hi hz0 hz1 hz2 rfl (by decide) _ i (((xs.take i).map ic).flatMap cellsM) rfl (HOA.out _) ⟨wr.heap.size, 0, none⟩ 1 1 [.bool false, .bool false, .int .i64 x, .int .u64 0, .string ByteArray.empty, .complex .f64 0 0] rfl rfl (World.news_of_block (NB.out _ _)) (by simp [Value.oneCell']) (by omega) (by unfold maxLen; omega) (by omega) (by simp; omega) _ rfl ?_; intro g cap w2 hown2 hgrow2 hat2 hlt2; have hS2 := (hgrow2.cell_far ⟨w.heap.size + 1 + 1 + 1, 1, none⟩ (by simp; omega) hne3.out).trans (t2 _); have hv2 := (hgrow2.cell_far ⟨w.heap.size + 1 + 1, 0, none⟩ (by simp; omega) hne2.out).trans (v2 _); have hf2 := (hgrow2.frozen_far ⟨w.heap.size + 1 + 1, 0, none⟩ (by simp; omega) hne2.out).trans (f2 _)))
      all_goals
        have hrel' := one_rel HZZ.out HV.out HTB.out HBE.out (fun k hk => (HOW.out.lt k hk).1) hown2 hgrow2
        clear hS2 hv2 hf2 hown2 hgrow2 hat2 hlt2
        go_wp2_with fail
        go_roundw
        case rel => exact ⟨i + 1, by have := HLT.out; omega, by go_num, by rw [HTK.out]; exact hrel'⟩
        case measure => have := HLT.out; simp [intOf]; omega
    · obtain rfl : n = i := by omega
      have hfull : xs.take n = xs := by rw [← HN.out]; exact List.take_length
      have ho := hown
      rw [hfull] at ho
      have hm := inM_own (l := xs.map ic) ho (by rw [List.length_map, HN.out])
      have hcap : n ≤ ca := own_capG ho
      have f := (Fr.setCell wr ⟨w.heap.size, 0, none⟩ (.slice (some ⟨w.heap.size + 1, 0, none⟩) 1 1)).trans (Fr.setCell (wr.setCell ⟨w.heap.size, 0, none⟩ (.slice (some ⟨w.heap.size + 1, 0, none⟩) 1 1)) ⟨w.heap.size, 1, none⟩ (.slice (some ⟨w.heap.size + 1 + 1, 0, none⟩) 1 1)) (P := fun k => k = w.heap.size) (fun _ _ h => h)
      have HZ2 := hide (st2_blk hZ (.slice (some ⟨w.heap.size + 1, 0, none⟩) 1 1) (.slice (some ⟨w.heap.size + 1 + 1, 0, none⟩) 1 1))
      have hzc := hZ.cell 0
      simp at hzc
      have HM2 := hide (hm.frq f (fun q hq => .inl (fun b => by obtain rfl : q = w.heap.size := hq; rw [hzc]; simp)))
      have HV2 := hide (Blk.fr hV f (by show w.heap.size + 1 + 1 ≠ w.heap.size; omega))
      have HC2 := hide (Blk.fr (K1.out.below hbe (by omega)) f (by show w.heap.size + 1 ≠ w.heap.size; omega))
      have HB2 := hide ((HB1.out.trans (hbe.mono (by omega))).trans (f.below (by have := hZ.lt; omega) (fun q hq => by obtain rfl : q = w.heap.size := hq; exact Nat.le_refl _)))
      have t0 := hTab.cell 0
      have t1 := hTab.cell 1
      have z0 := hZ.cell 0
      have z1 := hZ.cell 1
      have z2 := hZ.frozen 0
      have z3 := hZ.frozen 1
      simp at t0 t1 z0 z1
      clear hrel hZ hV hTab hown hbe hlt hi0 hi1 hin ho hm f hfull hzc
      go_wp2_with fail
      refine bodyPost_ret (results_cell_row rfl _ _ w.heap.size 60 #[.slice (some ⟨w.heap.size + 1, 0, none⟩) 1 1, .slice (some ⟨w.heap.size + 1 + 1, 0, none⟩) 1 1] (0, 0) _ rfl HZ2.out Tryz.underlying60 rfl info_t2) rfl ?_
      exact ⟨⟨_, _, _, _, rfl, HC2.out, HV2.out, HM2.out, hcap⟩, HB2.out⟩
end Go.Proofs.YtfkgmodgkifelaaGreatDoor
namespace Go.Proofs.YtfkgmodgkifelaaGreatDoor
open Go.RowKit

set_option maxHeartbeats 4000000 in
set_option maxRecDepth 100000 in
/-- Two columns' cells, compared at a row. -/
theorem differs_any (k : Int) (h1 : 1 ≤ k) (h6 : k ≤ 6) (A B : Value) (la lb : List MC) (i : Nat) (a b : CD) (ha : la[i]? = some (false, a)) (hb : lb[i]? = some (false, b)) (w : World) (hA : InM w A la) (hB : InM w B lb) :
    Calls Tryz.prog 107 #[.agg #[.int .i64 k, A, B], .int .i64 (i : Nat)] w fun e w' => e = .returned (.bool (!ceq k a b)) ∧ Below w.heap.size w w' := by
  obtain ⟨A1, c1, rfl, hA'⟩ := hA
  obtain ⟨A2, c2, rfl, hB'⟩ := hB
  obtain ⟨g1, rfl, hg1, hat1⟩ := hA' i _ ha
  obtain ⟨g2, rfl, hg2, hat2⟩ := hB' i _ hb
  obtain ⟨W1, hW1⟩ : ∃ W1, w.alloc (.cells #[.int .i64 k, .slice (some ⟨g1, 0, none⟩) la.length c1, .slice (some ⟨g2, 0, none⟩) lb.length c2] 160) = W1 := ⟨_, rfl⟩
  have hb1 : Below w.heap.size w W1 := by rw [← hW1]; exact (Below.refl _ _).alloc (Nat.le_refl _) _
  have bk : Blk W1 w.heap.size 160 #[.int .i64 k, .slice (some ⟨g1, 0, none⟩) la.length c1, .slice (some ⟨g2, 0, none⟩) lb.length c2] := by rw [← hW1]; exact Blk.new _ _ _
  obtain ⟨e0, e1, e2, e3, e4, e5⟩ := hat1.below hb1 hg1
  obtain ⟨f0, f1, f2, f3, f4, f5⟩ := hat2.below hb1 hg2
  have hl1 := (List.getElem?_eq_some_iff.1 ha).1
  have hl2 := (List.getElem?_eq_some_iff.1 hb).1
  have hj1 : (i : Int) < (la.length : Int) := by omega
  have hj2 : (i : Int) < (lb.length : Int) := by omega
  have hj0 : (0 : Int) ≤ (i : Int) := by omega
  have q0 := cell_regrown ((bk.cell 0).trans rfl)
  have q1 := cell_regrown ((bk.cell 1).trans rfl)
  have q2 := cell_regrown ((bk.cell 2).trans rfl)
  have r0 := cell_regrown e0
  have r1 := cell_regrown e1
  have r2 := cell_regrown e2
  have r3 := cell_regrown e3
  have r4 := cell_regrown e4
  have r5 := cell_regrown e5
  have s0 := cell_regrown f0
  have s1 := cell_regrown f1
  have s2 := cell_regrown f2
  have s3 := cell_regrown f3
  have s4 := cell_regrown f4
  have s5 := cell_regrown f5
  have KQ := hide (fun d os => Calls.regrown_of (d := d) (os := os) (sequal_any k h1 h6 a b (Sort.grow (redrawn W1 d) os)))
  obtain ⟨r, hr⟩ : ∃ r, ceq k a b = r := ⟨_, rfl⟩
  rw [hr] at KQ ⊢
  obtain ⟨ab, ax, au, at', ap, aq⟩ := a
  obtain ⟨bb, bx, bu, bt, bp, bq⟩ := b
  unfold CD.v clV clA at KQ
  simp only at KQ r0 r1 r2 r3 r4 r5 s0 s1 s2 s3 s4 s5
  have HW := hide hW1
  have HB1 := hide hb1
  generalize la.length = na at *
  generalize lb.length = nb at *
  clear hat1 hat2 hA' hB' ha hb hW1 hb1 bk e0 e1 e2 e3 e4 e5 f0 f1 f2 f3 f4 f5 hr h1 h6
  go_enter Tryz.func107, Tryz.ntmps107
  go_wp2_with fail
  rw [HW.out]
  go_wp2_with fail
  refine wp_region_quiet_below (by kernel_rfl) (by kernel_rfl) ?_
  repeat (go_big_quiet_step (exact KQ.out _ _))
  refine wpQuiet_nil ?_
  intro _ hw'
  obtain ⟨⟨dq, osq⟩, hw''⟩ := hw'
  subst hw''
  have hb6 := below_regrown W1 dq osq
  generalize Sort.grow (redrawn W1 dq) osq = w7 at *
  have HB7 := hide (HB1.out.trans (hb6.mono HB1.out.size))
  clear q0 q1 q2 r0 r1 r2 r3 r4 r5 s0 s1 s2 s3 s4 s5 KQ hb6
  go_wp2_with fail
  go_ret
  exact ⟨rfl, HB7.out⟩
end Go.Proofs.YtfkgmodgkifelaaGreatDoor
namespace Go.Proofs.YtfkgmodgkifelaaGreatDoor
open Go.RowKit

set_option maxRecDepth 100000 in
theorem en_df : ∀ args w, (callFunc 107 args).run Tryz.prog w = .ok (.enter 107 args) w := enters_of Tryz.func107 (by kernel_rfl) rfl
def wR (i : Nat) : List Value := if i < 2 then [] else [.int .i64 1]
def wN (i : Nat) : Nat := if i < 2 then 0 else 1
set_option maxHeartbeats 4000000 in
set_option maxRecDepth 100000 in
theorem where_ex (A B : Value) (w : World) (hA : InM w A [ic 1, ic 2]) (hB : InM w B [ic 1, ic 5, ic 7]) :
    Calls Tryz.prog 106 #[.int .i64 2, .func (.func 107) #[.agg #[.int .i64 2, A, B]] #[]] w fun e w' => (∃ g k, e = .returned (.slice (some ⟨g, 0, none⟩) 1 k) ∧ InI w' g [1]) ∧ Below w.heap.size w w' := by
  obtain ⟨i0, hii, hz0, hz1, hz2⟩ := info_parts info_int
  have KD0 := hide (fun w' (h : Below w.heap.size w w') => differs_any 2 (by decide) (by decide) A B [ic 1, ic 2] [ic 1, ic 5, ic 7] 0 _ _ rfl rfl w' (hA.below h) (hB.below h))
  have KD1 := hide (fun w' (h : Below w.heap.size w w') => differs_any 2 (by decide) (by decide) A B [ic 1, ic 2] [ic 1, ic 5, ic 7] 1 _ _ rfl rfl w' (hA.below h) (hB.below h))
  rw [show (!ceq 2 (⟨false, 1, 0, ByteArray.empty, 0, 0⟩ : CD) ⟨false, 1, 0, ByteArray.empty, 0, 0⟩) = false from rfl] at KD0
  rw [show (!ceq 2 (⟨false, 2, 0, ByteArray.empty, 0, 0⟩ : CD) ⟨false, 5, 0, ByteArray.empty, 0, 0⟩) = true from rfl] at KD1
  obtain ⟨A1, n1, c1, rfl⟩ := hA.form
  obtain ⟨A2, n2, c2, rfl⟩ := hB.form
  have hen := en_df
  clear hA hB
  go_enter Tryz.func106, Tryz.ntmps106
  go_wp2_with fail
  go_loopw [5, 8] (fun ov iv wr => ∃ i : Nat, i ≤ 2 ∧ iv = .int .i64 (i : Int) ∧ Hid (wr.ownsRow w.heap.size 3 1 ov (wN i) (wR i)) ∧ Hid (Below w.heap.size w wr)) (fun _ iv _ => 2 - (intOf iv).toNat)
  case atStart => exact ⟨0, by omega, rfl, World.ownsRow_nil _ _ _ _, Below.refl _ _⟩
  case round =>
    obtain ⟨i, hin, rfl, how, hb⟩ := hrel
    obtain ⟨OA, oc, rfl⟩ := own_form3 how.out
    have hi : i = 0 ∨ i = 1 ∨ i = 2 := by omega
    rcases hi with rfl | rfl | rfl
    · have K := hide (KD0.out _ hb.out)
      have HOW := hide how.out
      have HB := hide hb.out
      clear how hb
      go_wp2_with fail
      refine K.out.mono ?_
      rintro e w2 ⟨rfl, hb2⟩
      have HO2 := hide (own_below HOW.out hb2)
      have HB2 := hide (HB.out.trans (hb2.mono HB.out.size))
      clear hb2 K
      go_wp2_with fail
      go_roundw
      case rel => exact ⟨1, by omega, by go_num, HO2, HB2⟩
      case measure => simp [intOf]
    · have K := hide (KD1.out _ hb.out)
      have HOW := hide how.out
      have HB := hide hb.out
      clear how hb
      go_wp2_with fail
      refine K.out.mono ?_
      rintro e w2 ⟨rfl, hb2⟩
      have HB2 := hide (HB.out.trans (hb2.mono HB.out.size))
      have HO2 := hide (own_below HOW.out hb2)
      have HOA := hide (fun o => HO2.out.alloc o)
      have NB := hide (fun cs t => (Blk.new w2 cs t).out)
      have hsz : w.heap.size ≤ w2.heap.size := HB2.out.size
      clear hb2 K
      go_wp2_with (at_builtin; refine wpList_append_own_at _ rfl _ _ 161 rfl w.heap.size 3 i0 _ 1 8 Tryz.underlying161 hii hz0 hz1 hz2 rfl (by decide) _ (wN 1) (wR 1) rfl (HOA.out _) ⟨w2.heap.size, 0, none⟩ 1 1 [.int .i64 1] rfl rfl (World.news_of_block (NB.out _ _)) (by simp [Value.oneCell']) (by decide) (by decide) (by simp; omega) ?_; intro v1 w6 hown1 hgrow1 _ hat1)
      have HW6 := hide hown1
      have HB6 := hide ((HB2.out.alloc HB2.out.size _).trans ((Fr.of_grown hgrow1).below (by simp; omega) (fun q hq => (HO2.out.lt q hq.symm).1)))
      clear hown1 hgrow1 hat1
      go_roundw
      case rel => exact ⟨2, by omega, by go_num, HW6, HB6⟩
      case measure => simp [intOf]
    · have ho := how.out
      obtain ⟨g, c, hv⟩ := own_addr ho (by decide)
      have hii' : InI wr g [1] := by
        rw [hv] at ho
        refine ⟨(ho.lt g rfl).2, fun j x hx => ?_⟩
        cases j with
        | zero =>
          obtain rfl : (1 : Int) = x := by simpa using hx
          exact ho.cellAt 0 (by decide)
        | succ j => simp at hx
      have HI := hide hii'
      injection hv with hv1 hv2 hv3
      subst hv1
      have HB := hide hb.out
      clear ho how hb hii'
      go_wp2_with fail
      go_ret
      exact ⟨⟨g, ⟨_, rfl⟩, HI.out⟩, HB.out⟩
end Go.Proofs.YtfkgmodgkifelaaGreatDoor
