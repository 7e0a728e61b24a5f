/- The chapter's example: diff.Diff. The chapter's example holds; and so the statement. -/
import Derived.Test.YtfkgmodgkifelaaGreatDoorJ51
import Derived.Deep.RegionHeld3
import Derived.Deep.CutBlock
namespace Go.Proofs.YtfkgmodgkifelaaGreatDoor
open Go.RowKit

/-- How the example's Diff ends. -/
def DfPost (w : World) (e : Ending) (w' : World) : Prop :=
  (∃ A1 n1 k1 A2 n2 k2 AP kP, e = .returned (.tuple #[.agg #[.slice A1 n1 k1, .int .i64 2, .slice A2 n2 k2, .int .i64 3, .slice AP 1 kP], .int .i64 0]) ∧ InP w' (.slice AP 1 kP) [(true, [(1, ic 5)], [ic 7])]) ∧ Below w.heap.size w w'
theorem ic_ok (x : Int) (h1 : -9223372036854775808 ≤ x) (h2 : x ≤ 9223372036854775807) : okM false 2 (ic x) := by
  unfold okM ic
  rw [if_neg (by simp)]
  exact ⟨kg_mk0 _ _ _ _ h1 h2 (by omega) (by omega) e_sz, e_sz6, fun _ => rfl, fun h => absurd rfl h, fun _ => rfl, fun _ => rfl, fun h => by omega, fun _ => rfl, fun _ => rfl⟩
theorem colE_a : colE ⟨#[97]⟩ 2 = 0 := by kernel_rfl
theorem blk_n5 (w : World) (a b c d : Obj) (cs : Array Value) (t : TypeId) : Blk (((((w.alloc a).alloc b).alloc c).alloc d).alloc (.cells cs t)) (w.heap.size + 1 + 1 + 1 + 1) t cs := by
  have := Blk.new ((((w.alloc a).alloc b).alloc c).alloc d) cs t
  rwa [show ((((w.alloc a).alloc b).alloc c).alloc d).heap.size = w.heap.size + 1 + 1 + 1 + 1 by simp] at this
theorem df_seal {h p9 zb gg cap n1 k1 n2 k2 n3 k3 n4 k4 : Nat} {A1 A2 A3 A4 : Option Addr} {w5 w6 : World} {o : Obj} {es : List Ed} {ms : List MC} (hz : Blk w5 zb 34 #[.slice none 0 0, .int .i64 0, .slice none 0 0, .int .i64 0, .slice none 0 0]) (hp : Blk w5 p9 34 #[.slice A1 n1 k1, .int .i64 2, .slice A2 n2 k2, .int .i64 3, .slice none 0 0]) (hne : zb ≠ p9) (hh : h ≤ zb) (hhp : h ≤ p9) (hhw : h ≤ w5.heap.size)
    (he : InE w5 (.slice A3 n3 k3) es) (hm : InM w5 (.slice A4 n4 k4) ms) (hown : w6.ownsRow h 65 3 (.slice (some ⟨gg, 0, none⟩) (0 + 1) cap) (0 + 1) ([] ++ [.bool true, .slice A3 n3 k3, .slice A4 n4 k4])) (hg : (w5.alloc o).grownBy w6 (Value.slice none 0 0).ownBlock) :
    Blk (w6.setCell ⟨p9, 4, none⟩ (.slice (some ⟨gg, 0, none⟩) 1 cap)) p9 34 #[.slice A1 n1 k1, .int .i64 2, .slice A2 n2 k2, .int .i64 3, .slice (some ⟨gg, 0, none⟩) 1 cap] ∧
    Blk (w6.setCell ⟨p9, 4, none⟩ (.slice (some ⟨gg, 0, none⟩) 1 cap)) zb 34 #[.slice none 0 0, .int .i64 0, .slice none 0 0, .int .i64 0, .slice none 0 0] ∧
    Blk (st5 (w6.setCell ⟨p9, 4, none⟩ (.slice (some ⟨gg, 0, none⟩) 1 cap)) zb (.slice A1 n1 k1) (.int .i64 2) (.slice A2 n2 k2) (.int .i64 3) (.slice (some ⟨gg, 0, none⟩) 1 cap)) zb 34 #[.slice A1 n1 k1, .int .i64 2, .slice A2 n2 k2, .int .i64 3, .slice (some ⟨gg, 0, none⟩) 1 cap] ∧
    InP (st5 (w6.setCell ⟨p9, 4, none⟩ (.slice (some ⟨gg, 0, none⟩) 1 cap)) zb (.slice A1 n1 k1) (.int .i64 2) (.slice A2 n2 k2) (.int .i64 3) (.slice (some ⟨gg, 0, none⟩) 1 cap)) (.slice (some ⟨gg, 0, none⟩) 1 cap) [(true, es, ms)] ∧
    Below h w5 (st5 (w6.setCell ⟨p9, 4, none⟩ (.slice (some ⟨gg, 0, none⟩) 1 cap)) zb (.slice A1 n1 k1) (.int .i64 2) (.slice A2 n2 k2) (.int .i64 3) (.slice (some ⟨gg, 0, none⟩) 1 cap)) := by
  have f0 := ((Below.refl w5.heap.size w5).alloc (Nat.le_refl _) o).trans ((Fr.of_grown hg).below (by simp) (fun k hk => by simp [Value.ownBlock] at hk))
  have p6 := hp.below f0 hp.lt
  have z6 := hz.below f0 hz.lt
  have m6 := hm.below f0
  have e6 := he.below f0
  have f1 := Fr.setCell w6 ⟨p9, 4, none⟩ (.slice (some ⟨gg, 0, none⟩) 1 cap)
  have z7 := Blk.fr z6 f1 (by exact hne)
  have f2 := st5_fr (w6.setCell ⟨p9, 4, none⟩ (.slice (some ⟨gg, 0, none⟩) 1 cap)) zb (.slice A1 n1 k1) (.int .i64 2) (.slice A2 n2 k2) (.int .i64 3) (.slice (some ⟨gg, 0, none⟩) 1 cap)
  have hb1 := (f0.mono hhw).trans (f1.below (Nat.le_trans hhw f0.size) (fun k hk => by obtain rfl : k = p9 := hk; exact hhp))
  obtain ⟨_, a2, a3⟩ := slice_ne_str p6
  obtain ⟨_, c2, c3⟩ := slice_ne_str z7
  refine ⟨p6.set 4 _, z7, st5_blk z7 _ _ _ _ _, ?_, hb1.trans (f2.below (Nat.le_trans hhw hb1.size) (fun k hk => by obtain rfl : k = zb := hk; exact hh))⟩
  have o7 := own_fr hown f1 (fun k hk he => own_ne_blk hown p6 (by decide) (by rw [hk, show k = p9 from he]))
  have o8 := own_fr o7 f2 (fun k hk he => own_ne_blk o7 z7 (by decide) (by rw [hk, show k = zb from he]))
  exact inP_own (ts := [((true, es, ms), .slice A3 n3 k3, .slice A4 n4 k4)]) o8 rfl (fun t ht => by
    rw [List.mem_singleton] at ht
    subst ht
    exact ⟨(e6.frq f1 (fun g hg x => by obtain rfl : g = p9 := hg; exact a2 x)).frq f2 (fun g hg x => by obtain rfl : g = zb := hg; exact c2 x), (m6.frq f1 (fun g hg => .inl (fun x => by obtain rfl : g = p9 := hg; exact a3 x))).frq f2 (fun g hg => .inl (fun x => by obtain rfl : g = zb := hg; exact c3 x))⟩)
/-- One of the example's two tables. -/
structure ExT (w : World) (gc gs : Nat) (A : Option Addr) (n k : Nat) (l : List MC) : Prop where
  c : Blk w gc 23 #[.string ⟨#[97]⟩, .int .i64 2, .bool false]
  s : Blk w gs 25 #[.slice A n k]
  v : InM w (.slice A n k) l
theorem ExT.below {w w' : World} {gc gs : Nat} {A : Option Addr} {n k : Nat} {l : List MC} (h : ExT w gc gs A n k l) (hb : Below w.heap.size w w') : ExT w' gc gs A n k l := ⟨h.c.below hb h.c.lt, h.s.below hb h.s.lt, h.v.below hb⟩
theorem ExT.news {w : World} {gc gs : Nat} {A : Option Addr} {n k : Nat} {l : List MC} (h : ExT w gc gs A n k l) : ∀ j u, (([((⟨#[97]⟩ : ByteArray), (2 : Int), false)] : List Col).flatMap cellsK)[j]? = some u → w.cell? (Addr.add ⟨gc, 0, none⟩ j) = some u := by
  intro j u hu
  have hj : j < 3 := (List.getElem?_eq_some_iff.1 hu).1
  have : j = 0 ∨ j = 1 ∨ j = 2 := by omega
  rcases this with rfl | rfl | rfl
  · obtain rfl := Option.some.inj hu; exact h.c.cell 0
  · obtain rfl := Option.some.inj hu; exact h.c.cell 1
  · obtain rfl := Option.some.inj hu; exact h.c.cell 2
theorem ExT.clone {w : World} {gc gs : Nat} {A : Option Addr} {n k : Nat} {l : List MC} (h : ExT w gc gs A n k l) : Calls Tryz.prog 65 #[.slice (some ⟨gc, 0, none⟩) 1 1] w fun e w' => (∃ A k, e = .returned (.slice A 1 k)) ∧ Below w.heap.size w w' := by
  have K := clone_cols [((⟨#[97]⟩ : ByteArray), (2 : Int), false)] (by decide) ⟨gc, 0, none⟩ 1 w h.news
  exact K.mono (fun e w' ⟨⟨A, k, he, _⟩, hb⟩ => ⟨⟨A, k, he⟩, hb⟩)
/-- What is wrong with one of the two: nothing (clone_a). -/
theorem ExT.check {w : World} {gc gs : Nat} {A : Option Addr} {n k : Nat} {xs : List Int} (h : ExT w gc gs A n k (xs.map ic)) (hx : ∀ x ∈ xs, -9223372036854775808 ≤ x ∧ x ≤ 9223372036854775807) (hl : xs.length ≤ 100) (ht : tbm (xs.map ic) ≤ 1048576) (hT : Tabs w) :
    Calls Tryz.prog 37 #[.agg #[.slice (some ⟨gc, 0, none⟩) 1 1, .slice (some ⟨gs, 0, none⟩) 1 1]] w fun e w' => e = .returned (.int .i64 0) ∧ Below w.heap.size w w' := by
  have K := check_col ⟨#[97]⟩ (by decide) 2 (by decide) (by decide) false colE_a (xs.map ic) (by rw [List.length_map]; omega) (fun c hc => by
    obtain ⟨x, hm, rfl⟩ := List.mem_map.1 hc
    exact ic_ok x (hx x hm).1 (hx x hm).2) gc gs (.slice A n k) w hT (h.c.cell 0) (h.c.cell 1) (h.c.cell 2) (h.s.cell 0) h.v
  rw [if_neg (by omega)] at K
  exact K
set_option maxHeartbeats 16000000 in
set_option maxRecDepth 100000 in
theorem diff_ex (gc1 gs1 : Nat) (A1 : Option Addr) (k1 gc2 gs2 g2 k2 : Nat) (w : World) (hT : Tabs w) (ha : ExT w gc1 gs1 A1 2 k1 ([1, 2].map ic)) (hb : ExT w gc2 gs2 (some ⟨g2, 0, none⟩) 3 k2 ([1, 5, 7].map ic)) (hk : 3 ≤ k2) :
    Calls Tryz.prog 23 #[.agg #[.slice (some ⟨gc1, 0, none⟩) 1 1, .slice (some ⟨gs1, 0, none⟩) 1 1], .agg #[.slice (some ⟨gc2, 0, none⟩) 1 1, .slice (some ⟨gs2, 0, none⟩) 1 1]] w (DfPost w) := by
  obtain ⟨i0, hii, hz0, hz1, hz2⟩ := info_parts info_pt
  have KA := hide (fun w' (h : Below w.heap.size w w') => (ha.below h).check (by decide) (by decide) (by decide) (hT.below h))
  have KB := hide (fun w' (h : Below w.heap.size w w') => (hb.below h).check (by decide) (by decide) (by decide) (hT.below h))
  have KLA := hide (fun w' (h : Below w.heap.size w w') => (ha.below h).clone)
  have KLB := hide (fun w' (h : Below w.heap.size w w') => (hb.below h).clone)
  have KRA := hide (fun w' (h : Below w.heap.size w w') => rows_any gc1 gs1 A1 2 k1 w' ((ha.below h).s.cell 0))
  have KRB := hide (fun w' (h : Below w.heap.size w w') => rows_any gc2 gs2 (some ⟨g2, 0, none⟩) 3 k2 w' ((hb.below h).s.cell 0))
  have KPT := hide (fun w' (h : Below w.heap.size w w') => part_ex gc1 gs1 A1 k1 g2 k2 w' (ha.below h).c (ha.below h).s (ha.below h).v (hb.below h).v hk)
  have HBT := hide (fun w' (h : Below w.heap.size w w') => hb.below h)
  obtain ⟨W4, hW4⟩ : ∃ W4, (((w.alloc (.cells #[.slice (some ⟨gc1, 0, none⟩) 1 1, .slice (some ⟨gs1, 0, none⟩) 1 1] 60)).alloc (.cells #[.slice (some ⟨gc2, 0, none⟩) 1 1, .slice (some ⟨gs2, 0, none⟩) 1 1] 60)).alloc (.cells #[.slice none 0 0, .int .i64 0, .slice none 0 0, .int .i64 0, .slice none 0 0] 34)).alloc (.cells #[.slice (some ⟨gc1, 0, none⟩) 1 1, .slice (some ⟨gs1, 0, none⟩) 1 1, .slice (some ⟨gc2, 0, none⟩) 1 1, .slice (some ⟨gs2, 0, none⟩) 1 1] 60) = W4 := ⟨_, rfl⟩
  have hb4 : Below w.heap.size w W4 := by rw [← hW4]; exact ((((Below.refl w.heap.size w).alloc (Nat.le_refl _) _).alloc (by simp) _).alloc (by simp; omega) _).alloc (by simp; omega) _
  have ta : Blk W4 w.heap.size 60 #[.slice (some ⟨gc1, 0, none⟩) 1 1, .slice (some ⟨gs1, 0, none⟩) 1 1] := by rw [← hW4]; exact (((Blk.new _ _ _).alloc _).alloc _).alloc _
  have tb : Blk W4 (w.heap.size + 1) 60 #[.slice (some ⟨gc2, 0, none⟩) 1 1, .slice (some ⟨gs2, 0, none⟩) 1 1] := by rw [← hW4]; exact ((blk_n2 _ _ _ _).alloc _).alloc _
  have tz : Blk W4 (w.heap.size + 1 + 1) 34 #[.slice none 0 0, .int .i64 0, .slice none 0 0, .int .i64 0, .slice none 0 0] := by rw [← hW4]; exact (blk_n3 _ _ _ _ _).alloc _
  have tr : Blk W4 (w.heap.size + 1 + 1 + 1) 60 #[.slice (some ⟨gc1, 0, none⟩) 1 1, .slice (some ⟨gs1, 0, none⟩) 1 1, .slice (some ⟨gc2, 0, none⟩) 1 1, .slice (some ⟨gs2, 0, none⟩) 1 1] := by rw [← hW4]; exact blk_q4 _ _ _ _ _ _
  have HW4 := hide hW4
  have HB4 := hide hb4
  have TA4 := hide ta
  have TB4 := hide tb
  have TZ4 := hide tz
  have TR4 := hide tr
  have r0 := tr.cell 0
  have r1 := tr.cell 1
  simp at r0 r1
  have hlt4 := tr.lt
  have HA0 := hide ha
  have HB0 := hide hb
  clear hW4 hb4 ta tb tz tr ha hb hT
  go_enter Tryz.func23, Tryz.ntmps23
  go_wp2_with fail
  rw [HW4.out]
  refine wp_loop_rounds 3 ?_
  rw [rounds_succ]
  have HB5 := hide (fun o => HB4.out.alloc HB4.out.size o)
  go_wp2_with fail
  refine (KA.out _ (HB5.out _)).mono ?_
  rintro e w6 ⟨rfl, hb6⟩
  have hb46 := (Below.refl W4.heap.size W4).alloc (Nat.le_refl _) (.cells #[.slice (some ⟨gc1, 0, none⟩) 1 1, .slice (some ⟨gs1, 0, none⟩) 1 1] 60)
  have hb46 := hb46.trans (hb6.mono hb46.size)
  have TA6 := hide (TA4.out.below hb46 TA4.out.lt)
  have TB6 := hide (TB4.out.below hb46 TB4.out.lt)
  have TZ6 := hide (TZ4.out.below hb46 TZ4.out.lt)
  have tr6 := TR4.out.below hb46 TR4.out.lt
  have HB6 := hide (HB4.out.trans (hb46.mono HB4.out.size))
  have r2 := tr6.cell 2
  have r3 := tr6.cell 3
  simp at r2 r3
  have hlt6 := tr6.lt
  clear hb6 hb46 tr6 r0 r1
  go_wp2_with fail
  rw [rounds_succ]
  have HB7 := hide (fun o => HB6.out.alloc HB6.out.size o)
  go_wp2_with fail
  refine (KB.out _ (HB7.out _)).mono ?_
  rintro e w8 ⟨rfl, hb8⟩
  have hb68 := (Below.refl w6.heap.size w6).alloc (Nat.le_refl _) (.cells #[.slice (some ⟨gc2, 0, none⟩) 1 1, .slice (some ⟨gs2, 0, none⟩) 1 1] 60)
  have hb68 := hb68.trans (hb8.mono hb68.size)
  have TA8 := hide (TA6.out.below hb68 TA6.out.lt)
  have TB8 := hide (TB6.out.below hb68 TB6.out.lt)
  have TZ8 := hide (TZ6.out.below hb68 TZ6.out.lt)
  have HB8 := hide (HB6.out.trans (hb68.mono HB6.out.size))
  clear hb8 hb68 r2 r3
  go_wp2_with fail
  rw [rounds_succ]
  go_wp2_with fail
  have HBd := hide ((Below.refl w8.heap.size w8).drew)
  have HBda := hide (fun o => ((Below.refl w8.heap.size w8).alloc (Nat.le_refl _) o).drew)
  have HD1 := hide (fun w' (h : Below w8.drew.heap.size w8.drew w') => show Below w8.heap.size w8 w' from ⟨h.os, h.tape, h.output, h.size, h.block⟩)
  have HD2 := hide (fun o w' (h : Below (w8.alloc o).drew.heap.size (w8.alloc o).drew w') => (HBda.out o).trans (h.mono (HBda.out o).size))
  have KLA8 := hide (fun w' (h : Below w8.heap.size w8 w') => KLA.out w' (HB8.out.trans (h.mono HB8.out.size)))
  have KLB8 := hide (fun w' (h : Below w8.heap.size w8 w') => KLB.out w' (HB8.out.trans (h.mono HB8.out.size)))
  have KRA8 := hide (fun w' (h : Below w8.heap.size w8 w') => KRA.out w' (HB8.out.trans (h.mono HB8.out.size)))
  have KRB8 := hide (fun w' (h : Below w8.heap.size w8 w') => KRB.out w' (HB8.out.trans (h.mono HB8.out.size)))
  have HS := hide (fun w' (h : Below w8.heap.size w8 w') => show w'.cell? ⟨w.heap.size, 0, none⟩ = some (.slice (some ⟨gc1, 0, none⟩) 1 1) ∧ w'.cell? ⟨w.heap.size, 1, none⟩ = some (.slice (some ⟨gs1, 0, none⟩) 1 1) ∧ w'.cell? ⟨w.heap.size + 1, 0, none⟩ = some (.slice (some ⟨gc2, 0, none⟩) 1 1) ∧ w'.cell? ⟨w.heap.size + 1, 1, none⟩ = some (.slice (some ⟨gs2, 0, none⟩) 1 1) from
    ⟨(TA8.out.below h TA8.out.lt).cell 0, (TA8.out.below h TA8.out.lt).cell 1, (TB8.out.below h TB8.out.lt).cell 0, (TB8.out.below h TB8.out.lt).cell 1⟩)
  obtain ⟨s0, s1, s2, s3⟩ := HS.out w8 (Below.refl _ _)
  have hlt8 := TZ8.out.lt
  go_cut [9] (fun u9 wx => ∃ p9 A1' n1' k1' A2' n2' k2', u9 = .pointer (some ⟨p9, 0, none⟩) ∧ Hid (w8.heap.size ≤ p9 ∧ Blk wx p9 34 #[.slice A1' n1' k1', .int .i64 2, .slice A2' n2' k2', .int .i64 3, .slice none 0 0] ∧ Below w8.heap.size w8 wx))
  case first =>
    go_region_held3 (fun w' => w'.cell? ⟨w.heap.size, 0, none⟩ = some (.slice (some ⟨gc1, 0, none⟩) 1 1) ∧ w'.cell? ⟨w.heap.size, 1, none⟩ = some (.slice (some ⟨gs1, 0, none⟩) 1 1) ∧ w'.cell? ⟨w.heap.size + 1, 0, none⟩ = some (.slice (some ⟨gc2, 0, none⟩) 1 1) ∧ w'.cell? ⟨w.heap.size + 1, 1, none⟩ = some (.slice (some ⟨gs2, 0, none⟩) 1 1)) (first | with_reducible exact HS.out _ hbx | with_reducible exact HS.out _ (hbx.alloc hbx.size _) | with_reducible exact HS.out _ HBd.out | with_reducible exact HS.out _ (HBda.out _) | with_reducible exact HS.out _ (((((hbx.setCell (by dsimp only; omega) _).setCell (by dsimp only; omega) _).setCell (by dsimp only; omega) _).setCell (by dsimp only; omega) _).setCell (by dsimp only; omega) _)) (first | (go_at_call 65; with_reducible refine (KLA8.out _ (by first | exact hbx | exact hbx.alloc hbx.size _ | exact HBd.out | exact HBda.out _)).mono ?_; rintro e w9 ⟨⟨_, _, rfl⟩, hbn⟩; (first | (with_reducible have hbx := hbx.trans (hbn.mono hbx.size)) | (with_reducible have hbx := (hbx.alloc hbx.size _).trans (hbn.mono (hbx.alloc hbx.size _).size)) | (with_reducible have hbx := HD1.out _ hbn) | (with_reducible have hbx := HD2.out _ _ hbn)); have hsz := hbx.size; (try (first | (with_reducible have bz := Blk.below bz hbn bz.lt) | (with_reducible have bz := Blk.below (Blk.new _ _ _) hbn (by simp)) | (with_reducible have bz := Blk.below (Blk.drew (Blk.new _ _ _)) hbn (by simp)))); (try (have z0 := bz.cell 0; have z1 := bz.cell 1; have z2 := bz.cell 2; have z3 := bz.cell 3; have z4 := bz.cell 4; have y0 := bz.frozen 0; have y1 := bz.frozen 1; have y2 := bz.frozen 2; have y3 := bz.frozen 3; have y4 := bz.frozen 4; simp at z0 z1 z2 z3 z4))) | (go_at_call 65; with_reducible refine (KLB8.out _ (by first | exact hbx | exact hbx.alloc hbx.size _ | exact HBd.out | exact HBda.out _)).mono ?_; rintro e w11 ⟨⟨_, _, rfl⟩, hbn⟩; (first | (with_reducible have hbx := hbx.trans (hbn.mono hbx.size)) | (with_reducible have hbx := (hbx.alloc hbx.size _).trans (hbn.mono (hbx.alloc hbx.size _).size)) | (with_reducible have hbx := HD1.out _ hbn) | (with_reducible have hbx := HD2.out _ _ hbn)); have hsz := hbx.size; (try (first | (with_reducible have bz := Blk.below bz hbn bz.lt) | (with_reducible have bz := Blk.below (Blk.new _ _ _) hbn (by simp)) | (with_reducible have bz := Blk.below (Blk.drew (Blk.new _ _ _)) hbn (by simp)))); (try (have z0 := bz.cell 0; have z1 := bz.cell 1; have z2 := bz.cell 2; have z3 := bz.cell 3; have z4 := bz.cell 4; have y0 := bz.frozen 0; have y1 := bz.frozen 1; have y2 := bz.frozen 2; have y3 := bz.frozen 3; have y4 := bz.frozen 4; simp at z0 z1 z2 z3 z4))) | (go_at_call 66; with_reducible refine (KRA8.out _ (by first | exact hbx | exact hbx.alloc hbx.size _ | exact HBd.out | exact HBda.out _)).mono ?_; rintro e w10 ⟨rfl, hbn⟩; (first | (with_reducible have hbx := hbx.trans (hbn.mono hbx.size)) | (with_reducible have hbx := (hbx.alloc hbx.size _).trans (hbn.mono (hbx.alloc hbx.size _).size)) | (with_reducible have hbx := HD1.out _ hbn) | (with_reducible have hbx := HD2.out _ _ hbn)); have hsz := hbx.size; (try (first | (with_reducible have bz := Blk.below bz hbn bz.lt) | (with_reducible have bz := Blk.below (Blk.new _ _ _) hbn (by simp)) | (with_reducible have bz := Blk.below (Blk.drew (Blk.new _ _ _)) hbn (by simp)))); (try (have z0 := bz.cell 0; have z1 := bz.cell 1; have z2 := bz.cell 2; have z3 := bz.cell 3; have z4 := bz.cell 4; have y0 := bz.frozen 0; have y1 := bz.frozen 1; have y2 := bz.frozen 2; have y3 := bz.frozen 3; have y4 := bz.frozen 4; simp at z0 z1 z2 z3 z4))) | (go_at_call 66; with_reducible refine (KRB8.out _ (by first | exact hbx | exact hbx.alloc hbx.size _ | exact HBd.out | exact HBda.out _)).mono ?_; rintro e w12 ⟨rfl, hbn⟩; (first | (with_reducible have hbx := hbx.trans (hbn.mono hbx.size)) | (with_reducible have hbx := (hbx.alloc hbx.size _).trans (hbn.mono (hbx.alloc hbx.size _).size)) | (with_reducible have hbx := HD1.out _ hbn) | (with_reducible have hbx := HD2.out _ _ hbn)); have hsz := hbx.size; (try (first | (with_reducible have bz := Blk.below bz hbn bz.lt) | (with_reducible have bz := Blk.below (Blk.new _ _ _) hbn (by simp)) | (with_reducible have bz := Blk.below (Blk.drew (Blk.new _ _ _)) hbn (by simp)))); (try (have z0 := bz.cell 0; have z1 := bz.cell 1; have z2 := bz.cell 2; have z3 := bz.cell 3; have z4 := bz.cell 4; have y0 := bz.frozen 0; have y1 := bz.frozen 1; have y2 := bz.frozen 2; have y3 := bz.frozen 3; have y4 := bz.frozen 4; simp at z0 z1 z2 z3 z4))))
    all_goals
      go_wp2_with fail
      go_meet
      case rel => first | exact ⟨_, _, _, _, _, _, _, rfl, hide ⟨hbx.size, Blk.new _ _ _, hbx.alloc hbx.size _⟩⟩ | exact ⟨_, _, _, _, _, _, _, rfl, hide ⟨by omega, st5_blk bz _ _ _ _ _, ((((hbx.setCell (by dsimp only; omega) _).setCell (by dsimp only; omega) _).setCell (by dsimp only; omega) _).setCell (by dsimp only; omega) _).setCell (by dsimp only; omega) _⟩⟩
  case rest =>
    obtain ⟨p9, A1', n1', k1', A2', n2', k2', rfl, hk9⟩ := hcut
    obtain ⟨h9, b9, hb9⟩ := hk9.out
    have TA9 := hide (TA8.out.below hb9 TA8.out.lt)
    have TB9 := hide (TB8.out.below hb9 TB8.out.lt)
    have TZ9 := hide (TZ8.out.below hb9 TZ8.out.lt)
    have hbw9 := HB8.out.trans (hb9.mono HB8.out.size)
    have hx9 := HBT.out wc hbw9
    have B9 := hide b9
    have HX9 := hide hx9
    have HB9 := hide hbw9
    have t0 := TB9.out.cell 0
    simp at t0
    have hz9 : w.heap.size + 1 + 1 ≠ p9 := by omega
    have h9w : w.heap.size ≤ p9 := by omega
    have hlt9 := TB9.out.lt
    have hlp9 := b9.lt
    have hls9 := hx9.s.lt
    clear hk9 b9 hb9 hbw9 hx9 KLA8 KLB8 KRA8 KRB8 HS HBd HBda HD1 HD2 h9 s0 s1 s2 s3
    go_wp2_with fail
    refine wp_loop_rounds 2 ?_
    rw [rounds_succ]
    go_upto_block 3 with fail
    go_cut [57] (fun u57 wx => ∃ gg cap, u57 = .slice (some ⟨gg, 0, none⟩) 1 cap ∧ Hid (Blk wx p9 34 #[.slice A1' n1' k1', .int .i64 2, .slice A2' n2' k2', .int .i64 3, .slice (some ⟨gg, 0, none⟩) 1 cap] ∧ Blk wx (w.heap.size + 1 + 1) 34 #[.slice none 0 0, .int .i64 0, .slice none 0 0, .int .i64 0, .slice none 0 0] ∧ Blk (st5 wx (w.heap.size + 1 + 1) (.slice A1' n1' k1') (.int .i64 2) (.slice A2' n2' k2') (.int .i64 3) (.slice (some ⟨gg, 0, none⟩) 1 cap)) (w.heap.size + 1 + 1) 34 #[.slice A1' n1' k1', .int .i64 2, .slice A2' n2' k2', .int .i64 3, .slice (some ⟨gg, 0, none⟩) 1 cap] ∧ InP (st5 wx (w.heap.size + 1 + 1) (.slice A1' n1' k1') (.int .i64 2) (.slice A2' n2' k2') (.int .i64 3) (.slice (some ⟨gg, 0, none⟩) 1 cap)) (.slice (some ⟨gg, 0, none⟩) 1 cap) [(true, [(1, ic 5)], [ic 7])] ∧ Below w.heap.size w (st5 wx (w.heap.size + 1 + 1) (.slice A1' n1' k1') (.int .i64 2) (.slice A2' n2' k2') (.int .i64 3) (.slice (some ⟨gg, 0, none⟩) 1 cap))))
    case first =>
      obtain ⟨W10, hW10⟩ : ∃ W10, wc.alloc (.cells #[.string ⟨#[97]⟩, .int .i64 2, .bool false] 23) = W10 := ⟨_, rfl⟩
      have hb10 : Below wc.heap.size wc W10 := by rw [← hW10]; exact (Below.refl _ _).alloc (Nat.le_refl _) _
      have bc10 : Blk W10 wc.heap.size 23 #[.string ⟨#[97]⟩, .int .i64 2, .bool false] := by rw [← hW10]; exact Blk.new _ _ _
      have ta := TA9.out.below hb10 TA9.out.lt
      have tb := TB9.out.below hb10 TB9.out.lt
      have HW10 := hide hW10
      have x0 := HX9.out.c.cell 0
      have x1 := HX9.out.c.cell 1
      have x2 := HX9.out.c.cell 2
      simp at x0 x1 x2
      clear hW10 t0
      go_wp2_with fail
      rw [HW10.out]
      clear x0 x1 x2
      have hx10 := HX9.out.below hb10
      have bp10 := B9.out.below hb10 B9.out.lt
      have bz10 := TZ9.out.below hb10 TZ9.out.lt
      have hbw10 := HB9.out.trans (hb10.mono HB9.out.size)
      have a0 := ta.cell 0
      have a1 := ta.cell 1
      have b1 := tb.cell 1
      have c0 := bc10.cell 0
      have c1 := bc10.cell 1
      have c2 := bc10.cell 2
      simp at a0 a1 b1 c0 c1 c2
      have s0 := hx10.s.cell 0
      have v4 := bp10.cell 4
      have f4 := bp10.frozen 4
      simp at s0 v4
      have hlp10 : p9 < W10.heap.size := bp10.lt
      have KP := hide (KPT.out W10.drew hbw10.drew)
      have BP10 := hide bp10
      have BZ10 := hide bz10
      have HBW10 := hide hbw10
      have HDD := hide (fun w' (h : Below W10.drew.heap.size W10.drew w') => show Below W10.heap.size W10 w' from ⟨h.os, h.tape, h.output, h.size, h.block⟩)
      have HPX := hide (fun w' (h : Below W10.heap.size W10 w') => bp10.below h bp10.lt)
      have HOA := hide (fun W => World.ownsRow_nil W w.heap.size 65 3)
      have hne : some p9 ≠ (Value.slice none 0 0).ownBlock := by simp [Value.ownBlock]
      have HNE := hide hne
      have hsz10 : w.heap.size ≤ W10.heap.size := hbw10.size
      clear hx10 bp10 bz10 hbw10 hne ta tb bc10 hb10
      have HZX := hide (fun w' (h : Below W10.heap.size W10 w') => BZ10.out.below h BZ10.out.lt)
      go_region_law (first | (refine step_append_lies _ rfl (.tmp 47) (.tmp 56) 32 rfl w.heap.size 65 i0 (.agg #[.bool false, .slice none 0 0, .slice none 0 0]) 3 56 Tryz.underlying32 hii hz0 hz1 hz2 rfl (by decide) _ 0 [] rfl (HOX.out _) ⟨w11.heap.size, 0, none⟩ 1 1 [.bool true, .slice AE 1 kE, .slice AC 1 kC] rfl rfl (World.news_of_block (NBX.out _ _)) (by simp [Value.oneCell']) (by omega) (by decide) (by decide) (by simp; omega) _ rfl ?_; intro gg cap w12 hown2 hgrow2 hat2 hlt2; have hv2 := (hgrow2.cell_far ⟨p9, 4, none⟩ (by simp; omega) HNE.out).trans (v2 _); have hf2 := (hgrow2.frozen_far ⟨p9, 4, none⟩ (by simp; omega) HNE.out).trans (f2 _)) | (go_simp; with_reducible refine KP.out.mono ?_; intro e w11 hex; unfold ExPost at hex; obtain ⟨⟨AE, kE, AC, kC, he, hE, hM⟩, hb11⟩ := hex; subst he; have NBX := hide (fun cs t => (Blk.new w11 cs t).out); have HOX := hide (fun o => World.ownsRow_nil (w11.alloc o) w.heap.size 65 3); have hbx := HDD.out w11 hb11; have hsz11 := hbx.size; have b11 := HPX.out w11 hbx; have v5 := b11.cell 4; have f5 := b11.frozen 4; simp at v5; have v2 := fun o : Obj => (b11.alloc o).cell 4; have f2 := fun o : Obj => (b11.alloc o).frozen 4; have HE := hide hE; have HM := hide hM; have HBX := hide hbx; have HB11 := hide b11; have HZ11 := hide (HZX.out w11 hbx); clear hE hM hbx b11 hb11))
      all_goals
        obtain ⟨l1, l2, l3, l4, l5⟩ := df_seal (h := w.heap.size) HZ11.out HB11.out hz9 (by omega) h9w (by omega) HE.out HM.out hown2 hgrow2
        have HL := hide (And.intro l1 (And.intro l2 (And.intro l3 (And.intro l4 ((HBW10.out.trans (HBX.out.mono HBW10.out.size)).trans l5)))))
        clear l1 l2 l3 l4 l5 hown2 hgrow2 hat2 hlt2 hv2 hf2
        go_wp2_with fail
        go_meet
        case rel => exact ⟨gg, cap, rfl, HL⟩
    case rest =>
      obtain ⟨gg, cap, rfl, hL⟩ := hcut
      obtain ⟨l1, l2, l3, l4, l5⟩ := hL.out
      have L3 := hide l3
      have L4 := hide l4
      have L5 := hide l5
      have v0 := l1.cell 0
      have v1 := l1.cell 1
      have v2 := l1.cell 2
      have v3 := l1.cell 3
      have v4 := l1.cell 4
      have z0 := l2.cell 0
      have z1 := l2.cell 1
      have z2 := l2.cell 2
      have z3 := l2.cell 3
      have z4 := l2.cell 4
      have y0 := l2.frozen 0
      have y1 := l2.frozen 1
      have y2 := l2.frozen 2
      have y3 := l2.frozen 3
      have y4 := l2.frozen 4
      simp at v0 v1 v2 v3 v4 z0 z1 z2 z3 z4
      clear hL l1 l2 l3 l4 l5
      go_wp2_with fail
      rw [rounds_succ]
      go_wp2_with fail
      refine bodyPost_ret (results_cell_tmp_row' rfl _ _ _ (w.heap.size + 1 + 1) 34 #[.slice A1' n1' k1', .int .i64 2, .slice A2' n2' k2', .int .i64 3, .slice (some ⟨gg, 0, none⟩) 1 cap] (0, 0) rfl L3.out Tryz.underlying34 (by exact info_pt5)) rfl ?_
      exact ⟨⟨_, _, _, _, _, _, _, _, rfl, L4.out⟩, L5.out⟩
end Go.Proofs.YtfkgmodgkifelaaGreatDoor
namespace Go.Proofs.YtfkgmodgkifelaaGreatDoor
open Go.RowKit

theorem inM_addr {w : World} {A : Option Addr} {n k : Nat} {x : MC} {l : List MC} (h : InM w (.slice A n k) (x :: l)) : ∃ g, A = some ⟨g, 0, none⟩ := by
  obtain ⟨g, hg, _⟩ := h.cells 0 x rfl
  exact ⟨g, hg⟩
theorem inI_blk {w : World} {g : Nat} {t : TypeId} {xs : List Int} (h : Blk w g t (xs.map (fun x => Value.int .i64 x)).toArray) : InI w g xs := by
  refine ⟨h.lt, fun i x hx => (h.cell i).trans ?_⟩
  simp [hx]
set_option maxHeartbeats 8000000 in
set_option maxRecDepth 100000 in
theorem awake21 (w : World) (hT : Tabs w) : Calls Tryz.prog 9 #[] w fun e w' => e = .returned (.bool true) ∧ Below w.heap.size w w' := by
  have HT := hide hT
  have hb0 : ∀ o, Below w.heap.size w (w.alloc o) := fun o => (Below.refl _ _).alloc (Nat.le_refl _) _
  have K1 := hide (one_any [1, 2] (by decide) w.heap.size 2 (w.alloc (.cells #[.int .i64 1, .int .i64 2] 2)) (inI_blk (xs := [1, 2]) (Blk.new _ _ _)))
  rw [show ([1, 2] : List Int).length = 2 from rfl] at K1
  have HB0 := hide hb0
  clear hT hb0
  go_enter Tryz.func9, Tryz.ntmps9
  go_wp2_with fail
  refine K1.out.mono ?_
  rintro e w2 ⟨⟨gc1, gs1, A1, k1, rfl, hc1, hs1, hm1, _⟩, hb2⟩
  have hbw2 := (HB0.out _).trans (hb2.mono (HB0.out _).size)
  have K2 := hide (one_any [1, 5, 7] (by decide) w2.heap.size 3 (w2.alloc (.cells #[.int .i64 1, .int .i64 5, .int .i64 7] 2)) (inI_blk (xs := [1, 5, 7]) (Blk.new _ _ _)))
  rw [show ([1, 5, 7] : List Int).length = 3 from rfl] at K2
  have HX1 := hide (show ExT w2 gc1 gs1 A1 2 k1 ([1, 2].map ic) from ⟨hc1, hs1, hm1⟩)
  have HBW2 := hide hbw2
  clear hb2 hc1 hs1 hm1 hbw2 K1
  go_wp2_with fail
  refine K2.out.mono ?_
  rintro e w4 ⟨⟨gc2, gs2, A2, k2, rfl, hc2, hs2, hm2, hk2⟩, hb4⟩
  obtain ⟨g2, rfl⟩ := inM_addr (x := ic 1) (l := [ic 5, ic 7]) hm2
  have hb24 := ((Below.refl w2.heap.size w2).alloc (Nat.le_refl _) (.cells #[.int .i64 1, .int .i64 5, .int .i64 7] 2))
  have hb24 := hb24.trans (hb4.mono hb24.size)
  have hbw4 := HBW2.out.trans (hb24.mono HBW2.out.size)
  have KD := hide (diff_ex gc1 gs1 A1 k1 gc2 gs2 g2 k2 w4 (HT.out.below hbw4) (HX1.out.below hb24) ⟨hc2, hs2, hm2⟩ hk2)
  have HBW4 := hide hbw4
  clear hb4 hc2 hs2 hm2 hb24 hbw4 K2 hk2
  go_wp2_with fail
  refine KD.out.mono ?_
  intro e w5 hex
  unfold DfPost at hex
  obtain ⟨⟨A1', n1', k1', A2', n2', k2', AP, kP, he, hP⟩, hb5⟩ := hex
  subst he
  have hbw5 := HBW4.out.trans (hb5.mono HBW4.out.size)
  obtain ⟨W6, hW6⟩ : ∃ W6, w5.alloc (.cells #[.slice A1' n1' k1', .int .i64 2, .slice A2' n2' k2', .int .i64 3, .slice AP 1 kP] 34) = W6 := ⟨_, rfl⟩
  have hb6 : Below w5.heap.size w5 W6 := by rw [← hW6]; exact (Below.refl _ _).alloc (Nat.le_refl _) _
  have hP6 := hP.below hb6
  obtain ⟨g, VE, VC, rfl, hg, hap, hie, him⟩ := hP6.cells 0 _ rfl
  obtain ⟨AE, kE, hVE⟩ := hie.form
  subst hVE
  obtain ⟨AC, kC, hVC⟩ := him.formL
  subst hVC
  obtain ⟨ge, rfl, hge, hte⟩ := hie.cells 0 _ rfl
  obtain ⟨gl, rfl, hgl, htm⟩ := him.cells 0 _ rfl
  have a1 := hap.c1
  have a2 := hap.c2
  have e0 := hte.c0
  have e3 := hte.c3
  have m2 := htm.c2
  simp only [Nat.zero_mul, Nat.zero_add, ic, List.length_singleton] at a1 a2 e0 e3 m2
  have HB6 := hide (hbw5.trans (hb6.mono hbw5.size))
  rw [← hW6] at a1 a2 e0 e3 m2
  have HW6 := hide hW6
  clear hb5 hbw5 hb6 hP hP6 hap hie him hte htm hW6 KD
  go_wp2_with fail
  go_ret
  rw [HW6.out]
  exact ⟨rfl, HB6.out⟩
theorem diffReads_walk (s : ByteArray) (hs : s.size ≤ maxLen) (w : World) (hT : Tabs w) :
    Calls Tryz.prog 4 #[.string s] w fun e w' => e = .returned (.bool true) ∧ Below w.heap.size w w' := diffReads_of awake21 s hs w hT
end Go.Proofs.YtfkgmodgkifelaaGreatDoor
