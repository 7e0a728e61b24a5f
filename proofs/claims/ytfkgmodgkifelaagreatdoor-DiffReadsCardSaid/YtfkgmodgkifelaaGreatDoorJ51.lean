/- The chapter's example: the part. -/
import Derived.Test.YtfkgmodgkifelaaGreatDoorJ50
namespace Go.Proofs.YtfkgmodgkifelaaGreatDoor
open Go.RowKit

/-- How the example's part ends. -/
def ExPost (w : World) (e : Ending) (w' : World) : Prop :=
  (∃ AE kE AC kC, e = .returned (.agg #[.bool true, .slice AE 1 kE, .slice AC 1 kC]) ∧ InE w' (.slice AE 1 kE) [(1, ic 5)] ∧ InM w' (.slice AC 1 kC) [ic 7]) ∧ Below w.heap.size w w'
theorem inK_blk {w : World} {g : Nat} {t : TypeId} {nm : ByteArray} {k : Int} {nl : Bool} (h : Blk w g t #[.string nm, .int .i64 k, .bool nl]) : InK w (.slice (some ⟨g, 0, none⟩) 1 1) [(nm, k, nl)] := by
  refine ⟨some ⟨g, 0, none⟩, 1, rfl, Nat.le_refl _, fun i y hy => ⟨g, rfl, h.lt, ?_⟩⟩
  cases i with
  | zero =>
    obtain rfl : _ = y := by simpa using hy
    exact ⟨h.cell 0, h.cell 1, h.cell 2⟩
  | succ i => simp at hy
theorem ex_seal {h xb zb gg cap kC : Nat} {AC : Option Addr} {w5 w6 : World} {o : Obj} (hz : Blk w5 zb 65 #[.bool false, .slice none 0 0, .slice none 0 0]) (hx : Blk w5 xb 65 #[.bool true, .slice none 0 0, .slice AC 1 kC]) (hne : zb ≠ xb) (hh : h ≤ zb) (hhx : h ≤ xb) (hhw : h ≤ w5.heap.size) (hm : InM w5 (.slice AC 1 kC) [ic 7])
    (hown : w6.ownsRow h 67 7 (.slice (some ⟨gg, 0, none⟩) (0 + 1) cap) (0 + 1) ([] ++ [.int .i64 1, .bool false, .bool false, .int .i64 5, .int .u64 0, .string ByteArray.empty, .complex .f64 0 0])) (hg : (w5.alloc o).drew.grownBy w6 (Value.slice none 0 0).ownBlock) :
    Blk (w6.setCell ⟨xb, 1, none⟩ (.slice (some ⟨gg, 0, none⟩) 1 cap)) xb 65 #[.bool true, .slice (some ⟨gg, 0, none⟩) 1 cap, .slice AC 1 kC] ∧
    Blk (w6.setCell ⟨xb, 1, none⟩ (.slice (some ⟨gg, 0, none⟩) 1 cap)) zb 65 #[.bool false, .slice none 0 0, .slice none 0 0] ∧
    Blk (st3 (w6.setCell ⟨xb, 1, none⟩ (.slice (some ⟨gg, 0, none⟩) 1 cap)) zb (.bool true) (.slice (some ⟨gg, 0, none⟩) 1 cap) (.slice AC 1 kC)) zb 65 #[.bool true, .slice (some ⟨gg, 0, none⟩) 1 cap, .slice AC 1 kC] ∧
    InE (st3 (w6.setCell ⟨xb, 1, none⟩ (.slice (some ⟨gg, 0, none⟩) 1 cap)) zb (.bool true) (.slice (some ⟨gg, 0, none⟩) 1 cap) (.slice AC 1 kC)) (.slice (some ⟨gg, 0, none⟩) 1 cap) [(1, ic 5)] ∧
    InM (st3 (w6.setCell ⟨xb, 1, none⟩ (.slice (some ⟨gg, 0, none⟩) 1 cap)) zb (.bool true) (.slice (some ⟨gg, 0, none⟩) 1 cap) (.slice AC 1 kC)) (.slice AC 1 kC) [ic 7] ∧
    Below h w5 (st3 (w6.setCell ⟨xb, 1, none⟩ (.slice (some ⟨gg, 0, none⟩) 1 cap)) zb (.bool true) (.slice (some ⟨gg, 0, none⟩) 1 cap) (.slice AC 1 kC)) := by
  have f0 := ((Below.refl w5.heap.size w5).alloc (Nat.le_refl _) o).drew.trans ((Fr.of_grown hg).below (by simp) (fun k hk => by simp [Value.ownBlock] at hk))
  have x6 := hx.below f0 hx.lt
  have z6 := hz.below f0 hz.lt
  have m6 := hm.below f0
  have f1 := Fr.setCell w6 ⟨xb, 1, none⟩ (.slice (some ⟨gg, 0, none⟩) 1 cap)
  have z7 := Blk.fr z6 f1 (by exact hne)
  have f2 := st3_fr (w6.setCell ⟨xb, 1, none⟩ (.slice (some ⟨gg, 0, none⟩) 1 cap)) zb (.bool true) (.slice (some ⟨gg, 0, none⟩) 1 cap) (.slice AC 1 kC)
  have e6 : InE w6 (.slice (some ⟨gg, 0, none⟩) 1 cap) [(1, ic 5)] := inE_own (l := [(1, ic 5)]) hown rfl
  have hb1 := (f0.mono hhw).trans (f1.below (Nat.le_trans hhw f0.size) (fun k hk => by obtain rfl : k = xb := hk; exact hhx))
  refine ⟨x6.set 1 _, z7, st3_blk z7 _ _ _, ?_, ?_, hb1.trans (f2.below (Nat.le_trans hhw hb1.size) (fun k hk => by obtain rfl : k = zb := hk; exact hh))⟩
  · exact (e6.frq f1 (fun g hg x => by obtain rfl : g = xb := hg; exact blk_bool_ne x6 x)).frq f2 (fun g hg x => by obtain rfl : g = zb := hg; exact blk_bool_ne z7 x)
  · exact (m6.frq f1 (fun g hg => .inr (fun x => by obtain rfl : g = xb := hg; exact blk_slice_ne x6 x))).frq f2 (fun g hg => .inr (fun x => by obtain rfl : g = zb := hg; exact blk_slice_ne z7 x))
theorem plcP_one {c : Col} {r : Int} (h : PlcP [c] c r) : r = 0 := by
  rcases h with ⟨_, h⟩ | ⟨i, rfl, h⟩
  · exact absurd (List.mem_singleton.2 rfl) h
  · cases i with
    | zero => rfl
    | succ i => simp at h
set_option maxHeartbeats 16000000 in
set_option maxRecDepth 100000 in
theorem part_ex (gc gs : Nat) (Aa : Option Addr) (ka gb kb : Nat) (w : World) (hc : Blk w gc 23 #[.string ⟨#[97]⟩, .int .i64 2, .bool false]) (hs : Blk w gs 25 #[.slice Aa 2 ka]) (hA : InM w (.slice Aa 2 ka) [ic 1, ic 2]) (hB : InM w (.slice (some ⟨gb, 0, none⟩) 3 kb) [ic 1, ic 5, ic 7]) (hkb : 3 ≤ kb) :
    Calls Tryz.prog 67 #[.agg #[.slice (some ⟨gc, 0, none⟩) 1 1, .slice (some ⟨gs, 0, none⟩) 1 1], .agg #[.string ⟨#[97]⟩, .int .i64 2, .bool false], .slice (some ⟨gb, 0, none⟩) 3 kb] w (ExPost w) := by
  obtain ⟨i0, hii, hz0, hz1, hz2⟩ := info_parts info_ed
  have hb3 : ∀ o1 o2 o3, Below w.heap.size w (((w.alloc o1).alloc o2).alloc o3) := fun o1 o2 o3 => (((Below.refl w.heap.size w).alloc (Nat.le_refl _) o1).alloc (by simp) o2).alloc (by simp; omega) o3
  have KI := hide (fun o1 o2 o3 => cindex_any [((⟨#[97]⟩ : ByteArray), (2 : Int), false)] (by decide) (⟨#[97]⟩, 2, false) _ (((w.alloc o1).alloc o2).alloc o3) ((inK_blk hc).below (hb3 o1 o2 o3)))
  unfold colV at KI
  simp only at KI
  have KW := hide (fun w' (h : Below w.heap.size w w') => where_ex _ _ w' (hA.below h) (hB.below h))
  have KCL := hide (fun w' (h : Below w.heap.size w w') (c : Nat) => clone_cells [ic 7] (by decide) ⟨gb, 12, none⟩ c w' (by
    obtain ⟨_, _, he, hcell⟩ := hB.below h
    injection he with h1 _ _
    subst h1
    obtain ⟨g, hg, _, hat⟩ := hcell 2 (ic 7) rfl
    injection hg with hg
    injection hg with hg
    subst hg
    intro j u hu
    have hj : j < 6 := (List.getElem?_eq_some_iff.1 hu).1
    have : j = 0 ∨ j = 1 ∨ j = 2 ∨ j = 3 ∨ j = 4 ∨ j = 5 := by omega
    rcases this with rfl | rfl | rfl | rfl | rfl | rfl
    · obtain rfl := Option.some.inj hu; exact hat.c0
    · obtain rfl := Option.some.inj hu; exact hat.c1
    · obtain rfl := Option.some.inj hu; exact hat.c2
    · obtain rfl := Option.some.inj hu; exact hat.c3
    · obtain rfl := Option.some.inj hu; exact hat.c4
    · obtain rfl := Option.some.inj hu; exact hat.c5))
  have HB3 := hide hb3
  have HTB := hide (fun o2 o3 => (((Blk.new w #[.slice (some ⟨gc, 0, none⟩) 1 1, .slice (some ⟨gs, 0, none⟩) 1 1] 60).alloc o2).alloc o3))
  have HCB := hide (fun o1 o3 => (blk_n2 w o1 #[.string ⟨#[97]⟩, .int .i64 2, .bool false] 23).alloc o3)
  have HZB := hide (fun o1 o2 => blk_n3 w o1 o2 #[.bool false, .slice none 0 0, .slice none 0 0] 65)
  have HS := hide hs
  have HA := hide hA
  have HB := hide hB
  have hsl := hs.lt
  clear hb3 hc hs hA hB
  go_enter Tryz.func67, Tryz.ntmps67
  go_wp2_with fail
  refine (KI.out _ _ _).mono ?_
  rintro e w1 ⟨⟨r, rfl, hp⟩, hb1⟩
  obtain rfl := plcP_one hp
  have hbw1 := (HB3.out _ _ _).trans (hb1.mono (by simp; omega))
  have HB1 := hide hbw1
  have bt1 := Blk.below (HTB.out _ _) hb1 (by simp; omega)
  have bc1 := Blk.below (HCB.out _ _) hb1 (by simp)
  have bz1 := Blk.below (HZB.out _ _) hb1 (by simp)
  have bs1 := HS.out.below hbw1 hsl
  have t1 := bt1.cell 1
  have c1 := bc1.cell 1
  have s0 := bs1.cell 0
  simp at t1 c1 s0
  have hs1 : gs < w1.heap.size := bs1.lt
  have ht1 : w.heap.size < w1.heap.size := bt1.lt
  have hc1 : w.heap.size + 1 < w1.heap.size := bc1.lt
  have hz1' : w.heap.size + 1 + 1 < w1.heap.size := bz1.lt
  have HZ1 := hide bz1
  clear hp hb1 hbw1 bt1 bc1 bz1 bs1
  go_wp2_with fail
  go_region
  have bp := (Blk.new w1 #[.int .i64 2, .slice Aa 2 ka, .slice (some ⟨gb, 0, none⟩) 3 kb] 160).drew
  have hbw2 := (HB1.out.alloc HB1.out.size (.cells #[.int .i64 2, .slice Aa 2 ka, .slice (some ⟨gb, 0, none⟩) 3 kb] 160)).drew
  have bz2 := (HZ1.out.alloc (.cells #[.int .i64 2, .slice Aa 2 ka, .slice (some ⟨gb, 0, none⟩) 3 kb] 160)).drew
  obtain ⟨w2, hw2⟩ : ∃ w2, (w1.alloc (.cells #[.int .i64 2, .slice Aa 2 ka, .slice (some ⟨gb, 0, none⟩) 3 kb] 160)).drew = w2 := ⟨_, rfl⟩
  rw [hw2] at bp hbw2 bz2 ⊢
  have HBW2 := hide hbw2
  have BP2 := hide bp
  have BZ2 := hide bz2
  have p0 := bp.cell 0
  have p1 := bp.cell 1
  have p2 := bp.cell 2
  simp at p0 p1 p2
  have KC := hide (KCL.out w2 hbw2 (kb - 2))
  rw [show ([ic 7] : List MC).length = 1 from rfl] at KC
  have hk3 : (3 : Int) ≤ (kb : Int) := by omega
  have hmin : min (2 : Int) 3 = 2 := by decide
  clear hw2 hbw2 bp bz2 t1 c1 s0
  generalize w1.heap.size = pb at *
  go_wp2_with fail
  refine KC.out.mono ?_
  rintro e w3 ⟨⟨AC, kC, rfl, hm⟩, hb3⟩
  obtain ⟨W4, hW4⟩ : ∃ W4, w3.alloc (.cells #[.bool true, .slice none 0 0, .slice AC 1 kC] 65) = W4 := ⟨_, rfl⟩
  have hb4 : Below w3.heap.size w3 W4 := by rw [← hW4]; exact (Below.refl _ _).alloc (Nat.le_refl _) _
  have bx4 : Blk W4 w3.heap.size 65 #[.bool true, .slice none 0 0, .slice AC 1 kC] := by rw [← hW4]; exact Blk.new _ _ _
  have hb24 := hb3.trans (hb4.mono hb3.size)
  have hbw4 := HBW2.out.trans (hb24.mono HBW2.out.size)
  have bp4 := BP2.out.below hb24 BP2.out.lt
  have BZ4 := hide (BZ2.out.below hb24 BZ2.out.lt)
  have HM4 := hide (hm.below hb4)
  have BX4 := hide bx4
  have KW4 := hide (KW.out W4 hbw4)
  have HBW4 := hide hbw4
  rw [← hW4] at bp4
  have p0 := bp4.cell 0
  have p1 := bp4.cell 1
  have p2 := bp4.cell 2
  simp at p0 p1 p2
  have HW4 := hide hW4
  have hzx : w.heap.size + 1 + 1 < w3.heap.size := BZ2.out.below hb3 BZ2.out.lt |>.lt
  clear hb3 hm hb4 bx4 hb24 hbw4 bp4 hW4 KC
  go_wp2_with fail
  rw [HW4.out]
  generalize w3.heap.size = xb at *
  refine KW4.out.mono ?_
  rintro e w5 ⟨⟨gw, kw, rfl, hI⟩, hb5⟩
  have bx5 := BX4.out.below hb5 BX4.out.lt
  have hbw5 := HBW4.out.trans (hb5.mono HBW4.out.size)
  have BZ5 := hide (BZ4.out.below hb5 BZ4.out.lt)
  have HM5 := hide (HM4.out.below hb5)
  have i0' := hI.at_ 0 1 rfl
  have b5 := HB.out.below hbw5
  obtain ⟨_, _, he, hcell⟩ := b5
  injection he with h1 _ _
  subst h1
  obtain ⟨g, hg, hgl, hat⟩ := hcell 1 (ic 5) rfl
  injection hg with hg
  injection hg with hg
  subst hg
  obtain ⟨b0, b1, b2, b3, b4, b5⟩ := hat
  simp only [ic, Nat.one_mul, Nat.reduceAdd] at b0 b1 b2 b3 b4 b5
  have x1 := bx5.cell 1
  have f1 := bx5.frozen 1
  simp at x1
  have hxl : xb < w5.heap.size := bx5.lt
  have hgwl := hI.lt
  have hsz : w.heap.size ≤ w5.heap.size := hbw5.size
  have HOA := hide (fun o => World.ownsRow_nil ((w5.alloc o).drew) w.heap.size 67 7)
  have NB := hide (fun cs t => ((Blk.new w5 cs t).drew).out)
  have v2 := fun o : Obj => ((bx5.alloc o).drew).cell 1
  have f2 := fun o : Obj => ((bx5.alloc o).drew).frozen 1
  have hne : some xb ≠ (Value.slice none 0 0).ownBlock := by simp [Value.ownBlock]
  have HNE := hide hne
  have BX5 := hide bx5
  have HBW5 := hide hbw5
  clear hb5 bx5 hbw5 hI hcell hne KW4 p0 p1 p2
  go_wp2_with fail
  refine wp_loop_rounds 2 ?_
  rw [rounds_succ]
  go_wp2_with fail
  go_region_law ((refine step_append_lies _ rfl (.tmp 53) (.tmp 60) 63 rfl w.heap.size 67 i0 (.agg #[.int .i64 0, .bool false, .bool false, .int .i64 0, .int .u64 0, .string ByteArray.empty, .complex .f64 0 0]) 7 64 Tryz.underlying63 hii hz0 hz1 hz2 rfl (by decide) _ 0 [] rfl (HOA.out _) ⟨w5.heap.size, 0, none⟩ 1 1 [.int .i64 1, .bool false, .bool false, .int .i64 5, .int .u64 0, .string ByteArray.empty, .complex .f64 0 0] rfl rfl (World.news_of_block (NB.out _ _)) (by simp [Value.oneCell']) (by omega) (by decide) (by decide) (by simp; omega) _ rfl ?_; intro gg cap w6 hown2 hgrow2 hat2 hlt2; have hv2 := (hgrow2.cell_far ⟨xb, 1, none⟩ (by simp; omega) HNE.out).trans (v2 _); have hf2 := (hgrow2.frozen_far ⟨xb, 1, none⟩ (by simp; omega) HNE.out).trans (f2 _)))
  all_goals
    obtain ⟨l1, l2, l3, l4, l5, l6⟩ := ex_seal (h := w.heap.size) BZ5.out BX5.out (by omega) (by omega) (by omega) hsz HM5.out hown2 hgrow2
    have L3 := hide l3
    have L4 := hide l4
    have L5 := hide l5
    have L6 := hide (HBW5.out.trans l6)
    have x0 := l1.cell 0
    have x1 := l1.cell 1
    have x2 := l1.cell 2
    have z0 := l2.cell 0
    have z1 := l2.cell 1
    have z2 := l2.cell 2
    have y0 := l2.frozen 0
    have y1 := l2.frozen 1
    have y2 := l2.frozen 2
    simp at x0 x1 x2 z0 z1 z2
    obtain ⟨w7, hw7⟩ : ∃ w7, w6.setCell ⟨xb, 1, none⟩ (.slice (some ⟨gg, 0, none⟩) 1 cap) = w7 := ⟨_, rfl⟩
    rw [hw7] at x0 x1 x2 z0 z1 z2 y0 y1 y2 L3 L4 L5 L6
    clear l1 l2 l3 l4 l5 l6 hown2 hgrow2 hat2 hlt2 hv2 hf2
    go_wp2_with fail
    rw [rounds_succ]
    go_wp2_with fail
    refine bodyPost_ret (results_cell_row rfl _ _ (w.heap.size + 1 + 1) 65 #[.bool true, .slice (some ⟨gg, 0, none⟩) 1 cap, .slice AC 1 kC] (0, 0) _ rfl L3.out Tryz.underlying65 rfl info_pt3) rfl ?_
    exact ⟨⟨_, _, _, _, rfl, L4.out, L5.out⟩, L6.out⟩
end Go.Proofs.YtfkgmodgkifelaaGreatDoor
