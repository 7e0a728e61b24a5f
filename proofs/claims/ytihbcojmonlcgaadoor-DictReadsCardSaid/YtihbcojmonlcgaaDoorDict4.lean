/- Dictionaries, written: the chapter's example; the law. Dictionaries, written: the chapter's example, and the law. -/
import Derived.Test.YtihbcojmonlcgaaDoorDict3
import Derived.Test.YtihbcojmonlcgaaDoorPlainA
import Derived.LoopN
namespace Go.Proofs.YtihbcojmonlcgaaDoor
open Go.RowKit

def cB : CD := ⟨false, 0, 0, ⟨#[98]⟩, 0, 0⟩
def cA : CD := ⟨false, 0, 0, ⟨#[97]⟩, 0, 0⟩
theorem kgB : KG cB := kg_mk0 _ _ _ _ (by omega) (by omega) (by omega) (by omega) (by decide)
theorem kgA : KG cA := kg_mk0 _ _ _ _ (by omega) (by omega) (by omega) (by omega) (by decide)
theorem ceqBB : ceq 5 cB cB = true := by kernel_rfl
theorem ceqAB : ceq 5 cA cB = false := by kernel_rfl
theorem ceqBA : ceq 5 cB cA = false := by kernel_rfl
/-- An add leaves a block of another type as it was. -/
theorem AFr.blk {w w' : World} {D B M : Nat} {lv lv' : Value} {k : Int} {l : List CD} (h : AFr D M w lv w' lv') (hd : DS w D B M lv k l) {b : Nat} {t : TypeId} {cs : Array Value} (hb : Blk w b t cs) (hD : b ≠ D) (hM : b ≠ M) (ht : t ≠ 34) : Blk w' b t cs :=
  hb.fr h.fr (by
    rintro (h | h | h)
    · exact hD h
    · exact hM h
    · exact own_ne_blk hd.own hb ht h.symm)
theorem DS.setAt {w : World} {D B M : Nat} {lv : Value} {k : Int} {l : List CD} (hd : DS w D B M lv k l) {b : Nat} {t : TypeId} {cs : Array Value} (hb : Blk w b t cs) (hD : b ≠ D) (hM : b ≠ M) (ht : t ≠ 34) (i : Nat) (v : Value) : DS (w.setCell ⟨b, i, none⟩ v) D B M lv k l :=
  hd.fr (Fr.setCell w ⟨b, i, none⟩ v) (fun h => hD h.symm) (fun h => hM h.symm) (fun j hj h => own_ne_blk hd.own hb ht (by rw [hj, h]))
theorem AFr.below {w w' : World} {D B M : Nat} {lv lv' : Value} {k : Int} {l : List CD} (h : AFr D M w lv w' lv') (hd : DS w D B M lv k l) (hB : B ≤ w.heap.size) : Below B w w' :=
  h.fr.below hB (by
    rintro j (rfl | rfl | h)
    · exact hd.leD
    · exact hd.leM
    · exact (hd.own.lt j h.symm).1)
theorem vB : cB.v = .agg #[.bool false, .bool false, .int .i64 0, .int .u64 0, .string ⟨#[98]⟩, .complex .f64 0 0] := rfl
theorem vA : cA.v = .agg #[.bool false, .bool false, .int .i64 0, .int .u64 0, .string ⟨#[97]⟩, .complex .f64 0 0] := rfl
/-- How the three cells are made a dictionary. -/
def Mk3Post (w : World) (e : Ending) (w' : World) : Prop :=
  ∃ (D M a : Nat) (lv : Value), e = .returned (.tuple #[.pointer (some ⟨D, 0, none⟩), .slice (some ⟨a, 0, none⟩) 3 3]) ∧ DS w' D w.heap.size M lv 5 [cB, cA] ∧ Blk w' a 3 #[.int .i64 0, .int .i64 1, .int .i64 0] ∧ Below w.heap.size w w'
set_option maxHeartbeats 8000000 in
set_option maxRecDepth 100000 in
theorem make3 (g : Nat) (w : World) (h0 : AtC w g 0 false 0 0 ⟨#[98]⟩ 0 0) (h1 : AtC w g 6 false 0 0 ⟨#[97]⟩ 0 0) (h2 : AtC w g 12 false 0 0 ⟨#[98]⟩ 0 0) :
    Calls Tryd.prog 99 #[.int .i64 5, .slice (some ⟨g, 0, none⟩) 3 3] w (Mk3Post w) := by
  have hg := cell_in h0.c0
  have H0 := hide h0
  have H1 := hide h1
  have H2 := hide h2
  have KN := hide (dnone_any 5 w.heap.size w (Nat.le_refl _))
  have KA := hide (fun D B M lv l hl c hc w h hB => dadd_any 5 (by omega) (by omega) D B M lv l hl c hc w h hB)
  have hmk : ∀ w, (Instr.makeSlice 126 (.int .i64 3) (.int .i64 3)).run Tryd.prog w = .ok (.slice (some ⟨w.heap.size, 0, none⟩) 3 3) (w.alloc (.cells #[.int .i64 0, .int .i64 0, .int .i64 0] 3)) := fun _ => by kernel_rfl
  have hst := fun (w1 : World) (a1 : Addr) (m : Mode) (x y : Nat) => run_store Tryd.prog w1 a1 (.complex .f64 x y) m rfl
  clear h0 h1 h2
  go_enter Tryd.func99, Tryd.ntmps99
  go_wp2_with fail
  refine KN.out.mono ?_
  rintro e w1 ⟨rfl, hds1, hb1⟩
  have hDlt := hds1.blk.lt
  have HDS1 := hide hds1
  have HB1 := hide hb1
  clear hds1 hb1
  go_wp2_with fail
  obtain ⟨w2, hw2⟩ : ∃ w2, w1.alloc (.cells #[.int .i64 0, .int .i64 0, .int .i64 0] 3) = w2 := ⟨_, rfl⟩
  have hb12 : Below w1.heap.size w1 w2 := by rw [← hw2]; exact (Below.refl _ _).alloc (Nat.le_refl _) _
  have hk2 : Blk w2 w1.heap.size 3 #[.int .i64 0, .int .i64 0, .int .i64 0] := by rw [← hw2]; exact Blk.new _ _ _
  rw [hw2]
  have HK2 := hide hk2
  have HDS2 := hide (HDS1.out.below hb12)
  have HB2 := hide (HB1.out.trans (hb12.mono HB1.out.size))
  have haD : w1.heap.size ≠ w.heap.size + 1 := by omega
  have haM : w1.heap.size ≠ w.heap.size := by omega
  have HWA := hide (Nat.le_of_lt (Nat.lt_trans (Nat.lt_succ_self _) hDlt))
  clear hw2 hb12 hk2 HDS1 HB1 hDlt
  have hlz : w.heap.size ≤ w1.heap.size := HWA.out
  clear HWA
  generalize w1.heap.size = a at *
  refine wp_loop_rounds 4 ?_
  rw [rounds_succ]
  obtain ⟨p0, p1, p2, p3, p4, p5⟩ := (⟨(HB2.out.cell hg).trans H0.out.c0, (HB2.out.cell hg).trans H0.out.c1, (HB2.out.cell hg).trans H0.out.c2, (HB2.out.cell hg).trans H0.out.c3, (HB2.out.cell hg).trans H0.out.c4, (HB2.out.cell hg).trans H0.out.c5⟩ : AtC w2 g 0 false 0 0 ⟨#[98]⟩ 0 0)
  simp only [Nat.zero_add, Nat.reduceAdd] at p0 p1 p2 p3 p4 p5
  have KA0 := hide (fun w' h hB => KA.out (w.heap.size + 1) w.heap.size w.heap.size (.slice none 0 0) [] (by decide) cB kgB w' h hB)
  rw [vB] at KA0
  have hbx0 : Below w2.heap.size w2 (w2.alloc (.cells #[.bool false, .bool false, .int .i64 0, .int .u64 0, .string ⟨#[98]⟩, .complex .f64 0 0] 34)) := (Below.refl _ _).alloc (Nat.le_refl _) _
  have HDX0 := hide (HDS2.out.below hbx0)
  have HKX0 := hide (HK2.out.below hbx0 HK2.out.lt)
  have HBX0 := hide (HB2.out.trans (hbx0.mono HB2.out.size))
  clear hbx0
  go_wp2_with fail
  refine (KA0.out _ HDX0.out HBX0.out.size).mono ?_
  rintro e w3 (⟨hn, rfl, lv0, hds, haf⟩ | ⟨j, x, hx, he, rfl, hb⟩)
  rotate_left
  · exfalso; simp at hx
  have HD3 := hide hds
  have HK3 := hide (haf.blk HDX0.out HKX0.out haD haM (by decide))
  have HB3 := hide (HBX0.out.trans (haf.below HDX0.out HBX0.out.size))
  clear hn hds haf p0 p1 p2 p3 p4 p5 KA0
  have m0 := HK3.out.cell 0
  have n0 := HK3.out.frozen 0
  simp at m0
  go_wp2_with fail
  obtain ⟨w4, hw⟩ : ∃ w4, w3.setCell ⟨a, 0, none⟩ (.int .i64 0) = w4 := ⟨_, rfl⟩
  have hds4 : DS w4 (w.heap.size + 1) w.heap.size w.heap.size (lv0) 5 [cB] := by rw [← hw]; exact HD3.out.setAt HK3.out haD haM (by decide) _ _
  have hk4 : Blk w4 a 3 #[.int .i64 0, .int .i64 0, .int .i64 0] := by rw [← hw]; exact HK3.out.set 0 _
  have hb4 : Below w.heap.size w w4 := by rw [← hw]; exact HB3.out.setCell (by exact hlz) _
  have HDS4 := hide hds4
  have HK4 := hide hk4
  have HB4 := hide hb4
  rw [hw]
  clear hw hds4 hk4 hb4 m0 n0 HD3 HK3 HB3
  rw [rounds_succ]
  obtain ⟨p0, p1, p2, p3, p4, p5⟩ := (⟨(HB4.out.cell hg).trans H1.out.c0, (HB4.out.cell hg).trans H1.out.c1, (HB4.out.cell hg).trans H1.out.c2, (HB4.out.cell hg).trans H1.out.c3, (HB4.out.cell hg).trans H1.out.c4, (HB4.out.cell hg).trans H1.out.c5⟩ : AtC w4 g 6 false 0 0 ⟨#[97]⟩ 0 0)
  simp only [Nat.zero_add, Nat.reduceAdd] at p0 p1 p2 p3 p4 p5
  have KA1 := hide (fun w' h hB => KA.out (w.heap.size + 1) w.heap.size w.heap.size (lv0) [cB] (by decide) cA kgA w' h hB)
  rw [vA] at KA1
  have hbx1 : Below w4.heap.size w4 (w4.alloc (.cells #[.bool false, .bool false, .int .i64 0, .int .u64 0, .string ⟨#[97]⟩, .complex .f64 0 0] 34)) := (Below.refl _ _).alloc (Nat.le_refl _) _
  have HDX1 := hide (HDS4.out.below hbx1)
  have HKX1 := hide (HK4.out.below hbx1 HK4.out.lt)
  have HBX1 := hide (HB4.out.trans (hbx1.mono HB4.out.size))
  clear hbx1
  go_wp2_with fail
  refine (KA1.out _ HDX1.out HBX1.out.size).mono ?_
  rintro e w5 (⟨hn, rfl, lv1, hds, haf⟩ | ⟨j, x, hx, he, rfl, hb⟩)
  rotate_left
  · exfalso
    have hj : x = cB := by
      have h1 := List.mem_of_getElem? hx
      simpa using h1
    rw [hj, ceqBA] at he
    cases he
  have HD3 := hide hds
  have HK3 := hide (haf.blk HDX1.out HKX1.out haD haM (by decide))
  have HB3 := hide (HBX1.out.trans (haf.below HDX1.out HBX1.out.size))
  clear hn hds haf p0 p1 p2 p3 p4 p5 KA1
  have m0 := HK3.out.cell 1
  have n0 := HK3.out.frozen 1
  simp at m0
  go_wp2_with fail
  obtain ⟨w6, hw⟩ : ∃ w6, w5.setCell ⟨a, 1, none⟩ (.int .i64 1) = w6 := ⟨_, rfl⟩
  have hds4 : DS w6 (w.heap.size + 1) w.heap.size w.heap.size (lv1) 5 [cB, cA] := by rw [← hw]; exact HD3.out.setAt HK3.out haD haM (by decide) _ _
  have hk4 : Blk w6 a 3 #[.int .i64 0, .int .i64 1, .int .i64 0] := by rw [← hw]; exact HK3.out.set 1 _
  have hb4 : Below w.heap.size w w6 := by rw [← hw]; exact HB3.out.setCell (by exact hlz) _
  have HDS6 := hide hds4
  have HK6 := hide hk4
  have HB6 := hide hb4
  rw [hw]
  clear hw hds4 hk4 hb4 m0 n0 HD3 HK3 HB3
  rw [rounds_succ]
  obtain ⟨p0, p1, p2, p3, p4, p5⟩ := (⟨(HB6.out.cell hg).trans H2.out.c0, (HB6.out.cell hg).trans H2.out.c1, (HB6.out.cell hg).trans H2.out.c2, (HB6.out.cell hg).trans H2.out.c3, (HB6.out.cell hg).trans H2.out.c4, (HB6.out.cell hg).trans H2.out.c5⟩ : AtC w6 g 12 false 0 0 ⟨#[98]⟩ 0 0)
  simp only [Nat.zero_add, Nat.reduceAdd] at p0 p1 p2 p3 p4 p5
  have KA2 := hide (fun w' h hB => KA.out (w.heap.size + 1) w.heap.size w.heap.size (lv1) [cB, cA] (by decide) cB kgB w' h hB)
  rw [vB] at KA2
  have hbx2 : Below w6.heap.size w6 (w6.alloc (.cells #[.bool false, .bool false, .int .i64 0, .int .u64 0, .string ⟨#[98]⟩, .complex .f64 0 0] 34)) := (Below.refl _ _).alloc (Nat.le_refl _) _
  have HDX2 := hide (HDS6.out.below hbx2)
  have HKX2 := hide (HK6.out.below hbx2 HK6.out.lt)
  have HBX2 := hide (HB6.out.trans (hbx2.mono HB6.out.size))
  clear hbx2
  go_wp2_with fail
  refine (KA2.out _ HDX2.out HBX2.out.size).mono ?_
  rintro e w7 (⟨hn, rfl, lv2, hds, haf⟩ | ⟨j, x, hx, he, rfl, hb⟩)
  · exfalso
    have := hn cB (by simp)
    rw [ceqBB] at this
    cases this
  have hj0 : j = 0 := by
    match j, hx with
    | 0, _ => rfl
    | 1, hx => have hxe : x = cA := by simpa using hx.symm
               rw [hxe, ceqAB] at he; cases he
    | j + 2, hx => simp at hx
  subst hj0
  have HD3 := hide (HDX2.out.below hb)
  have HK3 := hide (HKX2.out.below hb HKX2.out.lt)
  have HB3 := hide (HBX2.out.trans (hb.mono HBX2.out.size))
  clear hx he hb p0 p1 p2 p3 p4 p5 KA2
  have m0 := HK3.out.cell 2
  have n0 := HK3.out.frozen 2
  simp at m0
  go_wp2_with fail
  obtain ⟨w8, hw⟩ : ∃ w8, w7.setCell ⟨a, 2, none⟩ (.int .i64 0) = w8 := ⟨_, rfl⟩
  have hds4 : DS w8 (w.heap.size + 1) w.heap.size w.heap.size (lv1) 5 [cB, cA] := by rw [← hw]; exact HD3.out.setAt HK3.out haD haM (by decide) _ _
  have hk4 : Blk w8 a 3 #[.int .i64 0, .int .i64 1, .int .i64 0] := by rw [← hw]; exact HK3.out.set 2 _
  have hb4 : Below w.heap.size w w8 := by rw [← hw]; exact HB3.out.setCell (by exact hlz) _
  have HDS8 := hide hds4
  have HK8 := hide hk4
  have HB8 := hide hb4
  rw [hw]
  clear hw hds4 hk4 hb4 m0 n0 HD3 HK3 HB3
  rw [rounds_succ]
  go_wp2_with fail
  go_ret2
  exact ⟨w.heap.size + 1, w.heap.size, a, _, rfl, HDS8.out, HK8.out, HB8.out⟩
end Go.Proofs.YtihbcojmonlcgaaDoor
namespace Go.Proofs.YtihbcojmonlcgaaDoor
open Go.RowKit

theorem bl11 : strN [2, 1, 98, 1, 97, 0, 1, 0] = ⟨#[2, 1, 98, 1, 97, 0, 1, 0]⟩ := strN_bn ⟨#[2, 1, 98, 1, 97, 0, 1, 0]⟩
set_option maxHeartbeats 8000000 in
set_option maxRecDepth 100000 in
theorem encode3 (g : Nat) (w : World) (h0 : AtC w g 0 false 0 0 ⟨#[98]⟩ 0 0) (h1 : AtC w g 6 false 0 0 ⟨#[97]⟩ 0 0) (h2 : AtC w g 12 false 0 0 ⟨#[98]⟩ 0 0) :
    Calls Tryd.prog 60 #[.int .i64 5, .slice (some ⟨g, 0, none⟩) 3 3] w fun e w' => e = .returned (.string ⟨#[2, 1, 98, 1, 97, 0, 1, 0]⟩) ∧ Below w.heap.size w w' := by
  have KM := hide (make3 g w h0 h1 h2)
  unfold Mk3Post at KM
  have KL := hide dlen_any
  have KU := hide (fun W B sv l (x : Nat) (hx : x < 128) w h hl hB => (show Calls Tryd.prog 65 #[.pointer (some ⟨W, 0, none⟩), .int .u64 x] w (WPost W B w sv (l ++ [x])) from by have := wuvar_any W B sv l x (by omega) w h hl hB; rwa [uvar_small hx] at this))
  have KPB := hide (fun W B sv l w h hl hB => pput_text W B sv l cB (by decide) w h hl hB)
  have KPA := hide (fun W B sv l w h hl hB => pput_text W B sv l cA (by decide) w h hl hB)
  rw [vB, show cB.t.size = 1 from rfl, uvar_small (by omega), show bn cB.t = [98] from rfl] at KPB
  rw [vA, show cA.t.size = 1 from rfl, uvar_small (by omega), show bn cA.t = [97] from rfl] at KPA
  have hst := fun (w1 : World) (a1 : Addr) (m : Mode) (x y : Nat) => run_store Tryd.prog w1 a1 (.complex .f64 x y) m rfl
  clear h0 h1 h2
  go_enter Tryd.func60, Tryd.ntmps60
  go_wp2_with fail
  refine KM.out.mono ?_
  rintro e w0 ⟨D, M, a, lv, rfl, hds, hka, hb0⟩
  have HDS := hide hds
  have HKA := hide hka
  have HB0 := hide hb0
  clear hds hka hb0 KM
  go_wp2_with fail
  obtain ⟨w1, hw1⟩ : ∃ w1, w0.alloc (.cells #[.slice none 0 0] 100) = w1 := ⟨_, rfl⟩
  rw [hw1]
  have hwr1 : Wr w1 w0.heap.size w0.heap.size (.slice none 0 0) [] := by rw [← hw1]; exact ⟨Blk.new _ _ _, ownU8_nil _ _, Nat.le_refl _⟩
  have hb1 : Below w0.heap.size w0 w1 := by rw [← hw1]; exact (Below.refl _ _).alloc (Nat.le_refl _) _
  have HW1 := hide hwr1
  have HB1 := hide hb1
  clear hw1 hwr1 hb1
  have KL1 := hide (KL.out D _ M lv 5 [cB, cA] w1 (HDS.out.below HB1.out))
  rw [show (([cB, cA] : List CD).length : Int) = 2 from rfl] at KL1
  refine KL1.out.mono ?_
  rintro e w2 ⟨rfl, rfl⟩
  go_wp2_with fail
  refine (KU.out _ _ _ _ 2 (by omega) _ HW1.out (by simp) HB1.out.size).mono ?_
  rintro e w2 ⟨rfl, sv2, hw2, hs2⟩
  have HB2 := hide (HB1.out.trans (hs2.below HW1.out HB1.out.size))
  have HW2 := hide hw2
  have d1 := ((HDS.out.below HB2.out).blk).cell 1
  obtain ⟨LA, lc, rfl⟩ := own_form3 HDS.out.own
  simp only [List.length_cons, List.length_nil, Nat.zero_add, Nat.reduceAdd] at HDS d1
  obtain ⟨gd, gc, hgd⟩ := own_addr HDS.out.own (by simp)
  have hLA : LA = some ⟨gd, 0, none⟩ := by injection hgd
  subst hLA
  have HO0 := hide (own_atC (i := 0) (x := cB) HDS.out.own rfl rfl)
  have HO1 := hide (own_atC (i := 1) (x := cA) HDS.out.own rfl rfl)
  have hgl := cell_in HO0.out.c0
  simp at d1
  clear hw2 hs2 hgd KL1
  go_wp2_with fail
  refine wp_loop_rounds 3 ?_
  rw [rounds_succ]
  obtain ⟨p0, p1, p2, p3, p4, p5⟩ := (⟨(HB2.out.cell hgl).trans HO0.out.c0, (HB2.out.cell hgl).trans HO0.out.c1, (HB2.out.cell hgl).trans HO0.out.c2, (HB2.out.cell hgl).trans HO0.out.c3, (HB2.out.cell hgl).trans HO0.out.c4, (HB2.out.cell hgl).trans HO0.out.c5⟩ : AtC w2 gd 0 false 0 0 ⟨#[98]⟩ 0 0)
  simp only [Nat.zero_add] at p0 p1 p2 p3 p4 p5
  have hbx2 : Below w2.heap.size w2 (w2.alloc (.cells #[.bool false, .bool false, .int .i64 0, .int .u64 0, .string ⟨#[98]⟩, .complex .f64 0 0] 34)) := (Below.refl _ _).alloc (Nat.le_refl _) _
  have HWX2 := hide (HW2.out.below hbx2)
  have HBX2 := hide (HB2.out.trans (hbx2.mono HB2.out.size))
  clear hbx2
  go_wp2_with fail
  refine (KPB.out _ _ _ _ _ HWX2.out (by simp) HBX2.out.size).mono ?_
  rintro e w3 ⟨rfl, sv3, hw, hs⟩
  have HB3 := hide (HBX2.out.trans (hs.below HWX2.out HBX2.out.size))
  have HW3 := hide hw
  clear hw hs p0 p1 p2 p3 p4 p5 HWX2 HBX2
  go_wp2_with fail
  rw [rounds_succ]
  obtain ⟨p0, p1, p2, p3, p4, p5⟩ := (⟨(HB3.out.cell hgl).trans HO1.out.c0, (HB3.out.cell hgl).trans HO1.out.c1, (HB3.out.cell hgl).trans HO1.out.c2, (HB3.out.cell hgl).trans HO1.out.c3, (HB3.out.cell hgl).trans HO1.out.c4, (HB3.out.cell hgl).trans HO1.out.c5⟩ : AtC w3 gd 6 false 0 0 ⟨#[97]⟩ 0 0)
  have hbx3 : Below w3.heap.size w3 (w3.alloc (.cells #[.bool false, .bool false, .int .i64 0, .int .u64 0, .string ⟨#[97]⟩, .complex .f64 0 0] 34)) := (Below.refl _ _).alloc (Nat.le_refl _) _
  have HWX3 := hide (HW3.out.below hbx3)
  have HBX3 := hide (HB3.out.trans (hbx3.mono HB3.out.size))
  clear hbx3
  go_wp2_with fail
  refine (KPA.out _ _ _ _ _ HWX3.out (by simp) HBX3.out.size).mono ?_
  rintro e w4 ⟨rfl, sv4, hw, hs⟩
  have HB4 := hide (HBX3.out.trans (hs.below HWX3.out HBX3.out.size))
  have HW4 := hide hw
  clear hw hs p0 p1 p2 p3 p4 p5 HWX3 HBX3
  go_wp2_with fail
  rw [rounds_succ]
  go_wp2_with fail
  refine wp_loop_rounds 4 ?_
  rw [rounds_succ]
  have m0 := (HKA.out.below HB4.out HKA.out.lt).cell 0
  simp at m0
  go_wp2_with fail
  refine (KU.out _ _ _ _ 0 (by omega) _ HW4.out (by simp) HB4.out.size).mono ?_
  rintro e w5 ⟨rfl, sv5, hw, hs⟩
  have HB5 := hide (HB4.out.trans (hs.below HW4.out HB4.out.size))
  have HW5 := hide hw
  clear hw hs m0
  go_wp2_with fail
  rw [rounds_succ]
  have m0 := (HKA.out.below HB5.out HKA.out.lt).cell 1
  simp at m0
  go_wp2_with fail
  refine (KU.out _ _ _ _ 1 (by omega) _ HW5.out (by simp) HB5.out.size).mono ?_
  rintro e w6 ⟨rfl, sv6, hw, hs⟩
  have HB6 := hide (HB5.out.trans (hs.below HW5.out HB5.out.size))
  have HW6 := hide hw
  clear hw hs m0
  go_wp2_with fail
  rw [rounds_succ]
  have m0 := (HKA.out.below HB6.out HKA.out.lt).cell 2
  simp at m0
  go_wp2_with fail
  refine (KU.out _ _ _ _ 0 (by omega) _ HW6.out (by simp) HB6.out.size).mono ?_
  rintro e w7 ⟨rfl, sv7, hw, hs⟩
  have HB7 := hide (HB6.out.trans (hs.below HW6.out HB6.out.size))
  have HW7 := hide hw
  clear hw hs m0
  go_wp2_with fail
  rw [rounds_succ]
  have KS := hide (wstring_any _ _ _ _ _ HW7.out)
  rw [show [] ++ [2] ++ ([1] ++ [98]) ++ ([1] ++ [97]) ++ [0] ++ [1] ++ [0] = [2, 1, 98, 1, 97, 0, 1, 0] from rfl, bl11] at KS
  go_wp2_with fail
  refine KS.out.mono ?_
  rintro e w8 ⟨rfl, rfl⟩
  go_wp2_with fail
  go_ret
  exact ⟨rfl, HB0.out.trans (HB7.out.mono HB0.out.size)⟩
set_option maxHeartbeats 1000000 in
set_option maxRecDepth 100000 in
theorem awake11 : Awake11 := by
  intro w hT
  have KE := hide encode3
  clear hT
  go_enter Tryd.func27, Tryd.ntmps27
  go_wp2_with fail
  have hk := Blk.new w #[.bool false, .bool false, .int .i64 0, .int .u64 0, .string ⟨#[98]⟩, .complex .f64 0 0, .bool false, .bool false, .int .i64 0, .int .u64 0, .string ⟨#[97]⟩, .complex .f64 0 0, .bool false, .bool false, .int .i64 0, .int .u64 0, .string ⟨#[98]⟩, .complex .f64 0 0] 34
  refine (KE.out w.heap.size _ ⟨hk.cell 0, hk.cell 1, hk.cell 2, hk.cell 3, hk.cell 4, hk.cell 5⟩ ⟨hk.cell 6, hk.cell 7, hk.cell 8, hk.cell 9, hk.cell 10, hk.cell 11⟩ ⟨hk.cell 12, hk.cell 13, hk.cell 14, hk.cell 15, hk.cell 16, hk.cell 17⟩).mono ?_
  rintro e w1 ⟨rfl, hb1⟩
  have HB1 := hide (((Below.refl w.heap.size w).alloc (Nat.le_refl _) _).trans (hb1.mono (by simp)))
  clear hb1 hk
  go_wp2_with fail
  go_ret
  exact ⟨rfl, HB1.out⟩
theorem dictReads_walk (k : Int) (_hw : (Lit.int .i64 k).wf = true) (s : ByteArray) (hs : s.size ≤ maxLen) (n : Int) (_hn : (Lit.int .i64 n).wf = true) (w : World) (hT : Tabs w) :
    Calls Tryd.prog 8 #[.int .i64 k, .string s, .int .i64 n] w fun e w' => e = .returned (.bool true) ∧ Below w.heap.size w w' :=
  dictReads_awake awake11 k _hw s hs n _hn w hT
end Go.Proofs.YtihbcojmonlcgaaDoor
