/- Runs, written: three cells, and the chapter's examples; the law. -/
import Derived.Test.YtihbcojmonlcgaaDoorRunsD
import Derived.Test.YtihbcojmonlcgaaDoorPlainA
import Derived.Test.YtihbcojmonlcgaaDoorRange
import Derived.Shelf.Abstract
import Derived.Shelf.RegionOpen
import Derived.OwnWalkIn
import Derived.TacticsInMore
import Derived.LoopNIn
import Derived.LoopIn
namespace Go.Proofs.YtihbcojmonlcgaaDoor
section
open Go.RowKit Go.Shelf
attribute [local go_sem] Oper.semAt_some

set_option maxHeartbeats 1000000 in
set_option maxRecDepth 100000 in
theorem pput_bool (W B : Nat) (sv : Value) (l : List Nat) (c : CD) (w : World) (h : Wr w W B sv l) (hl : l.length ≤ 1000) (hB : B ≤ w.heap.size) :
    Calls Tryd.prog 85 #[.pointer (some ⟨W, 0, none⟩), .int .i64 1, c.v] w (WPost W B w sv (l ++ [if c.b then 1 else 0])) := by
  have K := hide (fun (o : Obj) => wu8_any W B sv l (if c.b then 1 else 0) (w.alloc o) (h.below ((Below.refl _ _).alloc (Nat.le_refl _) _)) (by omega) (by simp; omega))
  have HB := hide hB
  clear hB hl h
  obtain ⟨cb, cx, cu, ct, cp, cq⟩ := c
  unfold CD.v clV clA
  cases cb
  all_goals
    go_enter Tryd.func85, Tryd.ntmps85
    go_wp2_with fail
    refine (K.out _).mono ?_
    rintro e w1 ⟨rfl, sv1, hw1, hs1⟩
    have HW1 := hide hw1
    have HS1 := hide (WS.ahead ((Below.refl w.heap.size w).alloc (Nat.le_refl _) _) hs1)
    clear hw1 hs1
    go_wp2_with fail
    go_end0
    exact ⟨rfl, sv1, HW1.out, HS1.out⟩
theorem Blk.cellsB {w : World} {b : Nat} {t : TypeId} {cs : Array Value} (h : Blk w b t cs) : ∃ o, w.heap[b]? = some o ∧ o.isCells = true := ⟨_, h.out, rfl⟩
theorem own_cellsB {w : World} {B n sz : Nat} {e : TypeId} {v : Value} {xs : List Value} (h : w.ownsRow B e sz v n xs) {k : Nat} (hk : v.ownBlock = some k) : ∃ o, w.heap[k]? = some o ∧ o.isCells = true := by
  rcases h.2 with ⟨rfl, _⟩ | ⟨g, cap, cur, rfl, _, hg, _⟩
  · simp [Value.ownBlock] at hk
  · simp [Value.ownBlock] at hk
    subst hk
    exact ⟨_, hg, rfl⟩
theorem keeps_fr {B : Nat} {W W' : World} {S : Nat → Prop} (hf : Fr W W' S) (hS : ∀ k, S k → ∃ o, W.heap[k]? = some o ∧ o.isCells = true) : KeepsFrom B W W' :=
  ⟨hf.size, fun k o _ hk ho => (hf.block k (Array.getElem?_eq_some_iff.1 hk).1 (fun hs => by
    obtain ⟨o2, h2, hc⟩ := hS k hs
    rw [hk] at h2; injection h2 with h2; subst h2; rw [ho] at hc; cases hc)).trans hk⟩
/-- A fence whose functions are told by a hypothesis. -/
def FnS (S : FuncId → Prop) : Fence := { fn := S, depth := none, alive := false }
abbrev C9 (b : Bool) : CD := ⟨b, 0, 0, ByteArray.empty, 0, 0⟩
def row9 (b : Bool) : List Value := [.bool false, .bool b, .int .i64 0, .int .u64 0, .string ByteArray.empty, .complex .f64 0 0]
def cells9 : Array Value := (row9 true ++ row9 true ++ row9 false).toArray
def run9 (b : Bool) (n : Int) : Array Value := #[.bool false, .bool b, .int .i64 0, .int .u64 0, .string ByteArray.empty, .complex .f64 0 0, .int .i64 n]
def enc9 (x : Bool × Nat) : Array Value := #[.agg (run9 x.1 (x.2 : Nat))]
def by9 (l : List (Bool × Nat)) : List Nat := l.flatMap fun x => [x.2, if x.1 then 1 else 0]
theorem by9_snoc (l : List (Bool × Nat)) (x : Bool × Nat) : by9 (l ++ [x]) = by9 l ++ [x.2] ++ [if x.1 then 1 else 0] := by simp [by9]
/-- The state of the three cells' writing. -/
structure S9 (w0 : World) (g : Nat) (l : List Nat) (W : World) : Prop where
  bk : Blk W w0.heap.size 3 #[.int .i64 1]
  wr : ∃ sv, Wr W (w0.heap.size + 1) w0.heap.size sv l
  ek : Blk W (w0.heap.size + 2) 3 #[.int .i64 1]
  el : Blk W (w0.heap.size + 3) 30 #[.slice (some ⟨g, 0, none⟩) 3 3]
  arr : Blk W g 34 cells9
  glt : g < w0.heap.size
  below : Below w0.heap.size w0 W
theorem S9.fr {w0 W W' : World} {g : Nat} {l : List Nat} {S : Nat → Prop} (h : S9 w0 g l W) (hf : Fr W W' S)
    (hS : ∀ k, S k → w0.heap.size + 4 ≤ k ∧ ∀ o, W.heap[k]? = some o → o.isCells = false) : S9 w0 g l W' := by
  have hn : ∀ k, k < w0.heap.size + 4 → ¬ S k := fun k hk hs => by have := (hS k hs).1; omega
  obtain ⟨sv, hw⟩ := h.wr
  refine ⟨h.bk.fr hf (hn _ (by omega)), ⟨sv, hw.blk.fr hf (hn _ (by omega)), hw.own.fr hf (fun k hk hs => ?_), hw.leW⟩, h.ek.fr hf (hn _ (by omega)), h.el.fr hf (hn _ (by omega)), h.arr.fr hf (hn _ (by have := h.glt; omega)), h.glt, h.below.trans (hf.below h.below.size (fun k hs => by have := (hS k hs).1; omega))⟩
  have ho := hw.own
  unfold OwnU8 at ho
  obtain ⟨o, ho1, hc⟩ := own_cellsB ho hk
  have := (hS k hs).2 o ho1
  rw [hc] at this; cases this
/-- The writer has turned, and nothing else. -/
theorem S9.step {w0 W W' : World} {g : Nat} {l l' : List Nat} {sv sv' : Value} (h : S9 w0 g l W) (hw : Wr W (w0.heap.size + 1) w0.heap.size sv l) (hw' : Wr W' (w0.heap.size + 1) w0.heap.size sv' l') (hs : WS (w0.heap.size + 1) W sv W' sv') : S9 w0 g l' W' := by
  have hne : ∀ {b t cs}, Blk W b t cs → t ≠ 5 → b ≠ w0.heap.size + 1 → Blk W' b t cs := fun hb ht hk => hb.fr hs.fr (fun e => by
    rcases e with e | e
    · exact hk e
    · exact hw.own.ne hb ht e.symm)
  exact ⟨hne h.bk (by decide) (by omega), ⟨sv', hw'⟩, hne h.ek (by decide) (by omega), hne h.el (by decide) (by omega), hne h.arr (by decide) (by have := h.glt; omega), h.glt, h.below.trans (hs.below hw h.below.size)⟩
theorem s9_own (w0 : World) (g : Nat) (B : Nat) (hB : w0.heap.size + 4 ≤ B) {β : Type} (c : β → Prop) (f : β → List Nat) : OwnFrom B (fun (x : β) W => c x ∧ S9 w0 g (f x) W) := by
  rintro x W W' row ⟨hc, h⟩ hg hr
  refine ⟨hc, h.fr (Fr.of_grown hg) (fun k hk => ?_)⟩
  obtain ⟨h1, o, ho, hc⟩ := hr k hk.symm
  refine ⟨by omega, fun o2 ho2 => ?_⟩
  rw [ho] at ho2
  injection ho2 with ho2
  subst ho2
  exact hc
set_option maxHeartbeats 1000000 in
set_option maxRecDepth 100000 in
theorem reach9_any (g : Nat) (w : World) :
    Calls Tryd.prog 97 #[.int .i64 1, .slice (some ⟨g, 0, none⟩) 3 3] w fun e w' =>
      e = .returned (.func (.func 111) #[] #[.pointer (some ⟨w.heap.size + 1, 0, none⟩), .pointer (some ⟨w.heap.size, 0, none⟩)]) ∧
      (w.alloc (.cells #[.int .i64 1] 3)).alloc (.cells #[.slice (some ⟨g, 0, none⟩) 3 3] 30) = w' := by
  go_enter Tryd.func97, Tryd.ntmps97
  go_wp2_with fail
  go_ret
  exact ⟨rfl, rfl⟩

abbrev FnT : Fence := FnS (fun _ => True)
theorem eq9 (a b : Bool) (w : World) : Calls Tryd.prog 57 #[.int .i64 1, .agg #[.bool false, .bool a, .int .i64 0, .int .u64 0, .string ByteArray.empty, .complex .f64 0 0], .agg #[.bool false, .bool b, .int .i64 0, .int .u64 0, .string ByteArray.empty, .complex .f64 0 0]] w fun e w' => e = .returned (.bool (a == b)) ∧ Below w.heap.size w w' := by
  have h : ceq 1 (C9 a) (C9 b) = (a == b) := by cases a <;> cases b <;> rfl
  rw [← h]
  exact sequal_any 1 (by omega) (by omega) (C9 a) (C9 b) w
set_option maxHeartbeats 4000000 in
set_option maxRecDepth 100000 in
theorem each9_in (w0 : World) (g : Nat) (n : Nat) (hn : 2 ≤ n) (l : Nat) (K : World → Prop) (hK : CellsKeep K)
    (hY : ∀ pre x W, (pre.length ≤ 1 ∧ x.2 < 128) ∧ S9 w0 g (by9 pre) W → K W → YieldAt FnT (n - 1) Tryd.prog l (enc9 x) W fun e W' => e = .returned (.bool true) ∧ ((pre ++ [x]).length ≤ 2 ∧ S9 w0 g (by9 (pre ++ [x])) W') ∧ K W')
    (W : World) (h0 : S9 w0 g (by9 []) W) (hk0 : K W) :
    CallsIn FnT n Tryd.prog 111 (#[.func (.yield l) #[] #[]] ++ #[.pointer (some ⟨w0.heap.size + 3, 0, none⟩), .pointer (some ⟨w0.heap.size + 2, 0, none⟩)]) W fun e W' => (∃ v, e = .returned v) ∧ ∃ xs, (by9 xs = [2, 1, 1, 0] ∧ S9 w0 g (by9 xs) W') ∧ K W' := by
  have KTT := hide (eq9 true true)
  have KTF := hide (eq9 true false)
  have hn1 : 1 ≤ n := by omega
  have hro : FnT.round = none := rfl
  refine callsIn_of_wp Tryd.func111 rfl trivial ?_ rfl
  simp only [Tryd.ntmps111, List.size_toArray, List.length_cons, List.length_nil, Nat.reduceAdd, Nat.reduceSub, Array.replicate_succ, Array.replicate_zero, List.push_toArray, List.append_toArray, List.nil_append, List.cons_append]
  gi_wp2
  gi_loopw [4] (fun fv wr => ∃ pre : List (Bool × Nat), ((pre = [] ∧ fv = .int .i64 0) ∨ (pre = [(true, 2)] ∧ fv = .int .i64 2) ∨ (pre = [(true, 2), (false, 1)] ∧ fv = .int .i64 3)) ∧ Hid (S9 w0 g (by9 pre) wr) ∧ Hid (K wr)) (fun fv _ => 3 - (intOf fv).toNat)
  case atStart => exact ⟨[], .inl ⟨rfl, rfl⟩, h0, hk0⟩
  case round =>
    obtain ⟨pre, hpre, hst, hk⟩ := hrel
    have c1 := hst.out.el.cell 0
    have c2 := hst.out.ek.cell 0
    simp at c1 c2
    rcases hpre with ⟨rfl, rfl⟩ | ⟨rfl, rfl⟩ | ⟨rfl, rfl⟩
    · gi_wp2
      gi_loopw [5] (fun tv wx => (tv = .int .i64 1 ∨ tv = .int .i64 2) ∧ Hid (Fr wr wx (fun _ => False))) (fun tv _ => 3 - (intOf tv).toNat)
      case atStart => exact ⟨.inl rfl, Fr.refl _ _⟩
      case round =>
        obtain ⟨htv, hfr⟩ := hrel
        have HS2 := hide (hst.out.fr hfr.out (fun _ h => h.elim))
        have HK2 := hide (hK _ _ _ hfr.out (fun _ h => h.elim) hk.out)
        clear c1 c2
        have a := HS2.out.arr
        have d1 := HS2.out.el.cell 0
        have d2 := HS2.out.ek.cell 0
        have g0 := a.cell 0
        have g1 := a.cell 1
        have g2 := a.cell 2
        have g3 := a.cell 3
        have g4 := a.cell 4
        have g5 := a.cell 5
        have g6 := a.cell 6
        have g7 := a.cell 7
        have g8 := a.cell 8
        have g9 := a.cell 9
        have g10 := a.cell 10
        have g11 := a.cell 11
        have g12 := a.cell 12
        have g13 := a.cell 13
        have g14 := a.cell 14
        have g15 := a.cell 15
        have g16 := a.cell 16
        have g17 := a.cell 17
        simp [cells9, row9] at d1 d2 g0 g1 g2 g3 g4 g5 g6 g7 g8 g9 g10 g11 g12 g13 g14 g15 g16 g17
        have r0 := cell_regrown d1
        have r1 := cell_regrown d2
        have q0 := cell_regrown g0
        have q1 := cell_regrown g1
        have q2 := cell_regrown g2
        have q3 := cell_regrown g3
        have q4 := cell_regrown g4
        have q5 := cell_regrown g5
        have q6 := cell_regrown g6
        have q7 := cell_regrown g7
        have q8 := cell_regrown g8
        have q9 := cell_regrown g9
        have q10 := cell_regrown g10
        have q11 := cell_regrown g11
        have q12 := cell_regrown g12
        have q13 := cell_regrown g13
        have q14 := cell_regrown g14
        have q15 := cell_regrown g15
        have q16 := cell_regrown g16
        have q17 := cell_regrown g17
        clear a d1 d2 g0 g1 g2 g3 g4 g5 g6 g7 g8 g9 g10 g11 g12 g13 g14 g15 g16 g17
        rcases htv with rfl | rfl
        · gi_wp2_with fail
          have KQ := hide (fun d os => Calls.regrown_of (d := d) (os := os) (KTT.out (Sort.grow (redrawn wr d) os)))
          refine (wpIn_wide).2 ?_
          refine wp_region_quiet_below (by kernel_rfl) (by kernel_rfl) ?_
          repeat (go_big_quiet_step (exact KQ.out _ _))
          refine wpQuiet_nil ?_
          intro _ hw'
          obtain ⟨⟨dq, osq⟩, hw''⟩ := hw'
          subst hw''
          have hb4 := below_regrown wr dq osq
          generalize Sort.grow (redrawn wr dq) osq = w4 at *
          clear r0 r1 q0 q1 q2 q3 q4 q5 q6 q7 q8 q9 q10 q11 q12 q13 q14 q15 q16 q17
          have HF4 := hide (hfr.out.trans (Fr.of_below hb4 (fun _ => False)) (fun _ _ h => h))
          clear hb4
          gi_wp2
          go_roundw
          case rel => exact ⟨.inr rfl, HF4.out⟩
          case measure => simp [intOf]
        · gi_wp2_with fail
          have KQ := hide (fun d os => Calls.regrown_of (d := d) (os := os) (KTF.out (Sort.grow (redrawn wr d) os)))
          refine (wpIn_wide).2 ?_
          refine wp_region_quiet_below (by kernel_rfl) (by kernel_rfl) ?_
          repeat (go_big_quiet_step (exact KQ.out _ _))
          refine wpQuiet_nil ?_
          intro _ hw'
          obtain ⟨⟨dq, osq⟩, hw''⟩ := hw'
          subst hw''
          have hb4 := below_regrown wr dq osq
          generalize Sort.grow (redrawn wr dq) osq = w4 at *
          clear r0 r1 q0 q1 q2 q3 q4 q5 q6 q7 q8 q9 q10 q11 q12 q13 q14 q15 q16 q17
          have hf4 : Fr wr w4 (fun _ => False) := Fr.of_below hb4 _
          have HS4 := hide (HS2.out.fr hf4 (fun _ h => h.elim))
          have HK4 := hide (hK _ _ _ hf4 (fun _ h => h.elim) HK2.out)
          obtain ⟨fn, tmps, assign, body, hy, hR⟩ := hY [] (true, 2) _ ⟨⟨by decide, by decide⟩, HS4.out⟩ HK4.out
          rw [show enc9 (true, 2) = #[.agg #[.bool false, .bool true, .int .i64 0, .int .u64 0, .string ByteArray.empty, .complex .f64 0 0, .int .i64 2]] from rfl] at hy
          have HR := hide hR
          clear hR hb4 hf4
          have a := HS4.out.arr
          have d1 := HS4.out.el.cell 0
          have d2 := HS4.out.ek.cell 0
          have g0 := a.cell 0
          have g1 := a.cell 1
          have g2 := a.cell 2
          have g3 := a.cell 3
          have g4 := a.cell 4
          have g5 := a.cell 5
          have g6 := a.cell 6
          have g7 := a.cell 7
          have g8 := a.cell 8
          have g9 := a.cell 9
          have g10 := a.cell 10
          have g11 := a.cell 11
          have g12 := a.cell 12
          have g13 := a.cell 13
          have g14 := a.cell 14
          have g15 := a.cell 15
          have g16 := a.cell 16
          have g17 := a.cell 17
          simp [cells9, row9] at d1 d2 g0 g1 g2 g3 g4 g5 g6 g7 g8 g9 g10 g11 g12 g13 g14 g15 g16 g17
          clear a
          gi_wp2
          refine HR.out.mono ?_
          rintro e W3 ⟨rfl, ⟨_, hst3⟩, hk3⟩
          have HS3 := hide hst3
          have HK3 := hide hk3
          clear hst3 hk3
          gi_wp2
          go_roundw
          case rel => exact ⟨[(true, 2)], .inr (.inl ⟨rfl, rfl⟩), HS3.out, HK3.out⟩
          case measure => simp [intOf]
    · gi_wp2
      gi_loopw [5] (fun tv wx => tv = .int .i64 3 ∧ Hid (Fr wr wx (fun _ => False))) (fun tv _ => 3 - (intOf tv).toNat)
      case atStart => exact ⟨rfl, Fr.refl _ _⟩
      case round =>
        obtain ⟨rfl, hfr⟩ := hrel
        have HS2 := hide (hst.out.fr hfr.out (fun _ h => h.elim))
        have HK2 := hide (hK _ _ _ hfr.out (fun _ h => h.elim) hk.out)
        clear c1 c2
        have a := HS2.out.arr
        have d1 := HS2.out.el.cell 0
        have d2 := HS2.out.ek.cell 0
        have g0 := a.cell 0
        have g1 := a.cell 1
        have g2 := a.cell 2
        have g3 := a.cell 3
        have g4 := a.cell 4
        have g5 := a.cell 5
        have g6 := a.cell 6
        have g7 := a.cell 7
        have g8 := a.cell 8
        have g9 := a.cell 9
        have g10 := a.cell 10
        have g11 := a.cell 11
        have g12 := a.cell 12
        have g13 := a.cell 13
        have g14 := a.cell 14
        have g15 := a.cell 15
        have g16 := a.cell 16
        have g17 := a.cell 17
        simp [cells9, row9] at d1 d2 g0 g1 g2 g3 g4 g5 g6 g7 g8 g9 g10 g11 g12 g13 g14 g15 g16 g17
        have r0 := cell_regrown d1
        have r1 := cell_regrown d2
        have q0 := cell_regrown g0
        have q1 := cell_regrown g1
        have q2 := cell_regrown g2
        have q3 := cell_regrown g3
        have q4 := cell_regrown g4
        have q5 := cell_regrown g5
        have q6 := cell_regrown g6
        have q7 := cell_regrown g7
        have q8 := cell_regrown g8
        have q9 := cell_regrown g9
        have q10 := cell_regrown g10
        have q11 := cell_regrown g11
        have q12 := cell_regrown g12
        have q13 := cell_regrown g13
        have q14 := cell_regrown g14
        have q15 := cell_regrown g15
        have q16 := cell_regrown g16
        have q17 := cell_regrown g17
        clear a d1 d2 g0 g1 g2 g3 g4 g5 g6 g7 g8 g9 g10 g11 g12 g13 g14 g15 g16 g17
        · gi_wp2_with fail
          refine (wpIn_wide).2 ?_
          refine wp_region_quiet_below (by kernel_rfl) (by kernel_rfl) ?_
          repeat (go_big_quiet_step (fail))
          refine wpQuiet_nil ?_
          intro _ hw'
          obtain ⟨⟨dq, osq⟩, hw''⟩ := hw'
          subst hw''
          have hb4 := below_regrown wr dq osq
          generalize Sort.grow (redrawn wr dq) osq = w4 at *
          clear r0 r1 q0 q1 q2 q3 q4 q5 q6 q7 q8 q9 q10 q11 q12 q13 q14 q15 q16 q17
          have hf4 : Fr wr w4 (fun _ => False) := Fr.of_below hb4 _
          have HS4 := hide (HS2.out.fr hf4 (fun _ h => h.elim))
          have HK4 := hide (hK _ _ _ hf4 (fun _ h => h.elim) HK2.out)
          obtain ⟨fn, tmps, assign, body, hy, hR⟩ := hY [(true, 2)] (false, 1) _ ⟨⟨by decide, by decide⟩, HS4.out⟩ HK4.out
          rw [show enc9 (false, 1) = #[.agg #[.bool false, .bool false, .int .i64 0, .int .u64 0, .string ByteArray.empty, .complex .f64 0 0, .int .i64 1]] from rfl] at hy
          have HR := hide hR
          clear hR hb4 hf4
          have a := HS4.out.arr
          have d1 := HS4.out.el.cell 0
          have d2 := HS4.out.ek.cell 0
          have g0 := a.cell 0
          have g1 := a.cell 1
          have g2 := a.cell 2
          have g3 := a.cell 3
          have g4 := a.cell 4
          have g5 := a.cell 5
          have g6 := a.cell 6
          have g7 := a.cell 7
          have g8 := a.cell 8
          have g9 := a.cell 9
          have g10 := a.cell 10
          have g11 := a.cell 11
          have g12 := a.cell 12
          have g13 := a.cell 13
          have g14 := a.cell 14
          have g15 := a.cell 15
          have g16 := a.cell 16
          have g17 := a.cell 17
          simp [cells9, row9] at d1 d2 g0 g1 g2 g3 g4 g5 g6 g7 g8 g9 g10 g11 g12 g13 g14 g15 g16 g17
          clear a
          gi_wp2
          refine HR.out.mono ?_
          rintro e W3 ⟨rfl, ⟨_, hst3⟩, hk3⟩
          have HS3 := hide hst3
          have HK3 := hide hk3
          clear hst3 hk3
          gi_wp2
          go_roundw
          case rel => exact ⟨[(true, 2), (false, 1)], .inr (.inr ⟨rfl, rfl⟩), HS3.out, HK3.out⟩
          case measure => simp [intOf]
    · gi_wp2
      go_end0
      exact ⟨⟨_, rfl⟩, _, ⟨by decide, hst.out⟩, hk.out⟩

/-- A round's frame: the run boxed. -/
def Ax9 (w0 : World) (g : Nat) (A0 : Bool × Nat → Nat → Act) (x : (List (Bool × Nat) × (Bool × Nat)) × Act) (W : World) : Prop :=
  ∃ Bx, w0.heap.size + 4 ≤ Bx ∧ Blk W Bx 88 (run9 x.1.2.1 (x.1.2.2 : Nat)) ∧ x.2 = A0 x.1.2 Bx ∧ (x.1.1.length ≤ 1 ∧ x.1.2.2 < 128) ∧ S9 w0 g (by9 x.1.1) W
theorem ax9_own (w0 : World) (g : Nat) (B : Nat) (hB : w0.heap.size + 4 ≤ B) (A0 : Bool × Nat → Nat → Act) : OwnFrom B (Ax9 w0 g A0) := by
  rintro x W W' row ⟨Bx, hBx, hb, ha, hst⟩ hg hr
  refine ⟨Bx, hBx, hb.fr (Fr.of_grown hg) (fun hk => ?_), ha, s9_own w0 g B hB (fun y : (List (Bool × Nat) × (Bool × Nat)) => y.1.length ≤ 1 ∧ y.2.2 < 128) (fun y => by9 y.1) x.1 W W' row hst hg hr⟩
  obtain ⟨_, o, ho, hc⟩ := hr Bx hk.symm
  obtain ⟨o2, ho2, hc2⟩ := hb.cellsB
  rw [ho] at ho2
  injection ho2 with ho2
  subst ho2
  rw [hc] at hc2; cases hc2
theorem by9_len (l : List (Bool × Nat)) : (by9 l).length = 2 * l.length := by
  induction l with
  | nil => rfl
  | cons x l ih => simp only [by9, List.flatMap_cons, List.length_append, List.length_cons, List.length_nil] at *; omega
set_option maxHeartbeats 4000000 in
set_option maxRecDepth 100000 in
theorem rencode9 (g : Nat) (w : World) (harr : Blk w g 34 cells9) :
    CallsIn FnT 6 Tryd.prog 54 #[.int .i64 1, .slice (some ⟨g, 0, none⟩) 3 3] w fun e w' => e = .returned (.string (strN [2, 1, 1, 0])) ∧ Below w.heap.size w w' := by
  have hglt := harr.lt
  have HKE := hide (fun m w1 => callsIn_wide (n := m).2 (reach9_any g w1))
  have hro : FnT.round = none := rfl
  have hn5 : 1 ≤ 6 := by omega
  have hcs := fun (w1 : World) (a1 : Addr) (m : Mode) (x y : Nat) => run_store Tryd.prog w1 a1 (.complex .f64 x y) m rfl
  refine callsIn_of_wp_marks Tryd.func54 rfl trivial ?_ rfl
  simp only [Tryd.ntmps54, List.size_toArray, List.length_cons, List.length_nil, Nat.reduceAdd, Nat.reduceSub, Array.replicate_succ, Array.replicate_zero, List.push_toArray, List.append_toArray, List.nil_append, List.cons_append]
  gi_wp2_with fail
  refine ⟨trivial, (HKE.out _ _).mono ?_⟩
  rintro e w6 ⟨rfl, rfl⟩
  gi_wp2_with fail
  have hB6 : Below w.heap.size w ((((w.alloc (.cells #[.int .i64 1] 3)).alloc (.cells #[.slice none 0 0] 100)).alloc (.cells #[.int .i64 1] 3)).alloc (.cells #[.slice (some ⟨g, 0, none⟩) 3 3] 30)) :=
    ((((Below.refl _ _).alloc (Nat.le_refl _) _).alloc (by simp) _).alloc (by simp; omega) _).alloc (by simp; omega) _
  have hst0 : S9 w g (by9 []) ((((w.alloc (.cells #[.int .i64 1] 3)).alloc (.cells #[.slice none 0 0] 100)).alloc (.cells #[.int .i64 1] 3)).alloc (.cells #[.slice (some ⟨g, 0, none⟩) 3 3] 30)) := by
    have n1 := Blk.new w #[.int .i64 1] 3
    have n2 := Blk.new (w.alloc (.cells #[.int .i64 1] 3)) #[.slice none 0 0] 100
    have n3 := Blk.new ((w.alloc (.cells #[.int .i64 1] 3)).alloc (.cells #[.slice none 0 0] 100)) #[.int .i64 1] 3
    have n4 := Blk.new (((w.alloc (.cells #[.int .i64 1] 3)).alloc (.cells #[.slice none 0 0] 100)).alloc (.cells #[.int .i64 1] 3)) #[.slice (some ⟨g, 0, none⟩) 3 3] 30
    simp only [World.size_alloc] at n2 n3 n4
    exact ⟨((n1.alloc _).alloc _).alloc _, ⟨.slice none 0 0, ⟨(n2.alloc _).alloc _, ownU8_nil _ _, by omega⟩⟩, n3.alloc _, n4, (((harr.alloc _).alloc _).alloc _).alloc _, hglt, hB6⟩
  obtain ⟨W6, hW6⟩ : ∃ W6, ((((w.alloc (.cells #[.int .i64 1] 3)).alloc (.cells #[.slice none 0 0] 100)).alloc (.cells #[.int .i64 1] 3)).alloc (.cells #[.slice (some ⟨g, 0, none⟩) 3 3] 30)) = W6 := ⟨_, rfl⟩
  have hz6 : w.heap.size + 4 ≤ W6.heap.size := by rw [← hW6]; simp
  rw [hW6] at hst0 hB6 ⊢
  clear hW6
  refine wpIn_rangeFunc_st (α := Bool × Nat) rfl (by omega) (gf := 111) (lb := #[.pointer (some ⟨w.heap.size + 3, 0, none⟩), .pointer (some ⟨w.heap.size + 2, 0, none⟩)]) rfl trivial (enters_of Tryd.func111 (by kernel_rfl) rfl) (encs := enc9) (fun _ => rfl)
    (fun pre W => pre.length ≤ 2 ∧ S9 w g (by9 pre) W) (fun y W => (y.1.length ≤ 1 ∧ y.2.2 < 128) ∧ S9 w g (by9 y.1) W)
    (Ax9 w g (fun x Bx => { tmps := #[.int .i64 1, .slice (some ⟨g, 0, none⟩) 3 3, .pointer (some ⟨w.heap.size, 0, none⟩), undef, .string ⟨#[]⟩, .pointer (some ⟨w.heap.size + 1, 0, none⟩), .pointer (some ⟨Bx, 0, none⟩), .int .i64 1, .slice (some ⟨g, 0, none⟩) 3 3,
      .func (.func 111) #[] #[.pointer (some ⟨w.heap.size + 3, 0, none⟩), .pointer (some ⟨w.heap.size + 2, 0, none⟩)],
      .agg (run9 x.1 (x.2 : Nat)), undef, undef, undef, undef, undef, undef, undef, undef, undef], defers := [] }))
    (fun xs W => by9 xs = [2, 1, 1, 0] ∧ S9 w g (by9 xs) W)
    (s9_own w g _ hz6 (fun pre : List (Bool × Nat) => pre.length ≤ 2) by9) (ax9_own w g _ hz6 _) (s9_own w g _ hz6 (fun xs : List (Bool × Nat) => by9 xs = [2, 1, 1, 0]) by9) ⟨by simp, hst0⟩ ?hseq ?hassign ?hbody ?hdone
  case hseq =>
    intro l K hK hY W1 hI1 hK1
    exact each9_in w g 5 (by omega) l K hK (fun pre x W hm hk => hY pre x W hm hk) W1 hI1.2 hK1
  case hassign =>
    rintro l pre ⟨xb, xn⟩ W K ⟨hc, hst⟩ hK
    have hst' := hide hst
    have hc' := hide hc
    clear hst hc
    simp only [enc9, run9]
    gi_wp2
    have h5 := hst'.out.el.lt
    exact hK _ _ ((KeepsOthers.alloc _ _).from _) ⟨W.heap.size, by omega, Blk.new W _ _, rfl, hc'.out, hst'.out.fr (Fr.alloc _ _ (fun _ => False)) (fun _ h => h.elim)⟩
  case hbody =>
    rintro l pre ⟨xb, xn⟩ a' W ⟨Bx, hBx, hb, ha, hc, hst⟩
    dsimp only at hb ha hc hst
    subst ha
    obtain ⟨sv, hw⟩ := hst.wr
    have hl := by9_len pre
    have hn64 : xn < 18446744073709551616 := by omega
    have hb6 := hb.cell 6
    simp [run9] at hb6
    have hn0 : (0 : Int) ≤ (xn : Int) := by omega
    have hn1 : (xn : Int) < 128 := by omega
    have KU := hide (wuvar_any _ _ sv (by9 pre) xn hn64 W hw (by omega) hst.below.size)
    rw [uvar_small hc.2] at KU
    have HB := hide hb
    have HST := hide hst
    have HW := hide hw
    have HL : Hid ((by9 pre ++ [xn]).length ≤ 1000) := by show _ ≤ _; rw [List.length_append]; simp only [List.length_cons, List.length_nil]; omega
    have HC := hide hc
    clear hb hst hw hl hc hn64
    gi_wp2_with fail
    refine ⟨trivial, (CallsIn.inRound l (callsIn_wide.2 KU.out)).mono ?_⟩
    rintro e W1 ⟨rfl, sv1, hw1, hs1⟩
    have HST1 := hide (HST.out.step HW.out hw1 hs1)
    have HB1 := hide (HB.out.fr hs1.fr (fun e => by
      rcases e with e | e
      · omega
      · exact HW.out.own.ne HB.out (by decide) e.symm))
    have HW1 := hide hw1
    have HS1 := hide hs1
    have KP := hide (pput_bool _ _ sv1 (by9 pre ++ [xn]) (C9 xb) W1 hw1 HL.out HST1.out.below.size)
    unfold CD.v clV clA at KP
    dsimp only at KP
    have b0 := HB1.out.cell 0
    have b1 := HB1.out.cell 1
    have b2 := HB1.out.cell 2
    have b3 := HB1.out.cell 3
    have b4 := HB1.out.cell 4
    have b5 := HB1.out.cell 5
    have k0 := HST1.out.bk.cell 0
    simp [run9] at b0 b1 b2 b3 b4 b5 k0
    clear hw1 hs1 hb6
    gi_wp2_with fail
    refine ⟨trivial, (CallsIn.inRound l (callsIn_wide.2 KP.out)).mono ?_⟩
    rintro e W2 ⟨rfl, sv2, hw2, hs2⟩
    have HST2 := hide (HST1.out.step HW1.out hw2 hs2)
    have HS2 := hide (HS1.out.trans hs2)
    clear hw2 hs2
    gi_wp2_with fail
    refine ⟨keeps_fr HS2.out.fr ?_, ?_⟩
    · rintro k (rfl | hk)
      · exact HW.out.blk.cellsB
      · have ho := HW.out.own
        unfold OwnU8 at ho
        exact own_cellsB ho hk.symm
    · refine ⟨by rw [List.length_append]; have := HC.out.1; simp only [List.length_cons, List.length_nil]; omega, ?_⟩
      rw [by9_snoc]
      exact HST2.out
  case hdone =>
    rintro D xs W hD ⟨hxs, hst⟩ hdef
    obtain ⟨sv, hw⟩ := hst.wr
    rw [hxs] at hw
    have KS := hide (wstring_any _ _ _ _ _ hw)
    have HDEF := hide hdef
    have HST := hide hst
    clear hst hdef hw hxs
    gi_wp2_with fail
    refine ⟨trivial, (callsIn_wide.2 KS.out).mono ?_⟩
    rintro e w2 ⟨rfl, rfl⟩
    gi_wp2_with fail
    refine ⟨by simp, .inl ⟨_, _, rfl, run_takeDeferred HDEF.out, ?_⟩⟩
    have hfd : Fr W (W.putObj D (.deferred none)) (fun k => some k = some D) := Fr.of_grown (grownBy_putObj' _ D (.deferred none))
    refine ⟨_, results_tmp rfl _ _ _, rfl, HST.out.below.trans (hfd.below HST.out.below.size (fun k hk => ?_))⟩
    have : k = D := by injection hk
    omega
end
open Go.RowKit

theorem bl9 : strN [2, 1, 1, 0] = ⟨#[2, 1, 1, 0]⟩ := strN_bn ⟨#[2, 1, 1, 0]⟩
theorem rspec9 : rspec 1 (bn ⟨#[2, 1, 1, 0]⟩) 2 = (12, []) := by kernel_rfl
theorem enc9_any (g : Nat) (w : World) (h : Blk w g 34 cells9) :
    Calls Tryd.prog 54 #[.int .i64 1, .slice (some ⟨g, 0, none⟩) 3 3] w fun e w' => e = .returned (.string ⟨#[2, 1, 1, 0]⟩) ∧ Below w.heap.size w w' := by
  rw [← bl9]
  exact (callsIn_wide (n := 6)).1 (rencode9 g w h)
theorem dec9_any (w : World) (hT : Tabs w) : Calls Tryd.prog 25 #[.int .i64 1, .string ⟨#[2, 1, 1, 0]⟩, .int .i64 2] w (DPost w (12, [])) := by
  have h := rdecode_any 1 ⟨#[2, 1, 1, 0]⟩ (by decide) 2 w hT
  rw [rspec9] at h
  exact h
set_option maxHeartbeats 1000000 in
set_option maxRecDepth 100000 in
theorem awake9 : Awake9 := by
  intro w hT
  have HT := hide hT
  have KE := hide enc9_any
  have KD := hide dec9_any
  unfold DPost at KD
  clear hT
  go_enter Tryd.func24, Tryd.ntmps24
  go_wp2_with fail
  refine (KE.out _ _ (Blk.new _ _ _)).mono ?_
  rintro e w1 ⟨rfl, hb1⟩
  have HB1 := hide (((Below.refl w.heap.size w).alloc (Nat.le_refl _) _).trans (hb1.mono (by simp)))
  have K2 := hide (KD.out w1 (HT.out.below HB1.out))
  clear hb1
  go_wp2_with fail
  refine K2.out.mono ?_
  rintro e w2 ⟨v, rfl, hv, hb2⟩
  have HB2 := hide (HB1.out.trans (hb2.mono HB1.out.size))
  clear hb2 hv K2
  go_wp2_with fail
  go_ret
  exact ⟨rfl, HB2.out⟩
theorem runsReads_walk (k : Int) (_hw : (Lit.int .i64 k).wf = true) (s : ByteArray) (hs : s.size ≤ maxLen) (n : Int) (_hn : (Lit.int .i64 n).wf = true) (w : World) (hT : Tabs w) :
    Calls Tryd.prog 7 #[.int .i64 k, .string s, .int .i64 n] w fun e w' => e = .returned (.bool true) ∧ Below w.heap.size w w' :=
  runsReads_awake awake9 k _hw s hs n _hn w hT
end Go.Proofs.YtihbcojmonlcgaaDoor
