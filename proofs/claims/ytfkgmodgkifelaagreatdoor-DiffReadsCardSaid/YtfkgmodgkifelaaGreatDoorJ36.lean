/- Columns: cells by all four ways, the program. Columns: the way that has the fewest bytes, the program. -/
import Derived.Test.YtfkgmodgkifelaaGreatDoorJ35
namespace Go.Proofs.YtfkgmodgkifelaaGreatDoor
open Go.RowKit

/-- The bytes by steps, or why none. -/
def encL (k : Int) (l : List CD) : Nat × List Nat := if k = 2 ∨ k = 3 then (0, encS k 0 l) else if k = 6 then pts 0 0 [] l else (14, [])
set_option maxHeartbeats 1000000 in
set_option maxRecDepth 100000 in
theorem dencode_kind (k : Int) (hk : ¬ (k = 2 ∨ k = 3 ∨ k = 6)) (v : Value) (w : World) :
    Calls Tryz.prog 91 #[.int .i64 k, v] w fun e w' => e = .returned (.tuple #[.string ByteArray.empty, .int .i64 14]) ∧ Below w.heap.size w w' := by
  have KH := hide (has_no k hk)
  clear hk
  go_enter Tryz.func91, Tryz.ntmps91
  go_wp2_with fail
  refine (KH.out _).mono ?_
  rintro e w1 ⟨rfl, rfl⟩
  go_wp2_with fail
  go_ret2
  exact ⟨rfl, Below.refl _ _⟩
theorem dencode_all (k : Int) (l : List CD) (hl : Wok l) (v : Value) (w : World) (hv : InC w v l) :
    Calls Tryz.prog 91 #[.int .i64 k, v] w fun e w' => e = .returned (.tuple #[.string (strN (encL k l).2), .int .i64 ((encL k l).1 : Nat)]) ∧ Below w.heap.size w w' := by
  unfold encL
  by_cases h : k = 2 ∨ k = 3
  · rw [if_pos h]; exact pdencodeN k h l hl v w hv
  · rw [if_neg h]
    by_cases h6 : k = 6
    · subst h6; rw [if_pos rfl]; exact pdencodeP l hl v w hv
    · rw [if_neg h6, strN_nil]
      exact dencode_kind k (by rintro (h1 | h1 | h1) <;> simp_all) v w
theorem results_cell_cell {fn : Func} {p q : Tmp} {ty ty2 : TypeId} (h : fn.results = #[.cell p ty, .cell q ty2]) (tmps : Array Value) (P : Program) (w : World) (g g2 : Nat) (t t2 : TypeId) (cs cs2 : Array Value) (fr fr2 : Nat × Nat) (m m2 : Nat) (d d2 : TypeId)
    (hp : tmps.getD p undef = .pointer (some ⟨g, 0, none⟩)) (hg : w.heap[g]? = some (.cells cs t fr)) (hq : tmps.getD q undef = .pointer (some ⟨g2, 0, none⟩)) (hg2 : w.heap[g2]? = some (.cells cs2 t2 fr2))
    (hu : P.underlying ty = some (.array m d)) (hi : (P.info? ty).map (·.size) = some cs.size)
    (hu2 : P.underlying ty2 = some (.array m2 d2)) (hi2 : (P.info? ty2).map (·.size) = some cs2.size) :
    (results fn tmps).run P w = .ok (.tuple #[.agg cs, .agg cs2]) w := by
  have hp' : tmps[p]?.getD undef = .pointer (some ⟨g, 0, none⟩) := by simpa using hp
  have hq' : tmps[q]?.getD undef = .pointer (some ⟨g2, 0, none⟩) := by simpa using hq
  have hl := run_loadVar_row w g t ty cs fr _ hg hu rfl hi
  have hl2 := run_loadVar_row w g2 t2 ty2 cs2 fr2 _ hg2 hu2 rfl hi2
  simp only [results, h]
  simp [Sem.run_bind, hp', hq', asAddr, hl, hl2]
theorem way_0 (p1 p2 p3 : Nat) (w : World) : (Instr.index 104 (.agg #[.nilFunc, .nilFunc, .func (.func 128) #[] #[.pointer (some ⟨p1, 0, none⟩)], .func (.func 88) #[] #[], .func (.func 128) #[] #[.pointer (some ⟨p2, 0, none⟩)], .func (.func 90) #[] #[], .func (.func 91) #[] #[], .func (.func 92) #[] #[], .func (.func 128) #[] #[.pointer (some ⟨p3, 0, none⟩)], .func (.func 94) #[] #[]]) (.int .i64 0)).run Tryz.prog w = .ok (.agg #[.nilFunc, .nilFunc]) w := by kernel_rfl
theorem way_1 (p1 p2 p3 : Nat) (w : World) : (Instr.index 104 (.agg #[.nilFunc, .nilFunc, .func (.func 128) #[] #[.pointer (some ⟨p1, 0, none⟩)], .func (.func 88) #[] #[], .func (.func 128) #[] #[.pointer (some ⟨p2, 0, none⟩)], .func (.func 90) #[] #[], .func (.func 91) #[] #[], .func (.func 92) #[] #[], .func (.func 128) #[] #[.pointer (some ⟨p3, 0, none⟩)], .func (.func 94) #[] #[]]) (.int .i64 1)).run Tryz.prog w = .ok (.agg #[.func (.func 128) #[] #[.pointer (some ⟨p1, 0, none⟩)], .func (.func 88) #[] #[]]) w := by kernel_rfl
theorem way_2 (p1 p2 p3 : Nat) (w : World) : (Instr.index 104 (.agg #[.nilFunc, .nilFunc, .func (.func 128) #[] #[.pointer (some ⟨p1, 0, none⟩)], .func (.func 88) #[] #[], .func (.func 128) #[] #[.pointer (some ⟨p2, 0, none⟩)], .func (.func 90) #[] #[], .func (.func 91) #[] #[], .func (.func 92) #[] #[], .func (.func 128) #[] #[.pointer (some ⟨p3, 0, none⟩)], .func (.func 94) #[] #[]]) (.int .i64 2)).run Tryz.prog w = .ok (.agg #[.func (.func 128) #[] #[.pointer (some ⟨p2, 0, none⟩)], .func (.func 90) #[] #[]]) w := by kernel_rfl
theorem way_3 (p1 p2 p3 : Nat) (w : World) : (Instr.index 104 (.agg #[.nilFunc, .nilFunc, .func (.func 128) #[] #[.pointer (some ⟨p1, 0, none⟩)], .func (.func 88) #[] #[], .func (.func 128) #[] #[.pointer (some ⟨p2, 0, none⟩)], .func (.func 90) #[] #[], .func (.func 91) #[] #[], .func (.func 92) #[] #[], .func (.func 128) #[] #[.pointer (some ⟨p3, 0, none⟩)], .func (.func 94) #[] #[]]) (.int .i64 3)).run Tryz.prog w = .ok (.agg #[.func (.func 91) #[] #[], .func (.func 92) #[] #[]]) w := by kernel_rfl
theorem way_4 (p1 p2 p3 : Nat) (w : World) : (Instr.index 104 (.agg #[.nilFunc, .nilFunc, .func (.func 128) #[] #[.pointer (some ⟨p1, 0, none⟩)], .func (.func 88) #[] #[], .func (.func 128) #[] #[.pointer (some ⟨p2, 0, none⟩)], .func (.func 90) #[] #[], .func (.func 91) #[] #[], .func (.func 92) #[] #[], .func (.func 128) #[] #[.pointer (some ⟨p3, 0, none⟩)], .func (.func 94) #[] #[]]) (.int .i64 4)).run Tryz.prog w = .ok (.agg #[.func (.func 128) #[] #[.pointer (some ⟨p3, 0, none⟩)], .func (.func 94) #[] #[]]) w := by kernel_rfl
/-- The blocks of column.all between its rounds. -/
structure AW (h p1 p2 p3 : Nat) (cs6 cs7 : Array Value) (w0 W : World) : Prop where
  b4 : Blk W h 137 #[.string ByteArray.empty, .string ByteArray.empty, .string ByteArray.empty, .string ByteArray.empty, .string ByteArray.empty]
  b5 : Blk W (h + 1) 138 #[.bool false, .bool false, .bool false, .bool false, .bool false]
  b6 : Blk W (h + 1 + 1) 137 cs6
  b7 : Blk W (h + 1 + 1 + 1) 138 cs7
  c1 : Blk W p1 149 #[.func (.func 87) #[] #[]]
  c2 : Blk W p2 149 #[.func (.func 89) #[] #[]]
  c3 : Blk W p3 149 #[.func (.func 93) #[] #[]]
  be : Below h w0 W
theorem AW.ne {h p1 p2 p3 : Nat} {cs6 cs7 : Array Value} {w0 W : World} (a : AW h p1 p2 p3 cs6 cs7 w0 W) : (p1 ≠ h + 1 + 1 ∧ p1 ≠ h + 1 + 1 + 1) ∧ (p2 ≠ h + 1 + 1 ∧ p2 ≠ h + 1 + 1 + 1) ∧ (p3 ≠ h + 1 + 1 ∧ p3 ≠ h + 1 + 1 + 1) := by
  have ne : ∀ {b b2 : Nat} {t t2 : TypeId} {x y : Array Value}, Blk W b t x → Blk W b2 t2 y → t ≠ t2 → b ≠ b2 := by
    intro b b2 t t2 x y h1 h2 ht he
    subst he
    unfold Blk at h1 h2
    rw [h1] at h2
    injection h2 with h2
    injection h2 with _ h3
    exact ht h3
  exact ⟨⟨ne a.c1 a.b6 (by decide), ne a.c1 a.b7 (by decide)⟩, ⟨ne a.c2 a.b6 (by decide), ne a.c2 a.b7 (by decide)⟩, ⟨ne a.c3 a.b6 (by decide), ne a.c3 a.b7 (by decide)⟩⟩
theorem AW.below {h p1 p2 p3 : Nat} {cs6 cs7 : Array Value} {w0 W W' : World} (a : AW h p1 p2 p3 cs6 cs7 w0 W) (hb : Below W.heap.size W W') : AW h p1 p2 p3 cs6 cs7 w0 W' :=
  ⟨a.b4.below hb a.b4.lt, a.b5.below hb a.b5.lt, a.b6.below hb a.b6.lt, a.b7.below hb a.b7.lt, a.c1.below hb a.c1.lt, a.c2.below hb a.c2.lt, a.c3.below hb a.c3.lt, a.be.trans (hb.mono (Nat.le_of_lt a.b4.lt))⟩
theorem AW.set {h p1 p2 p3 : Nat} {cs6 cs7 : Array Value} {w0 W : World} (a : AW h p1 p2 p3 cs6 cs7 w0 W) (i : Nat) (s b : Value) : AW h p1 p2 p3 (cs6.setIfInBounds i s) (cs7.setIfInBounds i b) w0 ((W.setCell ⟨h + 1 + 1, i, none⟩ s).setCell ⟨h + 1 + 1 + 1, i, none⟩ b) := by
  obtain ⟨⟨n1, n2⟩, ⟨n3, n4⟩, ⟨n5, n6⟩⟩ := a.ne
  exact ⟨(a.b4.other (by first | (simp; done) | (simp; omega)) s).other (by first | (simp; done) | (simp; omega)) b, (a.b5.other (by simp) s).other (by first | (simp; done) | (simp; omega)) b, (a.b6.set i s).other (by simp) b, (a.b7.other (by simp) s).set i b, (a.c1.other n1 s).other n2 b, (a.c2.other n3 s).other n4 b, (a.c3.other n5 s).other n6 b, (a.be.setCell (by show h ≤ h + 1 + 1; omega) s).setCell (by show h ≤ h + 1 + 1 + 1; omega) b⟩
set_option maxRecDepth 100000 in
theorem en_pe : ∀ args w, (callFunc 87 args).run Tryz.prog w = .ok (.enter 87 args) w := enters_of Tryz.func87 (by kernel_rfl) rfl
set_option maxRecDepth 100000 in
theorem en_re : ∀ args w, (callFunc 89 args).run Tryz.prog w = .ok (.enter 89 args) w := enters_of Tryz.func89 (by kernel_rfl) rfl
set_option maxRecDepth 100000 in
theorem en_de : ∀ args w, (callFunc 93 args).run Tryz.prog w = .ok (.enter 93 args) w := enters_of Tryz.func93 (by kernel_rfl) rfl
set_option maxHeartbeats 8000000 in
set_option maxRecDepth 100000 in
theorem all_any (k : Int) (h1 : 1 ≤ k) (h6 : k ≤ 6) (l : List CD) (hl : Wok l) (v : Value) (w : World) (hv : InC w v l) (isD : Bool) (hD : (((encL k l).1 : Int) == 0) = isD) :
    Calls Tryz.prog 81 #[.int .i64 k, v] w fun e w' => e = .returned (.tuple #[.agg #[.string ByteArray.empty, .string (strN (encP k l)), .string (strN (encR k l)), .string (strN (encL k l).2), .string (strN (encX k l))], .agg #[.bool false, .bool true, .bool true, .bool isD, .bool true]]) ∧ Below w.heap.size w w' := by
  have KW := hide ways_any
  have K1 := hide (fun (p : Nat) (W : World) (hp : W.cell? ⟨p, 0, none⟩ = some (.func (.func 87) #[] #[])) (hb : Below w.heap.size w W) => sure1_any 87 en_pe k v (strN (encP k l)) p W hp (pencode_all k h1 h6 l hl v W (hv.below hb)))
  have K2 := hide (fun (p : Nat) (W : World) (hp : W.cell? ⟨p, 0, none⟩ = some (.func (.func 89) #[] #[])) (hb : Below w.heap.size w W) => sure1_any 89 en_re k v (strN (encR k l)) p W hp (rencode_any k h1 h6 l hl v W (hv.below hb)))
  have K3 := hide (fun (W : World) (hb : Below w.heap.size w W) => dencode_all k l hl v W (hv.below hb))
  have K4 := hide (fun (p : Nat) (W : World) (hp : W.cell? ⟨p, 0, none⟩ = some (.func (.func 93) #[] #[])) (hb : Below w.heap.size w W) => sure1_any 93 en_de k v (strN (encX k l)) p W hp (dxencode_any k h1 h6 l hl v W (hv.below hb)))
  generalize strN (encP k l) = S1 at *
  generalize strN (encR k l) = S2 at *
  generalize strN (encX k l) = S4 at *
  generalize strN (encL k l).2 = S3 at *
  generalize (encL k l).1 = er at *
  have hd1 : decide (k < 1) = false := by rw [decide_eq_false_iff_not]; omega
  have hd6 : decide (6 < k) = false := by rw [decide_eq_false_iff_not]; omega
  clear hv hl
  go_enter Tryz.func81, Tryz.ntmps81
  go_wp2_with fail
  refine (KW.out _).mono ?_
  rintro e w1 ⟨⟨p1, p2, p3, rfl, c1, c2, c3⟩, hb1⟩
  have hA : AW w.heap.size p1 p2 p3 #[.string ByteArray.empty, .string ByteArray.empty, .string ByteArray.empty, .string ByteArray.empty, .string ByteArray.empty] #[.bool false, .bool false, .bool false, .bool false, .bool false] w w1 :=
    ⟨Blk.below ((((Blk.new w _ _).alloc _).alloc _).alloc _) hb1 (by first | (simp; done) | (simp; omega)), Blk.below (((blk_n2 w _ _ _).alloc _).alloc _) hb1 (by first | (simp; done) | (simp; omega)), Blk.below ((blk_n3 w _ _ _ _).alloc _) hb1 (by simp), Blk.below (blk_m4 w _ _ _ _ _) hb1 (by simp), c1, c2, c3,
      (((((Below.refl w.heap.size w).alloc (Nat.le_refl _) _).alloc (by simp) _).alloc (by first | (simp; done) | (simp; omega)) _).alloc (by first | (simp; done) | (simp; omega)) _).trans (hb1.mono (by first | (simp; done) | (simp; omega)))⟩
  have HA1 := hide hA
  clear hA c1 c2 c3 hb1
  unfold wayA
  have i0 := way_0 p1 p2 p3
  have i1 := way_1 p1 p2 p3
  have i2 := way_2 p1 p2 p3
  have i3 := way_3 p1 p2 p3
  have i4 := way_4 p1 p2 p3
  go_wp2_with fail
  refine wp_loop_rounds 6 ?_
  rw [rounds_succ]
  go_wp2_with fail
  rw [rounds_succ]
  go_wp2_with fail
  refine (K1.out p1 _ ((HA1.out.below (((Below.refl w1.heap.size w1).alloc (Nat.le_refl _) _).alloc (by simp) _)).c1.cell 0) (HA1.out.be.trans ((((Below.refl w1.heap.size w1).alloc (Nat.le_refl _) _).alloc (by simp) _).mono (Nat.le_of_lt HA1.out.b4.lt)))).mono ?_
  rintro e v1 ⟨rfl, hb⟩
  have hA := (HA1.out.below (((Below.refl w1.heap.size w1).alloc (Nat.le_refl _) _).alloc (by simp) _)).below hb
  have hz1 := hb.size
  simp at hz1
  have g0 := hA.b6.cell 1
  have g1 := hA.b6.frozen 1
  have g2 := hA.b7.cell 1
  have g3 := hA.b7.frozen 1
  simp at g0 g2
  have HV := hide hA
  clear hA hb
  go_wp2_with fail
  obtain ⟨w2, hw⟩ : ∃ W, (v1.setCell ⟨w.heap.size + 1 + 1, 1, none⟩ (.string S1)).setCell ⟨w.heap.size + 1 + 1 + 1, 1, none⟩ (.bool true) = W := ⟨_, rfl⟩
  have HA2 : Hid (AW w.heap.size p1 p2 p3 #[.string ByteArray.empty, .string S1, .string ByteArray.empty, .string ByteArray.empty, .string ByteArray.empty] #[.bool false, .bool true, .bool false, .bool false, .bool false] w w2) := by show AW _ _ _ _ _ _ _ _; rw [← hw]; exact HV.out.set 1 _ _
  rw [hw]
  clear hw HV g0 g1 g2 g3 hz1
  rw [rounds_succ]
  go_wp2_with fail
  refine (K2.out p2 _ ((HA2.out.below ((Below.refl w2.heap.size w2).alloc (Nat.le_refl _) _)).c2.cell 0) (HA2.out.be.trans (((Below.refl w2.heap.size w2).alloc (Nat.le_refl _) _).mono (Nat.le_of_lt HA2.out.b4.lt)))).mono ?_
  rintro e v2 ⟨rfl, hb⟩
  have hA := (HA2.out.below ((Below.refl w2.heap.size w2).alloc (Nat.le_refl _) _)).below hb
  have hz2 := hb.size
  simp at hz2
  have g0 := hA.b6.cell 2
  have g1 := hA.b6.frozen 2
  have g2 := hA.b7.cell 2
  have g3 := hA.b7.frozen 2
  simp at g0 g2
  have HV := hide hA
  clear hA hb
  go_wp2_with fail
  obtain ⟨w3, hw⟩ : ∃ W, (v2.setCell ⟨w.heap.size + 1 + 1, 2, none⟩ (.string S2)).setCell ⟨w.heap.size + 1 + 1 + 1, 2, none⟩ (.bool true) = W := ⟨_, rfl⟩
  have HA3 : Hid (AW w.heap.size p1 p2 p3 #[.string ByteArray.empty, .string S1, .string S2, .string ByteArray.empty, .string ByteArray.empty] #[.bool false, .bool true, .bool true, .bool false, .bool false] w w3) := by show AW _ _ _ _ _ _ _ _; rw [← hw]; exact HV.out.set 2 _ _
  rw [hw]
  clear hw HV g0 g1 g2 g3 hz2
  rw [rounds_succ]
  go_wp2_with fail
  refine (K3.out _ (HA3.out.be.trans (((Below.refl w3.heap.size w3).alloc (Nat.le_refl _) _).mono (Nat.le_of_lt HA3.out.b4.lt)))).mono ?_
  rintro e v3 ⟨rfl, hb⟩
  have hA := (HA3.out.below ((Below.refl w3.heap.size w3).alloc (Nat.le_refl _) _)).below hb
  have hz3 := hb.size
  simp at hz3
  have g0 := hA.b6.cell 3
  have g1 := hA.b6.frozen 3
  have g2 := hA.b7.cell 3
  have g3 := hA.b7.frozen 3
  simp at g0 g2
  have HV := hide hA
  clear hA hb
  go_wp2_with fail
  obtain ⟨w4, hw⟩ : ∃ W, (v3.setCell ⟨w.heap.size + 1 + 1, 3, none⟩ (.string S3)).setCell ⟨w.heap.size + 1 + 1 + 1, 3, none⟩ (.bool isD) = W := ⟨_, rfl⟩
  have HA4 : Hid (AW w.heap.size p1 p2 p3 #[.string ByteArray.empty, .string S1, .string S2, .string S3, .string ByteArray.empty] #[.bool false, .bool true, .bool true, .bool isD, .bool false] w w4) := by show AW _ _ _ _ _ _ _ _; rw [← hw]; exact HV.out.set 3 _ _
  rw [hw]
  clear hw HV g0 g1 g2 g3 hz3
  rw [rounds_succ]
  go_wp2_with fail
  refine (K4.out p3 _ ((HA4.out.below ((Below.refl w4.heap.size w4).alloc (Nat.le_refl _) _)).c3.cell 0) (HA4.out.be.trans (((Below.refl w4.heap.size w4).alloc (Nat.le_refl _) _).mono (Nat.le_of_lt HA4.out.b4.lt)))).mono ?_
  rintro e v4 ⟨rfl, hb⟩
  have hA := (HA4.out.below ((Below.refl w4.heap.size w4).alloc (Nat.le_refl _) _)).below hb
  have hz4 := hb.size
  simp at hz4
  have g0 := hA.b6.cell 4
  have g1 := hA.b6.frozen 4
  have g2 := hA.b7.cell 4
  have g3 := hA.b7.frozen 4
  simp at g0 g2
  have HV := hide hA
  clear hA hb
  go_wp2_with fail
  obtain ⟨w5, hw⟩ : ∃ W, (v4.setCell ⟨w.heap.size + 1 + 1, 4, none⟩ (.string S4)).setCell ⟨w.heap.size + 1 + 1 + 1, 4, none⟩ (.bool true) = W := ⟨_, rfl⟩
  have HA5 : Hid (AW w.heap.size p1 p2 p3 #[.string ByteArray.empty, .string S1, .string S2, .string S3, .string S4] #[.bool false, .bool true, .bool true, .bool isD, .bool true] w w5) := by show AW _ _ _ _ _ _ _ _; rw [← hw]; exact HV.out.set 4 _ _
  rw [hw]
  clear hw HV g0 g1 g2 g3 hz4
  rw [rounds_succ]
  go_wp2_with fail
  have x40 := HA5.out.b4.cell 0
  have y40 := HA5.out.b4.frozen 0
  have x41 := HA5.out.b4.cell 1
  have y41 := HA5.out.b4.frozen 1
  have x42 := HA5.out.b4.cell 2
  have y42 := HA5.out.b4.frozen 2
  have x43 := HA5.out.b4.cell 3
  have y43 := HA5.out.b4.frozen 3
  have x44 := HA5.out.b4.cell 4
  have y44 := HA5.out.b4.frozen 4
  have x50 := HA5.out.b5.cell 0
  have y50 := HA5.out.b5.frozen 0
  have x51 := HA5.out.b5.cell 1
  have y51 := HA5.out.b5.frozen 1
  have x52 := HA5.out.b5.cell 2
  have y52 := HA5.out.b5.frozen 2
  have x53 := HA5.out.b5.cell 3
  have y53 := HA5.out.b5.frozen 3
  have x54 := HA5.out.b5.cell 4
  have y54 := HA5.out.b5.frozen 4
  have x60 := HA5.out.b6.cell 0
  have x61 := HA5.out.b6.cell 1
  have x62 := HA5.out.b6.cell 2
  have x63 := HA5.out.b6.cell 3
  have x64 := HA5.out.b6.cell 4
  have x70 := HA5.out.b7.cell 0
  have x71 := HA5.out.b7.cell 1
  have x72 := HA5.out.b7.cell 2
  have x73 := HA5.out.b7.cell 3
  have x74 := HA5.out.b7.cell 4
  simp at x40 x41 x42 x43 x44 x50 x51 x52 x53 x54 x60 x61 x62 x63 x64 x70 x71 x72 x73 x74
  have hB4 := hide (Blk.drew (Blk.other (a := ⟨w.heap.size + 1, 4, none⟩) (Blk.other (a := ⟨w.heap.size + 1, 3, none⟩) (Blk.other (a := ⟨w.heap.size + 1, 2, none⟩) (Blk.other (a := ⟨w.heap.size + 1, 1, none⟩) (Blk.other (a := ⟨w.heap.size + 1, 0, none⟩) (Blk.set (Blk.set (Blk.set (Blk.set (Blk.set HA5.out.b4 0 (.string ByteArray.empty)) 1 (.string S1)) 2 (.string S2)) 3 (.string S3)) 4 (.string S4)) (by simp) (.bool false)) (by simp) (.bool true)) (by simp) (.bool true)) (by simp) (.bool isD)) (by simp) (.bool true)))
  have hB5 := hide (Blk.drew (Blk.set (Blk.set (Blk.set (Blk.set (Blk.set (Blk.other (a := ⟨w.heap.size, 4, none⟩) (Blk.other (a := ⟨w.heap.size, 3, none⟩) (Blk.other (a := ⟨w.heap.size, 2, none⟩) (Blk.other (a := ⟨w.heap.size, 1, none⟩) (Blk.other (a := ⟨w.heap.size, 0, none⟩) HA5.out.b5 (by simp) (.string ByteArray.empty)) (by simp) (.string S1)) (by simp) (.string S2)) (by simp) (.string S3)) (by simp) (.string S4)) 0 (.bool false)) 1 (.bool true)) 2 (.bool true)) 3 (.bool isD)) 4 (.bool true)))
  have hBE := hide (Below.drew (Below.setCell (p := ⟨w.heap.size + 1, 4, none⟩) (Below.setCell (p := ⟨w.heap.size + 1, 3, none⟩) (Below.setCell (p := ⟨w.heap.size + 1, 2, none⟩) (Below.setCell (p := ⟨w.heap.size + 1, 1, none⟩) (Below.setCell (p := ⟨w.heap.size + 1, 0, none⟩) (Below.setCell (p := ⟨w.heap.size, 4, none⟩) (Below.setCell (p := ⟨w.heap.size, 3, none⟩) (Below.setCell (p := ⟨w.heap.size, 2, none⟩) (Below.setCell (p := ⟨w.heap.size, 1, none⟩) (Below.setCell (p := ⟨w.heap.size, 0, none⟩) HA5.out.be (Nat.le_refl _) (.string ByteArray.empty)) (Nat.le_refl _) (.string S1)) (Nat.le_refl _) (.string S2)) (Nat.le_refl _) (.string S3)) (Nat.le_refl _) (.string S4)) (Nat.le_succ _) (.bool false)) (Nat.le_succ _) (.bool true)) (Nat.le_succ _) (.bool true)) (Nat.le_succ _) (.bool isD)) (Nat.le_succ _) (.bool true)))
  go_region
  go_wp2_with fail
  refine bodyPost_ret (results_cell_cell rfl _ _ _ w.heap.size (w.heap.size + 1) 137 138 #[.string ByteArray.empty, .string S1, .string S2, .string S3, .string S4] #[.bool false, .bool true, .bool true, .bool isD, .bool true] (0, 0) (0, 0) 5 5 9 4 rfl hB4.out rfl hB5.out Tryz.underlying137 (by kernel_rfl) Tryz.underlying138 (by kernel_rfl)) rfl ?_
  exact ⟨rfl, hBE.out⟩
end Go.Proofs.YtfkgmodgkifelaaGreatDoor
namespace Go.Proofs.YtfkgmodgkifelaaGreatDoor
open Go.RowKit

/-- One more way: is it better? -/
def pick (b : Nat × List Nat) (w : Nat) (o : Nat × List Nat) : Nat × List Nat := if o.1 = 0 ∧ (b.1 = 0 ∨ o.2.length < b.2.length) then (w, o.2) else b
def wayO (k : Int) (l : List CD) (i : Nat) : Nat × List Nat := if i = 0 then (1, []) else if i = 1 then (0, encP k l) else if i = 2 then (0, encR k l) else if i = 3 then encL k l else (0, encX k l)
/-- The best of the first ways. -/
def bst (k : Int) (l : List CD) : Nat → Nat × List Nat
  | 0 => (0, [])
  | i + 1 => pick (bst k l i) i (wayO k l i)
def bestW (k : Int) (l : List CD) : Nat × List Nat := bst k l 5
theorem bst_lt (k : Int) (l : List CD) : ∀ i, (bst k l i).1 ≤ i
  | 0 => Nat.le_refl _
  | i + 1 => by
    have := bst_lt k l i
    show (pick _ _ _).1 ≤ _
    unfold pick
    split
    · exact Nat.le_succ _
    · omega
theorem bst_of (k : Int) (l : List CD) : ∀ i, (bst k l i).2 = (if (bst k l i).1 = 0 then [] else (wayO k l (bst k l i).1).2)
  | 0 => rfl
  | i + 1 => by
    rw [show bst k l (i + 1) = pick (bst k l i) i (wayO k l i) from rfl]
    unfold pick
    split
    · rename_i h
      show (wayO k l i).2 = if i = 0 then [] else (wayO k l i).2
      by_cases hi : i = 0
      · subst hi; rfl
      · rw [if_neg hi]
    · exact bst_of k l i
def strA (k : Int) (l : List CD) : Array Value := #[.string (strN (wayO k l 0).2), .string (strN (wayO k l 1).2), .string (strN (wayO k l 2).2), .string (strN (wayO k l 3).2), .string (strN (wayO k l 4).2)]
theorem strA_get (k : Int) (l : List CD) (i : Nat) (hi : i < 5) : (strA k l)[i]? = some (.string (strN (wayO k l i).2)) := by
  have : i = 0 ∨ i = 1 ∨ i = 2 ∨ i = 3 ∨ i = 4 := by omega
  rcases this with rfl | rfl | rfl | rfl | rfl <;> rfl
def isA (k : Int) (l : List CD) : Array Value := #[.bool ((wayO k l 0).1 == 0), .bool ((wayO k l 1).1 == 0), .bool ((wayO k l 2).1 == 0), .bool ((wayO k l 3).1 == 0), .bool ((wayO k l 4).1 == 0)]
theorem isA_get (k : Int) (l : List CD) (i : Nat) (hi : i < 5) : (isA k l)[i]? = some (.bool ((wayO k l i).1 == 0)) := by
  have : i = 0 ∨ i = 1 ∨ i = 2 ∨ i = 3 ∨ i = 4 := by omega
  rcases this with rfl | rfl | rfl | rfl | rfl <;> rfl
theorem strA_cur (k : Int) (l : List CD) (i : Nat) (hi : i ≤ 5) : (strA k l)[(bst k l i).1]? = some (.string (strN (bst k l i).2)) := by
  have h1 := bst_lt k l i
  have h2 := bst_of k l i
  by_cases h0 : (bst k l i).1 = 0
  · rw [if_pos h0] at h2
    rw [h0, h2]; rfl
  · rw [if_neg h0] at h2
    by_cases h5 : (bst k l i).1 < 5
    · rw [h2]; exact strA_get k l _ h5
    · have hi5 : i = 5 := by omega
      subst hi5
      exfalso
      have : ∀ i, i ≤ 5 → (bst k l i).1 < 5 := by
        intro i
        induction i with
        | zero => intro _; show 0 < 5; omega
        | succ i ih =>
          intro h
          show (pick _ _ _).1 < 5
          unfold pick
          split
          · show i < 5; omega
          · exact ih (by omega)
      exact h5 (this 5 (by omega))
theorem all_any' (k : Int) (h1 : 1 ≤ k) (h6 : k ≤ 6) (l : List CD) (hl : Wok l) (v : Value) (w : World) (hv : InC w v l) :
    Calls Tryz.prog 81 #[.int .i64 k, v] w fun e w' => e = .returned (.tuple #[.agg (strA k l), .agg (isA k l)]) ∧ Below w.heap.size w w' := by
  have h := all_any k h1 h6 l hl v w hv ((encL k l).1 == 0) (by
    cases he : ((encL k l).1 == 0)
    · rw [beq_eq_false_iff_ne] at he ⊢; omega
    · rw [beq_iff_eq] at he ⊢; omega)
  have e : (ByteArray.empty : ByteArray) = strN (wayO k l 0).2 := strN_nil.symm
  refine h.mono ?_
  rintro x w' ⟨rfl, hb⟩
  refine ⟨?_, hb⟩
  rw [e]; rfl
set_option maxHeartbeats 4000000 in
set_option maxRecDepth 100000 in
theorem best_any (k : Int) (h1 : 1 ≤ k) (h6 : k ≤ 6) (l : List CD) (hl : Wok l) (v : Value) (w : World) (hv : InC w v l) :
    Calls Tryz.prog 42 #[.int .i64 k, v] w fun e w' => e = .returned (.tuple #[.int .i64 ((bestW k l).1 : Nat), .string (strN (bestW k l).2)]) ∧ Below w.heap.size w w' := by
  obtain ⟨⟨o5, Y5⟩, hRES⟩ : ∃ R, bestW k l = R := ⟨_, rfl⟩
  rw [hRES]
  simp only
  have HRES := hide hRES
  clear hRES
  have KA := hide (all_any' k h1 h6 l hl v w hv)
  have HS := hide (strA_cur k l)
  have HG := hide (strA_get k l)
  have HI := hide (isA_get k l)
  have HL := hide (bst_lt k l)
  have HB5 : Hid (bestW k l = bst k l 5) := rfl
  have HST : Hid (∀ i, bst k l (i + 1) = pick (bst k l i) i (wayO k l i)) := fun _ => rfl
  obtain ⟨a0, a1, a2, a3, a4, ha⟩ : ∃ a0 a1 a2 a3 a4, strA k l = #[.string a0, .string a1, .string a2, .string a3, .string a4] := ⟨_, _, _, _, _, rfl⟩
  obtain ⟨b0, b1, b2, b3, b4, hb⟩ : ∃ b0 b1 b2 b3 b4, isA k l = #[.bool b0, .bool b1, .bool b2, .bool b3, .bool b4] := ⟨_, _, _, _, _, rfl⟩
  rw [ha, hb] at KA
  rw [ha] at HS HG
  rw [hb] at HI
  have HW := hide hl
  clear ha hb hv hl
  have HB := hide (fun o1 o2 => ((Below.refl w.heap.size w).alloc (Nat.le_refl _) o1).alloc (by simp) o2)
  go_enter Tryz.func42, Tryz.ntmps42
  go_wp2_with fail
  refine KA.out.mono ?_
  rintro e w1 ⟨rfl, hb1⟩
  go_wp2_with fail
  have hK6 := (Blk.new w1 #[.string a0, .string a1, .string a2, .string a3, .string a4] 137).alloc (.cells #[.bool b0, .bool b1, .bool b2, .bool b3, .bool b4] 138)
  have hK7 := blk_n2 w1 (.cells #[.string a0, .string a1, .string a2, .string a3, .string a4] 137) #[.bool b0, .bool b1, .bool b2, .bool b3, .bool b4] 138
  have hBE := (hb1.alloc hb1.size (.cells #[.string a0, .string a1, .string a2, .string a3, .string a4] 137)).alloc (by simp; exact Nat.le_succ_of_le hb1.size) (.cells #[.bool b0, .bool b1, .bool b2, .bool b3, .bool b4] 138)
  have HK6 := hide hK6
  have HK7 := hide hK7
  have HBE := hide hBE
  clear hK6 hK7 hBE hb1
  go_loopw [8, 16] (fun ov iv wr => ∃ (i : Nat), i ≤ 5 ∧ iv = .int .i64 (i : Int) ∧ ov = .int .i64 ((bst k l i).1 : Nat) ∧ Hid (Blk wr w1.heap.size 137 #[.string a0, .string a1, .string a2, .string a3, .string a4]) ∧ Hid (Blk wr (w1.heap.size + 1) 138 #[.bool b0, .bool b1, .bool b2, .bool b3, .bool b4]) ∧ Hid (Below w.heap.size w wr)) (fun _ iv _ => 5 - (intOf iv).toNat)
  case atStart => exact ⟨0, by omega, rfl, rfl, HK6.out, HK7.out, HBE.out⟩
  case round =>
    obtain ⟨i, hi, rfl, rfl, g6, g7, hbe⟩ := hrel
    by_cases hlt : i < 5
    · have ci := (g7.out.cell i).trans (HI.out i hlt)
      have si := (g6.out.cell i).trans (HG.out i hlt)
      have so := (g6.out.cell (bst k l i).1).trans (HS.out i hi)
      have hol := HL.out i
      have HLT := hide hlt
      have hi0 : (0 : Int) ≤ (i : Int) := by omega
      have hi1 : (i : Int) < 5 := by omega
      have HW1 := hide (strN_size (wayO k l i).2)
      have HW2 := hide (strN_size (bst k l i).2)
      have HP := hide (HST.out i)
      rcases hbs : bst k l i with ⟨o, Y⟩
      rcases hwo : wayO k l i with ⟨er, X⟩
      rw [hbs] at so hol HW2 HP
      rw [hwo] at ci si HW1 HP
      simp only at ci si so hol HW1 HW2
      clear hbs hwo hlt
      generalize strN X = SX at *
      generalize strN Y = SY at *
      have ho0 : (0 : Int) ≤ (o : Int) := by omega
      have ho1 : (o : Int) < 5 := by omega
      cases her : (er == 0)
      · have HO : Hid (pick (o, Y) i (er, X) = (o, Y)) := by
          show _ = _
          unfold pick
          rw [beq_eq_false_iff_ne] at her
          rw [if_neg (fun h => her h.1)]
        rw [her] at ci
        clear her
        go_wp2_with fail
        have r0 := cell_regrown ci
        have r1 := cell_regrown si
        have r2 := cell_regrown so
        refine wp_region_quiet_below (by kernel_rfl) (by kernel_rfl) ?_
        repeat (go_big_quiet_step (fail))
        refine wpQuiet_nil ?_
        intro _ hw'
        obtain ⟨⟨dq, osq⟩, hw''⟩ := hw'
        subst hw''
        have hbq := below_regrown wr dq osq
        generalize Sort.grow (redrawn wr dq) osq = w4 at *
        have H6 := hide (g6.out.below hbq g6.out.lt)
        have H7 := hide (g7.out.below hbq g7.out.lt)
        have HE := hide (hbe.out.trans (hbq.mono hbe.out.size))
        clear hbq r0 r1 r2 ci si so
        go_wp2_with fail
        go_roundw
        case rel => exact ⟨i + 1, by have := HLT.out; omega, by go_num, by rw [HP.out, HO.out], H6.out, H7.out, HE.out⟩
        case measure => have := HLT.out; simp [intOf]; omega
      · rw [her] at ci
        rw [beq_iff_eq] at her
        by_cases h0 : o = 0
        · have HO : Hid (pick (o, Y) i (er, X) = (i, X)) := by
            show _ = _
            unfold pick
            rw [if_pos ⟨her, .inl h0⟩]
          subst h0
          clear her
          go_wp2_with fail
          have r0 := cell_regrown ci
          have r1 := cell_regrown si
          have r2 := cell_regrown so
          refine wp_region_quiet_below (by kernel_rfl) (by kernel_rfl) ?_
          repeat (go_big_quiet_step (fail))
          refine wpQuiet_nil ?_
          intro _ hw'
          obtain ⟨⟨dq, osq⟩, hw''⟩ := hw'
          subst hw''
          have hbq := below_regrown wr dq osq
          generalize Sort.grow (redrawn wr dq) osq = w4 at *
          have H6 := hide (g6.out.below hbq g6.out.lt)
          have H7 := hide (g7.out.below hbq g7.out.lt)
          have HE := hide (hbe.out.trans (hbq.mono hbe.out.size))
          clear hbq r0 r1 r2 ci si so
          go_wp2_with fail
          go_roundw
          case rel => exact ⟨i + 1, by have := HLT.out; omega, by go_num, by rw [HP.out, HO.out], H6.out, H7.out, HE.out⟩
          case measure => have := HLT.out; simp [intOf]; omega
        · have hoz : ((o : Int) == 0) = false := by rw [beq_eq_false_iff_ne]; omega
          by_cases hc : X.length < Y.length
          · have HO : Hid (pick (o, Y) i (er, X) = (i, X)) := by
              show _ = _
              unfold pick
              rw [if_pos ⟨her, .inr hc⟩]
            have hsz : decide ((SX.size : Int) < (SY.size : Int)) = true := by rw [decide_eq_true_eq, HW1.out, HW2.out]; omega
            have hszn : decide (SX.size < SY.size) = true := by rw [decide_eq_true_eq, HW1.out, HW2.out]; omega
            clear her h0 hc
            go_wp2_with fail
            have r0 := cell_regrown ci
            have r1 := cell_regrown si
            have r2 := cell_regrown so
            refine wp_region_quiet_below (by kernel_rfl) (by kernel_rfl) ?_
            repeat (go_big_quiet_step (fail))
            refine wpQuiet_nil ?_
            intro _ hw'
            obtain ⟨⟨dq, osq⟩, hw''⟩ := hw'
            subst hw''
            have hbq := below_regrown wr dq osq
            generalize Sort.grow (redrawn wr dq) osq = w4 at *
            have H6 := hide (g6.out.below hbq g6.out.lt)
            have H7 := hide (g7.out.below hbq g7.out.lt)
            have HE := hide (hbe.out.trans (hbq.mono hbe.out.size))
            clear hbq r0 r1 r2 ci si so
            go_wp2_with fail
            go_roundw
            case rel => exact ⟨i + 1, by have := HLT.out; omega, by go_num, by rw [HP.out, HO.out], H6.out, H7.out, HE.out⟩
            case measure => have := HLT.out; simp [intOf]; omega
          · have HO : Hid (pick (o, Y) i (er, X) = (o, Y)) := by
              show _ = _
              unfold pick
              rw [if_neg]
              rintro ⟨_, h | h⟩
              · exact h0 h
              · exact hc h
            have hsz : decide ((SX.size : Int) < (SY.size : Int)) = false := by rw [decide_eq_false_iff_not, HW1.out, HW2.out]; omega
            have hszn : decide (SX.size < SY.size) = false := by rw [decide_eq_false_iff_not, HW1.out, HW2.out]; omega
            clear her h0 hc
            go_wp2_with fail
            have r0 := cell_regrown ci
            have r1 := cell_regrown si
            have r2 := cell_regrown so
            refine wp_region_quiet_below (by kernel_rfl) (by kernel_rfl) ?_
            repeat (go_big_quiet_step (fail))
            refine wpQuiet_nil ?_
            intro _ hw'
            obtain ⟨⟨dq, osq⟩, hw''⟩ := hw'
            subst hw''
            have hbq := below_regrown wr dq osq
            generalize Sort.grow (redrawn wr dq) osq = w4 at *
            have H6 := hide (g6.out.below hbq g6.out.lt)
            have H7 := hide (g7.out.below hbq g7.out.lt)
            have HE := hide (hbe.out.trans (hbq.mono hbe.out.size))
            clear hbq r0 r1 r2 ci si so
            go_wp2_with fail
            go_roundw
            case rel => exact ⟨i + 1, by have := HLT.out; omega, by go_num, by rw [HP.out, HO.out], H6.out, H7.out, HE.out⟩
            case measure => have := HLT.out; simp [intOf]; omega
    · obtain rfl : i = 5 := by omega
      have hbe5 : bst k l 5 = (o5, Y5) := HB5.out.symm.trans HRES.out
      have so := HS.out 5 (Nat.le_refl _)
      rw [hbe5] at so
      simp only at so
      have ho1 : o5 < 5 := by
        have := (Array.getElem?_eq_some_iff.1 so).1
        simpa using this
      have sc := (g6.out.cell o5).trans so
      rw [hbe5]
      have ho0 : (0 : Int) ≤ (o5 : Int) := by omega
      have ho2 : (o5 : Int) < 5 := by omega
      clear hlt hi so hbe5
      go_wp2_with fail
      go_region
      go_wp2_with fail
      go_ret2
      exact ⟨rfl, hbe.out.drew⟩
end Go.Proofs.YtfkgmodgkifelaaGreatDoor
