/- Two cells of a kind, compared by schema.Equal. A run, read. Runs: the plain functions, and the cells that runs have. -/
import Derived.Test.YtfkgmodgkifelaaGreatDoorJ13
namespace Go.Proofs.YtfkgmodgkifelaaGreatDoor
open Go.RowKit

set_option maxHeartbeats 4000000 in
set_option maxRecDepth 100000 in
theorem sequal_of (k : Int) (h1 : 1 ≤ k) (h6 : k ≤ 6) (F : FuncId) (r : Bool) (B : Array Value) (a b : CD)
    (hidx : ∀ w, (Instr.index 132 (.agg ka) (.int .i64 k)).run Tryz.prog w = .ok (.agg B) w)
    (hfld : ∀ w, (Instr.field 131 (.agg B) 2).run Tryz.prog w = .ok (.func (.func F) #[] #[]) w)
    (hent : ∀ args w, (callFunc F args).run Tryz.prog w = .ok (.enter F args) w)
    (hK : ∀ w, Calls Tryz.prog F #[a.v, b.v] w fun e w' => e = .returned (.bool r) ∧ Below w.heap.size w w') (w : World) :
    Calls Tryz.prog 133 #[.int .i64 k, a.v, b.v] w fun e w' => e = .returned (.bool r) ∧ Below w.heap.size w w' := by
  have KI := hide (sis_yes k h1 h6)
  have KK := hide kinds_any
  have KE := hide hK
  clear hK h1 h6
  obtain ⟨ab, ax, au, at', ap, aq⟩ := a
  obtain ⟨bb, bx, bu, bt, bp, bq⟩ := b
  unfold CD.v clV clA
  unfold CD.v clV clA at KE
  simp only at KE ⊢
  have HL : Hid (∀ (w' : World), Below ((w.alloc (.cells #[.bool false, .bool ab, .int .i64 ax, .int .u64 au, .string at', .complex .f64 ap aq] 45)).alloc (.cells #[.bool false, .bool bb, .int .i64 bx, .int .u64 bu, .string bt, .complex .f64 bp bq] 45)).heap.size ((w.alloc (.cells #[.bool false, .bool ab, .int .i64 ax, .int .u64 au, .string at', .complex .f64 ap aq] 45)).alloc (.cells #[.bool false, .bool bb, .int .i64 bx, .int .u64 bu, .string bt, .complex .f64 bp bq] 45)).drew w' →
    Six w' w.heap.size (.bool false) (.bool ab) (.int .i64 ax) (.int .u64 au) (.string at') (.complex .f64 ap aq) ∧ Six w' (w.heap.size + 1) (.bool false) (.bool bb) (.int .i64 bx) (.int .u64 bu) (.string bt) (.complex .f64 bp bq)) := fun w' hb =>
    And.intro (Blk.six (Blk.below (((Blk.new w _ _).alloc _).drew) hb (by simp; omega))) (Blk.six (Blk.below ((blk_2 w _ _ _).drew) hb (by simp)))
  have HB := hide (fun o1 o2 => ((Below.refl w.heap.size w).alloc (Nat.le_refl _) o1).alloc (by simp) o2)
  go_enter Tryz.func133, Tryz.ntmps133
  go_wp2_with fail
  refine (KI.out _).mono ?_
  rintro e w1 ⟨rfl, rfl⟩
  go_wp2_with fail
  go_region_with (first | (go_at_call 77; refine (KK.out _).mono ?_; rintro e w3 ⟨rfl, hb3⟩; have hz3 := hb3.size; simp at hz3; obtain ⟨⟨a0, a1, a2, a3, a4, a5, f0, f1, f2, f3, f4, f5⟩, d0, d1, d2, d3, d4, d5, g0, g1, g2, g3, g4, g5⟩ := HL.out w3 hb3) | (go_at_fn F; refine (KE.out _).mono ?_; rintro e w4 ⟨rfl, hb4⟩))
  all_goals
    go_wp2_with fail
    go_ret
    exact ⟨rfl, ((HB.out _ _).drew.trans (hb3.mono (by simp; omega))).trans (hb4.mono (by omega))⟩
theorem sequal_any (k : Int) (h1 : 1 ≤ k) (h6 : k ≤ 6) (a b : CD) (w : World) :
    Calls Tryz.prog 133 #[.int .i64 k, a.v, b.v] w fun e w' => e = .returned (.bool (ceq k a b)) ∧ Below w.heap.size w w' := by
  have hk : k = 1 ∨ k = 2 ∨ k = 3 ∨ k = 4 ∨ k = 5 ∨ k = 6 := by omega
  rcases hk with rfl | rfl | rfl | rfl | rfl | rfl
  · exact sequal_of 1 h1 h6 116 _ #[.func (.func 114) #[] #[], .func (.func 115) #[] #[], .func (.func 116) #[] #[]] a b (fun _ => by kernel_rfl) (fun _ => by kernel_rfl) (enters_of Tryz.func116 (by kernel_rfl) rfl) (keq_1 a b) w
  · exact sequal_of 2 h1 h6 118 _ #[.func (.func 114) #[] #[], .func (.func 117) #[] #[], .func (.func 118) #[] #[]] a b (fun _ => by kernel_rfl) (fun _ => by kernel_rfl) (enters_of Tryz.func118 (by kernel_rfl) rfl) (keq_2 a b) w
  · exact sequal_of 3 h1 h6 120 _ #[.func (.func 114) #[] #[], .func (.func 119) #[] #[], .func (.func 120) #[] #[]] a b (fun _ => by kernel_rfl) (fun _ => by kernel_rfl) (enters_of Tryz.func120 (by kernel_rfl) rfl) (keq_3 a b) w
  · exact sequal_of 4 h1 h6 122 _ #[.func (.func 114) #[] #[], .func (.func 121) #[] #[], .func (.func 122) #[] #[]] a b (fun _ => by kernel_rfl) (fun _ => by kernel_rfl) (enters_of Tryz.func122 (by kernel_rfl) rfl) (keq_4 a b) w
  · exact sequal_of 5 h1 h6 122 _ #[.func (.func 123) #[] #[], .func (.func 121) #[] #[], .func (.func 122) #[] #[]] a b (fun _ => by kernel_rfl) (fun _ => by kernel_rfl) (enters_of Tryz.func122 (by kernel_rfl) rfl) (keq_4 a b) w
  · exact sequal_of 6 h1 h6 127 _ #[.func (.func 124) #[] #[], .func (.func 126) #[] #[], .func (.func 127) #[] #[]] a b (fun _ => by kernel_rfl) (fun _ => by kernel_rfl) (enters_of Tryz.func127 (by kernel_rfl) rfl) (keq_6 a b) w
end Go.Proofs.YtfkgmodgkifelaaGreatDoor
namespace Go.Proofs.YtfkgmodgkifelaaGreatDoor
open Go.RowKit

/-- A run's cells. -/
def runA (c : CD) (m : Int) : Array Value := #[.bool false, .bool c.b, .int .i64 c.x, .int .u64 c.u, .string c.t, .complex .f64 c.p c.q, .int .i64 m]
def runV (c : CD) (m : Int) : Value := .agg (runA c m)
theorem info_r : (Tryz.prog.info? 173).map (·.size) = some 7 := by kernel_rfl
def st7 (w : World) (L : Nat) (a0 a1 a2 a3 a4 a5 a6 : Value) : World := (st6 w L a0 a1 a2 a3 a4 a5).setCell ⟨L, 6, none⟩ a6
theorem st7_fr (w : World) (L : Nat) (a0 a1 a2 a3 a4 a5 a6 : Value) : Fr w (st7 w L a0 a1 a2 a3 a4 a5 a6) (fun k => k = L) := (st6_fr w L a0 a1 a2 a3 a4 a5).set' 6 _
theorem st7_blk {w : World} {L : Nat} {t : TypeId} {b0 b1 b2 b3 b4 b5 b6 : Value} (h : Blk w L t #[b0, b1, b2, b3, b4, b5, b6]) (a0 a1 a2 a3 a4 a5 a6 : Value) : Blk (st7 w L a0 a1 a2 a3 a4 a5 a6) L t #[a0, a1, a2, a3, a4, a5, a6] := by
  have h0 : Blk (w.setCell ⟨L, 0, none⟩ a0) L t #[a0, b1, b2, b3, b4, b5, b6] := h.set 0 a0
  have h1 : Blk ((w.setCell ⟨L, 0, none⟩ a0).setCell ⟨L, 1, none⟩ a1) L t #[a0, a1, b2, b3, b4, b5, b6] := h0.set 1 a1
  have h2 : Blk (((w.setCell ⟨L, 0, none⟩ a0).setCell ⟨L, 1, none⟩ a1).setCell ⟨L, 2, none⟩ a2) L t #[a0, a1, a2, b3, b4, b5, b6] := h1.set 2 a2
  have h3 : Blk ((((w.setCell ⟨L, 0, none⟩ a0).setCell ⟨L, 1, none⟩ a1).setCell ⟨L, 2, none⟩ a2).setCell ⟨L, 3, none⟩ a3) L t #[a0, a1, a2, a3, b4, b5, b6] := h2.set 3 a3
  have h4 : Blk (((((w.setCell ⟨L, 0, none⟩ a0).setCell ⟨L, 1, none⟩ a1).setCell ⟨L, 2, none⟩ a2).setCell ⟨L, 3, none⟩ a3).setCell ⟨L, 4, none⟩ a4) L t #[a0, a1, a2, a3, a4, b5, b6] := h3.set 4 a4
  have h5 : Blk (st6 w L a0 a1 a2 a3 a4 a5) L t #[a0, a1, a2, a3, a4, a5, b6] := h4.set 5 a5
  exact h5.set 6 a6
structure Seven (w : World) (g : Nat) (a0 a1 a2 a3 a4 a5 a6 : Value) : Prop where
  c0 : w.cell? ⟨g, 0, none⟩ = some a0
  c1 : w.cell? ⟨g, 1, none⟩ = some a1
  c2 : w.cell? ⟨g, 2, none⟩ = some a2
  c3 : w.cell? ⟨g, 3, none⟩ = some a3
  c4 : w.cell? ⟨g, 4, none⟩ = some a4
  c5 : w.cell? ⟨g, 5, none⟩ = some a5
  c6 : w.cell? ⟨g, 6, none⟩ = some a6
  f0 : w.frozen? ⟨g, 0, none⟩ = false
  f1 : w.frozen? ⟨g, 1, none⟩ = false
  f2 : w.frozen? ⟨g, 2, none⟩ = false
  f3 : w.frozen? ⟨g, 3, none⟩ = false
  f4 : w.frozen? ⟨g, 4, none⟩ = false
  f5 : w.frozen? ⟨g, 5, none⟩ = false
  f6 : w.frozen? ⟨g, 6, none⟩ = false
theorem Blk.seven {w : World} {g : Nat} {t : TypeId} {a0 a1 a2 a3 a4 a5 a6 : Value} (h : Blk w g t #[a0, a1, a2, a3, a4, a5, a6]) : Seven w g a0 a1 a2 a3 a4 a5 a6 :=
  ⟨h.cell 0, h.cell 1, h.cell 2, h.cell 3, h.cell 4, h.cell 5, h.cell 6, h.frozen 0, h.frozen 1, h.frozen 2, h.frozen 3, h.frozen 4, h.frozen 5, h.frozen 6⟩
/-- How a read of a run ends. -/
def RPostR (R : Nat) (w : World) (s : ByteArray) (V : Value) (er p' e' : Nat) (e : Ending) (w' : World) : Prop :=
  e = .returned (.tuple #[V, .int .i64 (er : Nat)]) ∧ Rd w' R s p' e' ∧ Fr w w' (fun k => k = R)
theorem st7_two {w w1 : World} {R : Nat} (hRw : R < w.heap.size) {s : ByteArray} {p' e' : Nat} (hF : Fr w w1 (fun k => k = R)) (hR : Rd w1 R s p' e') {b0 b1 b2 b3 b4 b5 b6 : Value} (hB : Blk w1 w.heap.size 173 #[b0, b1, b2, b3, b4, b5, b6]) (a0 a1 a2 a3 a4 a5 a6 : Value) :
    Fr w (st7 w1 w.heap.size a0 a1 a2 a3 a4 a5 a6) (fun k => k = R) ∧ Rd (st7 w1 w.heap.size a0 a1 a2 a3 a4 a5 a6) R s p' e' ∧ Blk (st7 w1 w.heap.size a0 a1 a2 a3 a4 a5 a6) w.heap.size 173 #[a0, a1, a2, a3, a4, a5, a6] :=
  ⟨Fr.newset hF (Nat.le_refl _) (st7_fr _ _ _ _ _ _ _ _ _), Blk.fr hR (st7_fr _ _ _ _ _ _ _ _ _) (by omega), st7_blk (by exact hB) _ _ _ _ _ _ _⟩
set_option maxHeartbeats 4000000 in
set_option maxRecDepth 100000 in
theorem rnext_any (k : Int) (h1 : 1 ≤ k) (h6 : k ≤ 6) (R : Nat) (s : ByteArray) (p : Nat) (hs : s.size ≤ maxLen) (hp : p ≤ s.size) (w : World) (h : Rd w R s p 0) (hT : Tabs w) (most : Nat) (hm : most ≤ 10000)
    (many a e0 : Nat) (hf : Hid (few ((bn s).drop p) 0 = (many, a, e0))) (c : CD) (m e' er : Nat) (hg : Hid (gp k ((bn s).drop (p + a)) = (c, m, e', er))) (V : Value) (p' e2 er2 : Nat)
    (hcase : Hid ((0 < e0 ∧ V = runV CD.z 0 ∧ p' = p + a ∧ e2 = e0 ∧ er2 = e0) ∨ (e0 = 0 ∧ 0 < er ∧ V = runV CD.z 0 ∧ p' = p + a + m ∧ e2 = e' ∧ er2 = er) ∨
      (e0 = 0 ∧ er = 0 ∧ many = 0 ∧ V = runV CD.z 0 ∧ p' = p + a + m ∧ e2 = e' ∧ er2 = 12) ∨ (e0 = 0 ∧ er = 0 ∧ most < many ∧ V = runV CD.z 0 ∧ p' = p + a + m ∧ e2 = e' ∧ er2 = 12) ∨ (e0 = 0 ∧ er = 0 ∧ 0 < many ∧ many ≤ most ∧ V = runV c many ∧ p' = p + a + m ∧ e2 = e' ∧ er2 = 0))) :
    Calls Tryz.prog 132 #[.pointer (some ⟨R, 0, none⟩), .int .i64 k, .int .i64 most] w (RPostR R w s V er2 p' e2) := by
  have hRw := Blk.lt h
  have hle := few_le0 ((bn s).drop p)
  have h64 := few_lt64 ((bn s).drop p)
  rw [List.length_drop, bn_len, hf.out] at hle
  rw [hf.out] at h64
  simp only at hle h64
  have K := hide (fun o => ruvar_any R s p 0 hs hp (w.alloc o) (rd_alloc h o))
  rw [st_at, hf.out] at K
  simp only at K
  have KG := hide (fun w (h : Rd w R s (p + a) 0) (hT : Tabs w) => gget_all k h1 h6 R s (p + a) hs (by omega) w h hT)
  rw [hg.out] at KG
  simp only at KG
  have HT := hide hT
  have HR0 := hide h
  clear h hf hg hle h1 h6 hp hs hT
  obtain ⟨cb, cx, cu, ct, cp, cq⟩ := c
  unfold CD.v clV clA at KG
  simp only at KG
  have hst := fun (w1 : World) (a1 : Addr) (m : Mode) (x y : Nat) => run_store Tryz.prog w1 a1 (.complex .f64 x y) m rfl
  go_enter Tryz.func132, Tryz.ntmps132
  go_wp2_with fail
  refine (K.out _).mono ?_
  rintro e w1 ⟨rfl, hr1, hf1⟩
  have hb0 : Blk w1 w.heap.size 173 (runA CD.z 0) := Blk.fr (Blk.new _ _ _) hf1 (by omega)
  have KE := hide (rerr_any R s (p + a) e0 w1 hr1)
  have HB0 := hide hb0
  have HR1 := hide hr1
  have HF := hide ((Fr.alloc w _ _).trans hf1 (fun _ _ h => h))
  have hlt1 := hb0.lt
  clear hb0 hr1 hf1
  go_wp2_with fail
  refine KE.out.mono ?_
  rintro e w2 ⟨rfl, rfl⟩
  rcases hcase.out with ⟨hpos, rfl, rfl, rfl, rfl⟩ | hrest
  · have hne : ((er2 : Int) != 0) = true := by rw [bne_iff_ne]; omega
    obtain ⟨c0, c1, c2, c3, c4, c5, c6, f0, f1, f2, f3, f4, f5, f6⟩ := Blk.seven (by exact HB0.out)
    clear hcase
    go_wp2_with fail
    obtain ⟨q1, q2, q3⟩ := st7_two hRw HF.out HR1.out HB0.out (.bool false) (.bool false) (.int .i64 0) (.int .u64 0) (.string { data := #[] }) (.complex .f64 0 0) (.int .i64 0)
    refine bodyPost_ret (results_cell_tmp_row' rfl _ _ _ w.heap.size 173 #[.bool false, .bool false, .int .i64 0, .int .u64 0, .string { data := #[] }, .complex .f64 0 0, .int .i64 0] (0, 0) rfl q3 Tryz.underlying173 (by exact info_r)) rfl ?_
    exact ⟨rfl, q2, q1⟩
  · have h0 : e0 = 0 := by rcases hrest with h | h | h | h <;> exact h.1
    subst h0
    have HRest : Hid ((0 < er ∧ V = runV CD.z 0 ∧ p' = p + a + m ∧ e2 = e' ∧ er2 = er) ∨ (er = 0 ∧ many = 0 ∧ V = runV CD.z 0 ∧ p' = p + a + m ∧ e2 = e' ∧ er2 = 12) ∨ (er = 0 ∧ most < many ∧ V = runV CD.z 0 ∧ p' = p + a + m ∧ e2 = e' ∧ er2 = 12) ∨ (er = 0 ∧ 0 < many ∧ many ≤ most ∧ V = runV ⟨cb, cx, cu, ct, cp, cq⟩ many ∧ p' = p + a + m ∧ e2 = e' ∧ er2 = 0)) := by
      rcases hrest with h | h | h | h
      · exact .inl h.2
      · exact .inr (.inl h.2)
      · exact .inr (.inr (.inl h.2))
      · exact .inr (.inr (.inr h.2))
    clear hrest hcase
    have KG2 := hide (KG.out w1 HR1.out (HT.out.fr HR0.out HF.out))
    clear KG
    go_wp2_with fail
    refine KG2.out.mono ?_
    rintro e w3 ⟨rfl, hr3, hf3⟩
    have hb3 := HB0.out.fr hf3 (by omega)
    have HB3 := hide hb3
    have HR3 := hide hr3
    have HF3 := hide (HF.out.trans hf3 (fun _ _ h => h))
    have hlt3 := hb3.lt
    have HFA := hide (fun (o : Obj) (a0 a1 a2 a3 a4 a5 a6 : Value) => show Fr w ((st7 w3 w.heap.size a0 a1 a2 a3 a4 a5 a6).alloc o) (fun k => k = R) ∧ Rd ((st7 w3 w.heap.size a0 a1 a2 a3 a4 a5 a6).alloc o) R s (p + a + m) e' ∧ Blk ((st7 w3 w.heap.size a0 a1 a2 a3 a4 a5 a6).alloc o) w.heap.size 173 #[a0, a1, a2, a3, a4, a5, a6] from by
      obtain ⟨q1, q2, q3⟩ := st7_two hRw HF3.out HR3.out HB3.out a0 a1 a2 a3 a4 a5 a6
      exact ⟨q1.trans (Fr.alloc _ _ _) (fun _ _ h => h), q2.alloc _, q3.alloc _⟩)
    obtain ⟨c0, c1, c2, c3, c4, c5, c6, f0, f1, f2, f3, f4, f5, f6⟩ := Blk.seven (by exact hb3)
    clear hb3 hr3 hf3 HB0 HR1 HF HR0 HT
    rcases HRest.out with ⟨hpos, rfl, rfl, rfl, rfl⟩ | ⟨rfl, rfl, rfl, rfl, rfl, rfl⟩ | ⟨rfl, hbig, rfl, rfl, rfl, rfl⟩ | ⟨rfl, hpos, hfit, rfl, rfl, rfl, rfl⟩
    · have hne : ((er2 : Int) != 0) = true := by rw [bne_iff_ne]; omega
      clear HRest
      go_wp2_with fail
      obtain ⟨q1, q2, q3⟩ := HFA.out (.cells #[.bool false, .bool cb, .int .i64 cx, .int .u64 cu, .string ct, .complex .f64 cp cq] 45) (.bool false) (.bool false) (.int .i64 0) (.int .u64 0) (.string { data := #[] }) (.complex .f64 0 0) (.int .i64 0)
      refine bodyPost_ret (results_cell_tmp_row' rfl _ _ _ w.heap.size 173 #[.bool false, .bool false, .int .i64 0, .int .u64 0, .string { data := #[] }, .complex .f64 0 0, .int .i64 0] (0, 0) rfl q3 Tryz.underlying173 (by exact info_r)) rfl ?_
      exact ⟨rfl, q2, q1⟩
    · clear HRest
      go_wp2_with fail
      obtain ⟨q1, q2, q3⟩ := HFA.out (.cells #[.bool false, .bool cb, .int .i64 cx, .int .u64 cu, .string ct, .complex .f64 cp cq] 45) (.bool false) (.bool false) (.int .i64 0) (.int .u64 0) (.string { data := #[] }) (.complex .f64 0 0) (.int .i64 0)
      refine bodyPost_ret (results_cell_tmp_row' rfl _ _ _ w.heap.size 173 #[.bool false, .bool false, .int .i64 0, .int .u64 0, .string { data := #[] }, .complex .f64 0 0, .int .i64 0] (0, 0) rfl q3 Tryz.underlying173 (by exact info_r)) rfl ?_
      exact ⟨rfl, q2, q1⟩
    · have hz : ((many : Int) == 0) = false := by rw [beq_eq_false_iff_ne]; omega
      have hb : (most : Int) < (many : Int) := by omega
      clear HRest
      go_wp2_with fail
      obtain ⟨q1, q2, q3⟩ := HFA.out (.cells #[.bool false, .bool cb, .int .i64 cx, .int .u64 cu, .string ct, .complex .f64 cp cq] 45) (.bool false) (.bool false) (.int .i64 0) (.int .u64 0) (.string { data := #[] }) (.complex .f64 0 0) (.int .i64 0)
      refine bodyPost_ret (results_cell_tmp_row' rfl _ _ _ w.heap.size 173 #[.bool false, .bool false, .int .i64 0, .int .u64 0, .string { data := #[] }, .complex .f64 0 0, .int .i64 0] (0, 0) rfl q3 Tryz.underlying173 (by exact info_r)) rfl ?_
      exact ⟨rfl, q2, q1⟩
    · have hz : ((many : Int) == 0) = false := by rw [beq_eq_false_iff_ne]; omega
      have hb : decide ((most : Int) < (many : Int)) = false := by rw [decide_eq_false_iff_not]; omega
      have hmm : many ≤ 10000 := by omega
      clear HRest
      go_wp2_with fail
      obtain ⟨q1, q2, q3⟩ := HFA.out (.cells #[.bool false, .bool cb, .int .i64 cx, .int .u64 cu, .string ct, .complex .f64 cp cq] 45) (.bool false) (.bool cb) (.int .i64 cx) (.int .u64 cu) (.string ct) (.complex .f64 cp cq) (.int .i64 (many : Int))
      refine bodyPost_ret (results_cell_tmp_row' rfl _ _ _ w.heap.size 173 #[.bool false, .bool cb, .int .i64 cx, .int .u64 cu, .string ct, .complex .f64 cp cq, .int .i64 (many : Int)] (0, 0) rfl q3 Tryz.underlying173 (by exact info_r)) rfl ?_
      exact ⟨rfl, q2, q1⟩
end Go.Proofs.YtfkgmodgkifelaaGreatDoor
namespace Go.Proofs.YtfkgmodgkifelaaGreatDoor
open Go.RowKit

def tot (L : List (CD × Nat)) : Nat := (L.map (·.2)).sum
theorem tot_snoc (L : List (CD × Nat)) (x : CD × Nat) : tot (L ++ [x]) = tot L + x.2 := by simp [tot]
def cellsL (L : List (CD × Nat)) : List CD := L.flatMap fun x => List.replicate x.2 x.1
theorem cellsL_snoc (L : List (CD × Nat)) (x : CD × Nat) : cellsL (L ++ [x]) = cellsL L ++ List.replicate x.2 x.1 := by simp [cellsL]
theorem cellsL_len (L : List (CD × Nat)) : (cellsL L).length = tot L := by
  induction L with
  | nil => rfl
  | cons x L ih => simp only [cellsL, tot, List.flatMap_cons, List.length_append, List.length_replicate, List.map_cons, List.sum_cons] at *; omega
theorem tot_take (L : List (CD × Nat)) (i : Nat) : tot (L.take i) ≤ tot L := by
  induction L generalizing i with
  | nil => simp
  | cons x L ih =>
    cases i with
    | zero => simp [tot]
    | succ i => have := ih i; simp only [tot, List.take_succ_cons, List.map_cons, List.sum_cons] at *; omega
def cellsR (x : CD × Nat) : List Go.Value := cellsC x.1 ++ [.int .i64 (x.2 : Nat)]
theorem cellsR_snoc (l : List (CD × Nat)) (x : CD × Nat) : (l ++ [x]).flatMap cellsR = l.flatMap cellsR ++ cellsR x := by simp
theorem cellsR_get : ∀ (l : List (CD × Nat)) (i : Nat) (x : CD × Nat) (j : Nat), l[i]? = some x → j < 7 → (l.flatMap cellsR)[i * 7 + j]? = (cellsR x)[j]? := by
  intro l
  induction l with
  | nil => intro i x j h; simp at h
  | cons a l ih =>
    intro i x j h hj
    rw [List.flatMap_cons]
    have hl : (cellsR a).length = 7 := rfl
    cases i with
    | zero =>
      obtain rfl : a = x := by simpa using h
      rw [List.getElem?_append_left (by omega), Nat.zero_mul, Nat.zero_add]
    | succ i =>
      rw [List.getElem?_append_right (by rw [hl]; omega), hl, show (i + 1) * 7 + j - 7 = i * 7 + j by omega]
      exact ih i x j (by simpa using h) hj
/-- A run's places. -/
structure AtR (w : World) (g o : Nat) (c : CD) (m : Nat) : Prop where
  c0 : w.cell? ⟨g, o, none⟩ = some (.bool false)
  c1 : w.cell? ⟨g, o + 1, none⟩ = some (.bool c.b)
  c2 : w.cell? ⟨g, o + 2, none⟩ = some (.int .i64 c.x)
  c3 : w.cell? ⟨g, o + 3, none⟩ = some (.int .u64 c.u)
  c4 : w.cell? ⟨g, o + 4, none⟩ = some (.string c.t)
  c5 : w.cell? ⟨g, o + 5, none⟩ = some (.complex .f64 c.p c.q)
  c6 : w.cell? ⟨g, o + 6, none⟩ = some (.int .i64 (m : Nat))
theorem AtR.below {w w' : World} {g o : Nat} {c : CD} {m : Nat} (h : AtR w g o c m) {B : Nat} (hb : Below B w w') (hg : g < B) : AtR w' g o c m :=
  ⟨(hb.cell (p := ⟨g, _, none⟩) hg).trans h.c0, (hb.cell (p := ⟨g, _, none⟩) hg).trans h.c1, (hb.cell (p := ⟨g, _, none⟩) hg).trans h.c2, (hb.cell (p := ⟨g, _, none⟩) hg).trans h.c3, (hb.cell (p := ⟨g, _, none⟩) hg).trans h.c4, (hb.cell (p := ⟨g, _, none⟩) hg).trans h.c5, (hb.cell (p := ⟨g, _, none⟩) hg).trans h.c6⟩
theorem own_atR {w : World} {B g n c : Nat} {e : TypeId} {l : List (CD × Nat)} (h : w.ownsRow B e 7 (.slice (some ⟨g, 0, none⟩) n c) n (l.flatMap cellsR)) (hn : n = l.length) {i : Nat} {x : CD × Nat} (hx : l[i]? = some x) : AtR w g (i * 7) x.1 x.2 := by
  have hi : i < l.length := (List.getElem?_eq_some_iff.1 hx).1
  have hc := fun j (hj : j < 7) => (h.cellAt (i * 7 + j) (by omega)).trans (cellsR_get l i x j hx hj)
  exact ⟨hc 0 (by omega), hc 1 (by omega), hc 2 (by omega), hc 3 (by omega), hc 4 (by omega), hc 5 (by omega), hc 6 (by omega)⟩
theorem info_rR : (Tryz.prog.info? 173).map (fun i => (i.zero, i.size, i.bytes)) = some (some (runV CD.z 0), 7, 64) := by kernel_rfl
theorem blk_six7 {w : World} {g : Nat} {t : TypeId} {c : CD} {m : Int} (h : Blk w g t (runA c m)) : Seven w g (.bool false) (.bool c.b) (.int .i64 c.x) (.int .u64 c.u) (.string c.t) (.complex .f64 c.p c.q) (.int .i64 m) := Blk.seven h
set_option maxHeartbeats 8000000 in
set_option maxRecDepth 100000 in
theorem rcells_any (L : List (CD × Nat)) (hL : tot L ≤ 10000) (hpos : ∀ x ∈ L, 1 ≤ x.2) (hlen : L.length ≤ 10000) (w : World) (B : Nat) (v : Value) (h : w.ownsRow B 173 7 v L.length (L.flatMap cellsR)) :
    Calls Tryz.prog 134 #[v] w (DPost w (0, cellsL L)) := by
  obtain ⟨A, cc, rfl⟩ := own_form3 h
  have HL := hide hL
  have HP := hide hpos
  have HO : Hid (∀ (i : Nat) (x : CD × Nat), L[i]? = some x → ∃ g, A = some ⟨g, 0, none⟩ ∧ g < w.heap.size ∧ AtR w g (i * 7) x.1 x.2) := fun i x hx => by
    have hi : i < L.length := (List.getElem?_eq_some_iff.1 hx).1
    obtain ⟨g, cap, e⟩ := own_addr h (by omega)
    injection e with e1 _ e2
    subst e1
    exact ⟨g, rfl, (h.lt g rfl).2, own_atR h rfl hx⟩
  obtain ⟨i0, hi, hz0, hz1, hz2⟩ := info_parts info_cC
  generalize hN : L.length = N at *
  have HN := hide hN
  clear hL hpos h hN
  have hst := fun (w1 : World) (a1 : Addr) (m : Mode) (x y : Nat) => run_store Tryz.prog w1 a1 (.complex .f64 x y) m rfl
  go_enter Tryz.func134, Tryz.ntmps134
  go_wp2_with fail
  go_loopw [4, 9] (fun ov iv wr => ∃ i : Nat, i ≤ N ∧ iv = .int .i64 (i : Int) ∧ (∃ T : Nat, Hid (T = tot (L.take i)) ∧ wr.ownsRow w.heap.size 45 6 ov T ((cellsL (L.take i)).flatMap cellsC)) ∧ Below w.heap.size w wr) (fun _ iv _ => N - (intOf iv).toNat)
  case atStart => exact ⟨0, by omega, rfl, ⟨0, rfl, World.ownsRow_nil _ _ _ _⟩, Below.refl _ _⟩
  case round =>
    obtain ⟨i, hin, rfl, ⟨T, HT, ha⟩, hbe⟩ := hrel
    obtain ⟨Aa, ca, rfl⟩ := own_form3 ha
    obtain ⟨wo, rfl⟩ : ∃ wo : World, wo = wr := ⟨_, rfl⟩
    by_cases hlt : i < N
    · obtain ⟨x, hx⟩ : ∃ x, L[i]? = some x := ⟨_, List.getElem?_eq_getElem (by rw [HN.out]; exact hlt)⟩
      obtain ⟨g, rfl, hg, hat⟩ := HO.out i x hx
      have hat2 := hat.below hbe hg
      have HTK : Hid (L.take (i + 1) = L.take i ++ [x]) := by
        show _ = _
        rw [List.take_add_one, hx]; rfl
      have hx1 := HP.out x (List.mem_of_getElem? hx)
      have hT1 : T + x.2 ≤ 10000 := by
        have h1 := tot_take L (i + 1)
        have h2 := HL.out
        rw [HTK.out, tot_snoc, ← HT.out] at h1
        omega
      obtain ⟨c, m⟩ := x
      obtain ⟨cb, cx, cu, ct, cp, cq⟩ := c
      obtain ⟨a0, a1, a2, a3, a4, a5, a6⟩ := hat2
      simp only at a0 a1 a2 a3 a4 a5 a6 hx1 hT1
      have HA := hide ha
      have HBE := hide hbe
      have hi0 : (0 : Int) ≤ (i : Int) := by omega
      have hi1 : (i : Int) < (N : Int) := by omega
      have hgo : g < wo.heap.size := Nat.lt_of_lt_of_le hg hbe.size
      have hm1 : (1 : Int) ≤ (m : Int) := by omega
      have hm2 : (m : Int) ≤ 10000 := by omega
      have hm3 : (T : Int) + (m : Int) ≤ 10000 := by omega
      have hm4 : decide ((10000 : Int) - (T : Int) < (m : Int)) = false := by rw [decide_eq_false_iff_not]; omega
      clear hx hat ha hbe
      have HTK2 : Hid (cellsL (L.take (i + 1)) = cellsL (L.take i) ++ List.replicate m (⟨cb, cx, cu, ct, cp, cq⟩ : CD)) := by show _ = _; rw [HTK.out, cellsL_snoc]
      have HT2 : Hid (T + m = tot (L.take (i + 1))) := by show _ = _; rw [HTK.out, tot_snoc, ← HT.out]
      have HNB := hide (Blk.new wo (runA ⟨cb, cx, cu, ct, cp, cq⟩ m) 173)
      have HBA := hide (fun o => HBE.out.alloc HBE.out.size o)
      have hwo : w.heap.size ≤ wo.heap.size := HBE.out.size
      go_wp2_with fail
      clear a0 a1 a2 a3 a4 a5 a6 hm4 hi0 hi1
      go_loopw [4, 26] (fun ov qv wr => ∃ q : Nat, q ≤ m ∧ qv = .int .i64 (q : Int) ∧ wr.ownsRow w.heap.size 45 6 ov (T + q) ((cellsL (L.take i) ++ List.replicate q (⟨cb, cx, cu, ct, cp, cq⟩ : CD)).flatMap cellsC) ∧ Blk wr wo.heap.size 173 (runA ⟨cb, cx, cu, ct, cp, cq⟩ m) ∧ Below w.heap.size w wr) (fun _ qv _ => m - (intOf qv).toNat)
      case atStart => exact ⟨0, by omega, rfl, by simpa using HA.out.alloc _, HNB.out, HBA.out _⟩
      case round =>
        obtain ⟨q, hq, rfl, hb, hbl, hbe2⟩ := hrel
        obtain ⟨Ab, cb2, rfl⟩ := own_form3 hb
        by_cases hlq : q < m
        · have hblt := hbl.lt
          obtain ⟨c0, c1, c2, c3, c4, c5, c6, f0, f1, f2, f3, f4, f5, f6⟩ := blk_six7 hbl
          simp only at c0 c1 c2 c3 c4 c5 c6
          have HB2 := hide hb
          have HBL2 := hide hbl
          have HE2 := hide hbe2
          have hq0 : (q : Int) < (m : Int) := by omega
          have HR : Hid (List.replicate (q + 1) (⟨cb, cx, cu, ct, cp, cq⟩ : CD) = List.replicate q (⟨cb, cx, cu, ct, cp, cq⟩ : CD) ++ [⟨cb, cx, cu, ct, cp, cq⟩]) := by show _ = _; rw [List.replicate_succ']
          clear hb hbl hbe2
          go_wp2_with (at_builtin; refine wpList_append_own_at _ rfl _ _ 25 rfl w.heap.size 45 i0 _ 6 56 Tryz.underlying25 hi hz0 hz1 hz2 rfl (by decide) _ _ _ rfl (HB2.out.alloc _) ⟨wr.heap.size, 0, none⟩ 1 1 [.bool false, .bool cb, .int .i64 cx, .int .u64 cu, .string ct, .complex .f64 cp cq] rfl rfl (World.news_of_block (Blk.new _ _ _).out) (by simp [Value.oneCell']) (by simp only [maxLen]; omega) (by omega) (by simpa using Nat.le_succ_of_le HE2.out.size) ?_; intro v1 w2 hown1 hgrow1 _ hat1)
          have HE3 := hide ((HE2.out.alloc HE2.out.size _).grown hgrow1 (by simpa using Nat.le_succ_of_le HE2.out.size) (fun j hj => (HB2.out.lt j hj).1))
          have HBL3 := hide ((HBL2.out.alloc _).grown hgrow1 (fun h => own_ne_blk HB2.out HBL2.out (by decide) h.symm))
          have HB3 : Hid (w2.ownsRow w.heap.size 45 6 v1 (T + (q + 1)) ((cellsL (L.take i) ++ List.replicate (q + 1) (⟨cb, cx, cu, ct, cp, cq⟩ : CD)).flatMap cellsC)) := by
            show World.ownsRow _ _ _ _ _ _ _
            rw [HR.out, ← List.append_assoc, cellsC_snoc]; exact hown1
          clear hown1 hgrow1 hat1
          go_roundw
          case rel => exact ⟨q + 1, by omega, by go_num, HB3.out, HBL3.out, HE3.out⟩
          case measure => simp [intOf] <;> omega
        · obtain rfl : q = m := by omega
          have HB2 := hide hb
          have HE2 := hide hbe2
          clear hb hbl hbe2
          go_wp2_with fail
          go_roundw
          case rel =>
            have hB := HB2.out
            rw [← HTK2.out] at hB
            exact ⟨i + 1, by omega, by go_num, ⟨T + q, HT2.out, hB⟩, HE2.out⟩
          case measure => simp [intOf] <;> omega
    · obtain rfl : i = N := by omega
      have HA := hide ha
      have HBE := hide hbe
      clear ha hbe
      go_wp2_with fail
      go_ret2
      have hA := HA.out
      rw [List.take_of_length_le (by rw [HN.out]; exact Nat.le_refl _)] at hA
      have hT := HT.out
      rw [List.take_of_length_le (by rw [HN.out]; exact Nat.le_refl _)] at hT
      exact ⟨_, rfl, inC_own hA (by rw [cellsL_len, hT]), HBE.out⟩
end Go.Proofs.YtfkgmodgkifelaaGreatDoor
