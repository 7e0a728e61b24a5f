/- How cells of a kind are checked and compared. Two cells of a kind, compared by schema.Equal. A run, read. -/
import Derived.Test.YtfkgmodgkifelaaGreatDoorJ14
import Derived.Laws.EntriesVeiled
import Derived.RegionTactic
import Derived.Shelf.Abstract
namespace Go.Proofs.YtfkgmodgkifelaaGreatDoor
open Go.RowKit

/-- What all kinds have, one behind the other. -/
def ka : Array Value := #[.nilFunc, .nilFunc, .nilFunc, .func (.func 114) #[] #[], .func (.func 115) #[] #[], .func (.func 116) #[] #[], .func (.func 114) #[] #[], .func (.func 117) #[] #[], .func (.func 118) #[] #[], .func (.func 114) #[] #[], .func (.func 119) #[] #[], .func (.func 120) #[] #[], .func (.func 114) #[] #[], .func (.func 121) #[] #[], .func (.func 122) #[] #[], .func (.func 123) #[] #[], .func (.func 121) #[] #[], .func (.func 122) #[] #[], .func (.func 124) #[] #[], .func (.func 126) #[] #[], .func (.func 127) #[] #[]]
theorem info_ka : (Tryz.prog.info? 132).map (·.size) = some ka.size := by kernel_rfl
theorem ka_one : ka.all (·.oneCell') = true := by simp [ka, Value.oneCell']
set_option maxHeartbeats 2000000 in
set_option maxRecDepth 100000 in
theorem kinds_any (w : World) : Calls Tryz.prog 77 #[] w fun e w' => e = .returned (.agg ka) ∧ Below w.heap.size w w' := by
  have H1 := hide (fun o => blk_2 w o ka 132)
  have H0 := hide (fun cs o => show Blk ((w.alloc (.cells cs 132)).alloc o) w.heap.size 132 cs from (Blk.new w cs _).alloc o)
  go_enter Tryz.func77, Tryz.ntmps77
  go_wp2_with (first
    | (refine wpList_load_row rfl 132 (.tmp 1) rfl (w.heap.size + 1) rfl 132 ka (0, 0) _ (H1.out _).out Tryz.underlying132 rfl info_ka ?_)
    | (refine wpList_store_row rfl 132 (.tmp 0) (.tmp 14) rfl w.heap.size ka rfl rfl 132 _ (H0.out _ _).out info_ka rfl ka_one ?_))
  refine bodyPost_ret (results_cell_row rfl _ _ w.heap.size 132 ka (0, 0) _ rfl ((H0.out _ _).setRow ka).out Tryz.underlying132 rfl info_ka) rfl ?_
  exact ⟨rfl, below_setRow (((Below.refl _ _).alloc (Nat.le_refl _) _).alloc (by simp) _) (Nat.le_refl _) _⟩
/-- Are two cells of a kind equal? -/
def ceq (k : Int) (a b : CD) : Bool :=
  if k = 1 then a.b == b.b else if k = 2 then a.x == b.x else if k = 3 then a.u == b.u else if k = 4 ∨ k = 5 then a.t.toList == b.t.toList else FloatKind.f64.format.order a.p b.p == some .eq && FloatKind.f64.format.order a.q b.q == some .eq
set_option maxHeartbeats 2000000 in
set_option maxRecDepth 100000 in
theorem requal_any (k : Int) (h1 : 1 ≤ k) (h6 : k ≤ 6) (a b : CD) (w : World) : Calls Tryz.prog 98 #[.int .i64 k, a.v, b.v] w fun e w' => e = .returned (.bool (ceq k a b)) ∧ Below w.heap.size w w' := by
  obtain ⟨ab, ax, au, at', ap, aq⟩ := a
  obtain ⟨bb, bx, bu, bt, bp, bq⟩ := b
  unfold CD.v clV clA
  simp only
  have hk : k = 1 ∨ k = 2 ∨ k = 3 ∨ k = 4 ∨ k = 5 ∨ k = 6 := by omega
  rcases hk with rfl | rfl | rfl | rfl | rfl | rfl
  all_goals
    go_enter Tryz.func98, Tryz.ntmps98
    go_wp2_with fail
    go_ret
    exact ⟨rfl, ((Below.refl _ _).alloc (Nat.le_refl _) _).alloc (by simp) _⟩
set_option maxHeartbeats 2000000 in
set_option maxRecDepth 100000 in
theorem keq_1 (a b : CD) (w : World) : Calls Tryz.prog 116 #[a.v, b.v] w fun e w' => e = .returned (.bool (ceq 1 a b)) ∧ Below w.heap.size w w' := by
  obtain ⟨ab, ax, au, at', ap, aq⟩ := a
  obtain ⟨bb, bx, bu, bt, bp, bq⟩ := b
  unfold CD.v clV clA
  simp only
  go_enter Tryz.func116, Tryz.ntmps116
  go_wp2_with fail
  go_ret
  exact ⟨rfl, ((Below.refl _ _).alloc (Nat.le_refl _) _).alloc (by simp) _⟩
set_option maxHeartbeats 2000000 in
set_option maxRecDepth 100000 in
theorem keq_2 (a b : CD) (w : World) : Calls Tryz.prog 118 #[a.v, b.v] w fun e w' => e = .returned (.bool (ceq 2 a b)) ∧ Below w.heap.size w w' := by
  obtain ⟨ab, ax, au, at', ap, aq⟩ := a
  obtain ⟨bb, bx, bu, bt, bp, bq⟩ := b
  unfold CD.v clV clA
  simp only
  go_enter Tryz.func118, Tryz.ntmps118
  go_wp2_with fail
  go_ret
  exact ⟨rfl, ((Below.refl _ _).alloc (Nat.le_refl _) _).alloc (by simp) _⟩
set_option maxHeartbeats 2000000 in
set_option maxRecDepth 100000 in
theorem keq_3 (a b : CD) (w : World) : Calls Tryz.prog 120 #[a.v, b.v] w fun e w' => e = .returned (.bool (ceq 3 a b)) ∧ Below w.heap.size w w' := by
  obtain ⟨ab, ax, au, at', ap, aq⟩ := a
  obtain ⟨bb, bx, bu, bt, bp, bq⟩ := b
  unfold CD.v clV clA
  simp only
  go_enter Tryz.func120, Tryz.ntmps120
  go_wp2_with fail
  go_ret
  exact ⟨rfl, ((Below.refl _ _).alloc (Nat.le_refl _) _).alloc (by simp) _⟩
set_option maxHeartbeats 2000000 in
set_option maxRecDepth 100000 in
theorem keq_4 (a b : CD) (w : World) : Calls Tryz.prog 122 #[a.v, b.v] w fun e w' => e = .returned (.bool (ceq 4 a b)) ∧ Below w.heap.size w w' := by
  obtain ⟨ab, ax, au, at', ap, aq⟩ := a
  obtain ⟨bb, bx, bu, bt, bp, bq⟩ := b
  unfold CD.v clV clA
  simp only
  go_enter Tryz.func122, Tryz.ntmps122
  go_wp2_with fail
  go_ret
  exact ⟨rfl, ((Below.refl _ _).alloc (Nat.le_refl _) _).alloc (by simp) _⟩
set_option maxHeartbeats 2000000 in
set_option maxRecDepth 100000 in
theorem keq_6 (a b : CD) (w : World) : Calls Tryz.prog 127 #[a.v, b.v] w fun e w' => e = .returned (.bool (ceq 6 a b)) ∧ Below w.heap.size w w' := by
  obtain ⟨ab, ax, au, at', ap, aq⟩ := a
  obtain ⟨bb, bx, bu, bt, bp, bq⟩ := b
  unfold CD.v clV clA
  simp only
  go_enter Tryz.func127, Tryz.ntmps127
  go_wp2_with fail
  go_ret
  exact ⟨rfl, ((Below.refl _ _).alloc (Nat.le_refl _) _).alloc (by simp) _⟩
set_option maxHeartbeats 1000000 in
set_option maxRecDepth 100000 in
theorem sis_yes (k : Int) (h1 : 1 ≤ k) (h2 : k ≤ 6) (w : World) :
    Calls Tryz.prog 46 #[.int .i64 k] w fun e w' => e = .returned (.bool true) ∧ w = w' := by
  go_enter Tryz.func46, Tryz.ntmps46
  go_wp2_with fail
  go_ret
  exact ⟨rfl, rfl⟩
end Go.Proofs.YtfkgmodgkifelaaGreatDoor
namespace Go.Proofs.YtfkgmodgkifelaaGreatDoor
open Go.RowKit

set_option maxHeartbeats 4000000 in
set_option maxRecDepth 100000 in
theorem sequal_of (k : Int) (h1 : 1 ≤ k) (h6 : k ≤ 6) (F : FuncId) (r : Bool) (B : Array Value) (a b : CD)
    (hidx : ∀ w, (Instr.index 132 (.agg ka) (.int .i64 k)).run Tryz.prog w = .ok (.agg B) w)
    (hfld : ∀ w, (Instr.field 131 (.agg B) 2).run Tryz.prog w = .ok (.func (.func F) #[] #[]) w)
    (hent : ∀ args w, (callFunc F args).run Tryz.prog w = .ok (.enter F args) w)
    (hK : ∀ w, Calls Tryz.prog F #[a.v, b.v] w fun e w' => e = .returned (.bool r) ∧ Below w.heap.size w w') (w : World) :
    Calls Tryz.prog 133 #[.int .i64 k, a.v, b.v] w fun e w' => e = .returned (.bool r) ∧ Below w.heap.size w w' := by
  have KI := hide (sis_yes k h1 h6)
  have KK := hide kinds_any
  have KE := hide hK
  clear hK h1 h6
  obtain ⟨ab, ax, au, at', ap, aq⟩ := a
  obtain ⟨bb, bx, bu, bt, bp, bq⟩ := b
  unfold CD.v clV clA
  unfold CD.v clV clA at KE
  simp only at KE ⊢
  have HL : Hid (∀ (w' : World), Below ((w.alloc (.cells #[.bool false, .bool ab, .int .i64 ax, .int .u64 au, .string at', .complex .f64 ap aq] 45)).alloc (.cells #[.bool false, .bool bb, .int .i64 bx, .int .u64 bu, .string bt, .complex .f64 bp bq] 45)).heap.size ((w.alloc (.cells #[.bool false, .bool ab, .int .i64 ax, .int .u64 au, .string at', .complex .f64 ap aq] 45)).alloc (.cells #[.bool false, .bool bb, .int .i64 bx, .int .u64 bu, .string bt, .complex .f64 bp bq] 45)).drew w' →
    Six w' w.heap.size (.bool false) (.bool ab) (.int .i64 ax) (.int .u64 au) (.string at') (.complex .f64 ap aq) ∧ Six w' (w.heap.size + 1) (.bool false) (.bool bb) (.int .i64 bx) (.int .u64 bu) (.string bt) (.complex .f64 bp bq)) := fun w' hb =>
    And.intro (Blk.six (Blk.below (((Blk.new w _ _).alloc _).drew) hb (by simp; omega))) (Blk.six (Blk.below ((blk_2 w _ _ _).drew) hb (by simp)))
  have HB := hide (fun o1 o2 => ((Below.refl w.heap.size w).alloc (Nat.le_refl _) o1).alloc (by simp) o2)
  go_enter Tryz.func133, Tryz.ntmps133
  go_wp2_with fail
  refine (KI.out _).mono ?_
  rintro e w1 ⟨rfl, rfl⟩
  go_wp2_with fail
  go_region_with (first | (go_at_call 77; refine (KK.out _).mono ?_; rintro e w3 ⟨rfl, hb3⟩; have hz3 := hb3.size; simp at hz3; obtain ⟨⟨a0, a1, a2, a3, a4, a5, f0, f1, f2, f3, f4, f5⟩, d0, d1, d2, d3, d4, d5, g0, g1, g2, g3, g4, g5⟩ := HL.out w3 hb3) | (go_at_fn F; refine (KE.out _).mono ?_; rintro e w4 ⟨rfl, hb4⟩))
  all_goals
    go_wp2_with fail
    go_ret
    exact ⟨rfl, ((HB.out _ _).drew.trans (hb3.mono (by simp; omega))).trans (hb4.mono (by omega))⟩
theorem sequal_any (k : Int) (h1 : 1 ≤ k) (h6 : k ≤ 6) (a b : CD) (w : World) :
    Calls Tryz.prog 133 #[.int .i64 k, a.v, b.v] w fun e w' => e = .returned (.bool (ceq k a b)) ∧ Below w.heap.size w w' := by
  have hk : k = 1 ∨ k = 2 ∨ k = 3 ∨ k = 4 ∨ k = 5 ∨ k = 6 := by omega
  rcases hk with rfl | rfl | rfl | rfl | rfl | rfl
  · exact sequal_of 1 h1 h6 116 _ #[.func (.func 114) #[] #[], .func (.func 115) #[] #[], .func (.func 116) #[] #[]] a b (fun _ => by kernel_rfl) (fun _ => by kernel_rfl) (enters_of Tryz.func116 (by kernel_rfl) rfl) (keq_1 a b) w
  · exact sequal_of 2 h1 h6 118 _ #[.func (.func 114) #[] #[], .func (.func 117) #[] #[], .func (.func 118) #[] #[]] a b (fun _ => by kernel_rfl) (fun _ => by kernel_rfl) (enters_of Tryz.func118 (by kernel_rfl) rfl) (keq_2 a b) w
  · exact sequal_of 3 h1 h6 120 _ #[.func (.func 114) #[] #[], .func (.func 119) #[] #[], .func (.func 120) #[] #[]] a b (fun _ => by kernel_rfl) (fun _ => by kernel_rfl) (enters_of Tryz.func120 (by kernel_rfl) rfl) (keq_3 a b) w
  · exact sequal_of 4 h1 h6 122 _ #[.func (.func 114) #[] #[], .func (.func 121) #[] #[], .func (.func 122) #[] #[]] a b (fun _ => by kernel_rfl) (fun _ => by kernel_rfl) (enters_of Tryz.func122 (by kernel_rfl) rfl) (keq_4 a b) w
  · exact sequal_of 5 h1 h6 122 _ #[.func (.func 123) #[] #[], .func (.func 121) #[] #[], .func (.func 122) #[] #[]] a b (fun _ => by kernel_rfl) (fun _ => by kernel_rfl) (enters_of Tryz.func122 (by kernel_rfl) rfl) (keq_4 a b) w
  · exact sequal_of 6 h1 h6 127 _ #[.func (.func 124) #[] #[], .func (.func 126) #[] #[], .func (.func 127) #[] #[]] a b (fun _ => by kernel_rfl) (fun _ => by kernel_rfl) (enters_of Tryz.func127 (by kernel_rfl) rfl) (keq_6 a b) w
end Go.Proofs.YtfkgmodgkifelaaGreatDoor
namespace Go.Proofs.YtfkgmodgkifelaaGreatDoor
open Go.RowKit

/-- A run's cells. -/
def runA (c : CD) (m : Int) : Array Value := #[.bool false, .bool c.b, .int .i64 c.x, .int .u64 c.u, .string c.t, .complex .f64 c.p c.q, .int .i64 m]
def runV (c : CD) (m : Int) : Value := .agg (runA c m)
theorem info_r : (Tryz.prog.info? 173).map (·.size) = some 7 := by kernel_rfl
def st7 (w : World) (L : Nat) (a0 a1 a2 a3 a4 a5 a6 : Value) : World := (st6 w L a0 a1 a2 a3 a4 a5).setCell ⟨L, 6, none⟩ a6
theorem st7_fr (w : World) (L : Nat) (a0 a1 a2 a3 a4 a5 a6 : Value) : Fr w (st7 w L a0 a1 a2 a3 a4 a5 a6) (fun k => k = L) := (st6_fr w L a0 a1 a2 a3 a4 a5).set' 6 _
theorem st7_blk {w : World} {L : Nat} {t : TypeId} {b0 b1 b2 b3 b4 b5 b6 : Value} (h : Blk w L t #[b0, b1, b2, b3, b4, b5, b6]) (a0 a1 a2 a3 a4 a5 a6 : Value) : Blk (st7 w L a0 a1 a2 a3 a4 a5 a6) L t #[a0, a1, a2, a3, a4, a5, a6] := by
  have h0 : Blk (w.setCell ⟨L, 0, none⟩ a0) L t #[a0, b1, b2, b3, b4, b5, b6] := h.set 0 a0
  have h1 : Blk ((w.setCell ⟨L, 0, none⟩ a0).setCell ⟨L, 1, none⟩ a1) L t #[a0, a1, b2, b3, b4, b5, b6] := h0.set 1 a1
  have h2 : Blk (((w.setCell ⟨L, 0, none⟩ a0).setCell ⟨L, 1, none⟩ a1).setCell ⟨L, 2, none⟩ a2) L t #[a0, a1, a2, b3, b4, b5, b6] := h1.set 2 a2
  have h3 : Blk ((((w.setCell ⟨L, 0, none⟩ a0).setCell ⟨L, 1, none⟩ a1).setCell ⟨L, 2, none⟩ a2).setCell ⟨L, 3, none⟩ a3) L t #[a0, a1, a2, a3, b4, b5, b6] := h2.set 3 a3
  have h4 : Blk (((((w.setCell ⟨L, 0, none⟩ a0).setCell ⟨L, 1, none⟩ a1).setCell ⟨L, 2, none⟩ a2).setCell ⟨L, 3, none⟩ a3).setCell ⟨L, 4, none⟩ a4) L t #[a0, a1, a2, a3, a4, b5, b6] := h3.set 4 a4
  have h5 : Blk (st6 w L a0 a1 a2 a3 a4 a5) L t #[a0, a1, a2, a3, a4, a5, b6] := h4.set 5 a5
  exact h5.set 6 a6
structure Seven (w : World) (g : Nat) (a0 a1 a2 a3 a4 a5 a6 : Value) : Prop where
  c0 : w.cell? ⟨g, 0, none⟩ = some a0
  c1 : w.cell? ⟨g, 1, none⟩ = some a1
  c2 : w.cell? ⟨g, 2, none⟩ = some a2
  c3 : w.cell? ⟨g, 3, none⟩ = some a3
  c4 : w.cell? ⟨g, 4, none⟩ = some a4
  c5 : w.cell? ⟨g, 5, none⟩ = some a5
  c6 : w.cell? ⟨g, 6, none⟩ = some a6
  f0 : w.frozen? ⟨g, 0, none⟩ = false
  f1 : w.frozen? ⟨g, 1, none⟩ = false
  f2 : w.frozen? ⟨g, 2, none⟩ = false
  f3 : w.frozen? ⟨g, 3, none⟩ = false
  f4 : w.frozen? ⟨g, 4, none⟩ = false
  f5 : w.frozen? ⟨g, 5, none⟩ = false
  f6 : w.frozen? ⟨g, 6, none⟩ = false
theorem Blk.seven {w : World} {g : Nat} {t : TypeId} {a0 a1 a2 a3 a4 a5 a6 : Value} (h : Blk w g t #[a0, a1, a2, a3, a4, a5, a6]) : Seven w g a0 a1 a2 a3 a4 a5 a6 :=
  ⟨h.cell 0, h.cell 1, h.cell 2, h.cell 3, h.cell 4, h.cell 5, h.cell 6, h.frozen 0, h.frozen 1, h.frozen 2, h.frozen 3, h.frozen 4, h.frozen 5, h.frozen 6⟩
/-- How a read of a run ends. -/
def RPostR (R : Nat) (w : World) (s : ByteArray) (V : Value) (er p' e' : Nat) (e : Ending) (w' : World) : Prop :=
  e = .returned (.tuple #[V, .int .i64 (er : Nat)]) ∧ Rd w' R s p' e' ∧ Fr w w' (fun k => k = R)
theorem st7_two {w w1 : World} {R : Nat} (hRw : R < w.heap.size) {s : ByteArray} {p' e' : Nat} (hF : Fr w w1 (fun k => k = R)) (hR : Rd w1 R s p' e') {b0 b1 b2 b3 b4 b5 b6 : Value} (hB : Blk w1 w.heap.size 173 #[b0, b1, b2, b3, b4, b5, b6]) (a0 a1 a2 a3 a4 a5 a6 : Value) :
    Fr w (st7 w1 w.heap.size a0 a1 a2 a3 a4 a5 a6) (fun k => k = R) ∧ Rd (st7 w1 w.heap.size a0 a1 a2 a3 a4 a5 a6) R s p' e' ∧ Blk (st7 w1 w.heap.size a0 a1 a2 a3 a4 a5 a6) w.heap.size 173 #[a0, a1, a2, a3, a4, a5, a6] :=
  ⟨Fr.newset hF (Nat.le_refl _) (st7_fr _ _ _ _ _ _ _ _ _), Blk.fr hR (st7_fr _ _ _ _ _ _ _ _ _) (by omega), st7_blk (by exact hB) _ _ _ _ _ _ _⟩
set_option maxHeartbeats 4000000 in
set_option maxRecDepth 100000 in
theorem rnext_any (k : Int) (h1 : 1 ≤ k) (h6 : k ≤ 6) (R : Nat) (s : ByteArray) (p : Nat) (hs : s.size ≤ maxLen) (hp : p ≤ s.size) (w : World) (h : Rd w R s p 0) (hT : Tabs w) (most : Nat) (hm : most ≤ 10000)
    (many a e0 : Nat) (hf : Hid (few ((bn s).drop p) 0 = (many, a, e0))) (c : CD) (m e' er : Nat) (hg : Hid (gp k ((bn s).drop (p + a)) = (c, m, e', er))) (V : Value) (p' e2 er2 : Nat)
    (hcase : Hid ((0 < e0 ∧ V = runV CD.z 0 ∧ p' = p + a ∧ e2 = e0 ∧ er2 = e0) ∨ (e0 = 0 ∧ 0 < er ∧ V = runV CD.z 0 ∧ p' = p + a + m ∧ e2 = e' ∧ er2 = er) ∨
      (e0 = 0 ∧ er = 0 ∧ many = 0 ∧ V = runV CD.z 0 ∧ p' = p + a + m ∧ e2 = e' ∧ er2 = 12) ∨ (e0 = 0 ∧ er = 0 ∧ most < many ∧ V = runV CD.z 0 ∧ p' = p + a + m ∧ e2 = e' ∧ er2 = 12) ∨ (e0 = 0 ∧ er = 0 ∧ 0 < many ∧ many ≤ most ∧ V = runV c many ∧ p' = p + a + m ∧ e2 = e' ∧ er2 = 0))) :
    Calls Tryz.prog 132 #[.pointer (some ⟨R, 0, none⟩), .int .i64 k, .int .i64 most] w (RPostR R w s V er2 p' e2) := by
  have hRw := Blk.lt h
  have hle := few_le0 ((bn s).drop p)
  have h64 := few_lt64 ((bn s).drop p)
  rw [List.length_drop, bn_len, hf.out] at hle
  rw [hf.out] at h64
  simp only at hle h64
  have K := hide (fun o => ruvar_any R s p 0 hs hp (w.alloc o) (rd_alloc h o))
  rw [st_at, hf.out] at K
  simp only at K
  have KG := hide (fun w (h : Rd w R s (p + a) 0) (hT : Tabs w) => gget_all k h1 h6 R s (p + a) hs (by omega) w h hT)
  rw [hg.out] at KG
  simp only at KG
  have HT := hide hT
  have HR0 := hide h
  clear h hf hg hle h1 h6 hp hs hT
  obtain ⟨cb, cx, cu, ct, cp, cq⟩ := c
  unfold CD.v clV clA at KG
  simp only at KG
  have hst := fun (w1 : World) (a1 : Addr) (m : Mode) (x y : Nat) => run_store Tryz.prog w1 a1 (.complex .f64 x y) m rfl
  go_enter Tryz.func132, Tryz.ntmps132
  go_wp2_with fail
  refine (K.out _).mono ?_
  rintro e w1 ⟨rfl, hr1, hf1⟩
  have hb0 : Blk w1 w.heap.size 173 (runA CD.z 0) := Blk.fr (Blk.new _ _ _) hf1 (by omega)
  have KE := hide (rerr_any R s (p + a) e0 w1 hr1)
  have HB0 := hide hb0
  have HR1 := hide hr1
  have HF := hide ((Fr.alloc w _ _).trans hf1 (fun _ _ h => h))
  have hlt1 := hb0.lt
  clear hb0 hr1 hf1
  go_wp2_with fail
  refine KE.out.mono ?_
  rintro e w2 ⟨rfl, rfl⟩
  rcases hcase.out with ⟨hpos, rfl, rfl, rfl, rfl⟩ | hrest
  · have hne : ((er2 : Int) != 0) = true := by rw [bne_iff_ne]; omega
    obtain ⟨c0, c1, c2, c3, c4, c5, c6, f0, f1, f2, f3, f4, f5, f6⟩ := Blk.seven (by exact HB0.out)
    clear hcase
    go_wp2_with fail
    obtain ⟨q1, q2, q3⟩ := st7_two hRw HF.out HR1.out HB0.out (.bool false) (.bool false) (.int .i64 0) (.int .u64 0) (.string { data := #[] }) (.complex .f64 0 0) (.int .i64 0)
    refine bodyPost_ret (results_cell_tmp_row' rfl _ _ _ w.heap.size 173 #[.bool false, .bool false, .int .i64 0, .int .u64 0, .string { data := #[] }, .complex .f64 0 0, .int .i64 0] (0, 0) rfl q3 Tryz.underlying173 (by exact info_r)) rfl ?_
    exact ⟨rfl, q2, q1⟩
  · have h0 : e0 = 0 := by rcases hrest with h | h | h | h <;> exact h.1
    subst h0
    have HRest : Hid ((0 < er ∧ V = runV CD.z 0 ∧ p' = p + a + m ∧ e2 = e' ∧ er2 = er) ∨ (er = 0 ∧ many = 0 ∧ V = runV CD.z 0 ∧ p' = p + a + m ∧ e2 = e' ∧ er2 = 12) ∨ (er = 0 ∧ most < many ∧ V = runV CD.z 0 ∧ p' = p + a + m ∧ e2 = e' ∧ er2 = 12) ∨ (er = 0 ∧ 0 < many ∧ many ≤ most ∧ V = runV ⟨cb, cx, cu, ct, cp, cq⟩ many ∧ p' = p + a + m ∧ e2 = e' ∧ er2 = 0)) := by
      rcases hrest with h | h | h | h
      · exact .inl h.2
      · exact .inr (.inl h.2)
      · exact .inr (.inr (.inl h.2))
      · exact .inr (.inr (.inr h.2))
    clear hrest hcase
    have KG2 := hide (KG.out w1 HR1.out (HT.out.fr HR0.out HF.out))
    clear KG
    go_wp2_with fail
    refine KG2.out.mono ?_
    rintro e w3 ⟨rfl, hr3, hf3⟩
    have hb3 := HB0.out.fr hf3 (by omega)
    have HB3 := hide hb3
    have HR3 := hide hr3
    have HF3 := hide (HF.out.trans hf3 (fun _ _ h => h))
    have hlt3 := hb3.lt
    have HFA := hide (fun (o : Obj) (a0 a1 a2 a3 a4 a5 a6 : Value) => show Fr w ((st7 w3 w.heap.size a0 a1 a2 a3 a4 a5 a6).alloc o) (fun k => k = R) ∧ Rd ((st7 w3 w.heap.size a0 a1 a2 a3 a4 a5 a6).alloc o) R s (p + a + m) e' ∧ Blk ((st7 w3 w.heap.size a0 a1 a2 a3 a4 a5 a6).alloc o) w.heap.size 173 #[a0, a1, a2, a3, a4, a5, a6] from by
      obtain ⟨q1, q2, q3⟩ := st7_two hRw HF3.out HR3.out HB3.out a0 a1 a2 a3 a4 a5 a6
      exact ⟨q1.trans (Fr.alloc _ _ _) (fun _ _ h => h), q2.alloc _, q3.alloc _⟩)
    obtain ⟨c0, c1, c2, c3, c4, c5, c6, f0, f1, f2, f3, f4, f5, f6⟩ := Blk.seven (by exact hb3)
    clear hb3 hr3 hf3 HB0 HR1 HF HR0 HT
    rcases HRest.out with ⟨hpos, rfl, rfl, rfl, rfl⟩ | ⟨rfl, rfl, rfl, rfl, rfl, rfl⟩ | ⟨rfl, hbig, rfl, rfl, rfl, rfl⟩ | ⟨rfl, hpos, hfit, rfl, rfl, rfl, rfl⟩
    · have hne : ((er2 : Int) != 0) = true := by rw [bne_iff_ne]; omega
      clear HRest
      go_wp2_with fail
      obtain ⟨q1, q2, q3⟩ := HFA.out (.cells #[.bool false, .bool cb, .int .i64 cx, .int .u64 cu, .string ct, .complex .f64 cp cq] 45) (.bool false) (.bool false) (.int .i64 0) (.int .u64 0) (.string { data := #[] }) (.complex .f64 0 0) (.int .i64 0)
      refine bodyPost_ret (results_cell_tmp_row' rfl _ _ _ w.heap.size 173 #[.bool false, .bool false, .int .i64 0, .int .u64 0, .string { data := #[] }, .complex .f64 0 0, .int .i64 0] (0, 0) rfl q3 Tryz.underlying173 (by exact info_r)) rfl ?_
      exact ⟨rfl, q2, q1⟩
    · clear HRest
      go_wp2_with fail
      obtain ⟨q1, q2, q3⟩ := HFA.out (.cells #[.bool false, .bool cb, .int .i64 cx, .int .u64 cu, .string ct, .complex .f64 cp cq] 45) (.bool false) (.bool false) (.int .i64 0) (.int .u64 0) (.string { data := #[] }) (.complex .f64 0 0) (.int .i64 0)
      refine bodyPost_ret (results_cell_tmp_row' rfl _ _ _ w.heap.size 173 #[.bool false, .bool false, .int .i64 0, .int .u64 0, .string { data := #[] }, .complex .f64 0 0, .int .i64 0] (0, 0) rfl q3 Tryz.underlying173 (by exact info_r)) rfl ?_
      exact ⟨rfl, q2, q1⟩
    · have hz : ((many : Int) == 0) = false := by rw [beq_eq_false_iff_ne]; omega
      have hb : (most : Int) < (many : Int) := by omega
      clear HRest
      go_wp2_with fail
      obtain ⟨q1, q2, q3⟩ := HFA.out (.cells #[.bool false, .bool cb, .int .i64 cx, .int .u64 cu, .string ct, .complex .f64 cp cq] 45) (.bool false) (.bool false) (.int .i64 0) (.int .u64 0) (.string { data := #[] }) (.complex .f64 0 0) (.int .i64 0)
      refine bodyPost_ret (results_cell_tmp_row' rfl _ _ _ w.heap.size 173 #[.bool false, .bool false, .int .i64 0, .int .u64 0, .string { data := #[] }, .complex .f64 0 0, .int .i64 0] (0, 0) rfl q3 Tryz.underlying173 (by exact info_r)) rfl ?_
      exact ⟨rfl, q2, q1⟩
    · have hz : ((many : Int) == 0) = false := by rw [beq_eq_false_iff_ne]; omega
      have hb : decide ((most : Int) < (many : Int)) = false := by rw [decide_eq_false_iff_not]; omega
      have hmm : many ≤ 10000 := by omega
      clear HRest
      go_wp2_with fail
      obtain ⟨q1, q2, q3⟩ := HFA.out (.cells #[.bool false, .bool cb, .int .i64 cx, .int .u64 cu, .string ct, .complex .f64 cp cq] 45) (.bool false) (.bool cb) (.int .i64 cx) (.int .u64 cu) (.string ct) (.complex .f64 cp cq) (.int .i64 (many : Int))
      refine bodyPost_ret (results_cell_tmp_row' rfl _ _ _ w.heap.size 173 #[.bool false, .bool cb, .int .i64 cx, .int .u64 cu, .string ct, .complex .f64 cp cq, .int .i64 (many : Int)] (0, 0) rfl q3 Tryz.underlying173 (by exact info_r)) rfl ?_
      exact ⟨rfl, q2, q1⟩
end Go.Proofs.YtfkgmodgkifelaaGreatDoor
