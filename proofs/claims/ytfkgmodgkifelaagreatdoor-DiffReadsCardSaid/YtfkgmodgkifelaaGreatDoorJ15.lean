/- Dictionaries: the keys of cells. Dictionaries: a cell's key. Dictionaries, read: the plain function. -/
import Derived.Test.YtfkgmodgkifelaaGreatDoorJ13
import Derived.Test.YtfkgmodgkifelaaGreatDoorJ14
import Derived.DeepKeys4
import Derived.Maps.Keyed
import Derived.Lib.QuietBelow
import Derived.Test.YtfkgmodgkifelaaGreatDoorJ09
namespace Go.Proofs.YtfkgmodgkifelaaGreatDoor
open Go.RowKit

/-- A key: a number, a text, two numbers. -/
def kvA (n : Nat) (s : ByteArray) (p q : Int) : Array Value := #[.int .u64 (n : Int), .string s, .int .i64 p, .int .i64 q]
set_option maxRecDepth 100000
theorem laid_out : laidOutB Tryz.prog = true := by kernel_rfl
theorem row_key : (215 : TypeId) < Tryz.prog.types.size := of_decide_eq_true (by kernel_rfl)
theorem deep_key : Tryz.prog.keyType 215 = true := by kernel_rfl
theorem wide_key : (match Tryz.prog.underlying 215 with | some (.array _ _) | some (.struct _) => true | _ => false) = true := by kernel_rfl
theorem law_key : WideMaps.KeyLaw Tryz.prog 215 := deep_law_laid laid_out (m := 4) (by omega) row_key (by kernel_rfl) wide_key
theorem cells_key : Tryz.prog.cellsOf 215 = 4 := by kernel_rfl
theorem cells_key2 : Tryz.prog.cellsOf 213 = 2 := by kernel_rfl
theorem cells_i64 : Tryz.prog.cellsOf 2 = 1 := by kernel_rfl
theorem cells_u64 : Tryz.prog.cellsOf 42 = 1 := by kernel_rfl
theorem cells_str : Tryz.prog.cellsOf 9 = 1 := by kernel_rfl
structure KOk (n : Nat) (s : ByteArray) (p q : Int) : Prop where
  n1 : n < 18446744073709551616
  s1 : s.size ≤ maxLen
  p1 : -9223372036854775808 ≤ p
  p2 : p ≤ 9223372036854775807
  q1 : -9223372036854775808 ≤ q
  q2 : q ≤ 9223372036854775807
theorem key_of {n : Nat} {s : ByteArray} {p q : Int} (h : KOk n s p q) : ∃ l, keyOf Tryz.prog 215 (.agg (kvA n s p q)) = some l := by
  have hn : (Lit.int .u64 (n : Int)).wf = true := WalkArith.wf_u64 ⟨by omega, by have := h.n1; omega⟩
  have hp : (Lit.int .i64 p).wf = true := WalkArith.wf_i64 ⟨h.p1, h.p2⟩
  have hq : (Lit.int .i64 q).wf = true := WalkArith.wf_i64 ⟨h.q1, h.q2⟩
  have hs := h.s1
  obtain ⟨m, hm⟩ : ∃ m, Tryz.prog.types.size + 1 = m + 3 := ⟨Tryz.prog.types.size - 2, by have := of_decide_eq_true (p := 2 ≤ Tryz.prog.types.size) (by kernel_rfl); omega⟩
  unfold keyOf
  rw [hm]
  simp [Tryz.underlying215, deep_key, Value.formed, cells_key, kvA, Value.cells, Program.keyLits, cells_key2, cells_i64, cells_u64, cells_str, Tryz.underlying213, Tryz.underlying2, Tryz.underlying42, Tryz.underlying9, hn, hp, hq, hs, List.range_succ]
end Go.Proofs.YtfkgmodgkifelaaGreatDoor
namespace Go.Proofs.YtfkgmodgkifelaaGreatDoor
open Go.RowKit

/-- A cell whose parts may be. -/
structure KG (c : CD) : Prop where
  x1 : -9223372036854775808 ≤ c.x
  x2 : c.x ≤ 9223372036854775807
  u1 : 0 ≤ c.u
  u2 : c.u < 18446744073709551616
  t1 : c.t.size ≤ maxLen
  p1 : ∃ a : Int, a.natAbs ≤ 9007199254740992 ∧ c.p = floatOfInt .f64 a
  q1 : ∃ a : Int, a.natAbs ≤ 9007199254740992 ∧ c.q = floatOfInt .f64 a
def fi (x : Nat) : Int := (floatToIntVal .f64 x .i64).getD 0
theorem fi_int (a : Int) (h : a.natAbs ≤ 9007199254740992) : fi (floatOfInt .f64 a) = a := by unfold fi; rw [toInt_int a h]; rfl
theorem KG.pi {c : CD} (h : KG c) : floatToIntVal .f64 c.p .i64 = some (fi c.p) := by
  obtain ⟨a, ha, he⟩ := h.p1
  rw [he, fi_int a ha, toInt_int a ha]
theorem KG.qi {c : CD} (h : KG c) : floatToIntVal .f64 c.q .i64 = some (fi c.q) := by
  obtain ⟨a, ha, he⟩ := h.q1
  rw [he, fi_int a ha, toInt_int a ha]
theorem fi_le {x : Nat} {a : Int} (ha : a.natAbs ≤ 9007199254740992) (he : x = floatOfInt .f64 a) : -9007199254740992 ≤ fi x ∧ fi x ≤ 9007199254740992 := by rw [he, fi_int a ha]; omega
/-- A cell's key. -/
def ckN (k : Int) (c : CD) : Nat := if k = 1 then (if c.b = true then 1 else 0) else if k = 2 then (c.x % 18446744073709551616).toNat else if k = 3 then c.u.toNat else 0
def ckS (k : Int) (c : CD) : ByteArray := if k = 4 ∨ k = 5 then c.t else ByteArray.empty
def ckP (k : Int) (c : CD) : Int := if k = 6 then fi c.p else 0
def ckQ (k : Int) (c : CD) : Int := if k = 6 then fi c.q else 0
def ckA (k : Int) (c : CD) : Array Value := kvA (ckN k c) (ckS k c) (ckP k c) (ckQ k c)
theorem ck_ok (k : Int) {c : CD} (h : KG c) : KOk (ckN k c) (ckS k c) (ckP k c) (ckQ k c) := by
  obtain ⟨a, ha, he⟩ := h.p1
  obtain ⟨b, hb, hf⟩ := h.q1
  have h1 := fi_le ha he
  have h2 := fi_le hb hf
  have h3 := h.u1
  have h4 := h.u2
  have h5 := h.t1
  refine ⟨?_, ?_, ?_, ?_, ?_, ?_⟩
  · unfold ckN; repeat' split
    all_goals omega
  · unfold ckS; split
    · exact h5
    · simp [maxLen, ByteArray.size]
  · unfold ckP; split <;> omega
  · unfold ckP; split <;> omega
  · unfold ckQ; split <;> omega
  · unfold ckQ; split <;> omega
theorem ckA_inj {n m : Nat} {s t : ByteArray} {p q a b : Int} (h : kvA n s p q = kvA m t a b) : n = m ∧ s = t ∧ p = a ∧ q = b := by
  unfold kvA at h
  simp at h
  obtain ⟨h1, h2, h3, h4⟩ := h
  exact ⟨by omega, h2, h3, h4⟩
theorem ord_eq (a b : Int) (ha : a.natAbs ≤ 9007199254740992) (hb : b.natAbs ≤ 9007199254740992) : (FloatKind.f64.format.order (floatOfInt .f64 a) (floatOfInt .f64 b) == some .eq) = decide (a = b) := by
  rw [order_int a b ha hb]
  by_cases h : a = b
  · subst h; simp [compare, compareOfLessAndEq]
  · simp only [h, decide_false]
    rw [beq_eq_false_iff_ne]
    intro h2
    injection h2 with h2
    simp only [compare, compareOfLessAndEq] at h2
    split at h2
    · cases h2
    · cases h2
theorem str_eq (a b : ByteArray) : (a.toList == b.toList) = true ↔ a = b := by
  rw [beq_iff_eq]
  constructor
  · intro h
    rw [ByteArray.toList_eq, ByteArray.toList_eq] at h
    exact WideShapes.bytes_inj h
  · intro h; rw [h]
theorem ck_eq (k : Int) (h1 : 1 ≤ k) (h6 : k ≤ 6) {a b : CD} (ha : KG a) (hb : KG b) : ckA k a = ckA k b ↔ ceq k a b = true := by
  have hx := ha.x1; have hx' := ha.x2; have hy := hb.x1; have hy' := hb.x2
  have hu := ha.u1; have hv := hb.u1
  obtain ⟨p, hp, ep⟩ := ha.p1
  obtain ⟨q, hq, eq⟩ := ha.q1
  obtain ⟨p', hp', ep'⟩ := hb.p1
  obtain ⟨q', hq', eq'⟩ := hb.q1
  have hk : k = 1 ∨ k = 2 ∨ k = 3 ∨ k = 4 ∨ k = 5 ∨ k = 6 := by omega
  unfold ckA
  constructor
  · intro h
    obtain ⟨e1, e2, e3, e4⟩ := ckA_inj h
    rcases hk with rfl | rfl | rfl | rfl | rfl | rfl
    · simp [ckN] at e1
      simp [ceq]
      cases hA : a.b <;> cases hB : b.b <;> simp_all
    · simp [ckN] at e1
      simp [ceq]; omega
    · simp [ckN] at e1
      simp [ceq]; omega
    · simp [ckS] at e2
      simp [ceq, e2]
    · simp [ckS] at e2
      simp [ceq, e2]
    · simp [ckP] at e3
      simp [ckQ] at e4
      rw [ep, ep', fi_int p hp, fi_int p' hp'] at e3
      rw [eq, eq', fi_int q hq, fi_int q' hq'] at e4
      simp only [ceq]
      rw [ep, ep', eq, eq', e3, e4]
      simp [order_self _ hp', order_self _ hq']
  · intro h
    rcases hk with rfl | rfl | rfl | rfl | rfl | rfl
    · simp [ceq] at h
      simp [ckN, ckS, ckP, ckQ, h]
    · simp [ceq] at h
      simp [ckN, ckS, ckP, ckQ, h]
    · simp [ceq] at h
      simp [ckN, ckS, ckP, ckQ, h]
    · have h' := (str_eq a.t b.t).1 (by simpa [ceq] using h)
      simp [ckN, ckS, ckP, ckQ, h']
    · have h' := (str_eq a.t b.t).1 (by simpa [ceq] using h)
      simp [ckN, ckS, ckP, ckQ, h']
    · have h' : (FloatKind.f64.format.order a.p b.p == some .eq) = true ∧ (FloatKind.f64.format.order a.q b.q == some .eq) = true := by simpa [ceq] using h
      rw [ep, ep', eq, eq', ord_eq _ _ hp hp', ord_eq _ _ hq hq', decide_eq_true_eq, decide_eq_true_eq] at h'
      simp [ckN, ckS, ckP, ckQ, ep, ep', eq, eq', h'.1, h'.2]
theorem info_key : (Tryz.prog.info? 215).map (·.size) = some 4 := by kernel_rfl
theorem wrap_u64 (x : Int) : IntKind.u64.wrap x = ((x % 18446744073709551616).toNat : Int) := by
  have e : IntKind.u64.wrap x = x % 18446744073709551616 := rfl
  rw [e]; omega
theorem ckA_1 (b : Bool) (x u : Int) (t : ByteArray) (p q : Nat) : ckA 1 ⟨b, x, u, t, p, q⟩ = #[.int .u64 (if b = true then 1 else 0), .string ⟨#[]⟩, .int .i64 0, .int .i64 0] := by cases b <;> rfl
theorem ckA_2 (b : Bool) (x u : Int) (t : ByteArray) (p q : Nat) : ckA 2 ⟨b, x, u, t, p, q⟩ = #[.int .u64 (IntKind.u64.wrap x), .string ⟨#[]⟩, .int .i64 0, .int .i64 0] := by rw [wrap_u64]; rfl
theorem ckA_3 (b : Bool) (x u : Int) (t : ByteArray) (p q : Nat) (hu : 0 ≤ u) : ckA 3 ⟨b, x, u, t, p, q⟩ = #[.int .u64 u, .string ⟨#[]⟩, .int .i64 0, .int .i64 0] := by
  have e : (u.toNat : Int) = u := by omega
  show #[Value.int .u64 (u.toNat : Int), _, _, _] = _
  rw [e]; rfl
theorem ckA_4 (b : Bool) (x u : Int) (t : ByteArray) (p q : Nat) : ckA 4 ⟨b, x, u, t, p, q⟩ = #[.int .u64 0, .string t, .int .i64 0, .int .i64 0] := rfl
theorem ckA_5 (b : Bool) (x u : Int) (t : ByteArray) (p q : Nat) : ckA 5 ⟨b, x, u, t, p, q⟩ = #[.int .u64 0, .string t, .int .i64 0, .int .i64 0] := rfl
theorem ckA_6 (b : Bool) (x u : Int) (t : ByteArray) (p q : Nat) : ckA 6 ⟨b, x, u, t, p, q⟩ = #[.int .u64 0, .string ⟨#[]⟩, .int .i64 (fi p), .int .i64 (fi q)] := rfl
set_option maxHeartbeats 4000000 in
set_option maxRecDepth 100000 in
theorem keyed_any (k : Int) (h1 : 1 ≤ k) (h6 : k ≤ 6) (c : CD) (h : KG c) (w : World) :
    Calls Tryz.prog 170 #[.int .i64 k, c.v] w fun e w' => e = .returned (.agg (ckA k c)) ∧ Below w.heap.size w w' := by
  have hk : k = 1 ∨ k = 2 ∨ k = 3 ∨ k = 4 ∨ k = 5 ∨ k = 6 := by omega
  have hx := h.x1; have hx' := h.x2
  have hu := h.u1; have hu' := h.u2
  have hp := fun w => run_convert_float_int (P := Tryz.prog) w 153 2 .f64 .i64 c.p (fi c.p) (by kernel_rfl) Tryz.underlying2 h.pi
  have hq := fun w => run_convert_float_int (P := Tryz.prog) w 153 2 .f64 .i64 c.q (fi c.q) (by kernel_rfl) Tryz.underlying2 h.qi
  clear h
  obtain ⟨cb, cx, cu, ct, cp, cq⟩ := c
  unfold CD.v clV clA
  simp only at hp hq hx hx' hu hu' ⊢
  rcases hk with rfl | rfl | rfl | rfl | rfl | rfl
  · rw [ckA_1]
    cases cb
    all_goals
      go_enter Tryz.func170, Tryz.ntmps170
      go_wp2_with fail
      exact bodyPost_ret (results_cell_row rfl _ _ (w.heap.size + 1) 215 #[_, _, _, _] (0, 0) _ rfl (blk_2 _ _ _ _).out Tryz.underlying215 rfl info_key) rfl ⟨rfl, ((Below.refl _ _).alloc (Nat.le_refl _) _).alloc (by simp) _⟩
  · rw [ckA_2]
    go_enter Tryz.func170, Tryz.ntmps170
    go_wp2_with fail
    exact bodyPost_ret (results_cell_row rfl _ _ (w.heap.size + 1) 215 #[_, _, _, _] (0, 0) _ rfl (blk_2 _ _ _ _).out Tryz.underlying215 rfl info_key) rfl ⟨rfl, ((Below.refl _ _).alloc (Nat.le_refl _) _).alloc (by simp) _⟩
  · rw [ckA_3 _ _ _ _ _ _ hu]
    go_enter Tryz.func170, Tryz.ntmps170
    go_wp2_with fail
    exact bodyPost_ret (results_cell_row rfl _ _ (w.heap.size + 1) 215 #[_, _, _, _] (0, 0) _ rfl (blk_2 _ _ _ _).out Tryz.underlying215 rfl info_key) rfl ⟨rfl, ((Below.refl _ _).alloc (Nat.le_refl _) _).alloc (by simp) _⟩
  · rw [ckA_4]
    go_enter Tryz.func170, Tryz.ntmps170
    go_wp2_with fail
    exact bodyPost_ret (results_cell_row rfl _ _ (w.heap.size + 1) 215 #[_, _, _, _] (0, 0) _ rfl (blk_2 _ _ _ _).out Tryz.underlying215 rfl info_key) rfl ⟨rfl, ((Below.refl _ _).alloc (Nat.le_refl _) _).alloc (by simp) _⟩
  · rw [ckA_5]
    go_enter Tryz.func170, Tryz.ntmps170
    go_wp2_with fail
    exact bodyPost_ret (results_cell_row rfl _ _ (w.heap.size + 1) 215 #[_, _, _, _] (0, 0) _ rfl (blk_2 _ _ _ _).out Tryz.underlying215 rfl info_key) rfl ⟨rfl, ((Below.refl _ _).alloc (Nat.le_refl _) _).alloc (by simp) _⟩
  · rw [ckA_6]
    go_enter Tryz.func170, Tryz.ntmps170
    go_wp2_with fail
    exact bodyPost_ret (results_cell_row rfl _ _ (w.heap.size + 1) 215 #[_, _, _, _] (0, 0) _ rfl (blk_2 _ _ _ _).out Tryz.underlying215 rfl info_key) rfl ⟨rfl, ((Below.refl _ _).alloc (Nat.le_refl _) _).alloc (by simp) _⟩
end Go.Proofs.YtfkgmodgkifelaaGreatDoor
namespace Go.Proofs.YtfkgmodgkifelaaGreatDoor
open Go.RowKit

theorem kg_mk (b : Bool) (x u : Int) (t : ByteArray) (a c : Int) (h1 : -9223372036854775808 ≤ x) (h2 : x ≤ 9223372036854775807) (h3 : 0 ≤ u) (h4 : u < 18446744073709551616) (h5 : t.size ≤ maxLen) (ha : a.natAbs ≤ 9007199254740992) (hc : c.natAbs ≤ 9007199254740992) :
    KG ⟨b, x, u, t, floatOfInt .f64 a, floatOfInt .f64 c⟩ := ⟨h1, h2, h3, h4, h5, ⟨a, ha, rfl⟩, ⟨c, hc, rfl⟩⟩
theorem f_zero : floatOfInt .f64 0 = 0 := by kernel_rfl
theorem kg_mk0 (b : Bool) (x u : Int) (t : ByteArray) (h1 : -9223372036854775808 ≤ x) (h2 : x ≤ 9223372036854775807) (h3 : 0 ≤ u) (h4 : u < 18446744073709551616) (h5 : t.size ≤ maxLen) :
    KG ⟨b, x, u, t, 0, 0⟩ := by
  have := kg_mk b x u t 0 0 h1 h2 h3 h4 h5 (by simp) (by simp)
  rwa [f_zero] at this
theorem kg_z : KG CD.z := kg_mk0 _ _ _ _ (by omega) (by omega) (by omega) (by omega) (by simp [maxLen, ByteArray.size])
theorem kg_ite {c : Prop} [Decidable c] {a b : CD × Nat × Nat × Nat} (ha : c → KG a.1) (hb : ¬ c → KG b.1) : KG (if c then a else b).1 := by
  by_cases h : c
  · rw [if_pos h]; exact ha h
  · rw [if_neg h]; exact hb h
theorem num8_lt {D : List Nat} (hD : ∀ b ∈ D, b < 256) : (num 8 D).1 < 18446744073709551616 := by
  unfold num
  split
  · show 0 < _; omega
  · have h1 := le_lt (D.take 8) (fun b hb => hD b (List.mem_of_mem_take hb))
    have h2 : (D.take 8).length ≤ 8 := List.length_take_le _ _
    have h3 : (256 : Nat) ^ (D.take 8).length ≤ 256 ^ 8 := Nat.pow_le_pow_right (by omega) h2
    have h4 : (256 : Nat) ^ 8 = 18446744073709551616 := by rfl
    show le _ < _; omega
theorem wrap_lo (x : Int) : -9223372036854775808 ≤ wrap64 x := by unfold wrap64; omega
theorem wrap_hi (x : Int) : wrap64 x ≤ 9223372036854775807 := by unfold wrap64; omega
theorem gp_kg (k : Int) (D : List Nat) (hD : ∀ b ∈ D, b < 256) (hl : D.length ≤ maxLen) : KG (gp k D).1 := by
  have h8 := num8_lt hD
  have ht : (strN (textS 1048576 D).1).size ≤ maxLen := by
    have := (textS_le 1048576 D).2
    simp [strN_size]; omega
  unfold gp
  refine kg_ite (fun _ => ?_) (fun _ => kg_ite (fun _ => ?_) (fun _ => kg_ite (fun _ => ?_) (fun _ => kg_ite (fun _ => ?_) (fun _ => kg_ite (fun _ => ?_) (fun _ => ?_)))))
  · unfold gp1; exact kg_ite (fun _ => kg_ite (fun _ => kg_mk0 _ _ _ _ (by omega) (by omega) (by omega) (by omega) (by simp [maxLen, ByteArray.size])) (fun _ => kg_z)) (fun _ => kg_z)
  · unfold gp2; exact kg_ite (fun _ => kg_mk0 _ _ _ _ (wrap_lo _) (wrap_hi _) (by omega) (by omega) (by simp [maxLen, ByteArray.size])) (fun _ => kg_z)
  · unfold gp3; exact kg_ite (fun _ => kg_mk0 _ _ _ _ (by omega) (by omega) (by omega) (by omega) (by simp [maxLen, ByteArray.size])) (fun _ => kg_z)
  · unfold gp4; exact kg_ite (fun _ => kg_mk0 _ _ _ _ (by omega) (by omega) (by omega) (by omega) ht) (fun _ => kg_z)
  · unfold gp5; exact kg_ite (fun _ => kg_ite (fun _ => kg_mk0 _ _ _ _ (by omega) (by omega) (by omega) (by omega) ht) (fun _ => kg_z)) (fun _ => kg_z)
  · unfold gp6
    refine kg_ite (fun _ => kg_ite (fun _ => kg_ite (fun _ => kg_z) (fun hf => ?_)) (fun _ => kg_z)) (fun _ => kg_z)
    rw [not_or] at hf
    exact kg_mk _ _ _ _ _ _ (by omega) (by omega) (by omega) (by omega) (by simp [maxLen, ByteArray.size]) (far_abs hf.1) (far_abs hf.2)
/-- So many cells that are all other ones: the error, the place behind them, the cells. -/
def dgo (k : Int) (D : List Nat) : Nat → Nat → List CD → Nat × Nat × List CD
  | 0, p, l => (0, p, l)
  | m + 1, p, l =>
    if (gp k (D.drop p)).2.2.2 = 0 then
      (if l.any (fun x => ceq k x (gp k (D.drop p)).1) = true then (12, p, []) else dgo k D m (p + (gp k (D.drop p)).2.1) (l ++ [(gp k (D.drop p)).1]))
    else ((gp k (D.drop p)).2.2.2, p, [])
theorem dgo_on (k : Int) (D : List Nat) (m p : Nat) (l : List CD) (c : CD) (a e' er : Nat) (hg : gp k (D.drop p) = (c, a, e', er)) :
    dgo k D (m + 1) p l = if er = 0 then (if l.any (fun x => ceq k x c) = true then (12, p, []) else dgo k D m (p + a) (l ++ [c])) else (er, p, []) := by
  rw [dgo]; simp only [hg]
/-- So many places behind them. -/
def pgo (D : List Nat) (dl : List CD) : Nat → Nat → Nat → List CD → Nat × List CD
  | 0, p, seen, out => if p < D.length then (11, []) else if seen < dl.length then (12, []) else (0, out)
  | m + 1, p, seen, out =>
    if (few (D.drop p) 0).2.2 = 0 then
      (if seen < (few (D.drop p) 0).1 ∨ dl.length ≤ (few (D.drop p) 0).1 then (12, [])
       else pgo D dl m (p + (few (D.drop p) 0).2.1) (if (few (D.drop p) 0).1 = seen then seen + 1 else seen) (out ++ [dl.getD (few (D.drop p) 0).1 CD.z]))
    else ((few (D.drop p) 0).2.2, [])
theorem pgo_on (D : List Nat) (dl : List CD) (m p seen : Nat) (out : List CD) (x a e : Nat) (hf : few (D.drop p) 0 = (x, a, e)) :
    pgo D dl (m + 1) p seen out = if e = 0 then (if seen < x ∨ dl.length ≤ x then (12, []) else pgo D dl m (p + a) (if x = seen then seen + 1 else seen) (out ++ [dl.getD x CD.z])) else (e, []) := by
  rw [pgo]; simp only [hf]
/-- What bytes tell by a dictionary. -/
def dspecD (k : Int) (D : List Nat) (n : Nat) : Nat × List CD :=
  if (few D 0).2.2 = 0 then
    (if n < (few D 0).1 then (12, [])
     else if (dgo k D (few D 0).1 (few D 0).2.1 []).1 = 0 then pgo D (dgo k D (few D 0).1 (few D 0).2.1 []).2.2 n (dgo k D (few D 0).1 (few D 0).2.1 []).2.1 0 []
     else ((dgo k D (few D 0).1 (few D 0).2.1 []).1, []))
  else ((few D 0).2.2, [])
theorem dgo_le (k : Int) (D : List Nat) : ∀ (m p : Nat) (l : List CD), p ≤ D.length → (dgo k D m p l).2.1 ≤ D.length := by
  intro m
  induction m with
  | zero => intro p l h; exact h
  | succ m ih =>
    intro p l h
    rw [dgo]
    have := gp_le k (D.drop p)
    rw [List.length_drop] at this
    split
    · split
      · exact h
      · exact ih _ _ (by omega)
    · exact h
theorem dgo_len (k : Int) (D : List Nat) : ∀ (m p : Nat) (l : List CD), (dgo k D m p l).1 = 0 → (dgo k D m p l).2.2.length = l.length + m := by
  intro m
  induction m with
  | zero => intro p l _; rfl
  | succ m ih =>
    intro p l
    rw [dgo]
    split
    · split
      · intro h; cases h
      · intro h; rw [ih _ _ h]; simp; omega
    · intro h; rename_i h2; exact absurd h h2
end Go.Proofs.YtfkgmodgkifelaaGreatDoor
