/- Columns: plain.Encode of any cells. Columns: plain.Encode of bits; at every kind. Columns: cells some of which are missing; which ones are. Edits, read: the plain function, and that the bytes are the edits' own. Steps of cells, walked back: what each call of delta.Decode's gives. -/
import Derived.Test.YtfkgmodgkifelaaGreatDoorJ19
import Derived.Test.YtfkgmodgkifelaaGreatDoorJ10
import Derived.Test.YtfkgmodgkifelaaGreatDoorJ11
import Derived.Test.YtfkgmodgkifelaaGreatDoorJ13
import Derived.Test.YtfkgmodgkifelaaGreatDoorJ14
namespace Go.Proofs.YtfkgmodgkifelaaGreatDoor
open Go.RowKit

/-- How many bytes cells count. -/
def tby (l : List CD) : Nat := (l.map fun c => 20 + c.t.size).sum
theorem tby_cons (c : CD) (l : List CD) : tby (c :: l) = 20 + c.t.size + tby l := by simp [tby]
theorem tby_append (a b : List CD) : tby (a ++ b) = tby a + tby b := by simp [tby]
theorem tby_mem {l : List CD} {c : CD} (h : c ∈ l) : 20 + c.t.size ≤ tby l := by
  induction l with
  | nil => cases h
  | cons d l ih =>
    rw [tby_cons]
    rcases List.mem_cons.1 h with rfl | h
    · omega
    · have := ih h; omega
theorem tby_take (l : List CD) (i : Nat) : tby (l.take i) ≤ tby l := by
  have h := tby_append (l.take i) (l.drop i)
  rw [List.take_append_drop] at h
  omega
theorem flat_len (k : Int) : ∀ (l : List CD), (∀ c ∈ l, KG c) → (l.flatMap (cellB k)).length ≤ tby l := by
  intro l
  induction l with
  | nil => intro _; simp
  | cons c l ih =>
    intro h
    rw [List.flatMap_cons, List.length_append, tby_cons]
    have h1 := cellB_len k (h c (by simp))
    have h2 := ih (fun x hx => h x (by simp [hx]))
    omega
theorem take_flat (k : Int) {l : List CD} {i : Nat} {c : CD} (h : l[i]? = some c) : (l.take (i + 1)).flatMap (cellB k) = (l.take i).flatMap (cellB k) ++ cellB k c := by
  have hi := (List.getElem?_eq_some_iff.1 h).1
  rw [List.take_succ_eq_append_getElem hi, List.flatMap_append]
  have : l[i] = c := (List.getElem?_eq_some_iff.1 h).2
  rw [this]; simp
/-- Cells that may be written: parts that may be, not too many, not too many bytes. -/
structure Wok (l : List CD) : Prop where
  kg : ∀ c ∈ l, KG c
  len : l.length ≤ 10000
  by_ : tby l ≤ 1100000
theorem Wok.pre {l : List CD} (h : Wok l) (i : Nat) (k : Int) : ((l.take i).flatMap (cellB k)).length ≤ 1100000 :=
  Nat.le_trans (flat_len k _ (fun c hc => h.kg c (List.mem_of_mem_take hc))) (Nat.le_trans (tby_take l i) h.by_)
theorem InC.form {w : World} {v : Value} {l : List CD} (h : InC w v l) : ∃ A c, v = .slice A l.length c ∧ ∀ i x, l[i]? = some x → ∃ g, A = some ⟨g, 0, none⟩ ∧ g < w.heap.size ∧ AtC w g (i * 6) x.b x.x x.u x.t x.p x.q := by
  rcases h with ⟨rfl, a, c, rfl⟩ | ⟨_, g, c, rfl, hg, hc⟩
  · exact ⟨a, c, rfl, fun i x hx => by simp at hx⟩
  · exact ⟨_, c, rfl, fun i x hx => ⟨g, rfl, hg.1, hc i x hx⟩⟩
theorem InC.form2 {w : World} {v : Value} {l : List CD} (h : InC w v l) : ∃ A c, v = .slice A l.length c ∧ (0 < l.length → l.length ≤ c) ∧ ∀ i x, l[i]? = some x → ∃ g, A = some ⟨g, 0, none⟩ ∧ g < w.heap.size ∧ AtC w g (i * 6) x.b x.x x.u x.t x.p x.q := by
  rcases h with ⟨rfl, a, c, rfl⟩ | ⟨_, g, c, rfl, hg, hc⟩
  · exact ⟨a, c, rfl, fun h => by simp at h, fun i x hx => by simp at hx⟩
  · exact ⟨_, c, rfl, fun _ => hg.2, fun i x hx => ⟨g, rfl, hg.1, hc i x hx⟩⟩
set_option maxHeartbeats 2000000 in
set_option maxRecDepth 100000 in
theorem pencodeL (k : Int) (h2 : 2 ≤ k) (h6 : k ≤ 6) (l : List CD) (hl : Wok l) (v : Value) (w : World) (hv : InC w v l) :
    Calls Tryz.prog 87 #[.int .i64 k, v] w fun e w' => e = .returned (.string (strN (l.flatMap (cellB k)))) ∧ Below w.heap.size w w' := by
  obtain ⟨A, ca, rfl, hcell⟩ := hv.form
  have HC := hide hcell
  have HL := hide hl
  have hlen := hl.len
  have hk : ((k : Int) == 1) = false := by rw [beq_eq_false_iff_ne]; omega
  have KP := hide (fun (W B : Nat) (sv : Value) (m : List Nat) (c : CD) (hc : KG c) (hs : c.t.size ≤ 11000000) (w : World) (h : Wr w W B sv m) (hm : m.length ≤ 18000000) (hB : B ≤ w.heap.size) => pput_all k (by omega) h6 W B sv m c hc hs w h hm hB)
  clear hv hcell hl h2 h6
  generalize hn : l.length = n at *
  have HN := hide hn
  clear hn
  have hst := fun (w1 : World) (a1 : Addr) (m : Mode) (x y : Nat) => run_store Tryz.prog w1 a1 (.complex .f64 x y) m rfl
  go_enter Tryz.func87, Tryz.ntmps87
  go_wp2_with fail
  go_loopw [33] (fun iv wr => ∃ i : Nat, i ≤ n ∧ iv = .int .i64 (i : Int) ∧ ∃ sv', Wr wr w.heap.size w.heap.size sv' ((l.take i).flatMap (cellB k)) ∧ Below w.heap.size w wr) (fun iv _ => n - (intOf iv).toNat)
  case atStart =>
    refine ⟨0, by omega, rfl, .slice none 0 0, ⟨Blk.new _ _ _, ?_, Nat.le_refl _⟩, (Below.refl _ _).alloc (Nat.le_refl _) _⟩
    exact ownU8_nil _ _
  case round =>
    obtain ⟨i, hi, rfl, sv', hw, hb⟩ := hrel
    by_cases hlt : i < n
    · obtain ⟨x, hx⟩ : ∃ x, l[i]? = some x := ⟨l[i]'(by rw [HN.out]; exact hlt), List.getElem?_eq_getElem _⟩
      obtain ⟨g, hA, hg, hat⟩ := HC.out i x hx
      subst hA
      have hgr : g < wr.heap.size := Nat.lt_of_lt_of_le hg hb.size
      obtain ⟨a0, a1, a2, a3, a4, a5⟩ := hat.below hb hg
      have HW := hide hw
      have HB := hide hb
      have hxm := List.mem_of_getElem? hx
      have KP2 := hide (fun o => KP.out _ _ _ _ x (HL.out.kg x hxm) (by have := tby_mem hxm; have := HL.out.by_; omega) (wr.alloc o) (HW.out.below ((Below.refl _ _).alloc (Nat.le_refl _) _)) (by have := HL.out.pre i k; omega) (by simp; exact Nat.le_succ_of_le HB.out.size))
      rw [← take_flat k hx] at KP2
      have HLT := hide hlt
      clear hw hb hx hxm hat
      obtain ⟨xb, xx, xu, xt, xp, xq⟩ := x
      unfold CD.v clV clA at KP2
      simp only at KP2 a0 a1 a2 a3 a4 a5
      have hi0 : (0 : Int) ≤ (i : Int) := by omega
      have hi1 : (i : Int) < (n : Int) := by omega
      clear hlt
      go_wp2_with fail
      refine (KP2.out _).mono ?_
      rintro e w2 ⟨rfl, sv2, hw2, hs2⟩
      have HW2 := hide hw2
      have HB2 := hide ((HB.out.alloc HB.out.size _).trans (hs2.below (HW.out.below ((Below.refl wr.heap.size wr).alloc (Nat.le_refl _) _)) (by simp; exact Nat.le_succ_of_le HB.out.size)))
      clear hw2 hs2 a0 a1 a2 a3 a4 a5 KP2
      go_wp2_with fail
      go_roundw
      case rel => exact ⟨i + 1, by have := HLT.out; omega, by go_num, sv2, HW2.out, HB2.out⟩
      case measure => have := HLT.out; simp [intOf] <;> omega
    · obtain rfl : n = i := by omega
      have K := hide (wstring_any _ _ _ _ _ hw)
      have HB := hide hb
      rw [List.take_of_length_le (by rw [HN.out]; exact Nat.le_refl _)] at K
      clear hw hb
      go_wp2_with fail
      refine K.out.mono ?_
      rintro e w2 ⟨rfl, rfl⟩
      go_wp2_with fail
      go_ret
      exact ⟨rfl, HB.out⟩
end Go.Proofs.YtfkgmodgkifelaaGreatDoor
namespace Go.Proofs.YtfkgmodgkifelaaGreatDoor
open Go.RowKit

theorem rowIs_below {w w' : World} {b n B : Nat} {t : TypeId} {f : Nat → Value} (h : w.rowIs b t n f) (hb : Below B w w') (hB : b < B) : w'.rowIs b t n f := h.of_block (hb.block b hB)
theorem slB_row {w : World} {b n : Nat} {t : TypeId} {f : Nat → Value} (h : w.rowIs b t n f) (l : List Bool) (hl : l.length = n) (hn : n ≤ maxLen) (hf : ∀ i, i < n → f i = .bool (l.getD i false)) : SlB w (.slice (some ⟨b, 0, none⟩) n n) l := by
  subst hl
  refine ⟨hn, ?_⟩
  rcases Nat.eq_zero_or_pos l.length with h0 | h0
  · exact .inl ⟨h0, _, _, by rw [h0], fun h => by cases h⟩
  · exact .inr ⟨h0, b, 0, l.length, rfl, Nat.le_refl _, h.lt, fun i hi => by rw [Nat.zero_add, h.cell hi, hf i hi]⟩
set_option maxHeartbeats 2000000 in
set_option maxRecDepth 100000 in
theorem pencode1 (l : List CD) (hlen : l.length ≤ 10000) (v : Value) (w : World) (hv : InC w v l) :
    Calls Tryz.prog 87 #[.int .i64 1, v] w fun e w' => e = .returned (.string (strN (packL (l.map (·.b))))) ∧ Below w.heap.size w w' := by
  obtain ⟨A, ca, rfl, hcell⟩ := hv.form
  have HC := hide hcell
  have KP := hide (fun (v : Value) (w : World) h => pack_any (l.map (·.b)) (by simp; omega) v w h)
  have KS := hide (fun (w : World) (b : Nat) (f : Nat → Value) (h : w.rowIs b 4 l.length f) hf => slB_row h (l.map (·.b)) (by simp) (by unfold maxLen; omega) hf)
  have hmk := run_make_row' (P := Tryz.prog) 50 4 (.bool false) 1 Tryz.underlying50 info_bool rfl .i64 .i64 l.length (by omega) (by omega)
  clear hv hcell
  generalize hn : l.length = n at *
  have HN := hide hn
  clear hn
  have hR := hide (World.rowIs_made w (.bool false) n 4)
  have hst := fun (w1 : World) (a1 : Addr) (m : Mode) (x y : Nat) => run_store Tryz.prog w1 a1 (.complex .f64 x y) m rfl
  generalize madeCells #[Value.bool false] n = CZ at *
  go_enter Tryz.func87, Tryz.ntmps87
  go_wp2_with fail
  go_loopw [18] (fun iv wr => ∃ i : Nat, i ≤ n ∧ iv = .int .i64 (i : Int) ∧ Hid (wr.rowIs w.heap.size 4 n (fun j => .bool (decide (j < i) && (l.map (·.b)).getD j false))) ∧ Hid (Below w.heap.size w wr)) (fun iv _ => n - (intOf iv).toNat)
  case atStart => exact ⟨0, by omega, rfl, hR.out.congr (fun i _ => by simp), (Below.refl _ _).alloc (Nat.le_refl _) _⟩
  case round =>
    obtain ⟨i, hi, rfl, hrow, hb⟩ := hrel
    by_cases hlt : i < n
    · obtain ⟨x, hx⟩ : ∃ x, l[i]? = some x := ⟨l[i]'(by rw [HN.out]; exact hlt), List.getElem?_eq_getElem _⟩
      obtain ⟨g, hA, hg, hat⟩ := HC.out i x hx
      subst hA
      obtain ⟨a0, a1, a2, a3, a4, a5⟩ := hat.below hb.out hg
      have hgd : (l.map (·.b)).getD i false = x.b := by simp [List.getD, hx]
      obtain ⟨xb, xx, xu, xt, xp, xq⟩ := x
      simp only at a0 a1 a2 a3 a4 a5 hgd
      have HR1 := hide (hrow.out.alloc (.cells #[.bool false, .bool xb, .int .i64 xx, .int .u64 xu, .string xt, .complex .f64 xp xq] 45))
      have c0 := HR1.out.cell hlt
      have c1 := HR1.out.frozen i
      have HR2 : Hid (((wr.setCell ⟨w.heap.size, i, none⟩ (.bool xb)).alloc (.cells #[.bool false, .bool xb, .int .i64 xx, .int .u64 xu, .string xt, .complex .f64 xp xq] 45)).rowIs w.heap.size 4 n (fun j => .bool (decide (j < i + 1) && (l.map (·.b)).getD j false))) := by
        refine ((hrow.out.set i (.bool xb)).alloc _).congr (fun j hj => ?_)
        by_cases e : j = i
        · subst e; rw [if_pos rfl, hgd]; simp
        · have : decide (j < i + 1) = decide (j < i) := by rw [decide_eq_decide]; omega
          rw [if_neg e, this]
      have HB1 := hb.out.setCell (p := ⟨w.heap.size, i, none⟩) (Nat.le_refl _) (.bool xb)
      have HB2 := hide (HB1.alloc HB1.size (.cells #[.bool false, .bool xb, .int .i64 xx, .int .u64 xu, .string xt, .complex .f64 xp xq] 45))
      clear HB1
      have hzw : w.heap.size < wr.heap.size := hrow.out.lt
      have hi0 : (0 : Int) ≤ (i : Int) := by omega
      have hi1 : (i : Int) < (n : Int) := by omega
      have HLT := hide hlt
      clear hat hx hgd hlt
      go_wp2_with fail
      go_roundw
      case rel => exact ⟨i + 1, by have := HLT.out; omega, by go_num, HR2.out, HB2.out⟩
      case measure => have := HLT.out; simp [intOf]; omega
    · obtain rfl : n = i := by omega
      have hsl := KS.out wr w.heap.size _ hrow.out (fun i hi => by simp [hi])
      have HB := hide hb.out
      have K2 := hide (KP.out _ _ hsl)
      clear hrow hb hlt hsl hi
      go_wp2_with fail
      refine K2.out.mono ?_
      rintro e w2 ⟨rfl, hb2⟩
      have HB2 := hide (HB.out.trans (hb2.mono HB.out.size))
      clear hb2
      go_wp2_with fail
      go_ret
      exact ⟨rfl, HB2.out⟩
theorem pencode_all (k : Int) (h1 : 1 ≤ k) (h6 : k ≤ 6) (l : List CD) (hl : Wok l) (v : Value) (w : World) (hv : InC w v l) :
    Calls Tryz.prog 87 #[.int .i64 k, v] w fun e w' => e = .returned (.string (strN (encP k l))) ∧ Below w.heap.size w w' := by
  unfold encP
  by_cases hk : k = 1
  · subst hk
    rw [if_pos rfl]
    exact pencode1 l hl.len v w hv
  · rw [if_neg hk]
    exact pencodeL k (by omega) h6 l hl v w hv
end Go.Proofs.YtfkgmodgkifelaaGreatDoor
namespace Go.Proofs.YtfkgmodgkifelaaGreatDoor
open Go.RowKit

/-- A cell that may be missing. -/
abbrev MC := Bool × CD
def cellsM (c : MC) : List Go.Value := [.bool c.1, .bool c.2.b, .int .i64 c.2.x, .int .u64 c.2.u, .string c.2.t, .complex .f64 c.2.p c.2.q]
structure AtM (w : World) (g o : Nat) (n b : Bool) (x u : Int) (t : ByteArray) (p q : Nat) : Prop where
  c0 : w.cell? ⟨g, o, none⟩ = some (.bool n)
  c1 : w.cell? ⟨g, o + 1, none⟩ = some (.bool b)
  c2 : w.cell? ⟨g, o + 2, none⟩ = some (.int .i64 x)
  c3 : w.cell? ⟨g, o + 3, none⟩ = some (.int .u64 u)
  c4 : w.cell? ⟨g, o + 4, none⟩ = some (.string t)
  c5 : w.cell? ⟨g, o + 5, none⟩ = some (.complex .f64 p q)
theorem AtM.below {w w' : World} {g o : Nat} {n b : Bool} {x u : Int} {t : ByteArray} {p q : Nat} (h : AtM w g o n b x u t p q) {B : Nat} (hb : Below B w w') (hg : g < B) : AtM w' g o n b x u t p q :=
  ⟨(hb.cell (p := ⟨g, _, none⟩) hg).trans h.c0, (hb.cell (p := ⟨g, _, none⟩) hg).trans h.c1, (hb.cell (p := ⟨g, _, none⟩) hg).trans h.c2, (hb.cell (p := ⟨g, _, none⟩) hg).trans h.c3, (hb.cell (p := ⟨g, _, none⟩) hg).trans h.c4, (hb.cell (p := ⟨g, _, none⟩) hg).trans h.c5⟩
/-- A slice of such cells, as a caller gives it. -/
def InM (w : World) (v : Value) (l : List MC) : Prop :=
  ∃ A c, v = .slice A l.length c ∧ ∀ i x, l[i]? = some x → ∃ g, A = some ⟨g, 0, none⟩ ∧ g < w.heap.size ∧ AtM w g (i * 6) x.1 x.2.b x.2.x x.2.u x.2.t x.2.p x.2.q
theorem InM.below {w w' : World} {v : Value} {l : List MC} (h : InM w v l) (hb : Below w.heap.size w w') : InM w' v l := by
  obtain ⟨A, c, rfl, hc⟩ := h
  refine ⟨A, c, rfl, fun i x hx => ?_⟩
  obtain ⟨g, hA, hg, hat⟩ := hc i x hx
  exact ⟨g, hA, Nat.lt_of_lt_of_le hg hb.size, hat.below hb hg⟩
set_option maxHeartbeats 2000000 in
set_option maxRecDepth 100000 in
theorem nnulls_any (l : List MC) (hlen : l.length ≤ 10000) (v : Value) (w : World) (hv : InM w v l) :
    Calls Tryz.prog 41 #[v] w fun e w' => (∃ b, e = .returned (.slice (some ⟨b, 0, none⟩) l.length l.length) ∧ SlB w' (.slice (some ⟨b, 0, none⟩) l.length l.length) (l.map (·.1))) ∧ Below w.heap.size w w' := by
  obtain ⟨A, ca, rfl, hcell⟩ := hv
  have HC := hide hcell
  have KS := hide (fun (w : World) (b : Nat) (f : Nat → Value) (h : w.rowIs b 4 l.length f) hf => slB_row h (l.map (·.1)) (by simp) (by unfold maxLen; omega) hf)
  have hmk := run_make_row' (P := Tryz.prog) 50 4 (.bool false) 1 Tryz.underlying50 info_bool rfl .i64 .i64 l.length (by omega) (by omega)
  clear hcell
  generalize hn : l.length = n at *
  have HN := hide hn
  clear hn
  have hR := hide (World.rowIs_made w (.bool false) n 4)
  have hst := fun (w1 : World) (a1 : Addr) (m : Mode) (x y : Nat) => run_store Tryz.prog w1 a1 (.complex .f64 x y) m rfl
  generalize madeCells #[Value.bool false] n = CZ at *
  go_enter Tryz.func41, Tryz.ntmps41
  go_wp2_with fail
  go_loopw [11] (fun iv wr => ∃ i : Nat, i ≤ n ∧ iv = .int .i64 (i : Int) ∧ Hid (wr.rowIs w.heap.size 4 n (fun j => .bool (decide (j < i) && (l.map (·.1)).getD j false))) ∧ Hid (Below w.heap.size w wr)) (fun iv _ => n - (intOf iv).toNat)
  case atStart => exact ⟨0, by omega, rfl, hR.out.congr (fun i _ => by simp), (Below.refl _ _).alloc (Nat.le_refl _) _⟩
  case round =>
    obtain ⟨i, hi, rfl, hrow, hb⟩ := hrel
    by_cases hlt : i < n
    · obtain ⟨x, hx⟩ : ∃ x, l[i]? = some x := ⟨l[i]'(by rw [HN.out]; exact hlt), List.getElem?_eq_getElem _⟩
      obtain ⟨g, hA, hg, hat⟩ := HC.out i x hx
      subst hA
      obtain ⟨a0, a1, a2, a3, a4, a5⟩ := hat.below hb.out hg
      have hgd : (l.map (·.1)).getD i false = x.1 := by simp [List.getD, hx]
      obtain ⟨xn, xb, xx, xu, xt, xp, xq⟩ := x
      simp only at a0 a1 a2 a3 a4 a5 hgd
      have HR1 := hide (hrow.out.alloc (.cells #[.bool xn, .bool xb, .int .i64 xx, .int .u64 xu, .string xt, .complex .f64 xp xq] 45))
      have c0 := HR1.out.cell hlt
      have c1 := HR1.out.frozen i
      have HR2 : Hid (((wr.setCell ⟨w.heap.size, i, none⟩ (.bool xn)).alloc (.cells #[.bool xn, .bool xb, .int .i64 xx, .int .u64 xu, .string xt, .complex .f64 xp xq] 45)).rowIs w.heap.size 4 n (fun j => .bool (decide (j < i + 1) && (l.map (·.1)).getD j false))) := by
        refine ((hrow.out.set i (.bool xn)).alloc _).congr (fun j hj => ?_)
        by_cases e : j = i
        · subst e; rw [if_pos rfl, hgd]; simp
        · have : decide (j < i + 1) = decide (j < i) := by rw [decide_eq_decide]; omega
          rw [if_neg e, this]
      have HB1 := hb.out.setCell (p := ⟨w.heap.size, i, none⟩) (Nat.le_refl _) (.bool xn)
      have HB2 := hide (HB1.alloc HB1.size (.cells #[.bool xn, .bool xb, .int .i64 xx, .int .u64 xu, .string xt, .complex .f64 xp xq] 45))
      clear HB1
      have hzw : w.heap.size < wr.heap.size := hrow.out.lt
      have hi0 : (0 : Int) ≤ (i : Int) := by omega
      have hi1 : (i : Int) < (n : Int) := by omega
      have HLT := hide hlt
      clear hat hx hgd hlt
      go_wp2_with fail
      go_roundw
      case rel => exact ⟨i + 1, by have := HLT.out; omega, by go_num, HR2.out, HB2.out⟩
      case measure => have := HLT.out; simp [intOf]; omega
    · obtain rfl : n = i := by omega
      have hsl := KS.out wr w.heap.size _ hrow.out (fun i hi => by simp [hi])
      have HB := hide hb.out
      have HSL := hide hsl
      clear hrow hb hlt hsl hi
      go_wp2_with fail
      go_ret
      exact ⟨⟨_, rfl, HSL.out⟩, HB.out⟩
end Go.Proofs.YtfkgmodgkifelaaGreatDoor
namespace Go.Proofs.YtfkgmodgkifelaaGreatDoor
open Go.RowKit

/-- An edit: the row, and the cell. -/
abbrev Ed := Nat × MC
/-- An edit as bytes, behind so many rows. -/
def edB (k : Int) (next : Nat) (e : Ed) : List Nat := uvar (e.1 - next) ++ (if e.2.1 then [1] else 0 :: cellB k e.2.2)
def edsB (k : Int) : Nat → List Ed → List Nat
  | _, [] => []
  | next, e :: es => edB k next e ++ edsB k (e.1 + 1) es
/-- So many edits, read: the error, what is left, all of them. -/
def edGo (k : Int) (rows : Nat) : Nat → List Nat → Nat → List Ed → Nat × List Nat × List Ed
  | 0, D, _, acc => (0, D, acc)
  | n + 1, D, next, acc =>
    if (few D 0).2.2 ≠ 0 then ((few D 0).2.2, [], [])
    else if D.length ≤ (few D 0).2.1 then (10, [], [])
    else if rows - next ≤ (few D 0).1 ∨ 1 < D.getD (few D 0).2.1 0 then (12, [], [])
    else if D.getD (few D 0).2.1 0 = 1 then edGo k rows n (D.drop ((few D 0).2.1 + 1)) (next + (few D 0).1 + 1) (acc ++ [(next + (few D 0).1, (true, CD.z))])
    else if (gp k (D.drop ((few D 0).2.1 + 1))).2.2.2 ≠ 0 then ((gp k (D.drop ((few D 0).2.1 + 1))).2.2.2, [], [])
    else edGo k rows n ((D.drop ((few D 0).2.1 + 1)).drop (gp k (D.drop ((few D 0).2.1 + 1))).2.1) (next + (few D 0).1 + 1) (acc ++ [(next + (few D 0).1, (false, (gp k (D.drop ((few D 0).2.1 + 1))).1))])
theorem edGo_one (k : Int) (h1 : 1 ≤ k) (h6 : k ≤ 6) (rows : Nat) : ∀ (n : Nat) (D : List Nat) (next : Nat) (acc : List Ed) (rest : List Nat) (l : List Ed), (∀ b ∈ D, b < 256) → edGo k rows n D next acc = (0, rest, l) →
    ∃ l', l = acc ++ l' ∧ l'.length = n ∧ D = edsB k next l' ++ rest := by
  intro n
  induction n with
  | zero =>
    intro D next acc rest l _ h
    injection h with _ h
    injection h with h1 h2
    exact ⟨[], by simp [h2], rfl, by simp [edsB, h1]⟩
  | succ n ih =>
    intro D next acc rest l hD h
    obtain ⟨⟨x, a, e⟩, hf⟩ : ∃ y : Nat × Nat × Nat, few D 0 = y := ⟨_, rfl⟩
    unfold edGo at h
    rw [hf] at h
    simp only at h
    by_cases he : e = 0
    · subst he
      rw [if_neg (by simp)] at h
      obtain ⟨g1, _⟩ := few_one D 0 hD (by rw [hf])
      rw [hf] at g1
      simp only at g1
      by_cases h2 : D.length ≤ a
      · rw [if_pos h2] at h; cases h
      · rw [if_neg h2] at h
        by_cases h3 : rows - next ≤ x ∨ 1 < D.getD a 0
        · rw [if_pos h3] at h; cases h
        · rw [if_neg h3] at h
          have hlt : a < D.length := by omega
          have hg : D[a]? = some (D.getD a 0) := by simp [List.getD, List.getElem?_eq_getElem hlt]
          have hd : D = uvar x ++ (D.getD a 0 :: D.drop (a + 1)) := by
            have h4 := dropK_at hg
            rw [← h4, ← g1, List.take_append_drop]
          have hD' : ∀ b ∈ D.drop (a + 1), b < 256 := fun b hb => hD b (List.mem_of_mem_drop hb)
          generalize hX : D.drop (a + 1) = X at *
          by_cases h4 : D.getD a 0 = 1
          · rw [if_pos h4] at h
            obtain ⟨l', rfl, hl', hx⟩ := ih _ _ _ _ _ hD' h
            refine ⟨_ :: l', by rw [List.append_assoc]; rfl, by rw [List.length_cons, hl'], ?_⟩
            rw [h4] at hd
            rw [hd, hx]
            simp [edsB, edB]
          · rw [if_neg h4] at h
            have h40 : D.getD a 0 = 0 := by omega
            by_cases h5 : (gp k X).2.2.2 = 0
            · rw [if_neg (by simp [h5])] at h
              obtain ⟨l', rfl, hl', hx⟩ := ih _ _ _ _ _ (fun b hb => hD' b (List.mem_of_mem_drop hb)) h
              refine ⟨_ :: l', by rw [List.append_assoc]; rfl, by rw [List.length_cons, hl'], ?_⟩
              have g5 := gp_one k h1 h6 X hD' h5
              have hX2 : X = cellB k (gp k X).1 ++ X.drop (gp k X).2.1 := by rw [← g5, List.take_append_drop]
              rw [h40] at hd
              rw [hd]
              simp only [edsB, edB]
              rw [Nat.add_sub_cancel_left, if_neg (by simp), List.append_assoc, List.append_assoc, List.cons_append, ← hx, ← hX2]
            · rw [if_pos h5] at h
              injection h with h _
              exact absurd h h5
    · rw [if_pos he] at h
      injection h with h _
      exact absurd h he
end Go.Proofs.YtfkgmodgkifelaaGreatDoor
namespace Go.Proofs.YtfkgmodgkifelaaGreatDoor
open Go.RowKit

theorem farB_no {x : Int} (h : farB x = false) : x.natAbs ≤ 9007199254740992 := far_abs (by rw [h]; exact Bool.false_ne_true)
set_option maxHeartbeats 1000000 in
set_option maxRecDepth 100000 in
theorem dsum_gen (a b : Int) (ha : a.natAbs ≤ 9007199254740992) (hb : b.natAbs ≤ 9007199254740992) (w : World) :
    Calls Tryz.prog 157 #[.float .f64 (floatOfInt .f64 a), .float .f64 (floatOfInt .f64 b)] w fun e w' => e = .returned (.bool (!farB (a + b))) ∧ w = w' := by
  have h4 := fun w => run_convert_float_int (P := Tryz.prog) w 153 2 .f64 .i64 (floatOfInt .f64 a) a (by kernel_rfl) Tryz.underlying2 (toInt_int a ha)
  have h5 := fun w => run_convert_float_int (P := Tryz.prog) w 153 2 .f64 .i64 (floatOfInt .f64 b) b (by kernel_rfl) Tryz.underlying2 (toInt_int b hb)
  have h6 : wrap64 (a + b) = a + b := by unfold wrap64; omega
  generalize floatOfInt .f64 a = fa at *
  generalize floatOfInt .f64 b = fb at *
  by_cases h1 : a + b < -9007199254740992
  · have e : Hid ((!farB (a + b)) = false) := by show _ = _; unfold farB; simp [h1]
    have h7 : decide (-9007199254740992 ≤ a + b) = false := by rw [decide_eq_false_iff_not]; omega
    rw [e.out]
    clear ha hb
    go_enter Tryz.func157, Tryz.ntmps157
    go_wp2_with fail
    go_ret
    exact ⟨rfl, rfl⟩
  · by_cases h2 : 9007199254740992 < a + b
    · have e : Hid ((!farB (a + b)) = false) := by show _ = _; unfold farB; simp [h2]
      have h7 : decide (-9007199254740992 ≤ a + b) = true := by rw [decide_eq_true_eq]; omega
      have h8 : decide (a + b ≤ 9007199254740992) = false := by rw [decide_eq_false_iff_not]; omega
      rw [e.out]
      clear ha hb h1
      go_enter Tryz.func157, Tryz.ntmps157
      go_wp2_with fail
      go_ret
      exact ⟨rfl, rfl⟩
    · have e : Hid ((!farB (a + b)) = true) := by show _ = _; unfold farB; simp [h1, h2]
      have h7 : decide (-9007199254740992 ≤ a + b) = true := by rw [decide_eq_true_eq]; omega
      have h8 : decide (a + b ≤ 9007199254740992) = true := by rw [decide_eq_true_eq]; omega
      rw [e.out]
      clear ha hb h1 h2
      go_enter Tryz.func157, Tryz.ntmps157
      go_wp2_with fail
      go_ret
      exact ⟨rfl, rfl⟩
set_option maxHeartbeats 1000000 in
set_option maxRecDepth 100000 in
theorem reach_gen (a b c d : Int) (ha : a.natAbs ≤ 9007199254740992) (hb : b.natAbs ≤ 9007199254740992) (hc : c.natAbs ≤ 9007199254740992) (hd : d.natAbs ≤ 9007199254740992) (w : World) :
    Calls Tryz.prog 139 #[.complex .f64 (floatOfInt .f64 a) (floatOfInt .f64 b), .complex .f64 (floatOfInt .f64 c) (floatOfInt .f64 d)] w fun e w' => e = .returned (.bool (!farB (a + c) && !farB (b + d))) ∧ w = w' := by
  have K1 := hide (dsum_gen a c ha hc)
  have K2 := hide (dsum_gen b d hb hd)
  clear ha hb hc hd
  generalize floatOfInt .f64 a = fa at *
  generalize floatOfInt .f64 b = fb at *
  generalize floatOfInt .f64 c = fc at *
  generalize floatOfInt .f64 d = fd at *
  cases h1 : (!farB (a + c))
  · rw [h1] at K1
    clear h1
    go_enter Tryz.func139, Tryz.ntmps139
    go_wp2_with fail
    refine (K1.out _).mono ?_
    rintro e w1 ⟨rfl, rfl⟩
    go_wp2_with fail
    go_ret
    exact ⟨rfl, rfl⟩
  · rw [h1] at K1
    clear h1
    generalize (!farB (b + d)) = r at *
    go_enter Tryz.func139, Tryz.ntmps139
    go_wp2_with fail
    refine (K1.out _).mono ?_
    rintro e w1 ⟨rfl, rfl⟩
    go_wp2_with fail
    refine (K2.out _).mono ?_
    rintro e w1 ⟨rfl, rfl⟩
    go_wp2_with fail
    go_ret
    exact ⟨rfl, rfl⟩
set_option maxHeartbeats 1000000 in
set_option maxRecDepth 100000 in
theorem go_int (c d : CD) (w : World) :
    Calls Tryz.prog 141 #[.int .i64 2, c.v, d.v] w fun e w' => e = .returned (.tuple #[clV false (wrap64 (c.x + d.x)) 0 ByteArray.empty 0 0, .int .i64 0]) ∧ Below w.heap.size w w' := by
  obtain ⟨cb, cx, cu, ct, cp, cq⟩ := c
  obtain ⟨db, dx, du, dt, dp, dq⟩ := d
  unfold CD.v clV clA
  simp only
  have H3 := hide (row3 w)
  have HB := hide (below3 w)
  go_enter Tryz.func141, Tryz.ntmps141
  have hst := fun (w1 : World) (a1 : Addr) (m : Mode) (x y : Nat) => run_store Tryz.prog w1 a1 (.complex .f64 x y) m rfl
  go_wp2_with fail
  refine bodyPost_ret (results_cell_tmp_row rfl _ _ _ (w.heap.size + 1 + 1) 45 #[.bool false, .bool false, .int .i64 (wrap64 (cx + dx)), .int .u64 0, .string ByteArray.empty, .complex .f64 0 0] (0, 0) rfl (H3.out _ _ _) Tryz.underlying45 (by exact info_cell)) rfl ?_
  exact ⟨rfl, HB.out _ _ _⟩
set_option maxHeartbeats 1000000 in
set_option maxRecDepth 100000 in
theorem go_uint (c d : CD) (w : World) :
    Calls Tryz.prog 141 #[.int .i64 3, c.v, d.v] w fun e w' => e = .returned (.tuple #[clV false 0 ((c.u + d.x % 18446744073709551616) % 18446744073709551616) ByteArray.empty 0 0, .int .i64 0]) ∧ Below w.heap.size w w' := by
  obtain ⟨cb, cx, cu, ct, cp, cq⟩ := c
  obtain ⟨db, dx, du, dt, dp, dq⟩ := d
  unfold CD.v clV clA
  simp only
  have H3 := hide (row3 w)
  have HB := hide (below3 w)
  go_enter Tryz.func141, Tryz.ntmps141
  have hst := fun (w1 : World) (a1 : Addr) (m : Mode) (x y : Nat) => run_store Tryz.prog w1 a1 (.complex .f64 x y) m rfl
  go_wp2_with fail
  refine bodyPost_ret (results_cell_tmp_row rfl _ _ _ (w.heap.size + 1 + 1) 45 #[.bool false, .bool false, .int .i64 0, .int .u64 ((cu + dx % 18446744073709551616) % 18446744073709551616), .string ByteArray.empty, .complex .f64 0 0] (0, 0) rfl (H3.out _ _ _) Tryz.underlying45 (by exact info_cell)) rfl ?_
  exact ⟨rfl, HB.out _ _ _⟩
set_option maxHeartbeats 1000000 in
set_option maxRecDepth 100000 in
theorem go_point (c d : CD) (re im : Nat) (hc : cSumBits .add .f64 c.p c.q d.p d.q = some (re, im)) (w : World) :
    Calls Tryz.prog 141 #[.int .i64 6, c.v, d.v] w fun e w' => e = .returned (.tuple #[clV false 0 0 ByteArray.empty re im, .int .i64 0]) ∧ Below w.heap.size w w' := by
  obtain ⟨cb, cx, cu, ct, cp, cq⟩ := c
  obtain ⟨db, dx, du, dt, dp, dq⟩ := d
  unfold CD.v clV clA
  simp only at hc ⊢
  have H3 := hide (row3 w)
  have HB := hide (below3 w)
  have hadd := fun w => run_complex_sum (P := Tryz.prog) (w := w) .add (.inl rfl) 43 .f64 cp cq dp dq re im hc
  clear hc
  go_enter Tryz.func141, Tryz.ntmps141
  have hst := fun (w1 : World) (a1 : Addr) (m : Mode) (x y : Nat) => run_store Tryz.prog w1 a1 (.complex .f64 x y) m rfl
  go_wp2_with fail
  refine bodyPost_ret (results_cell_tmp_row rfl _ _ _ (w.heap.size + 1 + 1) 45 #[.bool false, .bool false, .int .i64 0, .int .u64 0, .string ByteArray.empty, .complex .f64 re im] (0, 0) rfl (H3.out _ _ _) Tryz.underlying45 (by exact info_cell)) rfl ?_
  exact ⟨rfl, HB.out _ _ _⟩
theorem csum_int (a b c d : Int) (ha : a.natAbs ≤ 9007199254740992) (hb : b.natAbs ≤ 9007199254740992) (hc : c.natAbs ≤ 9007199254740992) (hd : d.natAbs ≤ 9007199254740992) (hac : (a + c).natAbs ≤ 9007199254740992) (hbd : (b + d).natAbs ≤ 9007199254740992) :
    cSumBits .add .f64 (floatOfInt .f64 a) (floatOfInt .f64 b) (floatOfInt .f64 c) (floatOfInt .f64 d) = some (floatOfInt .f64 (a + c), floatOfInt .f64 (b + d)) := by
  unfold cSumBits floatBits
  show (Ieee.double.add _ _).bind (fun re => (Ieee.double.add _ _).bind fun im => some (re, im)) = _
  rw [add_int a c ha hc hac, add_int b d hb hd hbd]
  rfl
set_option maxHeartbeats 2000000 in
set_option maxRecDepth 100000 in
theorem next_num (k : Int) (hk : ((k : Int) == 6) = false) (R : Nat) (s : ByteArray) (p : Nat) (hs : s.size ≤ maxLen) (hp : p ≤ s.size) (w : World) (h : Rd w R s p 0) (x n er : Nat) (hf : Hid (few ((bn s).drop p) 0 = (x, n, er))) :
    Calls Tryz.prog 140 #[.pointer (some ⟨R, 0, none⟩), .int .i64 k] w (GPost R w s (clV false (back x) 0 ByteArray.empty 0 0) er (p + n) er) := by
  have hRw := Blk.lt h
  have K := hide (fun o => rsvar_any R s p 0 hs hp (w.alloc o) (rd_alloc h o))
  rw [st_at, hf.out] at K
  simp only at K
  clear h hf
  generalize back x = b at *
  have hst := fun (w1 : World) (a1 : Addr) (m : Mode) (x y : Nat) => run_store Tryz.prog w1 a1 (.complex .f64 x y) m rfl
  go_enter Tryz.func140, Tryz.ntmps140
  go_wp2_with fail
  refine (K.out _).mono ?_
  rintro e w1 ⟨rfl, hr1, hf1⟩
  have hb0 : Blk w1 w.heap.size 45 (clA false 0 0 ByteArray.empty 0 0) := Blk.fr (Blk.new _ _ _) hf1 (by omega)
  have KE := hide (rerr_any R s (p + n) er w1 hr1)
  have HB0 := hide hb0
  have HR1 := hide hr1
  have HF := hide ((Fr.alloc w _ _).trans hf1 (fun _ _ h => h))
  obtain ⟨c0, c1, c2, c3, c4, c5, f0, f1, f2, f3, f4, f5⟩ := Blk.six hb0
  clear hb0 hr1 hf1
  go_wp2_with fail
  refine KE.out.mono ?_
  rintro e w2 ⟨rfl, rfl⟩
  go_wp2_with fail
  obtain ⟨q1, q2, q3⟩ := st6_two hRw HF.out HR1.out HB0.out (.bool false) (.bool false) (.int .i64 b) (.int .u64 0) (.string { data := #[] }) (.complex .f64 0 0)
  refine bodyPost_ret (results_cell_tmp_row' rfl _ _ _ w.heap.size 45 #[.bool false, .bool false, .int .i64 b, .int .u64 0, .string { data := #[] }, .complex .f64 0 0] (0, 0) rfl q3 Tryz.underlying45 (by exact info_c)) rfl ?_
  exact ⟨rfl, q2, q1⟩
set_option maxHeartbeats 2000000 in
set_option maxRecDepth 100000 in
theorem next_point (R : Nat) (s : ByteArray) (p : Nat) (hs : s.size ≤ maxLen) (hp : p ≤ s.size) (w : World) (h : Rd w R s p 0) (hT : Tabs w) :
    Calls Tryz.prog 140 #[.pointer (some ⟨R, 0, none⟩), .int .i64 6] w
      (GPost R w s (gp 6 ((bn s).drop p)).1.v (gp 6 ((bn s).drop p)).2.2.2 (p + (gp 6 ((bn s).drop p)).2.1) (gp 6 ((bn s).drop p)).2.2.1) := by
  have hRw := Blk.lt h
  have K := hide (fun o => gget_all 6 (by omega) (by omega) R s p hs hp (w.alloc o) (rd_alloc h o) (hT.below ((Below.refl _ _).alloc (Nat.le_refl _) _)))
  rcases hg : gp 6 ((bn s).drop p) with ⟨c, m, e', er⟩
  rw [hg] at K
  simp only at K ⊢
  obtain ⟨cb, cx, cu, ct, cp, cq⟩ := c
  unfold CD.v clV clA at K ⊢
  simp only at K ⊢
  clear hg h hT hs hp
  have hst := fun (w1 : World) (a1 : Addr) (m : Mode) (x y : Nat) => run_store Tryz.prog w1 a1 (.complex .f64 x y) m rfl
  go_enter Tryz.func140, Tryz.ntmps140
  go_wp2_with fail
  refine (K.out _).mono ?_
  rintro e w1 ⟨rfl, hr1, hf1⟩
  have hb0 : Blk w1 w.heap.size 45 (clA false 0 0 ByteArray.empty 0 0) := Blk.fr (Blk.new _ _ _) hf1 (by omega)
  have HB0 := hide hb0
  have HR1 := hide hr1
  have HF := hide ((Fr.alloc w _ _).trans hf1 (fun _ _ h => h))
  obtain ⟨c0, c1, c2, c3, c4, c5, f0, f1, f2, f3, f4, f5⟩ := Blk.six hb0
  clear hb0 hr1 hf1
  go_wp2_with fail
  obtain ⟨q1, q2, q3⟩ := st6_two hRw HF.out HR1.out HB0.out (.bool false) (.bool cb) (.int .i64 cx) (.int .u64 cu) (.string ct) (.complex .f64 cp cq)
  refine bodyPost_ret (results_cell_tmp_row' rfl _ _ _ w.heap.size 45 #[.bool false, .bool cb, .int .i64 cx, .int .u64 cu, .string ct, .complex .f64 cp cq] (0, 0) rfl q3 Tryz.underlying45 (by exact info_c)) rfl ?_
  exact ⟨rfl, q2, q1⟩
end Go.Proofs.YtfkgmodgkifelaaGreatDoor
