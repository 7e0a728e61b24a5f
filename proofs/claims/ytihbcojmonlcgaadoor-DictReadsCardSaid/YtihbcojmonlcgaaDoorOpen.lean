import Derived.Test.YtihbcojmonlcgaaDoorProg
import Derived.Test.YtihbcojmonlcgaaDoorBase
import Derived.ProofKit
import Derived.OpenShut
import Derived.Deep.Slices
import Derived.Laws.AppendOwnNone
import Derived.Maps.AppendAt
namespace Go.Proofs.YtihbcojmonlcgaaDoor
open Go.RowKit Go.ChangeShapes Go.WideShapes Go.Deep

set_option maxRecDepth 100000
section
variable {H : Type} {enc : TypeId × Value → H} {P : Program} {w : World} {base : Nat} {spare : Nat → Bool} {held : Bool} {r : Reach} {b0 : Nat} {t e : TypeId} {v : Value} {d : DataW H} {p : List MemPlace}

theorem okWide_array {n : Nat} (ht : P.underlying t = some (.array n e)) (h : Value.okWide P w r b0 t v) : ∃ cs, v = .agg cs ∧ cs.size = P.cellsOf t := by
  simp only [Value.okWide, ht] at h
  obtain ⟨cs, h1, h2, _⟩ := h
  exact ⟨cs, h1, h2⟩
/-- An array of one-cell elements: each element's own reading. -/
theorem open_arr {n : Nat} (ht : P.underlying t = some (.array n e)) (hc : P.cellsOf e = 1) (hct : P.cellsOf t = n) (hv : Value.okWide P w r b0 t v) (h : DataW.Trod enc P w base spare held t v d p) :
    ∃ (cs : Array Value) (m : Nat), v = .agg cs ∧ cs.size = n ∧ ∀ i (hi : i < cs.size), ∃ y, DataW.trod enc P w base spare held m e [cs[i]] = some y := by
  obtain ⟨cs, rfl, hsz⟩ := okWide_array ht hv
  obtain ⟨fuel, hf⟩ := h
  obtain ⟨xs, m, _, _, _, hxl, hg⟩ := DataW.trod_array ht hf
  refine ⟨cs, m, rfl, by omega, fun i hi => ?_⟩
  have h1 := hg i (by omega)
  rw [hc, Nat.mul_one] at h1
  have hv : Value.cells (.agg cs) = cs := rfl
  rw [hv, List.drop_eq_getElem_cons (by simpa using hi)] at h1
  rw [List.getElem?_eq_getElem (by omega)] at h1
  exact ⟨_, by simpa using h1⟩
/-- A slice of one-cell elements that came in: nil or empty, or its elements' cells. -/
def InSl (w : World) (v : Value) (n : Nat) (V : Nat → Value) : Prop :=
  n ≤ maxLen ∧ ((n = 0 ∧ ∃ a c, v = .slice a 0 c ∧ (a = none → c = 0)) ∨ (0 < n ∧ ∃ b o c, v = .slice (some ⟨b, o, none⟩) n c ∧ n ≤ c ∧ b < w.heap.size ∧ ∀ i, i < n → w.cell? ⟨b, o + i, none⟩ = some (V i)))
theorem open_sl (ht : P.underlying t = some (.slice e)) (hc : P.cellsOf e = 1) (hv : Value.okWide P w r b0 t v) (h : DataW.Trod enc P w base spare held t v d p) :
    ∃ (n m : Nat) (V : Nat → Value) (D : Nat → DataW H × List MemPlace), InSl w v n V ∧ ∀ i, i < n → DataW.trod enc P w base spare held m e [V i] = some (D i) := by
  obtain ⟨a0, len, cap, rfl⟩ := okWide_slice ht hv
  obtain ⟨fuel, hf⟩ := h
  rcases open_slice1 ht hc hf with ⟨hcs, _⟩ | ⟨a, len', cap', m, n, V, D, Pl, hcs, _, hl, hm, hmm, _, hx⟩
  · simp [Value.cells] at hcs
    obtain ⟨rfl, rfl, rfl⟩ := hcs
    exact ⟨0, 0, fun _ => undef, fun _ => (.nil, []), ⟨by omega, .inl ⟨rfl, none, 0, rfl, fun _ => rfl⟩⟩, fun i hi => by omega⟩
  · simp [Value.cells] at hcs
    obtain ⟨rfl, rfl, rfl⟩ := hcs
    have hlm : len ≤ m := by rw [hmm]; split <;> omega
    refine ⟨len, n, V, fun i => (D i, Pl i), ⟨by omega, ?_⟩, fun i hi => (hx i (by omega)).2⟩
    rcases Nat.eq_zero_or_pos len with h0 | h0
    · subst h0; exact .inl ⟨rfl, _, _, rfl, fun h => by cases h⟩
    · have hc0 := (hx 0 (by omega)).1
      obtain ⟨b, off, spot⟩ := a
      have hspot : spot = none := by simpa [Addr.add] using World.cell?_spot hc0
      subst hspot
      refine .inr ⟨h0, b, off, cap, rfl, hl, ?_, fun i hi => ?_⟩
      · have h1 : w.cell? ⟨b, off, none⟩ = some (V 0) := by simpa [Addr.add] using hc0
        unfold World.cell? at h1
        split at h1
        · rename_i heq; exact (Array.getElem?_eq_some_iff.1 heq).1
        · cases h1
      · have h1 := (hx i (by omega)).1
        have ha : (⟨b, off, none⟩ : Addr).add i = ⟨b, off + i, none⟩ := by
          unfold Addr.add; split <;> simp_all
        rw [ha] at h1
        exact h1
/-- What a slice that came in is appended to a slice of the call's own: nil, empty or not. -/
theorem wpList_append_sl {ops : Array Oper} {rest : List Oper} {o : Oper} {a : Act} {Q : Exit → Act → World → Prop} (hgd : o.guard = none) (s x : Operand) (t : TypeId)
    (ho : o.op = .call { callee := .builtin .append, args := #[s, x], argTypes := #[t, t] })
    (base : Nat) (e : TypeId) (i : TypeInfo) (z : Value) (bytes : Nat) (ht : P.underlying t = some (.slice e)) (hi : P.info? e = some i) (hz : i.zero = some z)
    (hsize : i.size = 1) (hby : i.bytes = bytes) (hzs : z.cells.size = 1)
    (v : Value) (n : Nat) (xs : List Value) (hs : a.eval s = v) (hown : w.ownsRow base e 1 v n xs)
    (xv : Value) (m : Nat) (V : Nat → Value) (hx : a.eval x = xv) (hsl : InSl w xv m V) (h1 : ∀ i, (V i).oneCell' = true)
    (h63 : n + m ≤ maxLen) (hbytes : (n + m) * bytes ≤ 140737488355328) (hbase : base ≤ w.heap.size)
    (h : ∀ v' w', w'.ownsRow base e 1 v' (n + m) (xs ++ (List.range m).map V) → w.grownBy w' v.ownBlock → wpList P ops Q rest (a.put o.dst v') w') : wpList P ops Q (o :: rest) a w := by
  rcases hsl.2 with ⟨rfl, A, c, rfl, hA⟩ | ⟨hpos, b, of, c, rfl, _, hb, hcell⟩
  · cases A with
    | none =>
      obtain rfl := hA rfl
      exact wpList_append_own_none hgd s x t ho base e i 1 ht hi v n xs hs hown hx (h v w (by simpa using hown) (World.grownBy.refl w _))
    | some ad =>
      exact wpList_append_own w hgd s x t ho base e i z 1 bytes ht hi hz hsize hby hzs (by decide) v n xs hs hown ad 0 c [] hx rfl (fun j u hj => by simp at hj) (by simp) h63 hbytes hbase fun v' w' h1 h2 _ => h v' w' (by simpa using h1) h2
  · refine wpList_append_own w hgd s x t ho base e i z 1 bytes ht hi hz hsize hby hzs (by decide) v n xs hs hown ⟨b, of, none⟩ m c ((List.range m).map V) hx (by simp) (fun j u hj => ?_) (fun u hu => ?_) h63 hbytes hbase fun v' w' h1 h2 _ => h v' w' h1 h2
    · have hj' : j < m := by
        have := (List.getElem?_eq_some_iff.1 hj).1
        simpa using this
      have hu : V j = u := by simpa [hj'] using hj
      have ha : (⟨b, of, none⟩ : Addr).add j = ⟨b, of + j, none⟩ := by unfold Addr.add; split <;> simp_all
      rw [ha, hcell j hj', hu]
    · simp only [List.mem_map] at hu
      obtain ⟨k, _, rfl⟩ := hu
      exact h1 k
/-- .. and where the new slice lies. -/
theorem wpList_append_at {ops : Array Oper} {rest : List Oper} {o : Oper} {a : Act} {Q : Exit → Act → World → Prop} (hgd : o.guard = none) (s x : Operand) (t : TypeId)
    (ho : o.op = .call { callee := .builtin .append, args := #[s, x], argTypes := #[t, t] })
    (base : Nat) (e : TypeId) (i : TypeInfo) (z : Value) (bytes : Nat) (ht : P.underlying t = some (.slice e)) (hi : P.info? e = some i) (hz : i.zero = some z)
    (hsize : i.size = 1) (hby : i.bytes = bytes) (hzs : z.cells.size = 1)
    (v : Value) (n : Nat) (xs : List Value) (hs : a.eval s = v) (hown : w.ownsRow base e 1 v n xs)
    (xv : Value) (m : Nat) (V : Nat → Value) (hx : a.eval x = xv) (hsl : InSl w xv m V) (h1 : ∀ i, (V i).oneCell' = true)
    (h63 : n + m ≤ maxLen) (hbytes : (n + m) * bytes ≤ 140737488355328) (hbase : base ≤ w.heap.size)
    (h : ∀ v' w', w'.ownsRow base e 1 v' (n + m) (xs ++ (List.range m).map V) → w.grownBy w' v.ownBlock → (v'.ownBlock = v.ownBlock ∨ v'.ownBlock = some w.heap.size) → wpList P ops Q rest (a.put o.dst v') w') : wpList P ops Q (o :: rest) a w := by
  rcases hsl.2 with ⟨rfl, A, c, rfl, hA⟩ | ⟨hpos, b, of, c, rfl, _, hb, hcell⟩
  · cases A with
    | none =>
      obtain rfl := hA rfl
      exact wpList_append_own_none hgd s x t ho base e i 1 ht hi v n xs hs hown hx (h v w (by simpa using hown) (World.grownBy.refl w _) (.inl rfl))
    | some ad =>
      exact wpList_append_own_at w hgd s x t ho base e i z 1 bytes ht hi hz hsize hby hzs (by decide) v n xs hs hown ad 0 c [] hx rfl (fun j u hj => by simp at hj) (by simp) h63 hbytes hbase fun v' w' h1 h2 _ h4 => h v' w' (by simpa using h1) h2 h4
  · refine wpList_append_own_at w hgd s x t ho base e i z 1 bytes ht hi hz hsize hby hzs (by decide) v n xs hs hown ⟨b, of, none⟩ m c ((List.range m).map V) hx (by simp) (fun j u hj => ?_) (fun u hu => ?_) h63 hbytes hbase fun v' w' h1 h2 _ h4 => h v' w' h1 h2 h4
    · have hj' : j < m := by
        have := (List.getElem?_eq_some_iff.1 hj).1
        simpa using this
      have hu : V j = u := by simpa [hj'] using hj
      have ha : (⟨b, of, none⟩ : Addr).add j = ⟨b, of + j, none⟩ := by unfold Addr.add; split <;> simp_all
      rw [ha, hcell j hj', hu]
    · simp only [List.mem_map] at hu
      obtain ⟨k, _, rfl⟩ := hu
      exact h1 k
end
theorem open_t79 {H : Type} {enc : TypeId × Value → H} {w : World} {base : Nat} {spare : Nat → Bool} {held : Bool} {r : Reach} {b0 : Nat} {v : Value} {d : DataW H} {p : List MemPlace}
    (hv : Value.okWide Tryd.prog w r b0 79 v) (h : DataW.Trod enc Tryd.prog w base spare held 79 v d p) : ∃ l : List Bool, InSl w v l.length (fun i => .bool (l.getD i false)) := by
  obtain ⟨n, m, V, D, hs, hx⟩ := open_sl Tryd.underlying79 (by kernel_rfl) hv h
  obtain ⟨f, hf⟩ := choose_lt (α := Bool) (n := n) (p := fun i k => V i = .bool k) (fun i hi => by
    obtain ⟨k, hk, _⟩ := DataW.trod_bool Tryd.underlying4 (hx i hi)
    simp at hk
    exact ⟨k, hk⟩)
  refine ⟨(List.range n).map f, ?_⟩
  rw [List.length_map, List.length_range]
  obtain ⟨h1, h2⟩ := hs
  refine ⟨h1, h2.imp id ?_⟩
  rintro ⟨h0, b, o, c, rfl, hc, hb, hcell⟩
  refine ⟨h0, b, o, c, rfl, hc, hb, fun i hi => ?_⟩
  rw [hcell i hi, hf i hi]
  simp [List.getD, hi]
end Go.Proofs.YtihbcojmonlcgaaDoor
