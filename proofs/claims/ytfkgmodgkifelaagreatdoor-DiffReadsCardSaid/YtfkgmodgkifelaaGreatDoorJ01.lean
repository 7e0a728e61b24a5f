/- Texts as lists of numbers; blocks of bytes. Writers: what each of their calls does to the object and to its bytes. -/
import Derived.WalkKit
import Derived.WalkLawsBesides
import Derived.WalkSpells
import Derived.Outline
import Derived.Lib.Hide
import Derived.KernelRfl
import Derived.Laws.Rows
import Derived.Deep.OwnRows
import Derived.Laws.Tables
import Derived.Deep.QuietTactic
import Derived.BigQuiet
import Derived.Deep.RegionWith
import Derived.WalkMore
import Derived.ScopeJumps
import Derived.Deep.DeepCutAuto
import Derived.Test.YtfkgmodgkifelaaGreatDoorProg
import Derived.ProofKit
import Derived.OpenShut
import Derived.Deep.Slices
import Derived.Laws.AppendOwnNone
import Derived.Maps.AppendAt
import Derived.Lib.IndexBytes
import Derived.Laws.IdiomStrings
import Derived.Laws.BytesArg
import Derived.Deep.WholeRow
namespace Go.Proofs.YtfkgmodgkifelaaGreatDoor
open Go.RowKit

/-- A row of n values, by index. -/
def arr (n : Nat) (f : Nat → Value) : Array Value := ((List.range n).map f).toArray
theorem arr_size (n : Nat) (f : Nat → Value) : (arr n f).size = n := by simp [arr]
theorem arr_get {n : Nat} {f : Nat → Value} {i : Nat} (h : i < n) : (arr n f)[i]? = some (f i) := by simp [arr, h]
theorem arr_set {n : Nat} {f : Nat → Value} (i : Nat) (v : Value) : (arr n f).setIfInBounds i v = arr n (fun j => if j = i then v else f j) := by
  apply Array.ext_getElem?
  intro j
  rw [Array.getElem?_setIfInBounds]
  by_cases hj : j < n
  · rw [arr_get hj, arr_get hj, arr_size]
    by_cases e : i = j
    · subst e; simp [hj]
    · simp only [e, if_false]
      rw [if_neg (fun h => e h.symm)]
  · have n1 : (arr n f)[j]? = none := by rw [Array.getElem?_eq_none]; rw [arr_size]; omega
    have n2 : (arr n (fun j => if j = i then v else f j))[j]? = none := by rw [Array.getElem?_eq_none]; rw [arr_size]; omega
    rw [n1, n2, arr_size]
    by_cases e : i = j
    · subst e; simp [hj]
    · simp [e]
theorem arr_congr {n : Nat} {f g : Nat → Value} (h : ∀ i, i < n → f i = g i) : arr n f = arr n g := by
  unfold arr
  congr 1
  exact List.map_congr_left fun i hi => h i (by simpa using hi)

/-- A block of cells, known whole, none of them frozen. -/
def Blk (w : World) (b : Nat) (t : TypeId) (cs : Array Value) : Prop := w.heap[b]? = some (.cells cs t (0, 0))
namespace Blk
variable {w w' : World} {b : Nat} {t : TypeId} {cs : Array Value}
theorem out (h : Blk w b t cs) : w.heap[b]? = some (.cells cs t (0, 0)) := h
theorem lt (h : Blk w b t cs) : b < w.heap.size := (Array.getElem?_eq_some_iff.1 h).1
theorem cell (h : Blk w b t cs) (i : Nat) : w.cell? ⟨b, i, none⟩ = cs[i]? := by
  unfold Blk at h
  simp [World.cell?, h]
theorem frozen (h : Blk w b t cs) (i : Nat) : w.frozen? ⟨b, i, none⟩ = false := by
  unfold Blk at h
  simp [World.frozen?, h]
theorem set (h : Blk w b t cs) (i : Nat) (v : Value) : Blk (w.setCell ⟨b, i, none⟩ v) b t (cs.setIfInBounds i v) := by
  unfold Blk at h ⊢
  simp [World.setCell, Array.getElem?_modify, h]
theorem other (h : Blk w b t cs) {a : Addr} (ha : b ≠ a.block) (v : Value) : Blk (w.setCell a v) b t cs := by
  unfold Blk at h ⊢
  rw [Below.heap_setCell _ _ _ _ ha]; exact h
theorem alloc (h : Blk w b t cs) (o : Obj) : Blk (w.alloc o) b t cs := by
  have := h.lt
  unfold Blk at h ⊢
  rw [Below.heap_alloc _ _ _ this]; exact h
theorem drew (h : Blk w b t cs) : Blk w.drew b t cs := h
theorem new (w : World) (cs : Array Value) (t : TypeId) : Blk (w.alloc (.cells cs t)) w.heap.size t cs := by
  show (w.heap.push _)[_]? = _
  simp
theorem below {B : Nat} (h : Blk w b t cs) (hb : Below B w w') (hB : b < B) : Blk w' b t cs := by
  unfold Blk at h ⊢
  rw [hb.block b hB]; exact h
theorem grown {row : Option Nat} (h : Blk w b t cs) (hg : w.grownBy w' row) (hB : some b ≠ row) : Blk w' b t cs := by
  have := h.lt
  unfold Blk at h ⊢
  rw [hg.block b this hB]; exact h
theorem setRow (h : Blk w b t cs) (cs' : Array Value) : Blk (w.setRow b cs') b t cs' := by
  unfold Blk at h ⊢
  simp [World.setRow, Array.getElem?_modify, h]
theorem otherRow (h : Blk w b t cs) {g : Nat} (hg : b ≠ g) (cs' : Array Value) : Blk (w.setRow g cs') b t cs := by
  unfold Blk at h ⊢
  simp only [World.setRow, Array.getElem?_modify]
  rw [if_neg (by omega)]; exact h
end Blk
theorem below_setRow {B : Nat} {a w : World} (h : Below B a w) {g : Nat} (hg : B ≤ g) (cs : Array Value) : Below B a (w.setRow g cs) :=
  h.trans ⟨rfl, rfl, rfl, by simp [World.setRow], fun k hk => by simp only [World.setRow, Array.getElem?_modify]; rw [if_neg (by omega)]⟩
theorem arr_one {n : Nat} {f : Nat → Value} (h : ∀ i, i < n → (f i).oneCell' = true) : (arr n f).all (·.oneCell') = true := by
  rw [Array.all_eq_true_iff_forall_mem]
  intro v hv
  simp only [arr, List.mem_toArray, List.mem_map, List.mem_range] at hv
  obtain ⟨i, hi, rfl⟩ := hv
  exact h i hi
theorem hide {p : Prop} (h : p) : Hid p := h
theorem ret_int {k : IntKind} {a b : Int} (h : a = b) : Ending.returned (.int k a) = .returned (.int k b) := by rw [h]
theorem ret_nat {k : IntKind} {a b : Nat} (h : a = b) : Ending.returned (.int k (a : Int)) = .returned (.int k (b : Int)) := by rw [h]
theorem quiet_left {P : Program} {f : FuncId} {args : Array Value} {w : World} {n : Nat} {v : Value}
    (h : Calls P f args (w.drewN n) fun e w' => e = .returned v ∧ w.drewN n = w') : Calls P f args (w.drewN n) fun e w'' => e = .returned v ∧ ∃ m, w'' = w.drewN m :=
  h.mono fun _ _ ⟨he, hm⟩ => ⟨he, n, hm.symm⟩
theorem quiet_add_left {P : Program} {f : FuncId} {args : Array Value} {w : World} {a n : Nat} {v : Value}
    (h : Calls P f args (w.drewN (a + n)) fun e w' => e = .returned v ∧ w.drewN (a + n) = w') :
    Calls P f args (w.drewN (a + n)) fun e w'' => e = .returned v ∧ ∃ m, w'' = w.drewN (a + m) :=
  h.mono fun _ _ ⟨he, hm⟩ => ⟨he, n, hm.symm⟩
theorem below_drewN {B : Nat} {a w : World} (h : Below B a w) (n : Nat) : Below B a (w.drewN n) := ⟨h.os, h.tape, h.output, h.size, h.block⟩
theorem Blk.drewN {w : World} {b : Nat} {t : TypeId} {cs : Array Value} (h : Blk w b t cs) (n : Nat) : Blk (w.drewN n) b t cs := h
end Go.Proofs.YtfkgmodgkifelaaGreatDoor
namespace Go.Proofs.YtfkgmodgkifelaaGreatDoor
open Go.RowKit Go.ChangeShapes Go.WideShapes Go.Deep

set_option maxRecDepth 100000
section
variable {H : Type} {enc : TypeId × Value → H} {P : Program} {w : World} {base : Nat} {spare : Nat → Bool} {held : Bool} {r : Reach} {b0 : Nat} {t e : TypeId} {v : Value} {d : DataW H} {p : List MemPlace}

theorem okWide_array {n : Nat} (ht : P.underlying t = some (.array n e)) (h : Value.okWide P w r b0 t v) : ∃ cs, v = .agg cs ∧ cs.size = P.cellsOf t := by
  simp only [Value.okWide, ht] at h
  obtain ⟨cs, h1, h2, _⟩ := h
  exact ⟨cs, h1, h2⟩
/-- An array of one-cell elements: each element's own reading. -/
theorem open_arr {n : Nat} (ht : P.underlying t = some (.array n e)) (hc : P.cellsOf e = 1) (hct : P.cellsOf t = n) (hv : Value.okWide P w r b0 t v) (h : DataW.Trod enc P w base spare held t v d p) :
    ∃ (cs : Array Value) (m : Nat), v = .agg cs ∧ cs.size = n ∧ ∀ i (hi : i < cs.size), ∃ y, DataW.trod enc P w base spare held m e [cs[i]] = some y := by
  obtain ⟨cs, rfl, hsz⟩ := okWide_array ht hv
  obtain ⟨fuel, hf⟩ := h
  obtain ⟨xs, m, _, _, _, hxl, hg⟩ := DataW.trod_array ht hf
  refine ⟨cs, m, rfl, by omega, fun i hi => ?_⟩
  have h1 := hg i (by omega)
  rw [hc, Nat.mul_one] at h1
  have hv : Value.cells (.agg cs) = cs := rfl
  rw [hv, List.drop_eq_getElem_cons (by simpa using hi)] at h1
  rw [List.getElem?_eq_getElem (by omega)] at h1
  exact ⟨_, by simpa using h1⟩
/-- A slice of one-cell elements that came in: nil or empty, or its elements' cells. -/
def InSl (w : World) (v : Value) (n : Nat) (V : Nat → Value) : Prop :=
  n ≤ maxLen ∧ ((n = 0 ∧ ∃ a c, v = .slice a 0 c ∧ (a = none → c = 0)) ∨ (0 < n ∧ ∃ b o c, v = .slice (some ⟨b, o, none⟩) n c ∧ n ≤ c ∧ b < w.heap.size ∧ ∀ i, i < n → w.cell? ⟨b, o + i, none⟩ = some (V i)))
theorem open_sl (ht : P.underlying t = some (.slice e)) (hc : P.cellsOf e = 1) (hv : Value.okWide P w r b0 t v) (h : DataW.Trod enc P w base spare held t v d p) :
    ∃ (n m : Nat) (V : Nat → Value) (D : Nat → DataW H × List MemPlace), InSl w v n V ∧ ∀ i, i < n → DataW.trod enc P w base spare held m e [V i] = some (D i) := by
  obtain ⟨a0, len, cap, rfl⟩ := okWide_slice ht hv
  obtain ⟨fuel, hf⟩ := h
  rcases open_slice1 ht hc hf with ⟨hcs, _⟩ | ⟨a, len', cap', m, n, V, D, Pl, hcs, _, hl, hm, hmm, _, hx⟩
  · simp [Value.cells] at hcs
    obtain ⟨rfl, rfl, rfl⟩ := hcs
    exact ⟨0, 0, fun _ => undef, fun _ => (.nil, []), ⟨by omega, .inl ⟨rfl, none, 0, rfl, fun _ => rfl⟩⟩, fun i hi => by omega⟩
  · simp [Value.cells] at hcs
    obtain ⟨rfl, rfl, rfl⟩ := hcs
    have hlm : len ≤ m := by rw [hmm]; split <;> omega
    refine ⟨len, n, V, fun i => (D i, Pl i), ⟨by omega, ?_⟩, fun i hi => (hx i (by omega)).2⟩
    rcases Nat.eq_zero_or_pos len with h0 | h0
    · subst h0; exact .inl ⟨rfl, _, _, rfl, fun h => by cases h⟩
    · have hc0 := (hx 0 (by omega)).1
      obtain ⟨b, off, spot⟩ := a
      have hspot : spot = none := by simpa [Addr.add] using World.cell?_spot hc0
      subst hspot
      refine .inr ⟨h0, b, off, cap, rfl, hl, ?_, fun i hi => ?_⟩
      · have h1 : w.cell? ⟨b, off, none⟩ = some (V 0) := by simpa [Addr.add] using hc0
        unfold World.cell? at h1
        split at h1
        · rename_i heq; exact (Array.getElem?_eq_some_iff.1 heq).1
        · cases h1
      · have h1 := (hx i (by omega)).1
        have ha : (⟨b, off, none⟩ : Addr).add i = ⟨b, off + i, none⟩ := by
          unfold Addr.add; split <;> simp_all
        rw [ha] at h1
        exact h1
/-- What a slice that came in is appended to a slice of the call's own: nil, empty or not. -/
theorem wpList_append_sl {ops : Array Oper} {rest : List Oper} {o : Oper} {a : Act} {Q : Exit → Act → World → Prop} (hgd : o.guard = none) (s x : Operand) (t : TypeId)
    (ho : o.op = .call { callee := .builtin .append, args := #[s, x], argTypes := #[t, t] })
    (base : Nat) (e : TypeId) (i : TypeInfo) (z : Value) (bytes : Nat) (ht : P.underlying t = some (.slice e)) (hi : P.info? e = some i) (hz : i.zero = some z)
    (hsize : i.size = 1) (hby : i.bytes = bytes) (hzs : z.cells.size = 1)
    (v : Value) (n : Nat) (xs : List Value) (hs : a.eval s = v) (hown : w.ownsRow base e 1 v n xs)
    (xv : Value) (m : Nat) (V : Nat → Value) (hx : a.eval x = xv) (hsl : InSl w xv m V) (h1 : ∀ i, (V i).oneCell' = true)
    (h63 : n + m ≤ maxLen) (hbytes : (n + m) * bytes ≤ 140737488355328) (hbase : base ≤ w.heap.size)
    (h : ∀ v' w', w'.ownsRow base e 1 v' (n + m) (xs ++ (List.range m).map V) → w.grownBy w' v.ownBlock → wpList P ops Q rest (a.put o.dst v') w') : wpList P ops Q (o :: rest) a w := by
  rcases hsl.2 with ⟨rfl, A, c, rfl, hA⟩ | ⟨hpos, b, of, c, rfl, _, hb, hcell⟩
  · cases A with
    | none =>
      obtain rfl := hA rfl
      exact wpList_append_own_none hgd s x t ho base e i 1 ht hi v n xs hs hown hx (h v w (by simpa using hown) (World.grownBy.refl w _))
    | some ad =>
      exact wpList_append_own w hgd s x t ho base e i z 1 bytes ht hi hz hsize hby hzs (by decide) v n xs hs hown ad 0 c [] hx rfl (fun j u hj => by simp at hj) (by simp) h63 hbytes hbase fun v' w' h1 h2 _ => h v' w' (by simpa using h1) h2
  · refine wpList_append_own w hgd s x t ho base e i z 1 bytes ht hi hz hsize hby hzs (by decide) v n xs hs hown ⟨b, of, none⟩ m c ((List.range m).map V) hx (by simp) (fun j u hj => ?_) (fun u hu => ?_) h63 hbytes hbase fun v' w' h1 h2 _ => h v' w' h1 h2
    · have hj' : j < m := by
        have := (List.getElem?_eq_some_iff.1 hj).1
        simpa using this
      have hu : V j = u := by simpa [hj'] using hj
      have ha : (⟨b, of, none⟩ : Addr).add j = ⟨b, of + j, none⟩ := by unfold Addr.add; split <;> simp_all
      rw [ha, hcell j hj', hu]
    · simp only [List.mem_map] at hu
      obtain ⟨k, _, rfl⟩ := hu
      exact h1 k
/-- .. and where the new slice lies. -/
theorem wpList_append_at {ops : Array Oper} {rest : List Oper} {o : Oper} {a : Act} {Q : Exit → Act → World → Prop} (hgd : o.guard = none) (s x : Operand) (t : TypeId)
    (ho : o.op = .call { callee := .builtin .append, args := #[s, x], argTypes := #[t, t] })
    (base : Nat) (e : TypeId) (i : TypeInfo) (z : Value) (bytes : Nat) (ht : P.underlying t = some (.slice e)) (hi : P.info? e = some i) (hz : i.zero = some z)
    (hsize : i.size = 1) (hby : i.bytes = bytes) (hzs : z.cells.size = 1)
    (v : Value) (n : Nat) (xs : List Value) (hs : a.eval s = v) (hown : w.ownsRow base e 1 v n xs)
    (xv : Value) (m : Nat) (V : Nat → Value) (hx : a.eval x = xv) (hsl : InSl w xv m V) (h1 : ∀ i, (V i).oneCell' = true)
    (h63 : n + m ≤ maxLen) (hbytes : (n + m) * bytes ≤ 140737488355328) (hbase : base ≤ w.heap.size)
    (h : ∀ v' w', w'.ownsRow base e 1 v' (n + m) (xs ++ (List.range m).map V) → w.grownBy w' v.ownBlock → (v'.ownBlock = v.ownBlock ∨ v'.ownBlock = some w.heap.size) → wpList P ops Q rest (a.put o.dst v') w') : wpList P ops Q (o :: rest) a w := by
  rcases hsl.2 with ⟨rfl, A, c, rfl, hA⟩ | ⟨hpos, b, of, c, rfl, _, hb, hcell⟩
  · cases A with
    | none =>
      obtain rfl := hA rfl
      exact wpList_append_own_none hgd s x t ho base e i 1 ht hi v n xs hs hown hx (h v w (by simpa using hown) (World.grownBy.refl w _) (.inl rfl))
    | some ad =>
      exact wpList_append_own_at w hgd s x t ho base e i z 1 bytes ht hi hz hsize hby hzs (by decide) v n xs hs hown ad 0 c [] hx rfl (fun j u hj => by simp at hj) (by simp) h63 hbytes hbase fun v' w' h1 h2 _ h4 => h v' w' (by simpa using h1) h2 h4
  · refine wpList_append_own_at w hgd s x t ho base e i z 1 bytes ht hi hz hsize hby hzs (by decide) v n xs hs hown ⟨b, of, none⟩ m c ((List.range m).map V) hx (by simp) (fun j u hj => ?_) (fun u hu => ?_) h63 hbytes hbase fun v' w' h1 h2 _ h4 => h v' w' h1 h2 h4
    · have hj' : j < m := by
        have := (List.getElem?_eq_some_iff.1 hj).1
        simpa using this
      have hu : V j = u := by simpa [hj'] using hj
      have ha : (⟨b, of, none⟩ : Addr).add j = ⟨b, of + j, none⟩ := by unfold Addr.add; split <;> simp_all
      rw [ha, hcell j hj', hu]
    · simp only [List.mem_map] at hu
      obtain ⟨k, _, rfl⟩ := hu
      exact h1 k
end
theorem open_t50 {H : Type} {enc : TypeId × Value → H} {w : World} {base : Nat} {spare : Nat → Bool} {held : Bool} {r : Reach} {b0 : Nat} {v : Value} {d : DataW H} {p : List MemPlace}
    (hv : Value.okWide Tryz.prog w r b0 50 v) (h : DataW.Trod enc Tryz.prog w base spare held 50 v d p) : ∃ l : List Bool, InSl w v l.length (fun i => .bool (l.getD i false)) := by
  obtain ⟨n, m, V, D, hs, hx⟩ := open_sl Tryz.underlying50 (by kernel_rfl) hv h
  obtain ⟨f, hf⟩ := choose_lt (α := Bool) (n := n) (p := fun i k => V i = .bool k) (fun i hi => by
    obtain ⟨k, hk, _⟩ := DataW.trod_bool Tryz.underlying4 (hx i hi)
    simp at hk
    exact ⟨k, hk⟩)
  refine ⟨(List.range n).map f, ?_⟩
  rw [List.length_map, List.length_range]
  obtain ⟨h1, h2⟩ := hs
  refine ⟨h1, h2.imp id ?_⟩
  rintro ⟨h0, b, o, c, rfl, hc, hb, hcell⟩
  refine ⟨h0, b, o, c, rfl, hc, hb, fun i hi => ?_⟩
  rw [hcell i hi, hf i hi]
  simp [List.getD, hi]
end Go.Proofs.YtfkgmodgkifelaaGreatDoor
namespace Go.Proofs.YtfkgmodgkifelaaGreatDoor
open Go.RowKit
/-- The numbers of a text's bytes. -/
def bn (s : ByteArray) : List Nat := s.data.toList.map UInt8.toNat
theorem bn_take (s : ByteArray) (k : Nat) (h : k < s.size) : (bn s).take (k + 1) = (bn s).take k ++ [s[k].toNat] := by
  have hl : k < (bn s).length := by simpa [bn] using h
  rw [List.take_succ_eq_append_getElem hl]
  congr 2
  simp [bn]; rfl
theorem bn_lt (s : ByteArray) : ∀ b ∈ bn s, b < 256 := by
  intro b hb
  simp only [bn, List.mem_map] at hb
  obtain ⟨c, _, rfl⟩ := hb
  exact c.toNat_lt
theorem bn_take_lt (s : ByteArray) (k : Nat) : ∀ b ∈ (bn s).take k, b < 256 := fun b hb => bn_lt s b (List.mem_of_mem_take hb)
theorem bn_len (s : ByteArray) : (bn s).length = s.size := by simp [bn]
theorem bn_append (s t : ByteArray) : bn (s ++ t) = bn s ++ bn t := by simp [bn]
theorem bn_drop (s : ByteArray) (k : Nat) : bn (s.extract k s.size) = (bn s).drop k := by
  simp only [bn, Lib.extract_to_end, List.map_drop]
/-- A block that begins with bytes, none of them frozen. -/
def Row8 (w : World) (b : Nat) (l : List Nat) : Prop := b < w.heap.size ∧ ∀ i, i < l.length → w.cell? ⟨b, i, none⟩ = some (.int .u8 (l.getD i 0 : Nat)) ∧ w.frozen? ⟨b, i, none⟩ = false
namespace Row8
variable {w : World} {b : Nat} {l : List Nat}
theorem cell (h : Row8 w b l) {i : Nat} (hi : i < l.length) : w.cell? ⟨b, i, none⟩ = some (.int .u8 (l.getD i 0 : Nat)) := (h.2 i hi).1
theorem frozen (h : Row8 w b l) {i : Nat} (hi : i < l.length) : w.frozen? ⟨b, i, none⟩ = false := (h.2 i hi).2
theorem drew (h : Row8 w b l) : Row8 w.drew b l := h
theorem drewN (h : Row8 w b l) (n : Nat) : Row8 (w.drewN n) b l := h
theorem set (h : Row8 w b l) (i : Nat) (v : Nat) (hi : i < l.length) : Row8 (w.setCell ⟨b, i, none⟩ (.int .u8 (v : Nat))) b (l.set i v) := by
  refine ⟨by simpa [World.setCell] using h.1, fun j hj => ?_⟩
  have hj' : j < l.length := by simpa using hj
  refine ⟨?_, (World.frozen?_setCell _ _ _ _).trans (h.frozen hj')⟩
  by_cases e : j = i
  · subst e
    rw [World.cell?_setCell_same _ _ _ (h.cell hj')]
    simp [hj']
  · rw [World.cell?_setCell_other _ _ _ _ (by simp), h.cell hj']
    rw [List.getD_eq_getElem?_getD, List.getD_eq_getElem?_getD, List.getElem?_set_ne (by omega)]
theorem alloc (h : Row8 w b l) (o : Obj) : Row8 (w.alloc o) b l :=
  ⟨by simp; exact Nat.lt_succ_of_lt h.1, fun i hi => ⟨(World.cell?_alloc_past _ _ _ h.1).trans (h.cell hi), (World.frozen?_alloc_past _ _ _ h.1).trans (h.frozen hi)⟩⟩
theorem below {B : Nat} {w' : World} (h : Row8 w b l) (hb : Below B w w') (hB : b < B) : Row8 w' b l :=
  ⟨Nat.lt_of_lt_of_le h.1 hb.size, fun i hi => ⟨(hb.cell (p := ⟨b, i, none⟩) hB).trans (h.cell hi), (hb.frozen (p := ⟨b, i, none⟩) hB).trans (h.frozen hi)⟩⟩
end Row8
theorem bn_getD (s : ByteArray) (i : Nat) : (bn s).getD i 0 = (s.data.toList.getD i 0).toNat := by
  simp only [bn, List.getD_eq_getElem?_getD, List.getElem?_map]
  cases s.data.toList[i]? <;> rfl
/-- '[]byte(s)': the row that it makes. -/
theorem row8_made (w : World) (s : ByteArray) (c e : Nat) (n m : Nat) (hn : s.size ≤ n) : Row8 (w.alloc (.cells (bytesRow s c) e (n, m))) w.heap.size (bn s) := by
  refine ⟨by simp, fun i hi => ?_⟩
  have hi' : i < s.size := by simpa [bn] using hi
  have hg : (w.alloc (.cells (bytesRow s c) e (n, m))).heap[w.heap.size]? = some (.cells (bytesRow s c) e (n, m)) := heap_alloc_last w _
  constructor
  · simp only [World.cell?, hg]
    have : (bytesRow s c)[i]? = some (.int .u8 (((bn s).getD i 0 : Nat) : Int)) := by
      rw [bn_getD]
      unfold bytesRow
      rw [Array.getElem?_append_left (by simpa using hi')]
      simp [List.getD, hi']
    simpa using this
  · simp only [World.frozen?, hg]
    simp; omega
/-- The text of so many bytes. -/
def strN (l : List Nat) : ByteArray := strOfNums (l.map fun b : Nat => (b : Int))
theorem strN_size (l : List Nat) : (strN l).size = l.length := by unfold strN; rw [strOfNums_size, List.length_map]
theorem bn_strN (l : List Nat) (hl : ∀ b ∈ l, b < 256) : bn (strN l) = l := by
  unfold bn strN
  rw [strOfNums_data, List.map_map, List.map_map]
  conv => rhs; rw [← List.map_id l]
  refine List.map_congr_left fun b hb => ?_
  have := hl b hb
  simp [Function.comp]
  omega
theorem row8_string {w : World} {b : Nat} {l : List Nat} (h : Row8 w b l) (cap : Nat) : (convert 75 9 (.slice (some ⟨b, 0, none⟩) l.length cap)).run Tryz.prog w = .ok (.string (strN l)) w :=
  run_convert_bytes_arg w 75 5 Tryz.underlying75 Tryz.underlying5 b 0 l.length cap (l.map fun b : Nat => (b : Int)) (by simp) (fun i hi => by
    rw [Nat.zero_add, h.cell hi]
    simp [List.getD, hi]) 9 Tryz.underlying9
/-- A slice of bytes that the call itself made. -/
def OwnU8 (w : World) (B : Nat) (v : Value) (l : List Nat) : Prop := w.ownsRow B 5 1 v l.length (l.map fun b : Nat => Value.int .u8 (b : Int))
theorem ownU8_nil (w : World) (B : Nat) : OwnU8 w B (.slice none 0 0) [] := World.ownsRow_nil _ _ _ _
theorem map_u8_snoc (l : List Nat) (b : Nat) : (l ++ [b]).map (fun b : Nat => Value.int .u8 (b : Int)) = l.map (fun b : Nat => Value.int .u8 (b : Int)) ++ [Value.int .u8 (b : Int)] := by simp
/-- Out of a row of one's own: the text. -/
theorem ownU8_string {w : World} {B : Nat} {v : Value} {l : List Nat} (h : OwnU8 w B v l) : (convert 75 9 v).run Tryz.prog w = .ok (.string (strN l)) w := by
  unfold OwnU8 at h
  rcases h.2 with ⟨rfl, h0⟩ | ⟨g, cap, cur, rfl, hb, hg, hr⟩
  · have hl : l = [] := List.eq_nil_of_length_eq_zero h0
    subst hl
    have := run_convert_bytes_nil w 75 5 Tryz.underlying75 Tryz.underlying5 0 0 9 Tryz.underlying9
    rw [this]
    unfold strN; rfl
  · refine row8_string (l := l) ⟨(Array.getElem?_eq_some_iff.1 hg).1, fun i hi => ⟨?_, h.frozenAt i⟩⟩ cap
    rw [h.cellAt i (by omega)]
    simp [List.getD, hi]
attribute [irreducible] strN
/-- make([]byte, n) -/
theorem info_u8 : (Tryz.prog.info? 5).map (fun i => (i.zero, i.size, i.bytes)) = some (some (.int .u8 0), 1, 1) := by kernel_rfl
theorem row8_new (w : World) (n : Nat) (t : TypeId) : Row8 (w.alloc (.cells (madeCells #[.int .u8 0] n) t)) w.heap.size (List.replicate n 0) := by
  have h := World.rowIs_made w (.int .u8 0) n t
  refine ⟨by simp, fun i hi => ⟨?_, h.frozen i⟩⟩
  rw [h.cell (by simpa using hi)]
  simp only [List.length_replicate] at hi
  simp [List.getD, hi]
end Go.Proofs.YtfkgmodgkifelaaGreatDoor
namespace Go.Proofs.YtfkgmodgkifelaaGreatDoor
open Go.RowKit

/-- A frame: but for some blocks of the first world, and new ones, nothing has turned. -/
structure Fr (w w' : World) (P : Nat → Prop) : Prop where
  os : w'.os = w.os
  tape : w'.tape = w.tape
  output : w'.output = w.output
  size : w.heap.size ≤ w'.heap.size
  block : ∀ k, k < w.heap.size → ¬ P k → w'.heap[k]? = w.heap[k]?
theorem Fr.refl (w : World) (P : Nat → Prop) : Fr w w P := ⟨rfl, rfl, rfl, Nat.le_refl _, fun _ _ _ => rfl⟩
theorem Fr.mono {w w' : World} {P Q : Nat → Prop} (h : Fr w w' P) (hq : ∀ k, P k → Q k) : Fr w w' Q := ⟨h.os, h.tape, h.output, h.size, fun k hk hn => h.block k hk (fun hp => hn (hq k hp))⟩
theorem Fr.of_below {w w' : World} (h : Below w.heap.size w w') (P : Nat → Prop) : Fr w w' P := ⟨h.os, h.tape, h.output, h.size, fun k hk _ => h.block k hk⟩
theorem Fr.of_grown {w w' : World} {row : Option Nat} (h : w.grownBy w' row) : Fr w w' (fun k => some k = row) := ⟨h.os, h.tape, h.output, h.size, fun k hk hn => h.block k hk hn⟩
theorem Fr.trans {a b c : World} {P Q : Nat → Prop} (h : Fr a b P) (k : Fr b c Q) (hq : ∀ i, i < a.heap.size → Q i → P i) : Fr a c P :=
  ⟨k.os.trans h.os, k.tape.trans h.tape, k.output.trans h.output, Nat.le_trans h.size k.size, fun i hi hn => (k.block i (Nat.lt_of_lt_of_le hi h.size) (fun hqi => hn (hq i hi hqi))).trans (h.block i hi hn)⟩
theorem Fr.below {w w' : World} {P : Nat → Prop} (h : Fr w w' P) {B : Nat} (hB : B ≤ w.heap.size) (hp : ∀ k, P k → B ≤ k) : Below B w w' :=
  ⟨h.os, h.tape, h.output, h.size, fun k hk => h.block k (by omega) (fun hpk => by have := hp k hpk; omega)⟩
theorem Fr.setCell (w : World) (a : Addr) (v : Value) : Fr w (w.setCell a v) (fun k => k = a.block) :=
  ⟨rfl, rfl, rfl, by simp [World.setCell], fun k _ hn => Below.heap_setCell w a v k hn⟩
theorem Fr.alloc (w : World) (o : Obj) (P : Nat → Prop) : Fr w (w.alloc o) P := ⟨rfl, rfl, rfl, by simp, fun k hk _ => Below.heap_alloc w o k hk⟩
theorem Fr.drew {w w' : World} {P : Nat → Prop} (h : Fr w w' P) : Fr w w'.drew P := ⟨h.os, h.tape, h.output, h.size, h.block⟩
theorem Blk.fr {w w' : World} {b : Nat} {t : TypeId} {cs : Array Value} {P : Nat → Prop} (h : Blk w b t cs) (hf : Fr w w' P) (hp : ¬ P b) : Blk w' b t cs := by
  have := h.lt
  unfold Blk at h ⊢
  rw [hf.block b this hp]; exact h
theorem OwnU8.fr {w w' : World} {B : Nat} {v : Value} {l : List Nat} {P : Nat → Prop} (h : OwnU8 w B v l) (hf : Fr w w' P) (hp : ∀ k, v.ownBlock = some k → ¬ P k) : OwnU8 w' B v l := by
  unfold OwnU8 at h ⊢
  refine ⟨h.1, ?_⟩
  rcases h.2 with hn | ⟨g, cap, cur, hv, hb, hg, rest⟩
  · exact .inl hn
  · refine .inr ⟨g, cap, cur, hv, hb, ?_, rest⟩
    rw [hf.block g (Array.getElem?_eq_some_iff.1 hg).1 (hp g (by rw [hv]; rfl))]; exact hg
theorem own_form {w : World} {B : Nat} {v : Value} {n : Nat} {xs : List Value} {e : TypeId} (h : w.ownsRow B e 1 v n xs) : ∃ A c, v = .slice A n c := by
  rcases h.2 with ⟨rfl, hn⟩ | ⟨g, cap, cur, rfl, _⟩
  · exact ⟨none, 0, by rw [hn]⟩
  · exact ⟨_, cap, rfl⟩
theorem OwnU8.nil_of_none {w : World} {B : Nat} {v : Value} {l : List Nat} (h : OwnU8 w B v l) : v.ownBlock = none → v = .slice none 0 0 ∧ l = [] := by
  intro h0
  unfold OwnU8 at h
  rcases h.2 with ⟨rfl, hn⟩ | ⟨g, cap, cur, rfl, _⟩
  · exact ⟨rfl, List.eq_nil_of_length_eq_zero hn⟩
  · simp [Value.ownBlock] at h0
/-- A row of bytes is no block of another element type. -/
theorem OwnU8.ne {w : World} {B : Nat} {v : Value} {l : List Nat} (h : OwnU8 w B v l) {b : Nat} {t : TypeId} {cs : Array Value} (hb : Blk w b t cs) (ht : t ≠ 5) : v.ownBlock ≠ some b := by
  intro e
  unfold OwnU8 at h
  rcases h.2 with ⟨rfl, hn⟩ | ⟨g, cap, cur, rfl, _, hg, _⟩
  · simp [Value.ownBlock] at e
  · simp [Value.ownBlock] at e
    subst e
    unfold Blk at hb
    rw [hb] at hg
    injection hg with hg
    injection hg with _ h2
    exact ht h2

/-- A writer: its block, its slice, its bytes. -/
structure Wr (w : World) (W B : Nat) (sv : Value) (l : List Nat) : Prop where
  blk : Blk w W 77 #[sv]
  own : OwnU8 w B sv l
  leW : B ≤ W
/-- What a call leaves of everything else, and where the slice lies then. -/
structure WS (W : Nat) (w : World) (sv : Value) (w' : World) (sv' : Value) : Prop where
  fr : Fr w w' (fun k => k = W ∨ some k = sv.ownBlock)
  at_ : sv'.ownBlock = sv.ownBlock ∨ ∃ g, sv'.ownBlock = some g ∧ w.heap.size ≤ g
theorem WS.refl (W : Nat) (w : World) (sv : Value) : WS W w sv w sv := ⟨Fr.refl _ _, .inl rfl⟩
theorem WS.trans {W : Nat} {a b c : World} {x y z : Value} (h : WS W a x b y) (k : WS W b y c z) : WS W a x c z := by
  refine ⟨h.fr.trans k.fr ?_, ?_⟩
  · rintro i hi (rfl | hq)
    · exact .inl rfl
    · rcases h.at_ with e | ⟨g, e, hg⟩
      · rw [e] at hq; exact .inr hq
      · rw [e] at hq; injection hq with hq; omega
  · rcases k.at_ with e | ⟨g, e, hg⟩
    · rw [e]; exact h.at_
    · exact .inr ⟨g, e, Nat.le_trans h.fr.size hg⟩
/-- What was made ahead of the call, in new blocks. -/
theorem WS.ahead {W : Nat} {a b c : World} {x y : Value} (h : Below a.heap.size a b) (k : WS W b x c y) : WS W a x c y :=
  ⟨(Fr.of_below h _).trans k.fr (fun _ _ h => h), k.at_.imp id (fun ⟨g, e, hg⟩ => ⟨g, e, Nat.le_trans h.size hg⟩)⟩
theorem WS.below {W B : Nat} {a b : World} {x y : Value} {l : List Nat} (h : WS W a x b y) (hw : Wr a W B x l) (hB : B ≤ a.heap.size) : Below B a b :=
  h.fr.below hB (fun k hk => by
    rcases hk with rfl | hk
    · exact hw.leW
    · exact (World.ownsRow.lt hw.own k hk.symm).1)
theorem Wr.below {w w' : World} {W B : Nat} {sv : Value} {l : List Nat} (h : Wr w W B sv l) (hb : Below w.heap.size w w') : Wr w' W B sv l :=
  ⟨h.blk.below hb h.blk.lt, h.own.fr (Fr.of_below hb (fun _ => False)) (fun _ _ h => h), h.leW⟩
/-- How a call of a writer ends that writes so many bytes. -/
def WPost (W B : Nat) (w : World) (sv : Value) (l : List Nat) (e : Ending) (w' : World) : Prop :=
  e = .returned (.tuple #[]) ∧ ∃ sv', Wr w' W B sv' l ∧ WS W w sv w' sv'

/-- A slice of bytes that is read. -/
def SlU8 (w : World) (v : Value) (l : List Nat) : Prop := InSl w v l.length (fun i => .int .u8 (l.getD i 0 : Nat))
theorem map_range_u8 (l : List Nat) : (List.range l.length).map (fun i => Value.int .u8 (l.getD i 0 : Nat)) = l.map (fun b : Nat => Value.int .u8 (b : Int)) := by
  apply List.ext_getElem (by simp)
  intro i h1 h2
  have hi : i < l.length := by simpa using h1
  simp [List.getD, hi]
theorem SlU8.form {w : World} {v : Value} {l : List Nat} (h : SlU8 w v l) : ∃ A c, v = .slice A l.length c := by
  rcases h.2 with ⟨h0, x, c, rfl, _⟩ | ⟨_, x, o, c, rfl, _⟩
  · exact ⟨x, c, by rw [h0]⟩
  · exact ⟨_, c, rfl⟩
theorem SlU8.below {w w' : World} {v : Value} {l : List Nat} (h : SlU8 w v l) (hb : Below w.heap.size w w') : SlU8 w' v l := by
  obtain ⟨h1, h2⟩ := h
  refine ⟨h1, h2.imp id ?_⟩
  rintro ⟨h0, b, o, c, rfl, hc, hlt, hcell⟩
  exact ⟨h0, b, o, c, rfl, hc, Nat.lt_of_lt_of_le hlt hb.size, fun i hi => (hb.cell (p := ⟨b, o + i, none⟩) hlt).trans (hcell i hi)⟩
theorem slU8_one (w : World) (b : Nat) (t : TypeId) : SlU8 (w.alloc (.cells #[.int .u8 (b : Nat)] t)) (.slice (some ⟨w.heap.size, 0, none⟩) 1 1) [b] := by
  refine ⟨by simp [maxLen], .inr ⟨by simp, w.heap.size, 0, 1, rfl, Nat.le_refl _, by simp, fun i hi => ?_⟩⟩
  match i, hi with
  | 0, _ => simp [go_sem]
set_option maxHeartbeats 1000000 in
set_option maxRecDepth 100000 in
theorem put_any (W B : Nat) (sv : Value) (l : List Nat) (src : Value) (m : List Nat) (w : World) (h : Wr w W B sv l) (hm : SlU8 w src m) (hl : l.length + m.length ≤ 33554432) (hB : B ≤ w.heap.size) :
    Calls Tryz.prog 73 #[.pointer (some ⟨W, 0, none⟩), src] w (WPost W B w sv (l ++ m)) := by
  obtain ⟨A, c, rfl⟩ := hm.form
  obtain ⟨i0, hi, hz0, hz1, hz2⟩ := info_parts info_u8
  have hc : w.cell? ⟨W, 0, none⟩ = some sv := h.blk.cell 0
  have hown := h.own
  unfold OwnU8 at hown
  have hne := hide (OwnU8.ne h.own h.blk (by decide))
  have HO := hide h.own
  have HB := hide h.blk
  have HW := hide h.leW
  have HR := hide (map_range_u8 m)
  have hm' : InSl w (.slice A m.length c) m.length (fun i => .int .u8 (m.getD i 0 : Nat)) := hm
  clear h hm
  go_enter Tryz.func73, Tryz.ntmps73
  go_wp2_with (at_builtin; refine wpList_append_at rfl (.tmp 10) (.tmp 11) 75 rfl B 5 i0 (.int .u8 0) 1 Tryz.underlying75 hi hz0 hz1 hz2 rfl sv l.length _ rfl hown _ m.length (fun i => .int .u8 (m.getD i 0 : Nat)) rfl hm' (fun _ => rfl) (by simp only [maxLen]; omega) (by omega) hB ?_; intro v1 w1 hown1 hgrow1 hat1; obtain ⟨A1, c1, hv1⟩ := own_form hown1; subst hv1; have hb1 := HB.out.grown hgrow1 (Ne.symm hne.out); have hc1 := hb1.cell 0; have hf1 := hb1.frozen 0)
  go_end0
  rw [HR.out, ← List.map_append] at hown1
  have hO1 : OwnU8 w1 B (.slice A1 (l.length + m.length) c1) (l ++ m) := by
    unfold OwnU8; rw [List.length_append]; exact hown1
  have hn1 := OwnU8.ne hO1 hb1 (by decide)
  refine ⟨rfl, _, ⟨hb1.set 0 _, hO1.fr (Fr.setCell w1 _ _) (fun k hk e => hn1 (by rw [hk, e])), HW.out⟩, ⟨((Fr.of_grown hgrow1).mono (fun _ h => .inr h)).trans (Fr.setCell w1 _ _) (fun _ _ h => .inl h), ?_⟩⟩
  · rcases hat1 with h | h
    · exact .inl h
    · exact .inr ⟨_, h, Nat.le_refl _⟩
end Go.Proofs.YtfkgmodgkifelaaGreatDoor
