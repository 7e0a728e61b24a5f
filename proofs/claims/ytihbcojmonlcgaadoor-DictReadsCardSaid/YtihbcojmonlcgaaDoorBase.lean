import Derived.WalkKit
import Derived.WalkLawsBesides
import Derived.WalkSpells
import Derived.Outline
import Derived.Lib.Hide
import Derived.KernelRfl
import Derived.Laws.Rows
import Derived.Deep.OwnRows
import Derived.Laws.Tables
import Derived.Deep.QuietTactic
import Derived.BigQuiet
import Derived.Deep.RegionWith
import Derived.WalkMore
import Derived.ScopeJumps
import Derived.Deep.DeepCutAuto
namespace Go.Proofs.YtihbcojmonlcgaaDoor
open Go.RowKit

/-- A row of n values, by index. -/
def arr (n : Nat) (f : Nat → Value) : Array Value := ((List.range n).map f).toArray
theorem arr_size (n : Nat) (f : Nat → Value) : (arr n f).size = n := by simp [arr]
theorem arr_get {n : Nat} {f : Nat → Value} {i : Nat} (h : i < n) : (arr n f)[i]? = some (f i) := by simp [arr, h]
theorem arr_set {n : Nat} {f : Nat → Value} (i : Nat) (v : Value) : (arr n f).setIfInBounds i v = arr n (fun j => if j = i then v else f j) := by
  apply Array.ext_getElem?
  intro j
  rw [Array.getElem?_setIfInBounds]
  by_cases hj : j < n
  · rw [arr_get hj, arr_get hj, arr_size]
    by_cases e : i = j
    · subst e; simp [hj]
    · simp only [e, if_false]
      rw [if_neg (fun h => e h.symm)]
  · have n1 : (arr n f)[j]? = none := by rw [Array.getElem?_eq_none]; rw [arr_size]; omega
    have n2 : (arr n (fun j => if j = i then v else f j))[j]? = none := by rw [Array.getElem?_eq_none]; rw [arr_size]; omega
    rw [n1, n2, arr_size]
    by_cases e : i = j
    · subst e; simp [hj]
    · simp [e]
theorem arr_congr {n : Nat} {f g : Nat → Value} (h : ∀ i, i < n → f i = g i) : arr n f = arr n g := by
  unfold arr
  congr 1
  exact List.map_congr_left fun i hi => h i (by simpa using hi)

/-- A block of cells, known whole, none of them frozen. -/
def Blk (w : World) (b : Nat) (t : TypeId) (cs : Array Value) : Prop := w.heap[b]? = some (.cells cs t (0, 0))
namespace Blk
variable {w w' : World} {b : Nat} {t : TypeId} {cs : Array Value}
theorem out (h : Blk w b t cs) : w.heap[b]? = some (.cells cs t (0, 0)) := h
theorem lt (h : Blk w b t cs) : b < w.heap.size := (Array.getElem?_eq_some_iff.1 h).1
theorem cell (h : Blk w b t cs) (i : Nat) : w.cell? ⟨b, i, none⟩ = cs[i]? := by
  unfold Blk at h
  simp [World.cell?, h]
theorem frozen (h : Blk w b t cs) (i : Nat) : w.frozen? ⟨b, i, none⟩ = false := by
  unfold Blk at h
  simp [World.frozen?, h]
theorem set (h : Blk w b t cs) (i : Nat) (v : Value) : Blk (w.setCell ⟨b, i, none⟩ v) b t (cs.setIfInBounds i v) := by
  unfold Blk at h ⊢
  simp [World.setCell, Array.getElem?_modify, h]
theorem other (h : Blk w b t cs) {a : Addr} (ha : b ≠ a.block) (v : Value) : Blk (w.setCell a v) b t cs := by
  unfold Blk at h ⊢
  rw [Below.heap_setCell _ _ _ _ ha]; exact h
theorem alloc (h : Blk w b t cs) (o : Obj) : Blk (w.alloc o) b t cs := by
  have := h.lt
  unfold Blk at h ⊢
  rw [Below.heap_alloc _ _ _ this]; exact h
theorem drew (h : Blk w b t cs) : Blk w.drew b t cs := h
theorem new (w : World) (cs : Array Value) (t : TypeId) : Blk (w.alloc (.cells cs t)) w.heap.size t cs := by
  show (w.heap.push _)[_]? = _
  simp
theorem below {B : Nat} (h : Blk w b t cs) (hb : Below B w w') (hB : b < B) : Blk w' b t cs := by
  unfold Blk at h ⊢
  rw [hb.block b hB]; exact h
theorem grown {row : Option Nat} (h : Blk w b t cs) (hg : w.grownBy w' row) (hB : some b ≠ row) : Blk w' b t cs := by
  have := h.lt
  unfold Blk at h ⊢
  rw [hg.block b this hB]; exact h
theorem setRow (h : Blk w b t cs) (cs' : Array Value) : Blk (w.setRow b cs') b t cs' := by
  unfold Blk at h ⊢
  simp [World.setRow, Array.getElem?_modify, h]
theorem otherRow (h : Blk w b t cs) {g : Nat} (hg : b ≠ g) (cs' : Array Value) : Blk (w.setRow g cs') b t cs := by
  unfold Blk at h ⊢
  simp only [World.setRow, Array.getElem?_modify]
  rw [if_neg (by omega)]; exact h
end Blk
theorem below_setRow {B : Nat} {a w : World} (h : Below B a w) {g : Nat} (hg : B ≤ g) (cs : Array Value) : Below B a (w.setRow g cs) :=
  h.trans ⟨rfl, rfl, rfl, by simp [World.setRow], fun k hk => by simp only [World.setRow, Array.getElem?_modify]; rw [if_neg (by omega)]⟩
theorem arr_one {n : Nat} {f : Nat → Value} (h : ∀ i, i < n → (f i).oneCell' = true) : (arr n f).all (·.oneCell') = true := by
  rw [Array.all_eq_true_iff_forall_mem]
  intro v hv
  simp only [arr, List.mem_toArray, List.mem_map, List.mem_range] at hv
  obtain ⟨i, hi, rfl⟩ := hv
  exact h i hi
theorem hide {p : Prop} (h : p) : Hid p := h
theorem ret_int {k : IntKind} {a b : Int} (h : a = b) : Ending.returned (.int k a) = .returned (.int k b) := by rw [h]
theorem ret_nat {k : IntKind} {a b : Nat} (h : a = b) : Ending.returned (.int k (a : Int)) = .returned (.int k (b : Int)) := by rw [h]
theorem quiet_left {P : Program} {f : FuncId} {args : Array Value} {w : World} {n : Nat} {v : Value}
    (h : Calls P f args (w.drewN n) fun e w' => e = .returned v ∧ w.drewN n = w') : Calls P f args (w.drewN n) fun e w'' => e = .returned v ∧ ∃ m, w'' = w.drewN m :=
  h.mono fun _ _ ⟨he, hm⟩ => ⟨he, n, hm.symm⟩
theorem quiet_add_left {P : Program} {f : FuncId} {args : Array Value} {w : World} {a n : Nat} {v : Value}
    (h : Calls P f args (w.drewN (a + n)) fun e w' => e = .returned v ∧ w.drewN (a + n) = w') :
    Calls P f args (w.drewN (a + n)) fun e w'' => e = .returned v ∧ ∃ m, w'' = w.drewN (a + m) :=
  h.mono fun _ _ ⟨he, hm⟩ => ⟨he, n, hm.symm⟩
theorem below_drewN {B : Nat} {a w : World} (h : Below B a w) (n : Nat) : Below B a (w.drewN n) := ⟨h.os, h.tape, h.output, h.size, h.block⟩
theorem Blk.drewN {w : World} {b : Nat} {t : TypeId} {cs : Array Value} (h : Blk w b t cs) (n : Nat) : Blk (w.drewN n) b t cs := h
end Go.Proofs.YtihbcojmonlcgaaDoor
