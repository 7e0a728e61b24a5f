/- Texts as lists of numbers; blocks of bytes. -/
import Derived.Test.YtihbcojmonlcgaaDoorProg
import Derived.Test.YtihbcojmonlcgaaDoorBase
import Derived.Lib.IndexBytes
import Derived.Laws.IdiomStrings
import Derived.Laws.BytesArg
import Derived.Deep.WholeRow
namespace Go.Proofs.YtihbcojmonlcgaaDoor
open Go.RowKit
/-- The numbers of a text's bytes. -/
def bn (s : ByteArray) : List Nat := s.data.toList.map UInt8.toNat
theorem bn_take (s : ByteArray) (k : Nat) (h : k < s.size) : (bn s).take (k + 1) = (bn s).take k ++ [s[k].toNat] := by
  have hl : k < (bn s).length := by simpa [bn] using h
  rw [List.take_succ_eq_append_getElem hl]
  congr 2
  simp [bn]; rfl
theorem bn_lt (s : ByteArray) : ∀ b ∈ bn s, b < 256 := by
  intro b hb
  simp only [bn, List.mem_map] at hb
  obtain ⟨c, _, rfl⟩ := hb
  exact c.toNat_lt
theorem bn_take_lt (s : ByteArray) (k : Nat) : ∀ b ∈ (bn s).take k, b < 256 := fun b hb => bn_lt s b (List.mem_of_mem_take hb)
theorem bn_len (s : ByteArray) : (bn s).length = s.size := by simp [bn]
theorem bn_append (s t : ByteArray) : bn (s ++ t) = bn s ++ bn t := by simp [bn]
theorem bn_drop (s : ByteArray) (k : Nat) : bn (s.extract k s.size) = (bn s).drop k := by
  simp only [bn, Lib.extract_to_end, List.map_drop]
/-- A block that begins with bytes, none of them frozen. -/
def Row8 (w : World) (b : Nat) (l : List Nat) : Prop := b < w.heap.size ∧ ∀ i, i < l.length → w.cell? ⟨b, i, none⟩ = some (.int .u8 (l.getD i 0 : Nat)) ∧ w.frozen? ⟨b, i, none⟩ = false
namespace Row8
variable {w : World} {b : Nat} {l : List Nat}
theorem cell (h : Row8 w b l) {i : Nat} (hi : i < l.length) : w.cell? ⟨b, i, none⟩ = some (.int .u8 (l.getD i 0 : Nat)) := (h.2 i hi).1
theorem frozen (h : Row8 w b l) {i : Nat} (hi : i < l.length) : w.frozen? ⟨b, i, none⟩ = false := (h.2 i hi).2
theorem drew (h : Row8 w b l) : Row8 w.drew b l := h
theorem drewN (h : Row8 w b l) (n : Nat) : Row8 (w.drewN n) b l := h
theorem set (h : Row8 w b l) (i : Nat) (v : Nat) (hi : i < l.length) : Row8 (w.setCell ⟨b, i, none⟩ (.int .u8 (v : Nat))) b (l.set i v) := by
  refine ⟨by simpa [World.setCell] using h.1, fun j hj => ?_⟩
  have hj' : j < l.length := by simpa using hj
  refine ⟨?_, (World.frozen?_setCell _ _ _ _).trans (h.frozen hj')⟩
  by_cases e : j = i
  · subst e
    rw [World.cell?_setCell_same _ _ _ (h.cell hj')]
    simp [hj']
  · rw [World.cell?_setCell_other _ _ _ _ (by simp), h.cell hj']
    rw [List.getD_eq_getElem?_getD, List.getD_eq_getElem?_getD, List.getElem?_set_ne (by omega)]
theorem alloc (h : Row8 w b l) (o : Obj) : Row8 (w.alloc o) b l :=
  ⟨by simp; exact Nat.lt_succ_of_lt h.1, fun i hi => ⟨(World.cell?_alloc_past _ _ _ h.1).trans (h.cell hi), (World.frozen?_alloc_past _ _ _ h.1).trans (h.frozen hi)⟩⟩
theorem below {B : Nat} {w' : World} (h : Row8 w b l) (hb : Below B w w') (hB : b < B) : Row8 w' b l :=
  ⟨Nat.lt_of_lt_of_le h.1 hb.size, fun i hi => ⟨(hb.cell (p := ⟨b, i, none⟩) hB).trans (h.cell hi), (hb.frozen (p := ⟨b, i, none⟩) hB).trans (h.frozen hi)⟩⟩
end Row8
theorem bn_getD (s : ByteArray) (i : Nat) : (bn s).getD i 0 = (s.data.toList.getD i 0).toNat := by
  simp only [bn, List.getD_eq_getElem?_getD, List.getElem?_map]
  cases s.data.toList[i]? <;> rfl
/-- '[]byte(s)': the row that it makes. -/
theorem row8_made (w : World) (s : ByteArray) (c e : Nat) (n m : Nat) (hn : s.size ≤ n) : Row8 (w.alloc (.cells (bytesRow s c) e (n, m))) w.heap.size (bn s) := by
  refine ⟨by simp, fun i hi => ?_⟩
  have hi' : i < s.size := by simpa [bn] using hi
  have hg : (w.alloc (.cells (bytesRow s c) e (n, m))).heap[w.heap.size]? = some (.cells (bytesRow s c) e (n, m)) := heap_alloc_last w _
  constructor
  · simp only [World.cell?, hg]
    have : (bytesRow s c)[i]? = some (.int .u8 (((bn s).getD i 0 : Nat) : Int)) := by
      rw [bn_getD]
      unfold bytesRow
      rw [Array.getElem?_append_left (by simpa using hi')]
      simp [List.getD, hi']
    simpa using this
  · simp only [World.frozen?, hg]
    simp; omega
/-- The text of so many bytes. -/
def strN (l : List Nat) : ByteArray := strOfNums (l.map fun b : Nat => (b : Int))
theorem strN_size (l : List Nat) : (strN l).size = l.length := by unfold strN; rw [strOfNums_size, List.length_map]
theorem bn_strN (l : List Nat) (hl : ∀ b ∈ l, b < 256) : bn (strN l) = l := by
  unfold bn strN
  rw [strOfNums_data, List.map_map, List.map_map]
  conv => rhs; rw [← List.map_id l]
  refine List.map_congr_left fun b hb => ?_
  have := hl b hb
  simp [Function.comp]
  omega
theorem row8_string {w : World} {b : Nat} {l : List Nat} (h : Row8 w b l) (cap : Nat) : (convert 23 9 (.slice (some ⟨b, 0, none⟩) l.length cap)).run Tryd.prog w = .ok (.string (strN l)) w :=
  run_convert_bytes_arg w 23 5 Tryd.underlying23 Tryd.underlying5 b 0 l.length cap (l.map fun b : Nat => (b : Int)) (by simp) (fun i hi => by
    rw [Nat.zero_add, h.cell hi]
    simp [List.getD, hi]) 9 Tryd.underlying9
/-- A slice of bytes that the call itself made. -/
def OwnU8 (w : World) (B : Nat) (v : Value) (l : List Nat) : Prop := w.ownsRow B 5 1 v l.length (l.map fun b : Nat => Value.int .u8 (b : Int))
theorem ownU8_nil (w : World) (B : Nat) : OwnU8 w B (.slice none 0 0) [] := World.ownsRow_nil _ _ _ _
theorem map_u8_snoc (l : List Nat) (b : Nat) : (l ++ [b]).map (fun b : Nat => Value.int .u8 (b : Int)) = l.map (fun b : Nat => Value.int .u8 (b : Int)) ++ [Value.int .u8 (b : Int)] := by simp
/-- Out of a row of one's own: the text. -/
theorem ownU8_string {w : World} {B : Nat} {v : Value} {l : List Nat} (h : OwnU8 w B v l) : (convert 23 9 v).run Tryd.prog w = .ok (.string (strN l)) w := by
  unfold OwnU8 at h
  rcases h.2 with ⟨rfl, h0⟩ | ⟨g, cap, cur, rfl, hb, hg, hr⟩
  · have hl : l = [] := List.eq_nil_of_length_eq_zero h0
    subst hl
    have := run_convert_bytes_nil w 23 5 Tryd.underlying23 Tryd.underlying5 0 0 9 Tryd.underlying9
    rw [this]
    unfold strN; rfl
  · refine row8_string (l := l) ⟨(Array.getElem?_eq_some_iff.1 hg).1, fun i hi => ⟨?_, h.frozenAt i⟩⟩ cap
    rw [h.cellAt i (by omega)]
    simp [List.getD, hi]
attribute [irreducible] strN
/-- make([]byte, n) -/
theorem info_u8 : (Tryd.prog.info? 5).map (fun i => (i.zero, i.size, i.bytes)) = some (some (.int .u8 0), 1, 1) := by kernel_rfl
theorem row8_new (w : World) (n : Nat) (t : TypeId) : Row8 (w.alloc (.cells (madeCells #[.int .u8 0] n) t)) w.heap.size (List.replicate n 0) := by
  have h := World.rowIs_made w (.int .u8 0) n t
  refine ⟨by simp, fun i hi => ⟨?_, h.frozen i⟩⟩
  rw [h.cell (by simpa using hi)]
  simp only [List.length_replicate] at hi
  simp [List.getD, hi]
end Go.Proofs.YtihbcojmonlcgaaDoor
