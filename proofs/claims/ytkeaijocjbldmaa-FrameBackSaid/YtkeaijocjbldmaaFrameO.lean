/- The frames' statements' arguments: two bytes; frames. -/
import Derived.Test.YtkeaijocjbldmaaWireO
import Derived.Test.YtkeaijocjbldmaaFrameP4
import Derived.Test.YtkeaijocjbldmaaWireO2
namespace Go.Proofs.Ytkeaijocjbldmaa
open Go.RowKit Go.ChangeShapes Go.WideShapes Go.Deep Go.Joins

set_option maxRecDepth 100000 in
theorem open_t70 {H : Type} {enc : TypeId × Value → H} {w : World} {base : Nat} {spare : Nat → Bool} {held : Bool} {r : Reach} {b0 : Nat} {v : Value} {d : DataW H} {p : List MemPlace}
    (hv : Value.okWide Try.prog w r b0 70 v) (h : DataW.Trod enc Try.prog w base spare held 70 v d p) : ∃ k t : Nat, k < 256 ∧ t < 256 ∧ v = .agg #[.int .u8 (k : Nat), .int .u8 (t : Nat)] := by
  obtain ⟨cs, m, rfl, hsz, hx⟩ := open_arr Try.underlying70 (by kernel_rfl) (by kernel_rfl) hv h
  obtain ⟨l⟩ := cs
  match l, hsz with
  | [c0, c1], _ =>
    obtain ⟨y0, h0⟩ := hx 0 (by simp)
    obtain ⟨y1, h1⟩ := hx 1 (by simp)
    obtain ⟨a, ha, _, haw⟩ := DataW.trod_int Try.underlying5 h0
    obtain ⟨b, hb, _, hbw⟩ := DataW.trod_int Try.underlying5 h1
    simp at ha hb
    subst ha hb
    have a1 := bounds_u8 haw
    have b1 := bounds_u8 hbw
    refine ⟨a.toNat, b.toNat, by omega, by omega, ?_⟩
    rw [Int.toNat_of_nonneg a1.1, Int.toNat_of_nonneg b1.1]
/-- A frame that came in. -/
structure FrI where
  k : Nat
  b : ByteArray
  a : Int
structure FrI.Wf (f : FrI) : Prop where
  k1 : f.k < 256
  b1 : f.b.size ≤ maxLen
  a1 : -9223372036854775808 ≤ f.a
  a2 : f.a ≤ 9223372036854775807
def InFr (w : World) (A : Option Addr) (l : List FrI) : Prop :=
  (∀ f ∈ l, f.Wf) ∧ ∀ (i : Nat) (f : FrI), l[i]? = some f → ∃ b of : Nat, A = some ⟨b, of, none⟩ ∧ b < w.heap.size ∧
    w.cell? ⟨b, of + i * 3, none⟩ = some (.int .u8 (f.k : Nat)) ∧ w.cell? ⟨b, of + i * 3 + 1, none⟩ = some (.string f.b) ∧ w.cell? ⟨b, of + i * 3 + 2, none⟩ = some (.int .i64 f.a)
theorem InFr.cells {w : World} {A : Option Addr} {l : List FrI} (h : InFr w A l) {k : Nat} {f : FrI} (hf : l[k]? = some f) : ∃ b of : Nat, A = some ⟨b, of, none⟩ ∧ ∀ w', Below w.heap.size w w' →
    w'.cell? ⟨b, of + k * 3, none⟩ = some (.int .u8 (f.k : Nat)) ∧ w'.cell? ⟨b, of + k * 3 + 1, none⟩ = some (.string f.b) ∧ w'.cell? ⟨b, of + k * 3 + 2, none⟩ = some (.int .i64 f.a) := by
  obtain ⟨b, of, hA, hlt, h0, h1, h2⟩ := h.2 k f hf
  exact ⟨b, of, hA, fun w' hb => ⟨(hb.cell (p := ⟨b, _, none⟩) hlt).trans h0, (hb.cell (p := ⟨b, _, none⟩) hlt).trans h1, (hb.cell (p := ⟨b, _, none⟩) hlt).trans h2⟩⟩
set_option maxRecDepth 100000 in
theorem open_t58 {H : Type} {enc : TypeId × Value → H} {w : World} {base : Nat} {spare : Nat → Bool} {held : Bool} {r : Reach} {b0 : Nat} {v : Value} {d : DataW H} {p : List MemPlace}
    (hv : Value.okWide Try.prog w r b0 58 v) (h : DataW.Trod enc Try.prog w base spare held 58 v d p) :
    ∃ (A : Option Addr) (c : Nat) (l : List FrI), v = .slice A l.length c ∧ l.length ≤ maxLen ∧ InFr w A l := by
  obtain ⟨A, n, c, rfl, hn, hx⟩ := open_sl_fields Try.underlying58 Try.underlying65 (by kernel_rfl) (by kernel_rfl) (by decide) hv h
  have hex : ∀ i, i < n → ∃ f : FrI, f.Wf ∧ ∃ b of : Nat, A = some ⟨b, of, none⟩ ∧ b < w.heap.size ∧
    w.cell? ⟨b, of + i * 3, none⟩ = some (.int .u8 (f.k : Nat)) ∧ w.cell? ⟨b, of + i * 3 + 1, none⟩ = some (.string f.b) ∧ w.cell? ⟨b, of + i * 3 + 2, none⟩ = some (.int .i64 f.a) := by
    intro i hi
    obtain ⟨b, of, hA, hlt, hf⟩ := hx i hi
    obtain ⟨u0, y0, m0, c0, t0⟩ := hf 0 _ rfl
    obtain ⟨u1, y1, m1, c1, t1⟩ := hf 1 _ rfl
    obtain ⟨u2, y2, m2, c2, t2⟩ := hf 2 _ rfl
    obtain ⟨k, hk, _, hkw⟩ := DataW.trod_int Try.underlying5 t0
    obtain ⟨s, hs, _, hsl⟩ := DataW.trod_string Try.underlying9 t1
    obtain ⟨m, hm, _, hmw⟩ := DataW.trod_int Try.underlying3 t2
    simp only [List.cons.injEq, and_true] at hk hs hm
    subst hk hs hm
    have a1 := bounds_u8 hkw
    have a3 := bounds_i64 hmw
    refine ⟨⟨k.toNat, s, m⟩, ⟨by show k.toNat < 256; omega, hsl, a3.1, a3.2⟩, b, of, hA, hlt, ?_, c1, c2⟩
    show _ = some (Value.int .u8 (k.toNat : Nat))
    rw [Int.toNat_of_nonneg a1.1]
    exact c0
  haveI : Inhabited FrI := ⟨⟨0, ByteArray.empty, 0⟩⟩
  obtain ⟨f, hf⟩ := choose_lt (α := FrI) hex
  refine ⟨A, c, (List.range n).map f, by simp, by simpa using hn, fun o ho => ?_, fun i o hi => ?_⟩
  · simp only [List.mem_map, List.mem_range] at ho
    obtain ⟨i, hi, rfl⟩ := ho
    exact (hf i hi).1
  · have hin : i < n := by have := (List.getElem?_eq_some_iff.1 hi).1; simpa using this
    have ho : f i = o := by simpa [hin] using hi
    rw [← ho]
    exact (hf i hin).2
/-- .. as plain lists. -/
def frk (l : List FrI) : List FrK := l.map fun f => (f.k, bn f.b)
def allB (l : List FrI) : Bool := decide (l.length ≤ 20 ∧ ∀ f ∈ l, f.b.size ≤ 200 ∧ f.k ≠ 0)
theorem frk_ok {l : List FrI} (h : ∀ f ∈ l, f.Wf) (ha : l.length ≤ 20 ∧ ∀ f ∈ l, f.b.size ≤ 200 ∧ f.k ≠ 0) : ∀ f ∈ frk l, f.Ok := by
  intro f hf
  simp only [frk, List.mem_map] at hf
  obtain ⟨g, hg, rfl⟩ := hf
  have h1 := h g hg
  have h2 := ha.2 g hg
  have hk := h1.k1
  refine ⟨by show 0 < g.k; omega, hk, bn_lt g.b, by show (bn g.b).length ≤ 1048576; rw [bn_len]; omega⟩
theorem frk_take (l : List FrI) (k : Nat) : frk (l.take k) = (frk l).take k := by simp [frk, List.map_take]
theorem frk_len (l : List FrI) : (frk l).length = l.length := by simp [frk]
theorem seals_len (l : List FrI) (h : ∀ f ∈ l, f.b.size ≤ 200) : (sealsN (frk l)).length ≤ 300 * l.length := by
  induction l with
  | nil => simp [frk, sealsN]
  | cons f l ih =>
    have h1 := ih (fun g hg => h g (by simp [hg]))
    have h2 := h f (by simp)
    have h3 := uvar_len10 (x := f.b.size) (by omega)
    show (sealsN ((f.k, bn f.b) :: frk l)).length ≤ _
    rw [sealsN_cons, List.length_append, sealN_len, List.length_cons]
    show sizeN (bn f.b).length + _ ≤ _
    rw [bn_len]
    unfold sizeN
    omega
end Go.Proofs.Ytkeaijocjbldmaa
