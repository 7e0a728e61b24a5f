/- The statements' calls: how they are read, which are few, what each writes. -/
import Derived.Test.YtkeaijocjbldmaaWireN
import Derived.Test.YtkeaijocjbldmaaWireS2
import Derived.Lib.SmallJoins
import Derived.Deep.Fields
import Derived.ChangeSame
namespace Go.Proofs.Ytkeaijocjbldmaa
open Go.RowKit Go.ChangeShapes Go.WideShapes Go.Deep Go.Joins

structure OpD where
  k : Int
  x : Nat
  s : ByteArray
  m : Int
structure OpD.Wf (o : OpD) : Prop where
  k1 : -9223372036854775808 ≤ o.k
  k2 : o.k ≤ 9223372036854775807
  x1 : o.x < 18446744073709551616
  s1 : o.s.size ≤ maxLen
  m1 : -9223372036854775808 ≤ o.m
  m2 : o.m ≤ 9223372036854775807
/-- A slice of calls. -/
def InOps (w : World) (A : Option Addr) (l : List OpD) : Prop :=
  (∀ o ∈ l, o.Wf) ∧ ∀ (i : Nat) (o : OpD), l[i]? = some o → ∃ b of : Nat, A = some ⟨b, of, none⟩ ∧ b < w.heap.size ∧
    w.cell? ⟨b, of + i * 4, none⟩ = some (.int .i64 o.k) ∧ w.cell? ⟨b, of + i * 4 + 1, none⟩ = some (.int .u64 (o.x : Nat)) ∧ w.cell? ⟨b, of + i * 4 + 2, none⟩ = some (.string o.s) ∧ w.cell? ⟨b, of + i * 4 + 3, none⟩ = some (.int .i64 o.m)
theorem InOps.below {w w' : World} {A : Option Addr} {l : List OpD} (h : InOps w A l) (hb : Below w.heap.size w w') : InOps w' A l := by
  refine ⟨h.1, fun i o hi => ?_⟩
  obtain ⟨b, of, rfl, hlt, h0, h1, h2, h3⟩ := h.2 i o hi
  exact ⟨b, of, rfl, Nat.lt_of_lt_of_le hlt hb.size, (hb.cell (p := ⟨b, _, none⟩) hlt).trans h0, (hb.cell (p := ⟨b, _, none⟩) hlt).trans h1, (hb.cell (p := ⟨b, _, none⟩) hlt).trans h2, (hb.cell (p := ⟨b, _, none⟩) hlt).trans h3⟩

section
variable {H : Type} {enc : TypeId × Value → H} {P : Program} {w : World} {base : Nat} {spare : Nat → Bool} {held : Bool}
/-- The fields of the elements of a slice of structs, cell by cell. -/
theorem open_sl_fields {r : Reach} {b0 : Nat} {v : Value} {d : DataW H} {p : List MemPlace} {t e : TypeId} {fs : Array Field} (ht : P.underlying t = some (.slice e)) (he : P.underlying e = some (.struct fs))
    (hone : oneCellFields P fs = true) (hC : P.cellsOf e = fs.size) (hpos : 0 < fs.size) (hv : Value.okWide P w r b0 t v) (h : DataW.Trod enc P w base spare held t v d p) :
    ∃ (A : Option Addr) (n c : Nat), v = .slice A n c ∧ n ≤ maxLen ∧ ∀ i, i < n → ∃ b of, A = some ⟨b, of, none⟩ ∧ b < w.heap.size ∧
      ∀ (j : Nat) (f : Field), fs[j]? = some f → ∃ (u : Value) (y : DataW H × List MemPlace) (m : Nat), w.cell? ⟨b, of + (i * fs.size + j), none⟩ = some u ∧ DataW.trod enc P w base spare held m f.type [u] = some y := by
  obtain ⟨a0, len, cap, rfl⟩ := okWide_slice ht hv
  obtain ⟨fuel, hf⟩ := h
  rcases open_slice ht hf with ⟨hcs, _⟩ | ⟨a, len', cap', m, n, D, Pl, hcs, _, hl, hm, hmm, _, hi⟩
  · simp [Value.cells] at hcs
    obtain ⟨rfl, rfl, rfl⟩ := hcs
    exact ⟨none, 0, 0, rfl, by omega, fun i hi => by omega⟩
  · simp [Value.cells] at hcs
    obtain ⟨rfl, rfl, rfl⟩ := hcs
    have hlm : len ≤ m := by rw [hmm]; split <;> omega
    obtain ⟨b, off, spot⟩ := a
    refine ⟨_, len, cap, rfl, by omega, fun i hin => ?_⟩
    have hspot : spot = none := by
      obtain ⟨cs', hc, _⟩ := hi 0 (by omega)
      rw [hC] at hc
      obtain ⟨_, hcl, hat⟩ := World.cells?_some hc
      have hfirst := hat 0 hpos
      rw [List.getElem?_eq_getElem (by omega)] at hfirst
      have h1 := World.cell?_spot hfirst
      simpa [Addr.add] using h1
    subst hspot
    obtain ⟨cs', hc, ht'⟩ := hi i (by omega)
    rw [hC] at hc
    obtain ⟨ys, n', hn', hy, hlen, hyl, hfd⟩ := DataW.trod_struct he ht'
    obtain ⟨_, hcl, hat⟩ := World.cells?_some hc
    have hfirst := hat 0 hpos
    rw [List.getElem?_eq_getElem (by omega)] at hfirst
    have hadd : ∀ x y : Nat, (((⟨b, off, none⟩ : Addr).add x).add y) = ⟨b, off + (x + y), none⟩ := fun x y => by
      unfold Addr.add
      by_cases hx : x = 0 <;> by_cases hy : y = 0 <;> simp [hx, hy, Nat.add_assoc]
    refine ⟨b, off, rfl, ?_, fun j f hj => ?_⟩
    · rw [hadd] at hfirst
      unfold World.cell? at hfirst
      split at hfirst
      · rename_i heq; exact (Array.getElem?_eq_some_iff.1 heq).1
      · cases hfirst
    · obtain ⟨ho, hk⟩ := hone_of hone j f hj
      have hjl : j < fs.size := (Array.getElem?_eq_some_iff.1 hj).1
      have hcell := hat j hjl
      have h1 := hfd j f hj
      rw [ho, hk] at h1
      have hone' : (cs'.drop j).take 1 = [cs'[j]'(by omega)] := by
        rw [List.drop_eq_getElem_cons (by omega)]
        rfl
      rw [hone'] at h1
      have hys : ys[j]? = some (ys[j]'(by omega)) := List.getElem?_eq_getElem (by omega)
      rw [hadd, List.getElem?_eq_getElem (by omega)] at hcell
      exact ⟨_, _, _, hcell, h1.trans hys⟩
end

set_option maxRecDepth 100000 in
/-- A call as an argument. -/
theorem open_t43 {H : Type} {enc : TypeId × Value → H} {w : World} {base : Nat} {spare : Nat → Bool} {held : Bool} {r : Reach} {b0 : Nat} {v : Value} {d : DataW H} {p : List MemPlace}
    (hv : Value.okWide Try.prog w r b0 43 v) (h : DataW.Trod enc Try.prog w base spare held 43 v d p) :
    ∃ o : OpD, o.Wf ∧ v = .agg #[.int .i64 o.k, .int .u64 (o.x : Nat), .string o.s, .int .i64 o.m] := by
  obtain ⟨v0, v1, v2, v3, y0, y1, y2, y3, n, rfl, _, _, h0, h1, h2, h3⟩ := open_agg4 Try.underlying43 (by kernel_rfl) (by kernel_rfl) hv h
  obtain ⟨k, hk, _, hkw⟩ := DataW.trod_int Try.underlying3 h0
  obtain ⟨x, hx, _, hxw⟩ := DataW.trod_int Try.underlying25 h1
  obtain ⟨s, hs, _, hsl⟩ := DataW.trod_string Try.underlying9 h2
  obtain ⟨m, hm, _, hmw⟩ := DataW.trod_int Try.underlying3 h3
  simp only [List.cons.injEq, and_true] at hk hx hs hm
  subst hk hx hs hm
  have a1 := bounds_i64 hkw
  have a2 := bounds_u64 hxw
  have a3 := bounds_i64 hmw
  refine ⟨⟨k, x.toNat, s, m⟩, ⟨a1.1, a1.2, by show x.toNat < 18446744073709551616; omega, hsl, a3.1, a3.2⟩, ?_⟩
  show _ = Value.agg #[.int .i64 k, .int .u64 (x.toNat : Nat), .string s, .int .i64 m]
  rw [Int.toNat_of_nonneg a2.1]
set_option maxRecDepth 100000 in
/-- Calls as an argument. -/
theorem open_t38 {H : Type} {enc : TypeId × Value → H} {w : World} {base : Nat} {spare : Nat → Bool} {held : Bool} {r : Reach} {b0 : Nat} {v : Value} {d : DataW H} {p : List MemPlace}
    (hv : Value.okWide Try.prog w r b0 38 v) (h : DataW.Trod enc Try.prog w base spare held 38 v d p) :
    ∃ (A : Option Addr) (c : Nat) (l : List OpD), v = .slice A l.length c ∧ l.length ≤ maxLen ∧ InOps w A l := by
  obtain ⟨A, n, c, rfl, hn, hx⟩ := open_sl_fields Try.underlying38 Try.underlying43 (by kernel_rfl) (by kernel_rfl) (by decide) hv h
  have hex : ∀ i, i < n → ∃ o : OpD, o.Wf ∧ ∃ b of : Nat, A = some ⟨b, of, none⟩ ∧ b < w.heap.size ∧
    w.cell? ⟨b, of + i * 4, none⟩ = some (.int .i64 o.k) ∧ w.cell? ⟨b, of + i * 4 + 1, none⟩ = some (.int .u64 (o.x : Nat)) ∧ w.cell? ⟨b, of + i * 4 + 2, none⟩ = some (.string o.s) ∧ w.cell? ⟨b, of + i * 4 + 3, none⟩ = some (.int .i64 o.m) := by
    intro i hi
    obtain ⟨b, of, hA, hlt, hf⟩ := hx i hi
    obtain ⟨u0, y0, m0, c0, t0⟩ := hf 0 _ rfl
    obtain ⟨u1, y1, m1, c1, t1⟩ := hf 1 _ rfl
    obtain ⟨u2, y2, m2, c2, t2⟩ := hf 2 _ rfl
    obtain ⟨u3, y3, m3, c3, t3⟩ := hf 3 _ rfl
    obtain ⟨k, hk, _, hkw⟩ := DataW.trod_int Try.underlying3 t0
    obtain ⟨x, hx, _, hxw⟩ := DataW.trod_int Try.underlying25 t1
    obtain ⟨s, hs, _, hsl⟩ := DataW.trod_string Try.underlying9 t2
    obtain ⟨m, hm, _, hmw⟩ := DataW.trod_int Try.underlying3 t3
    simp only [List.cons.injEq, and_true] at hk hx hs hm
    subst hk hx hs hm
    have a1 := bounds_i64 hkw
    have a2 := bounds_u64 hxw
    have a3 := bounds_i64 hmw
    refine ⟨⟨k, x.toNat, s, m⟩, ⟨a1.1, a1.2, by show x.toNat < 18446744073709551616; omega, hsl, a3.1, a3.2⟩, b, of, hA, hlt, c0, ?_, c2, c3⟩
    show _ = some (Value.int .u64 (x.toNat : Nat))
    rw [Int.toNat_of_nonneg a2.1]
    exact c1
  haveI : Inhabited OpD := ⟨⟨0, 0, ByteArray.empty, 0⟩⟩
  obtain ⟨f, hf⟩ := choose_lt (α := OpD) hex
  refine ⟨A, c, (List.range n).map f, by simp, by simpa using hn, fun o ho => ?_, fun i o hi => ?_⟩
  · simp only [List.mem_map, List.mem_range] at ho
    obtain ⟨i, hi, rfl⟩ := ho
    exact (hf i hi).1
  · have hin : i < n := by have := (List.getElem?_eq_some_iff.1 hi).1; simpa using this
    have ho : f i = o := by simpa [hin] using hi
    rw [← ho]
    exact (hf i hin).2
end Go.Proofs.Ytkeaijocjbldmaa
