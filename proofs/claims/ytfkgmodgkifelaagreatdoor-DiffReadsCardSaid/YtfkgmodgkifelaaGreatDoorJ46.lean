/- Patches, read: what is in memory while parts are read. -/
import Derived.Test.YtfkgmodgkifelaaGreatDoorJ45
namespace Go.Proofs.YtfkgmodgkifelaaGreatDoor
open Go.RowKit

structure PSt (w : World) (R pb zb B : Nat) (s : ByteArray) (q : Nat) (before : List Col) (rows : Nat) (after : List Col) (too : Nat) (VB VA VP : Value) (ts : List (PartD × Value × Value)) : Prop where
  rd : Rd w R s q 0
  bp : Blk w pb 34 #[VB, .int .i64 (rows : Nat), VA, .int .i64 (too : Nat), VP]
  bz : Blk w zb 34 #[.slice none 0 0, .int .i64 0, .slice none 0 0, .int .i64 0, .slice none 0 0]
  hne : zb ≠ pb
  own : w.ownsRow B 65 3 VP ts.length (ts.flatMap cellsP)
  nil : ts = [] → VP = .slice none 0 0
  held : Held w ts
  kb : InK w VB before
  ka : InK w VA after
section
variable {w w' : World} {R pb zb B q rows too : Nat} {s : ByteArray} {before after : List Col} {VB VA VP : Value} {ts : List (PartD × Value × Value)}
theorem Held.below (h : Held w ts) (hb : Below w.heap.size w w') : Held w' ts := fun t ht => ⟨(h t ht).1.below hb, (h t ht).2.below hb⟩
theorem PSt.below (h : PSt w R pb zb B s q before rows after too VB VA VP ts) (hb : Below w.heap.size w w') : PSt w' R pb zb B s q before rows after too VB VA VP ts :=
  ⟨h.rd.below hb, h.bp.below hb h.bp.lt, h.bz.below hb h.bz.lt, h.hne, own_below h.own hb, h.nil, h.held.below hb, h.kb.below hb, h.ka.below hb⟩
theorem slice_ne_str {w : World} {g : Nat} {t : TypeId} {A : Option Addr} {n c : Nat} {b1 b2 b3 b4 : Value} (h : Blk w g t #[.slice A n c, b1, b2, b3, b4]) : (∀ x, w.cell? ⟨g, 0, none⟩ ≠ some (.string x)) ∧ (∀ x, w.cell? ⟨g, 0, none⟩ ≠ some (.int .i64 x)) ∧ (∀ x, w.cell? ⟨g, 0, none⟩ ≠ some (.bool x)) := by
  have := h.cell 0
  simp at this
  rw [this]
  simp
theorem PSt.step {q' : Nat} (h : PSt w R pb zb B s q before rows after too VB VA VP ts) (hf : Fr w w' (fun j => j = R)) (hr : Rd w' R s q' 0) : PSt w' R pb zb B s q' before rows after too VB VA VP ts := by
  obtain ⟨n1, n2, n3⟩ := rd_str_ne h.rd
  refine ⟨hr, Blk.fr h.bp hf (by exact fun he => blk_ne h.bp h.rd (by decide) he), Blk.fr h.bz hf (by exact fun he => blk_ne h.bz h.rd (by decide) he), h.hne, own_fr h.own hf (fun k hk he => own_ne_blk h.own h.rd (by decide) (by rw [hk, he])), h.nil, fun t ht => ⟨?_, ?_⟩, ?_, ?_⟩
  · exact (h.held t ht).1.frq hf (fun g hg => by obtain rfl : g = R := hg; exact n1)
  · exact (h.held t ht).2.frq hf (fun g hg => by obtain rfl : g = R := hg; exact .inl n2)
  · exact h.kb.frq hf (fun g hg x => by obtain rfl : g = R := hg; exact .inr n3)
  · exact h.ka.frq hf (fun g hg x => by obtain rfl : g = R := hg; exact .inr n3)
theorem PSt.push {w1 : World} {v1 : Value} {t : PartD × Value × Value} (h : PSt w R pb zb B s q before rows after too VB VA VP ts) (he : InE w t.2.1 t.1.2.1) (hm : InM w t.2.2 t.1.2.2) (hg : w.grownBy w1 VP.ownBlock) (hown : w1.ownsRow B 65 3 v1 (ts.length + 1) (ts.flatMap cellsP ++ cellsP t)) :
    PSt (w1.setCell ⟨pb, 4, none⟩ v1) R pb zb B s q before rows after too VB VA v1 (ts ++ [t]) := by
  have f1 := Fr.of_grown hg
  have f2 := Fr.setCell w1 ⟨pb, 4, none⟩ v1
  have rd1 : Rd w1 R s q 0 := Blk.fr h.rd f1 (fun hk => own_ne_blk h.own h.rd (by decide) hk.symm)
  have pb1 := Blk.fr h.bp f1 (fun hk => own_ne_blk h.own h.bp (by decide) hk.symm)
  have zb1 := Blk.fr h.bz f1 (fun hk => own_ne_blk h.own h.bz (by decide) hk.symm)
  obtain ⟨AB, cb, hVB⟩ := h.kb.form
  have pb1' := pb1
  rw [hVB] at pb1'
  obtain ⟨n1, n2, n3⟩ := slice_ne_str pb1'
  have hp := fun g hg => own_parts_ne h.own h.nil h.held g hg
  have c0 : ∀ g, some g = VP.ownBlock → (∀ x, w.cell? ⟨g, 0, none⟩ ≠ some (.string x)) ∧ (∀ x, w.cell? ⟨g, 0, none⟩ ≠ some (.int .i64 x)) ∧ (∀ x, w.cell? ⟨g, 2, none⟩ ≠ some (.int .i64 x)) := by
    intro g hg
    obtain ⟨b, A, n, c, e1, e2⟩ := hp g hg
    rw [e1, e2]
    simp
  have goE : ∀ {V l}, InE w V l → InE (w1.setCell ⟨pb, 4, none⟩ v1) V l := fun hh => (hh.frq f1 (fun g hg => (c0 g hg).2.1)).frq f2 (fun g hg => by obtain rfl : g = pb := hg; exact n2)
  have goM : ∀ {V l}, InM w V l → InM (w1.setCell ⟨pb, 4, none⟩ v1) V l := fun hh => (hh.frq f1 (fun g hg => .inr (c0 g hg).2.2)).frq f2 (fun g hg => by obtain rfl : g = pb := hg; exact .inl n3)
  have goK : ∀ {V l}, InK w V l → InK (w1.setCell ⟨pb, 4, none⟩ v1) V l := fun hh => (hh.frq f1 (fun g hg x => .inl ((c0 g hg).1 x))).frq f2 (fun g hg x => by obtain rfl : g = pb := hg; exact .inl (n1 x))
  refine ⟨Blk.fr rd1 f2 (by exact blk_ne rd1 pb1 (by decide)), pb1.set 4 v1, Blk.fr zb1 f2 (by exact h.hne), h.hne, ?_, fun hh => by simp at hh, ?_, goK h.kb, goK h.ka⟩
  · rw [List.length_append, List.length_singleton, cellsP_snoc]
    exact own_fr hown f2 (fun k hk he => own_ne_blk hown pb1 (by decide) (by rw [hk, show k = pb from he]))
  · intro x hx
    rcases List.mem_append.1 hx with hx | hx
    · exact ⟨goE (h.held x hx).1, goM (h.held x hx).2⟩
    · rw [List.mem_singleton] at hx
      rw [hx]
      exact ⟨goE he, goM hm⟩
end
def st5 (w : World) (L : Nat) (a0 a1 a2 a3 a4 : Value) : World := ((((w.setCell ⟨L, 0, none⟩ a0).setCell ⟨L, 1, none⟩ a1).setCell ⟨L, 2, none⟩ a2).setCell ⟨L, 3, none⟩ a3).setCell ⟨L, 4, none⟩ a4
theorem st5_fr (w : World) (L : Nat) (a0 a1 a2 a3 a4 : Value) : Fr w (st5 w L a0 a1 a2 a3 a4) (fun k => k = L) := (((((Fr.refl w _).set' 0 _).set' 1 _).set' 2 _).set' 3 _).set' 4 _
theorem st5_blk {w : World} {L : Nat} {t : TypeId} {b0 b1 b2 b3 b4 : Value} (h : Blk w L t #[b0, b1, b2, b3, b4]) (a0 a1 a2 a3 a4 : Value) : Blk (st5 w L a0 a1 a2 a3 a4) L t #[a0, a1, a2, a3, a4] := ((((h.set 0 a0).set 1 a1).set 2 a2).set 3 a3).set 4 a4
/-- A patch, laid where it is answered. -/
theorem PSt.laid {w : World} {R pb zb B q rows too : Nat} {s : ByteArray} {before after : List Col} {VB VA VP : Value} {ts : List (PartD × Value × Value)} (h : PSt w R pb zb B s q before rows after too VB VA VP ts) :
    Blk (st5 w zb VB (.int .i64 (rows : Nat)) VA (.int .i64 (too : Nat)) VP) zb 34 #[VB, .int .i64 (rows : Nat), VA, .int .i64 (too : Nat), VP] ∧
    InPat (st5 w zb VB (.int .i64 (rows : Nat)) VA (.int .i64 (too : Nat)) VP) VB VA VP ⟨before, rows, after, too, ts.map (·.1)⟩ := by
  have f := st5_fr w zb VB (.int .i64 (rows : Nat)) VA (.int .i64 (too : Nat)) VP
  obtain ⟨n1, n2, n3⟩ := slice_ne_str h.bz
  have goK : ∀ {V l}, InK w V l → InK (st5 w zb VB (.int .i64 (rows : Nat)) VA (.int .i64 (too : Nat)) VP) V l := fun hh => hh.frq f (fun g hg x => by obtain rfl : g = zb := hg; exact .inl (n1 x))
  refine ⟨st5_blk h.bz _ _ _ _ _, goK h.kb, goK h.ka, ?_⟩
  exact inP_own (own_fr h.own f (fun k hk he => own_ne_blk h.own h.bz (by decide) (by rw [hk, show k = zb from he]))) rfl (fun t ht => ⟨(h.held t ht).1.frq f (fun g hg => by obtain rfl : g = zb := hg; exact n2), (h.held t ht).2.frq f (fun g hg => by obtain rfl : g = zb := hg; exact .inl n3)⟩)
end Go.Proofs.YtfkgmodgkifelaaGreatDoor
