/- Writers: what each of their calls does to the object and to its bytes. -/
import Derived.Test.YtihbcojmonlcgaaDoorOpen
import Derived.Test.YtihbcojmonlcgaaDoorBytes
namespace Go.Proofs.YtihbcojmonlcgaaDoor
open Go.RowKit

/-- A frame: but for some blocks of the first world, and new ones, nothing has turned. -/
structure Fr (w w' : World) (P : Nat → Prop) : Prop where
  os : w'.os = w.os
  tape : w'.tape = w.tape
  output : w'.output = w.output
  size : w.heap.size ≤ w'.heap.size
  block : ∀ k, k < w.heap.size → ¬ P k → w'.heap[k]? = w.heap[k]?
theorem Fr.refl (w : World) (P : Nat → Prop) : Fr w w P := ⟨rfl, rfl, rfl, Nat.le_refl _, fun _ _ _ => rfl⟩
theorem Fr.mono {w w' : World} {P Q : Nat → Prop} (h : Fr w w' P) (hq : ∀ k, P k → Q k) : Fr w w' Q := ⟨h.os, h.tape, h.output, h.size, fun k hk hn => h.block k hk (fun hp => hn (hq k hp))⟩
theorem Fr.of_below {w w' : World} (h : Below w.heap.size w w') (P : Nat → Prop) : Fr w w' P := ⟨h.os, h.tape, h.output, h.size, fun k hk _ => h.block k hk⟩
theorem Fr.of_grown {w w' : World} {row : Option Nat} (h : w.grownBy w' row) : Fr w w' (fun k => some k = row) := ⟨h.os, h.tape, h.output, h.size, fun k hk hn => h.block k hk hn⟩
theorem Fr.trans {a b c : World} {P Q : Nat → Prop} (h : Fr a b P) (k : Fr b c Q) (hq : ∀ i, i < a.heap.size → Q i → P i) : Fr a c P :=
  ⟨k.os.trans h.os, k.tape.trans h.tape, k.output.trans h.output, Nat.le_trans h.size k.size, fun i hi hn => (k.block i (Nat.lt_of_lt_of_le hi h.size) (fun hqi => hn (hq i hi hqi))).trans (h.block i hi hn)⟩
theorem Fr.below {w w' : World} {P : Nat → Prop} (h : Fr w w' P) {B : Nat} (hB : B ≤ w.heap.size) (hp : ∀ k, P k → B ≤ k) : Below B w w' :=
  ⟨h.os, h.tape, h.output, h.size, fun k hk => h.block k (by omega) (fun hpk => by have := hp k hpk; omega)⟩
theorem Fr.setCell (w : World) (a : Addr) (v : Value) : Fr w (w.setCell a v) (fun k => k = a.block) :=
  ⟨rfl, rfl, rfl, by simp [World.setCell], fun k _ hn => Below.heap_setCell w a v k hn⟩
theorem Fr.alloc (w : World) (o : Obj) (P : Nat → Prop) : Fr w (w.alloc o) P := ⟨rfl, rfl, rfl, by simp, fun k hk _ => Below.heap_alloc w o k hk⟩
theorem Fr.drew {w w' : World} {P : Nat → Prop} (h : Fr w w' P) : Fr w w'.drew P := ⟨h.os, h.tape, h.output, h.size, h.block⟩
theorem Blk.fr {w w' : World} {b : Nat} {t : TypeId} {cs : Array Value} {P : Nat → Prop} (h : Blk w b t cs) (hf : Fr w w' P) (hp : ¬ P b) : Blk w' b t cs := by
  have := h.lt
  unfold Blk at h ⊢
  rw [hf.block b this hp]; exact h
theorem OwnU8.fr {w w' : World} {B : Nat} {v : Value} {l : List Nat} {P : Nat → Prop} (h : OwnU8 w B v l) (hf : Fr w w' P) (hp : ∀ k, v.ownBlock = some k → ¬ P k) : OwnU8 w' B v l := by
  unfold OwnU8 at h ⊢
  refine ⟨h.1, ?_⟩
  rcases h.2 with hn | ⟨g, cap, cur, hv, hb, hg, rest⟩
  · exact .inl hn
  · refine .inr ⟨g, cap, cur, hv, hb, ?_, rest⟩
    rw [hf.block g (Array.getElem?_eq_some_iff.1 hg).1 (hp g (by rw [hv]; rfl))]; exact hg
theorem own_form {w : World} {B : Nat} {v : Value} {n : Nat} {xs : List Value} {e : TypeId} (h : w.ownsRow B e 1 v n xs) : ∃ A c, v = .slice A n c := by
  rcases h.2 with ⟨rfl, hn⟩ | ⟨g, cap, cur, rfl, _⟩
  · exact ⟨none, 0, by rw [hn]⟩
  · exact ⟨_, cap, rfl⟩
theorem OwnU8.nil_of_none {w : World} {B : Nat} {v : Value} {l : List Nat} (h : OwnU8 w B v l) : v.ownBlock = none → v = .slice none 0 0 ∧ l = [] := by
  intro h0
  unfold OwnU8 at h
  rcases h.2 with ⟨rfl, hn⟩ | ⟨g, cap, cur, rfl, _⟩
  · exact ⟨rfl, List.eq_nil_of_length_eq_zero hn⟩
  · simp [Value.ownBlock] at h0
/-- A row of bytes is no block of another element type. -/
theorem OwnU8.ne {w : World} {B : Nat} {v : Value} {l : List Nat} (h : OwnU8 w B v l) {b : Nat} {t : TypeId} {cs : Array Value} (hb : Blk w b t cs) (ht : t ≠ 5) : v.ownBlock ≠ some b := by
  intro e
  unfold OwnU8 at h
  rcases h.2 with ⟨rfl, hn⟩ | ⟨g, cap, cur, rfl, _, hg, _⟩
  · simp [Value.ownBlock] at e
  · simp [Value.ownBlock] at e
    subst e
    unfold Blk at hb
    rw [hb] at hg
    injection hg with hg
    injection hg with _ h2
    exact ht h2

/-- A writer: its block, its slice, its bytes. -/
structure Wr (w : World) (W B : Nat) (sv : Value) (l : List Nat) : Prop where
  blk : Blk w W 100 #[sv]
  own : OwnU8 w B sv l
  leW : B ≤ W
/-- What a call leaves of everything else, and where the slice lies then. -/
structure WS (W : Nat) (w : World) (sv : Value) (w' : World) (sv' : Value) : Prop where
  fr : Fr w w' (fun k => k = W ∨ some k = sv.ownBlock)
  at_ : sv'.ownBlock = sv.ownBlock ∨ ∃ g, sv'.ownBlock = some g ∧ w.heap.size ≤ g
theorem WS.refl (W : Nat) (w : World) (sv : Value) : WS W w sv w sv := ⟨Fr.refl _ _, .inl rfl⟩
theorem WS.trans {W : Nat} {a b c : World} {x y z : Value} (h : WS W a x b y) (k : WS W b y c z) : WS W a x c z := by
  refine ⟨h.fr.trans k.fr ?_, ?_⟩
  · rintro i hi (rfl | hq)
    · exact .inl rfl
    · rcases h.at_ with e | ⟨g, e, hg⟩
      · rw [e] at hq; exact .inr hq
      · rw [e] at hq; injection hq with hq; omega
  · rcases k.at_ with e | ⟨g, e, hg⟩
    · rw [e]; exact h.at_
    · exact .inr ⟨g, e, Nat.le_trans h.fr.size hg⟩
/-- What was made ahead of the call, in new blocks. -/
theorem WS.ahead {W : Nat} {a b c : World} {x y : Value} (h : Below a.heap.size a b) (k : WS W b x c y) : WS W a x c y :=
  ⟨(Fr.of_below h _).trans k.fr (fun _ _ h => h), k.at_.imp id (fun ⟨g, e, hg⟩ => ⟨g, e, Nat.le_trans h.size hg⟩)⟩
theorem WS.below {W B : Nat} {a b : World} {x y : Value} {l : List Nat} (h : WS W a x b y) (hw : Wr a W B x l) (hB : B ≤ a.heap.size) : Below B a b :=
  h.fr.below hB (fun k hk => by
    rcases hk with rfl | hk
    · exact hw.leW
    · exact (World.ownsRow.lt hw.own k hk.symm).1)
theorem Wr.below {w w' : World} {W B : Nat} {sv : Value} {l : List Nat} (h : Wr w W B sv l) (hb : Below w.heap.size w w') : Wr w' W B sv l :=
  ⟨h.blk.below hb h.blk.lt, h.own.fr (Fr.of_below hb (fun _ => False)) (fun _ _ h => h), h.leW⟩
/-- How a call of a writer ends that writes so many bytes. -/
def WPost (W B : Nat) (w : World) (sv : Value) (l : List Nat) (e : Ending) (w' : World) : Prop :=
  e = .returned (.tuple #[]) ∧ ∃ sv', Wr w' W B sv' l ∧ WS W w sv w' sv'

/-- A slice of bytes that is read. -/
def SlU8 (w : World) (v : Value) (l : List Nat) : Prop := InSl w v l.length (fun i => .int .u8 (l.getD i 0 : Nat))
theorem map_range_u8 (l : List Nat) : (List.range l.length).map (fun i => Value.int .u8 (l.getD i 0 : Nat)) = l.map (fun b : Nat => Value.int .u8 (b : Int)) := by
  apply List.ext_getElem (by simp)
  intro i h1 h2
  have hi : i < l.length := by simpa using h1
  simp [List.getD, hi]
theorem SlU8.form {w : World} {v : Value} {l : List Nat} (h : SlU8 w v l) : ∃ A c, v = .slice A l.length c := by
  rcases h.2 with ⟨h0, x, c, rfl, _⟩ | ⟨_, x, o, c, rfl, _⟩
  · exact ⟨x, c, by rw [h0]⟩
  · exact ⟨_, c, rfl⟩
theorem SlU8.below {w w' : World} {v : Value} {l : List Nat} (h : SlU8 w v l) (hb : Below w.heap.size w w') : SlU8 w' v l := by
  obtain ⟨h1, h2⟩ := h
  refine ⟨h1, h2.imp id ?_⟩
  rintro ⟨h0, b, o, c, rfl, hc, hlt, hcell⟩
  exact ⟨h0, b, o, c, rfl, hc, Nat.lt_of_lt_of_le hlt hb.size, fun i hi => (hb.cell (p := ⟨b, o + i, none⟩) hlt).trans (hcell i hi)⟩
theorem slU8_one (w : World) (b : Nat) (t : TypeId) : SlU8 (w.alloc (.cells #[.int .u8 (b : Nat)] t)) (.slice (some ⟨w.heap.size, 0, none⟩) 1 1) [b] := by
  refine ⟨by simp [maxLen], .inr ⟨by simp, w.heap.size, 0, 1, rfl, Nat.le_refl _, by simp, fun i hi => ?_⟩⟩
  match i, hi with
  | 0, _ => simp [go_sem]
set_option maxHeartbeats 1000000 in
set_option maxRecDepth 100000 in
theorem put_any (W B : Nat) (sv : Value) (l : List Nat) (src : Value) (m : List Nat) (w : World) (h : Wr w W B sv l) (hm : SlU8 w src m) (hl : l.length + m.length ≤ 33554432) (hB : B ≤ w.heap.size) :
    Calls Tryd.prog 102 #[.pointer (some ⟨W, 0, none⟩), src] w (WPost W B w sv (l ++ m)) := by
  obtain ⟨A, c, rfl⟩ := hm.form
  obtain ⟨i0, hi, hz0, hz1, hz2⟩ := info_parts info_u8
  have hc : w.cell? ⟨W, 0, none⟩ = some sv := h.blk.cell 0
  have hown := h.own
  unfold OwnU8 at hown
  have hne := hide (OwnU8.ne h.own h.blk (by decide))
  have HO := hide h.own
  have HB := hide h.blk
  have HW := hide h.leW
  have HR := hide (map_range_u8 m)
  have hm' : InSl w (.slice A m.length c) m.length (fun i => .int .u8 (m.getD i 0 : Nat)) := hm
  clear h hm
  go_enter Tryd.func102, Tryd.ntmps102
  go_wp2_with (at_builtin; refine wpList_append_at rfl (.tmp 10) (.tmp 11) 23 rfl B 5 i0 (.int .u8 0) 1 Tryd.underlying23 hi hz0 hz1 hz2 rfl sv l.length _ rfl hown _ m.length (fun i => .int .u8 (m.getD i 0 : Nat)) rfl hm' (fun _ => rfl) (by simp only [maxLen]; omega) (by omega) hB ?_; intro v1 w1 hown1 hgrow1 hat1; obtain ⟨A1, c1, hv1⟩ := own_form hown1; subst hv1; have hb1 := HB.out.grown hgrow1 (Ne.symm hne.out); have hc1 := hb1.cell 0; have hf1 := hb1.frozen 0)
  go_end0
  rw [HR.out, ← List.map_append] at hown1
  have hO1 : OwnU8 w1 B (.slice A1 (l.length + m.length) c1) (l ++ m) := by
    unfold OwnU8; rw [List.length_append]; exact hown1
  have hn1 := OwnU8.ne hO1 hb1 (by decide)
  refine ⟨rfl, _, ⟨hb1.set 0 _, hO1.fr (Fr.setCell w1 _ _) (fun k hk e => hn1 (by rw [hk, e])), HW.out⟩, ⟨((Fr.of_grown hgrow1).mono (fun _ h => .inr h)).trans (Fr.setCell w1 _ _) (fun _ _ h => .inl h), ?_⟩⟩
  · rcases hat1 with h | h
    · exact .inl h
    · exact .inr ⟨_, h, Nat.le_refl _⟩
end Go.Proofs.YtihbcojmonlcgaaDoor
