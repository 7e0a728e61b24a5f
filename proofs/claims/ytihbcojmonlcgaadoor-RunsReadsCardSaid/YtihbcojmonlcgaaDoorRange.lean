/- A range over a function whose iterator keeps its state in cells: what holds between two rounds, at a round, and at the end. -/
import Derived.Test.YtihbcojmonlcgaaDoorWireW
import Derived.RangeFuncNested
import Derived.RangeFuncBound
import Derived.RangeFuncCalls
import Derived.RangeFuncLeaves
namespace Go.Proofs.YtihbcojmonlcgaaDoor
open Go Go.RowKit

variable {F : Fence} {n : Nat} {P : Program}
/-- What is kept wherever only cells have turned. -/
def CellsKeep (K : World → Prop) : Prop := ∀ (W W' : World) (S : Nat → Prop), Fr W W' S → (∀ k, S k → k < W.heap.size → ∃ o, W.heap[k]? = some o ∧ o.isCells = true) → K W → K W'
/-- How a round's body ends: off its end. -/
def RoundEnd (B : Nat) (W : World) (J : World → Prop) : Exit → Act → World → Prop
  | .normal, _, W' => KeepsFrom B W W' ∧ J W'
  | _, _, _ => False
theorem wpIn_rangeFunc_st {α : Type} {g : Operand} {ps : Array Tmp} {assign body : Code} {Q : Exit → Act → World → Prop} {a : Act} {w : World}
    (hro : F.round = none) (h1 : 1 ≤ n) {gf : Nat} {lb : Array Value} (hg : a.eval g = .func (.func gf) #[] lb) (hFg : F.fn gf) (eg : ∀ args w, (callFunc gf args).run P w = .ok (.enter gf args) w)
    {encs : α → Array Value} (hps : ∀ x, (encs x).size = ps.size)
    (I : List α → World → Prop) (M : List α × α → World → Prop) (Ax : (List α × α) × Act → World → Prop) (Z : List α → World → Prop)
    (hI : OwnFrom w.heap.size I) (hAx : OwnFrom w.heap.size Ax) (hZ : OwnFrom w.heap.size Z) (h0 : I [] w)
    (hseq : ∀ (l : Nat) (K : World → Prop), CellsKeep K →
      (∀ pre x W, M (pre, x) W → K W → YieldAt F (n - 1 - 1) P l (encs x) W fun e W' => e = .returned (.bool true) ∧ I (pre ++ [x]) W' ∧ K W') →
      ∀ W1, I [] W1 → K W1 → CallsIn F (n - 1) P gf (#[.func (.yield l) #[] #[]] ++ lb) W1 fun e W' => (∃ v, e = .returned v) ∧ ∃ xs, Z xs W' ∧ K W')
    (hassign : ∀ (l : Nat) (pre : List α) (x : α) (W : World) (K : Act → World → Prop), M (pre, x) W → (∀ a' W', KeepsFrom w.heap.size W W' → Ax ((pre, x), a') W' → K a' W') →
      assign.wpIn (F.inRound l) (n - 1 - 1) P (Exit.then K (fun _ _ _ => False)) { tmps := (ps.zip (encs x)).foldl (fun t (p, v) => t.setIfInBounds p v) a.tmps, defers := [] } W)
    (hbody : ∀ (l : Nat) (pre : List α) (x : α) (a' : Act) (W : World), Ax ((pre, x), a') W →
      body.wpIn (F.inRound l) (n - 1 - 1) P (RoundEnd w.heap.size W (I (pre ++ [x]))) a' W)
    (hdone : ∀ (D : Nat) (xs : List α) (W : World), w.heap.size ≤ D → Z xs W → W.heap[D]? = some (.deferred (some [])) → Q .normal { a with defers := { target := .collected D, args := #[] } :: a.defers } W) :
    (Code.rangeFunc g ps assign body).wpIn F n P Q a w := by
  refine wpIn_rangeFunc ?_
  intro fn hfn
  rw [hro]
  obtain ⟨rec, hrec⟩ : ∃ rec : LoopState → Option Code → Loop, rec = fun st pe => { state := st, pending := pe, fn, tmps := a.tmps, params := ps, assign, body, defers := w.heap.size } := ⟨_, rfl⟩
  obtain ⟨W1, hW1⟩ : ∃ W1, (w.alloc (.deferred (some []))).alloc (.loop (rec .ready none)) = W1 := ⟨_, rfl⟩
  have hL1 : W1.heap[w.heap.size + 1]? = some (.loop (rec .ready none)) := by
    rw [← hW1]; have := World.alloc_heap_new (w.alloc (.deferred (some []))) (.loop (rec .ready none)); rwa [World.size_alloc] at this
  have hK1 : W1.heap[w.heap.size]? = some (.deferred (some [])) := by
    rw [← hW1]; exact (Below.heap_alloc _ _ _ (by simp)).trans (World.alloc_heap_new w _)
  have hI1 : I [] W1 := by rw [← hW1]; exact hI.alloc _ (hI.alloc _ h0)
  refine ⟨w.heap.size + 1, [{ target := .collected w.heap.size, args := #[] }], W1, { target := .fn (.func gf) lb, args := #[.func (.yield (w.heap.size + 1)) #[] #[]] }, W1, gf,
    #[.func (.yield (w.heap.size + 1)) #[] #[]] ++ lb, W1, ?_, ?_, ?_, ?_, fun _ => h1, ?_⟩
  · rw [← hW1, hrec]; exact run_enterLoop_outer _ _ _ _ _
  · simp only [resolve, hg]
    simp [go_sem]
  · intro f' hf'; simp [Target.leads] at hf'; subst hf'; exact hFg
  · simp [invoke, go_sem, eg]
  · have hkeep : CellsKeep (fun W => W.heap[w.heap.size + 1]? = some (.loop (rec .ready none)) ∧ W.heap[w.heap.size]? = some (.deferred (some []))) := by
      rintro X Y S hf hS ⟨hl, hk⟩
      refine ⟨(hf.block _ (Array.getElem?_eq_some_iff.1 hl).1 (fun hs => ?_)).trans hl, (hf.block _ (Array.getElem?_eq_some_iff.1 hk).1 (fun hs => ?_)).trans hk⟩
      · obtain ⟨o, ho, hc⟩ := hS _ hs (Array.getElem?_eq_some_iff.1 hl).1
        rw [hl] at ho; injection ho with ho; subst ho; cases hc
      · obtain ⟨o, ho, hc⟩ := hS _ hs (Array.getElem?_eq_some_iff.1 hk).1
        rw [hk] at ho; injection ho with ho; subst ho; cases hc
    refine (hseq (w.heap.size + 1) _ hkeep ?_ W1 hI1 ⟨hL1, hK1⟩).mono ?_
    · rintro pre x W hm ⟨hl, hk⟩
      have hy := run_yield (P := P) (args := encs x) hl (by rw [hrec]; exact hps x)
      rw [hrec] at hy
      refine ⟨fn, _, assign, body, hy, roundIn_of_wpIn hfn (hassign _ pre x W _ hm ?_)⟩
      clear hy
      intro a' Wa hkfa hax
      replace hl := hkfa.same _ _ (by omega) hl rfl
      replace hk := hkfa.same _ _ (Nat.le_refl _) hk rfl
      have hlt : w.heap.size + 1 < Wa.heap.size := (Array.getElem?_eq_some_iff.1 hl).1
      refine ⟨_, run_beginRound hl (by rw [hrec]), ?_⟩
      have hl2 : (Wa.putObj (w.heap.size + 1) (.loop { rec .ready none with state := .busy })).heap[w.heap.size + 1]? = some (.loop { rec .ready none with state := .busy }) := World.putObj_heap_same hlt
      have hk2 : (Wa.putObj (w.heap.size + 1) (.loop { rec .ready none with state := .busy })).heap[w.heap.size]? = some (.deferred (some [])) := (World.putObj_heap_other (by omega)).trans hk
      refine wpIn_mono (hbody _ pre x a' _ (hAx.putObj _ hax (by omega) hl rfl)) ?_
      rintro e a3 W3 hp
      cases e with
      | normal =>
        obtain ⟨hk3, hi3⟩ := hp
        have hl3 := hk3.same _ _ (by omega) hl2 rfl
        have hr := run_endRound (P := P) none hl3
        rw [hrec] at hr
        refine ⟨_, _, hr, rfl, ?_, ?_, ?_⟩
        · exact hI.putObj _ hi3 (by omega) hl3 rfl
        · rw [hrec]; exact World.putObj_heap_same (Array.getElem?_eq_some_iff.1 hl3).1
        · exact (World.putObj_heap_other (by omega)).trans (hk3.same _ _ (Nat.le_refl _) hk2 rfl)
      | ret => exact hp.elim
      | exit id => exact hp.elim
      | goto t => exact hp.elim
      | panic ch => exact hp.elim
      | outgrown => exact hp.elim
    · rintro e W2 ⟨⟨v, rfl⟩, xs, hz, hl, hk⟩
      exact ⟨none, _, by have := run_endLoop (P := P) hl (by rw [hrec]; simp); rw [hrec] at this; exact this, hdone _ xs _ (Nat.le_refl _) (hZ.putObj _ hz (by omega) hl rfl) ((World.putObj_heap_other (by omega)).trans hk)⟩
end Go.Proofs.YtihbcojmonlcgaaDoor
