/- Rows of one's own. -/
import Derived.Test.YtihbcojmonlcgaaDoorWireW
namespace Go.Proofs.YtihbcojmonlcgaaDoor
open Go.RowKit
section
variable {w w' : World} {B B2 n n2 sz sz2 : Nat} {e e2 : TypeId} {v v2 : Value} {xs xs2 : List Value}
/-- Rows of one's own of any element type. -/
theorem own_ne_blk (h : w.ownsRow B e sz v n xs) {b : Nat} {t : TypeId} {cs : Array Value} (hb : Blk w b t cs) (ht : t ≠ e) : v.ownBlock ≠ some b := by
  intro hk
  rcases h.2 with ⟨rfl, hn⟩ | ⟨g, cap, cur, rfl, _, hg, _⟩
  · simp [Value.ownBlock] at hk
  · simp [Value.ownBlock] at hk
    subst hk
    unfold Blk at hb
    rw [hb] at hg
    injection hg with hg
    injection hg with _ h2
    exact ht h2
theorem own_ne_own (h : w.ownsRow B e sz v n xs) (h2 : w.ownsRow B2 e2 sz2 v2 n2 xs2) (ht : e ≠ e2) (k : Nat) (hk : v.ownBlock = some k) : v2.ownBlock ≠ some k := by
  intro hk2
  rcases h.2 with ⟨rfl, hn⟩ | ⟨g, cap, cur, rfl, _, hg, _⟩
  · simp [Value.ownBlock] at hk
  · simp [Value.ownBlock] at hk
    subst hk
    rcases h2.2 with ⟨rfl, hn⟩ | ⟨g2, cap2, cur2, rfl, _, hg2, _⟩
    · simp [Value.ownBlock] at hk2
    · simp [Value.ownBlock] at hk2
      subst hk2
      rw [hg] at hg2
      injection hg2 with hg2
      injection hg2 with _ h3
      exact ht h3
theorem own_fr {P : Nat → Prop} (h : w.ownsRow B e sz v n xs) (hf : Fr w w' P) (hp : ∀ k, v.ownBlock = some k → ¬ P k) : w'.ownsRow B e sz v n xs := by
  refine ⟨h.1, ?_⟩
  rcases h.2 with hn | ⟨g, cap, cur, hv, hb, hg, rest⟩
  · exact .inl hn
  · refine .inr ⟨g, cap, cur, hv, hb, ?_, rest⟩
    rw [hf.block g (Array.getElem?_eq_some_iff.1 hg).1 (hp g (by rw [hv]; rfl))]; exact hg
theorem own_below (h : w.ownsRow B e sz v n xs) (hb : Below w.heap.size w w') : w'.ownsRow B e sz v n xs := own_fr h (Fr.of_below hb (fun _ => False)) (fun _ _ h => h)
end
theorem own_addr {w : World} {B sz : Nat} {e : TypeId} {v : Value} {n : Nat} {xs : List Value} (h : w.ownsRow B e sz v n xs) (hn : 0 < n) : ∃ g cap, v = .slice (some ⟨g, 0, none⟩) n cap := by
  rcases h.2 with ⟨rfl, h0⟩ | ⟨g, cap, cur, rfl, _⟩
  · omega
  · exact ⟨g, cap, rfl⟩
theorem own_form3 {w : World} {B : Nat} {v : Value} {n sz : Nat} {xs : List Value} {e : TypeId} (h : w.ownsRow B e sz v n xs) : ∃ A c, v = .slice A n c := by
  rcases h.2 with ⟨rfl, hn⟩ | ⟨g, cap, cur, rfl, _⟩
  · exact ⟨none, 0, by rw [hn]⟩
  · exact ⟨_, cap, rfl⟩
end Go.Proofs.YtihbcojmonlcgaaDoor
