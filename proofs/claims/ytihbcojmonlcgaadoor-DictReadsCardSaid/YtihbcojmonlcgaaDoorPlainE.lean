/- Cells one behind the other: plain.Encode's loop, over any contracts of plain.Put; and the chapter's examples. -/
import Derived.Test.YtihbcojmonlcgaaDoorPlainS
import Derived.Test.YtihbcojmonlcgaaDoorDeltaF
import Derived.Test.YtihbcojmonlcgaaDoorCellsSame
namespace Go.Proofs.YtihbcojmonlcgaaDoor
open Go.RowKit

theorem cell_lt6 {w : World} {g o : Nat} {v : Value} (h : w.cell? ⟨g, o, none⟩ = some v) : g < w.heap.size := by
  unfold World.cell? at h
  split at h
  · rename_i heq; exact (Array.getElem?_eq_some_iff.1 heq).1
  · cases h
theorem AtC.below {w w' : World} {g o : Nat} {b : Bool} {x u : Int} {t : ByteArray} {p q : Nat} (h : AtC w g o b x u t p q) {B : Nat} (hb : Below B w w') (hg : g < B) : AtC w' g o b x u t p q :=
  ⟨(hb.cell (p := ⟨g, _, none⟩) hg).trans h.c0, (hb.cell (p := ⟨g, _, none⟩) hg).trans h.c1, (hb.cell (p := ⟨g, _, none⟩) hg).trans h.c2, (hb.cell (p := ⟨g, _, none⟩) hg).trans h.c3, (hb.cell (p := ⟨g, _, none⟩) hg).trans h.c4, (hb.cell (p := ⟨g, _, none⟩) hg).trans h.c5⟩
/-- What a round puts. -/
def PRnd (kind : Int) (C : Nat → CD) (F : Nat → List Nat) (i : Nat) : Prop :=
  ∀ (w : World) (W B : Nat) (sv : Value), Wr w W B sv (F i) → B ≤ w.heap.size →
    Calls Tryd.prog 85 #[.pointer (some ⟨W, 0, none⟩), .int .i64 kind, (C i).v] w (WPost W B w sv (F (i + 1)))
set_option maxHeartbeats 2000000 in
set_option maxRecDepth 100000 in
theorem pencode_any (kind : Int) (hk : ((kind : Int) == 1) = false) (n : Nat) (hn0 : 0 < n) (hn : n ≤ 100) (C : Nat → CD) (F : Nat → List Nat) (hz : F 0 = [])
    (hr : ∀ i, i < n → PRnd kind C F i) (g c : Nat) (w : World) (hcell : ∀ i, i < n → AtC w g (i * 6) (C i).b (C i).x (C i).u (C i).t (C i).p (C i).q) :
    Calls Tryd.prog 35 #[.int .i64 kind, .slice (some ⟨g, 0, none⟩) n c] w fun e w' => e = .returned (.string (strN (F n))) ∧ Below w.heap.size w w' := by
  have hg := hide (cell_lt6 (hcell 0 hn0).c0)
  have Z5 := hide hz
  have HC := hide hcell
  have HR := hide hr
  clear hcell hr hz
  have hst := fun (w1 : World) (a1 : Addr) (m : Mode) (x y : Nat) => run_store Tryd.prog w1 a1 (.complex .f64 x y) m rfl
  go_enter Tryd.func35, Tryd.ntmps35
  go_wp2_with fail
  go_loopw [33] (fun iv wr => ∃ i : Nat, i ≤ n ∧ iv = .int .i64 (i : Int) ∧ ∃ sv', Wr wr w.heap.size w.heap.size sv' (F i) ∧ Below w.heap.size w wr) (fun iv _ => n - (intOf iv).toNat)
  case atStart =>
    refine ⟨0, by omega, rfl, .slice none 0 0, ⟨Blk.new _ _ _, ?_, Nat.le_refl _⟩, (Below.refl _ _).alloc (Nat.le_refl _) _⟩
    rw [Z5.out]; exact ownU8_nil _ _
  case round =>
    obtain ⟨i, hi, rfl, sv', hw, hb⟩ := hrel
    by_cases hlt : i < n
    · have HA := (HC.out i hlt).below hb hg.out
      have hgr : g < wr.heap.size := Nat.lt_of_lt_of_le hg.out hb.size
      have HW := hide hw
      have HB := hide hb
      have KP := hide (fun o => HR.out i hlt (wr.alloc o) _ _ _ (HW.out.below ((Below.refl _ _).alloc (Nat.le_refl _) _)) (by simp; exact Nat.le_succ_of_le HB.out.size))
      obtain ⟨a0, a1, a2, a3, a4, a5⟩ := HA
      clear hw hb
      unfold CD.v clV clA at KP
      generalize (C i).b = xb at *
      generalize (C i).x = xx at *
      generalize (C i).u = xu at *
      generalize (C i).t = xt at *
      generalize (C i).p = xp at *
      generalize (C i).q = xq at *
      have hi0 : (0 : Int) ≤ (i : Int) := by omega
      have hi1 : (i : Int) < (n : Int) := by omega
      go_wp2_with fail
      refine (KP.out _).mono ?_
      rintro e w2 ⟨rfl, sv2, hw2, hs2⟩
      have HW2 := hide hw2
      have HB2 := hide ((HB.out.alloc HB.out.size _).trans (hs2.below (HW.out.below ((Below.refl wr.heap.size wr).alloc (Nat.le_refl _) _)) (by simp; exact Nat.le_succ_of_le HB.out.size)))
      clear hw2 hs2 a0 a1 a2 a3 a4 a5 KP
      go_wp2_with fail
      go_roundw
      case rel => exact ⟨i + 1, by omega, by go_num, sv2, HW2.out, HB2.out⟩
      case measure => simp [intOf] <;> omega
    · have hin : i = n := by omega
      subst hin
      have K := hide (wstring_any _ _ _ _ _ hw)
      have HB := hide hb
      clear hw hb
      go_wp2_with fail
      refine K.out.mono ?_
      rintro e w2 ⟨rfl, rfl⟩
      go_wp2_with fail
      go_ret
      exact ⟨rfl, HB.out⟩
end Go.Proofs.YtihbcojmonlcgaaDoor
