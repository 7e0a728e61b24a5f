/- Schema: a column of cells of zero bytes, checked. -/
import Derived.Test.YtihbcojmonlcgaaDoorSchemaP
namespace Go.Proofs.YtihbcojmonlcgaaDoor
open Go.RowKit

/-- A cell of so many zero bytes. -/
def zc (z : Nat) : CD := ⟨false, 0, 0, strN (List.replicate z 0), 0, 0⟩
def zrows (z i : Nat) : List Value := (List.replicate i (zc z)).flatMap cellsC
theorem zrows_succ (z i : Nat) : zrows z (i + 1) = zrows z i ++ cellsC (zc z) := by unfold zrows; rw [List.replicate_succ', cellsC_snoc]
theorem zc_size (z : Nat) : (zc z).t.size = z := by unfold zc; simp [strN_size]
theorem zc_empty (z : Nat) (h : z = 0) : (zc z).t = ByteArray.empty := by subst h; unfold zc; simp [strN_nil]; rfl
theorem zc_full (z : Nat) (h : 0 < z) : (zc z).t.toList.isEmpty = false := by
  rw [ByteArray.toList_eq]
  cases hl : (zc z).t.data.toList with
  | nil =>
    have h1 : (zc z).t.data.size = z := zc_size z
    rw [← Array.length_toList, hl] at h1
    simp at h1; omega
  | cons a l => rfl
theorem own_atN {w : World} {B g z n c : Nat} (h : w.ownsRow B 34 6 (.slice (some ⟨g, 0, none⟩) n c) n (zrows z n)) {i : Nat} (hi : i < n) : AtN w g (i * 6) false 0 (zc z).t := by
  have k := own_atC h (by simp) (i := i) (x := zc z) (by simp [hi])
  exact ⟨k.c0, k.c1, k.c2, k.c3, k.c4, k.c5⟩
set_option maxRecDepth 100000 in
theorem check_own4 (n z tn : Nat) (hn : n ≤ 20000) (hz : z ≤ 2000000) (htn : n * (20 + z) = tn) (r : Int) (hr : n ≤ 10000 ∧ tn ≤ 1048576 ∧ r = 0 ∨ n ≤ 10000 ∧ 1048576 < tn ∧ r = 31 ∨ 10000 < n ∧ tn ≤ 1048576 ∧ r = 31 ∨ 10000 < n ∧ 1048576 < tn ∧ r = 31)
    (B gc gs : Nat) (V : Value) (w : World) (hT : Tabs w) (c0 : w.cell? ⟨gc, 0, none⟩ = some (.string ⟨#[97]⟩)) (c1 : w.cell? ⟨gc, 1, none⟩ = some (.int .i64 4)) (c2 : w.cell? ⟨gc, 2, none⟩ = some (.bool false))
    (s0 : w.cell? ⟨gs, 0, none⟩ = some V) (ho : w.ownsRow B 34 6 V n (zrows z n)) :
    Calls Tryd.prog 10 #[.agg #[.slice (some ⟨gc, 0, none⟩) 1 1, .slice (some ⟨gs, 0, none⟩) 1 1]] w fun e w' => e = .returned (.int .i64 r) ∧ Below w.heap.size w w' := by
  rcases ho.2 with ⟨rfl, h0⟩ | ⟨g, cap, cur, rfl, _⟩
  · have : r = 0 := by subst h0; simp at htn; omega
    subst this
    exact check_nil 4 (by omega) (by omega) gc gs w hT c0 c1 c2 s0
  · exact check_pos 4 (by omega) (by omega) 77 78 rfl rfl rfl n (by omega) (fun _ => false) (fun _ => true) (fun _ => 0) (fun _ => (zc z).t)
      (by show ∀ i, i < n → _; intro i _; show (zc z).t.size ≤ _; rw [zc_size]; omega) (fun i => i * (20 + z)) (by show 0 * _ = 0; simp) (by show ∀ i, i < n → _; intro i _; show (i + 1) * (20 + z) = i * (20 + z) + (20 + (zc z).t.size); rw [zc_size, Nat.succ_mul])
      (by show ∀ i, i ≤ n → i * (20 + z) ≤ _; intro i hi; exact Nat.le_trans (Nat.mul_le_mul (show i ≤ 20000 by omega) (show 20 + z ≤ 2000020 by omega)) (by omega)) tn htn r (.inr ⟨fun _ _ => rfl, hr⟩)
      (by
        show ∀ i, i < n → _
        intro i hi w
        exact may_of 77 _ _ _ _ 0 0 (zc z).t ByteArray.empty true (enters_of Tryd.func70 (by kernel_rfl) rfl) (enters_of Tryd.func77 (by kernel_rfl) rfl) (.inl ⟨rfl, rfl, rfl⟩) (noText_any 0 (zc z).t) w)
      gc gs g cap w hT c0 c1 c2 s0 ((ho.lt g rfl).2) (by show ∀ i, i < n → _; intro i hi; exact own_atN ho hi)
set_option maxRecDepth 100000 in
theorem check_own2 (n z tn : Nat) (hn : n ≤ 20000) (hz : z ≤ 2000000) (htn : n * (20 + z) = tn) (r : Int) (hr : 0 < n ∧ 0 < z ∧ r = 30 ∨ (n = 0 ∨ z = 0) ∧ (n ≤ 10000 ∧ tn ≤ 1048576 ∧ r = 0 ∨ n ≤ 10000 ∧ 1048576 < tn ∧ r = 31 ∨ 10000 < n ∧ tn ≤ 1048576 ∧ r = 31 ∨ 10000 < n ∧ 1048576 < tn ∧ r = 31))
    (B gc gs : Nat) (V : Value) (w : World) (hT : Tabs w) (c0 : w.cell? ⟨gc, 0, none⟩ = some (.string ⟨#[97]⟩)) (c1 : w.cell? ⟨gc, 1, none⟩ = some (.int .i64 2)) (c2 : w.cell? ⟨gc, 2, none⟩ = some (.bool false))
    (s0 : w.cell? ⟨gs, 0, none⟩ = some V) (ho : w.ownsRow B 34 6 V n (zrows z n)) :
    Calls Tryd.prog 10 #[.agg #[.slice (some ⟨gc, 0, none⟩) 1 1, .slice (some ⟨gs, 0, none⟩) 1 1]] w fun e w' => e = .returned (.int .i64 r) ∧ Below w.heap.size w w' := by
  rcases ho.2 with ⟨rfl, h0⟩ | ⟨g, cap, cur, rfl, _⟩
  · have : r = 0 := by subst h0; simp at htn; omega
    subst this
    exact check_nil 2 (by omega) (by omega) gc gs w hT c0 c1 c2 s0
  · exact check_pos 2 (by omega) (by omega) 73 74 rfl rfl rfl n (by omega) (fun _ => false) (fun _ => decide (z = 0)) (fun _ => 0) (fun _ => (zc z).t)
      (by show ∀ i, i < n → _; intro i _; show (zc z).t.size ≤ _; rw [zc_size]; omega) (fun i => i * (20 + z)) (by show 0 * _ = 0; simp) (by show ∀ i, i < n → _; intro i _; show (i + 1) * (20 + z) = i * (20 + z) + (20 + (zc z).t.size); rw [zc_size, Nat.succ_mul])
      (by show ∀ i, i ≤ n → i * (20 + z) ≤ _; intro i hi; exact Nat.le_trans (Nat.mul_le_mul (show i ≤ 20000 by omega) (show 20 + z ≤ 2000020 by omega)) (by omega)) tn htn r
      (by
        rcases hr with ⟨h1, h2, h3⟩ | ⟨h1, h2⟩
        · exact .inl ⟨⟨0, h1, by simp; omega⟩, h3⟩
        · exact .inr ⟨fun i hi => by simp; omega, h2⟩)
      (by
        show ∀ i, i < n → _
        intro i hi w
        by_cases hz0 : z = 0
        · rw [show decide (z = 0) = true by simp [hz0]]
          exact may_of 73 _ _ _ _ 0 0 (zc z).t (zc z).t true (enters_of Tryd.func70 (by kernel_rfl) rfl) (enters_of Tryd.func73 (by kernel_rfl) rfl) (.inl ⟨rfl, zc_empty z hz0, rfl⟩) (noInt_any 0 (zc z).t) w
        · rw [show decide (z = 0) = false by simp [hz0]]
          exact may_of 73 _ _ _ _ 0 0 (zc z).t (zc z).t false (enters_of Tryd.func70 (by kernel_rfl) rfl) (enters_of Tryd.func73 (by kernel_rfl) rfl) (.inr ⟨rfl, zc_full z (by omega), rfl⟩) (noInt_any 0 (zc z).t) w)
      gc gs g cap w hT c0 c1 c2 s0 ((ho.lt g rfl).2) (by show ∀ i, i < n → _; intro i hi; exact own_atN ho hi)
end Go.Proofs.YtihbcojmonlcgaaDoor
