/- Numbers by their steps, in plain lists. -/
import Derived.Test.YtihbcojmonlcgaaDoorWirePlain
import Derived.WalkKit
namespace Go.Proofs.YtihbcojmonlcgaaDoor
open Go Go.RowKit
theorem wrap64_range (x : Int) : -9223372036854775808 ≤ wrap64 x ∧ wrap64 x ≤ 9223372036854775807 := by unfold wrap64; omega
/-- Numbers, each told by how far it is from the one ahead. -/
def encD : Int → List Int → List Nat
  | _, [] => []
  | p, x :: l => uvar (zz (wrap64 (x - p))) ++ encD x l
/-- .. the number behind some. -/
def lastD (p : Int) (l : List Int) : Int := (l.getLast?).getD p
theorem lastD_snoc (p : Int) (l : List Int) (x : Int) : lastD p (l ++ [x]) = x := by simp [lastD]
theorem encD_snoc (l : List Int) : ∀ (p x : Int), encD p (l ++ [x]) = encD p l ++ uvar (zz (wrap64 (x - lastD p l))) := by
  induction l with
  | nil => intro p x; simp [encD, lastD]
  | cons y l ih =>
    intro p x
    rw [List.cons_append, encD, ih, encD, List.append_assoc]
    congr 4
    unfold lastD
    cases l with
    | nil => rfl
    | cons z l => simp [List.getLast?_cons]
def mv (d x : Int) : Int := wrap64 (x + d)
theorem mv_step (d x y : Int) : wrap64 (mv d x - mv d y) = wrap64 (x - y) := by unfold mv wrap64; omega
theorem encD_mv (d : Int) (l : List Int) : ∀ p, encD (mv d p) (l.map (mv d)) = encD p l := by
  induction l with
  | nil => intro p; rfl
  | cons x l ih => intro p; rw [List.map_cons, encD, ih, encD, mv_step]
theorem step_len (x : Int) : (uvar (zz (wrap64 x))).length ≤ 10 := uvar_len10 (zz_lt (wrap64_range x).1 (wrap64_range x).2)
theorem encD_len (l : List Int) : ∀ p, (encD p l).length ≤ 10 * l.length := by
  induction l with
  | nil => intro p; simp [encD]
  | cons x l ih =>
    intro p
    have h1 := step_len (x - p)
    have h2 := ih x
    rw [encD, List.length_append, List.length_cons]
    omega
theorem encD_lt (l : List Int) : ∀ p, ∀ b ∈ encD p l, b < 256 := by
  induction l with
  | nil => intro p b hb; simp [encD] at hb
  | cons x l ih =>
    intro p b hb
    rw [encD] at hb
    rcases List.mem_append.1 hb with hb | hb
    · exact uvar_lt _ b hb
    · exact ih x b hb
end Go.Proofs.YtihbcojmonlcgaaDoor
