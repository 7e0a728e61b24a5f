/- Readers: texts. -/
import Derived.Test.YtihbcojmonlcgaaDoorWireR6
namespace Go.Proofs.YtihbcojmonlcgaaDoor
open Go.RowKit
theorem bn_inj {a b : ByteArray} (h : bn a = bn b) : a = b := by
  unfold bn at h
  have h1 : a.data.toList = b.data.toList := by
    have : Function.Injective UInt8.toNat := fun x y e => UInt8.toNat_inj.1 e
    exact (List.map_inj_right (fun x y e => UInt8.toNat_inj.1 e)).1 h
  obtain ⟨⟨x⟩⟩ := a
  obtain ⟨⟨y⟩⟩ := b
  simp at h1
  rw [h1]
theorem strN_bn (s : ByteArray) : strN (bn s) = s := bn_inj (bn_strN _ (bn_lt s))
theorem strN_nil : strN [] = { data := #[] } := strN_bn { data := #[] }
theorem extract_strN (s : ByteArray) (p n : Nat) (h : p + n ≤ s.size) : s.extract p (p + n) = strN (((bn s).drop p).take n) := by
  rw [← strN_bn (s.extract p (p + n)), bn_extract _ _ _ h, Nat.add_sub_cancel_left]
/-- So many bytes as a text. -/
def rawS (n : Int) (D : List Nat) : List Nat × Nat × Nat := if n < 0 then ([], 0, 1) else if (D.length : Int) < n then ([], 0, 10) else (D.take n.toNat, n.toNat, 0)
/-- A text behind its length. -/
def textS (most : Int) (D : List Nat) : List Nat × Nat × Nat :=
  if (few D 0).2.2 = 0 then
    if most < 0 ∨ most < (few D 0).1 then ([], 0, 12)
    else if D.length - (few D 0).2.1 < (few D 0).1 then ([], 0, 10)
    else ((D.drop (few D 0).2.1).take (few D 0).1, (few D 0).2.1 + (few D 0).1, 0)
  else ([], 0, (few D 0).2.2)
def stT (s : ByteArray) (p e : Nat) (f : List Nat → List Nat × Nat × Nat) : List Nat × Nat × Nat :=
  if e = 0 then ((f ((bn s).drop p)).1, p + (f ((bn s).drop p)).2.1, (f ((bn s).drop p)).2.2) else ([], p, e)
end Go.Proofs.YtihbcojmonlcgaaDoor
