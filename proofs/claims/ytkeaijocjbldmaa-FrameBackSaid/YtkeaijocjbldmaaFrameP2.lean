/- All frames of bytes, in plain lists. -/
import Derived.Test.YtkeaijocjbldmaaFrameP
namespace Go.Proofs.Ytkeaijocjbldmaa

/-- All frames from a place on: kind, body and place of each; where it ends, and why. -/
def scanF : Nat → List Nat → Nat → List (Nat × List Nat × Nat) × Nat × Nat
  | 0, _, at_ => ([], at_, 0)
  | f + 1, D, at_ =>
    if D.length ≤ at_ then ([], at_, 0)
    else if (nextN (D.drop at_)).2.2.2 = 0 then (((nextN (D.drop at_)).1, (nextN (D.drop at_)).2.1, at_) :: (scanF f D (at_ + (nextN (D.drop at_)).2.2.1)).1, (scanF f D (at_ + (nextN (D.drop at_)).2.2.1)).2)
    else ([], at_, (nextN (D.drop at_)).2.2.2)
theorem scanF_fuel (D : List Nat) : ∀ (f g a : Nat), D.length < a + f → D.length < a + g → scanF f D a = scanF g D a := by
  intro f
  induction f with
  | zero =>
    intro g a h1 h2
    cases g with
    | zero => rfl
    | succ g => rw [scanF, scanF, if_pos (by omega)]
  | succ f ih =>
    intro g a h1 h2
    cases g with
    | zero => rw [scanF, scanF, if_pos (by omega)]
    | succ g =>
      rw [scanF, scanF]
      by_cases hl : D.length ≤ a
      · rw [if_pos hl, if_pos hl]
      · rw [if_neg hl, if_neg hl]
        by_cases he : (nextN (D.drop a)).2.2.2 = 0
        · have hn := (nextN_ok he).1
          rw [if_pos he, if_pos he, ih g (a + (nextN (D.drop a)).2.2.1) (by omega) (by omega)]
        · rw [if_neg he, if_neg he]
def scanN (D : List Nat) (a : Nat) : List (Nat × List Nat × Nat) × Nat × Nat := scanF (D.length + 1 - a) D a
theorem scanN_fuel {D : List Nat} {f a : Nat} (h : D.length < a + f) : scanF f D a = scanN D a := by
  unfold scanN
  by_cases ha : a ≤ D.length
  · exact scanF_fuel D f _ a h (by omega)
  · rw [show D.length + 1 - a = 0 by omega]
    exact scanF_fuel D f 0 a h (by omega)
theorem scanN_done {D : List Nat} {a : Nat} (h : D.length ≤ a) : scanN D a = ([], a, 0) := by
  rw [← scanN_fuel (f := D.length + 1) (by omega), scanF, if_pos h]
theorem scanN_bad {D : List Nat} {a : Nat} (h : a < D.length) (he : (nextN (D.drop a)).2.2.2 ≠ 0) : scanN D a = ([], a, (nextN (D.drop a)).2.2.2) := by
  rw [← scanN_fuel (f := D.length + 1) (by omega), scanF, if_neg (by omega), if_neg he]
theorem scanN_on {D : List Nat} {a : Nat} (h : a < D.length) (he : (nextN (D.drop a)).2.2.2 = 0) :
    scanN D a = (((nextN (D.drop a)).1, (nextN (D.drop a)).2.1, a) :: (scanN D (a + (nextN (D.drop a)).2.2.1)).1, (scanN D (a + (nextN (D.drop a)).2.2.1)).2) := by
  have hn := (nextN_ok he).1
  rw [← scanN_fuel (f := D.length + 1) (by omega), scanF, if_neg (by omega), if_pos he, scanN_fuel (by omega)]
/-- So many frames have been found. -/
def Scan1 (D : List Nat) (out : List (Nat × List Nat × Nat)) (a : Nat) : Prop := scanN D 0 = (out ++ (scanN D a).1, (scanN D a).2)
theorem scan1_0 (D : List Nat) : Scan1 D [] 0 := by unfold Scan1; rfl
theorem scan1_done {D : List Nat} {out : List (Nat × List Nat × Nat)} {a : Nat} (h : Scan1 D out a) (ha : D.length ≤ a) : scanN D 0 = (out, a, 0) := by
  unfold Scan1 at h; rw [h, scanN_done ha, List.append_nil]
theorem scan1_bad {D : List Nat} {out : List (Nat × List Nat × Nat)} {a : Nat} (h : Scan1 D out a) (ha : a < D.length) (he : (nextN (D.drop a)).2.2.2 ≠ 0) : scanN D 0 = (out, a, (nextN (D.drop a)).2.2.2) := by
  unfold Scan1 at h; rw [h, scanN_bad ha he, List.append_nil]
theorem scan1_on {D : List Nat} {out : List (Nat × List Nat × Nat)} {a : Nat} (h : Scan1 D out a) (ha : a < D.length) (he : (nextN (D.drop a)).2.2.2 = 0) :
    Scan1 D (out ++ [((nextN (D.drop a)).1, (nextN (D.drop a)).2.1, a)]) (a + (nextN (D.drop a)).2.2.1) := by
  unfold Scan1 at h ⊢
  rw [h, scanN_on ha he, List.append_assoc]; rfl
/-- Frames behind other bytes. -/
def shiftF (k : Nat) (f : Nat × List Nat × Nat) : Nat × List Nat × Nat := (f.1, f.2.1, k + f.2.2)
theorem scanF_shift (P D : List Nat) : ∀ (f a : Nat), scanF f (P ++ D) (P.length + a) = ((scanF f D a).1.map (shiftF P.length), P.length + (scanF f D a).2.1, (scanF f D a).2.2) := by
  intro f
  induction f with
  | zero => intro a; rfl
  | succ f ih =>
    intro a
    have hd : (P ++ D).drop (P.length + a) = D.drop a := by rw [← List.drop_drop, List.drop_left]
    rw [scanF, scanF, hd, List.length_append]
    by_cases hl : D.length ≤ a
    · rw [if_pos hl, if_pos (by omega)]; rfl
    · rw [if_neg hl, if_neg (by omega)]
      by_cases he : (nextN (D.drop a)).2.2.2 = 0
      · rw [if_pos he, if_pos he, Nat.add_assoc, ih]; rfl
      · rw [if_neg he, if_neg he]; rfl
theorem scanN_shift (P D : List Nat) : scanN (P ++ D) P.length = ((scanN D 0).1.map (shiftF P.length), P.length + (scanN D 0).2.1, (scanN D 0).2.2) := by
  rw [← scanN_fuel (D := P ++ D) (f := D.length + 1) (by rw [List.length_append]; omega), ← scanN_fuel (D := D) (a := 0) (f := D.length + 1) (by omega)]
  exact scanF_shift P D _ 0
/-- What is found are bytes. -/
theorem scanN_lt (D : List Nat) (hD : ∀ b ∈ D, b < 256) : ∀ (f a : Nat), (∀ x ∈ (scanF f D a).1, x.1 < 256 ∧ (∀ b ∈ x.2.1, b < 256) ∧ x.2.2 ≤ D.length) ∧ (scanF f D a).2.2 < 256 ∧ (a ≤ D.length → (scanF f D a).2.1 ≤ D.length) ∧ (scanF f D a).1.length ≤ D.length - a := by
  intro f
  induction f with
  | zero => intro a; exact ⟨by simp [scanF], by simp [scanF], fun h => h, by simp [scanF]⟩
  | succ f ih =>
    intro a
    have hn := nextN_lt (D := D.drop a) (fun b hb => hD b (List.mem_of_mem_drop hb))
    rw [List.length_drop] at hn
    rw [scanF]
    by_cases hl : D.length ≤ a
    · rw [if_pos hl]
      exact ⟨by simp, by simp, fun h => h, by simp⟩
    · rw [if_neg hl]
      by_cases he : (nextN (D.drop a)).2.2.2 = 0
      · have hok := (nextN_ok he)
        rw [List.length_drop] at hok
        rw [if_pos he]
        obtain ⟨i1, i2, i3, i4⟩ := ih (a + (nextN (D.drop a)).2.2.1)
        refine ⟨?_, i2, fun _ => i3 (by omega), ?_⟩
        · intro x hx
          rcases List.mem_cons.1 hx with rfl | hx
          · exact ⟨hn.1, hn.2.1, by show a ≤ _; omega⟩
          · exact i1 x hx
        · rw [List.length_cons]
          omega
      · rw [if_neg he]
        exact ⟨by simp, hn.2.2.1, fun h => h, by simp⟩
theorem scan_lt (D : List Nat) (hD : ∀ b ∈ D, b < 256) : (∀ x ∈ (scanN D 0).1, x.1 < 256 ∧ (∀ b ∈ x.2.1, b < 256) ∧ x.2.2 ≤ D.length) ∧ (scanN D 0).2.2 < 256 ∧ (scanN D 0).2.1 ≤ D.length ∧ (scanN D 0).1.length ≤ D.length := by
  have h := scanN_lt D hD (D.length + 1 - 0) 0
  exact ⟨h.1, h.2.1, h.2.2.1 (by omega), by have h2 := h.2.2.2; show (scanF (D.length + 1 - 0) D 0).1.length ≤ D.length; omega⟩
/-- The cells of a frame. -/
def cells3 (f : Nat × List Nat × Nat) : List Go.Value := [.int .u8 (f.1 : Nat), .string (strN f.2.1), .int .i64 (f.2.2 : Nat)]
theorem cells3_len (l : List (Nat × List Nat × Nat)) : (l.flatMap cells3).length = l.length * 3 := by
  induction l with
  | nil => rfl
  | cons a l ih => rw [List.flatMap_cons, List.length_append, ih, List.length_cons]; simp [cells3]; omega
theorem cells3_get : ∀ (l : List (Nat × List Nat × Nat)) (i : Nat) (f : Nat × List Nat × Nat), l[i]? = some f →
    (l.flatMap cells3)[i * 3]? = some (.int .u8 (f.1 : Nat)) ∧ (l.flatMap cells3)[i * 3 + 1]? = some (.string (strN f.2.1)) ∧ (l.flatMap cells3)[i * 3 + 2]? = some (.int .i64 (f.2.2 : Nat)) := by
  intro l
  induction l with
  | nil => intro i f h; simp at h
  | cons a l ih =>
    intro i f h
    rw [List.flatMap_cons]
    cases i with
    | zero =>
      obtain rfl : a = f := by simpa using h
      exact ⟨rfl, rfl, rfl⟩
    | succ i =>
      have hi := ih i f (by simpa using h)
      have hl : (cells3 a).length = 3 := rfl
      refine ⟨?_, ?_, ?_⟩
      · rw [List.getElem?_append_right (by rw [hl]; omega), hl, show (i + 1) * 3 - 3 = i * 3 by omega]; exact hi.1
      · rw [List.getElem?_append_right (by rw [hl]; omega), hl, show (i + 1) * 3 + 1 - 3 = i * 3 + 1 by omega]; exact hi.2.1
      · rw [List.getElem?_append_right (by rw [hl]; omega), hl, show (i + 1) * 3 + 2 - 3 = i * 3 + 2 by omega]; exact hi.2.2
theorem cells3_snoc (l : List (Nat × List Nat × Nat)) (f : Nat × List Nat × Nat) : (l ++ [f]).flatMap cells3 = l.flatMap cells3 ++ cells3 f := by simp
end Go.Proofs.Ytkeaijocjbldmaa
