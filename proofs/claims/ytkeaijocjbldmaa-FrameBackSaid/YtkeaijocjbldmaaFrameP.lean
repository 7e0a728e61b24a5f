/- Frames, in plain lists. -/
import Derived.Test.YtkeaijocjbldmaaWireR7
namespace Go.Proofs.Ytkeaijocjbldmaa

theorem crc_lt {l : List Nat} (h : ∀ b ∈ l, b < 256) : crc l < 4294967296 := by
  unfold crc more
  exact Nat.xor_lt_two_pow (n := 32) (reg_lt (Nat.xor_lt_two_pow (n := 32) (by decide) (by decide)) h) (by decide)
/-- A frame's bytes ahead of its check sum. -/
def headN (k : Nat) (b : List Nat) : List Nat := k :: (uvar b.length ++ b)
def sealN (k : Nat) (b : List Nat) : List Nat := headN k b ++ fixN (crc (headN k b)) 4
def sizeN (n : Nat) : Nat := 1 + (uvar n).length + n + 4
theorem headN_lt {k : Nat} {b : List Nat} (hk : k < 256) (hb : ∀ x ∈ b, x < 256) : ∀ x ∈ headN k b, x < 256 := by
  intro x hx
  simp only [headN, List.mem_cons, List.mem_append] at hx
  rcases hx with rfl | hx | hx
  · exact hk
  · exact uvar_lt _ x hx
  · exact hb x hx
theorem sealN_lt {k : Nat} {b : List Nat} (hk : k < 256) (hb : ∀ x ∈ b, x < 256) : ∀ x ∈ sealN k b, x < 256 := by
  intro x hx
  rcases List.mem_append.1 hx with hx | hx
  · exact headN_lt hk hb x hx
  · exact fixN_lt _ _ x hx
theorem sealN_len (k : Nat) (b : List Nat) : (sealN k b).length = sizeN b.length := by
  unfold sealN headN sizeN
  simp only [List.length_append, List.length_cons, fixN_len]
  omega
/-- The frame with which bytes begin: its kind, its body, how many bytes, the error. -/
def nextC (k : Nat) (R : List Nat) : Nat × List Nat × Nat × Nat :=
  if k = 0 then (0, [], 0, 14)
  else if (textS 1048576 R).2.2 = 0 then
    if R.length < (textS 1048576 R).2.1 + 4 then (0, [], 0, 10)
    else if le ((R.drop (textS 1048576 R).2.1).take 4) = crc ((k :: R).take (1 + (textS 1048576 R).2.1)) then (k, (textS 1048576 R).1, 1 + (textS 1048576 R).2.1 + 4, 0)
    else (0, [], 0, 13)
  else (0, [], 0, (textS 1048576 R).2.2)
def nextN : List Nat → Nat × List Nat × Nat × Nat
  | [] => (0, [], 0, 10)
  | k :: R => nextC k R
theorem nextN_nil : nextN [] = (0, [], 0, 10) := rfl
theorem nextN_cons (k : Nat) (R : List Nat) : nextN (k :: R) = nextC k R := rfl
theorem fixN_le : ∀ (l : List Nat), (∀ b ∈ l, b < 256) → fixN (le l) l.length = l := by
  intro l hl
  have key : ∀ (n : Nat) (l : List Nat), l.length = n → (∀ b ∈ l, b < 256) → ∀ y, fixN (le l + 256 ^ n * y) n = l := by
    intro n
    induction n with
    | zero => intro l hl _ y; rw [List.eq_nil_of_length_eq_zero hl]; rfl
    | succ n ih =>
      intro l hl hb y
      obtain ⟨m, b, rfl⟩ : ∃ m b, l = m ++ [b] := ⟨l.dropLast, l.getLast (by intro h; rw [h] at hl; simp at hl), (List.dropLast_concat_getLast (by intro h; rw [h] at hl; simp at hl)).symm⟩
      have hm : m.length = n := by simpa using hl
      have hb' := hb b (by simp)
      rw [le_snoc, hm, fixN]
      have e : le m + b * 256 ^ n + 256 ^ (n + 1) * y = le m + 256 ^ n * (b + 256 * y) := by
        rw [Nat.pow_succ, Nat.mul_add, Nat.mul_comm b, Nat.mul_assoc, Nat.add_assoc]
      rw [e, ih m hm (fun c hc => hb c (by simp [hc]))]
      have h1 := le_lt m (fun c hc => hb c (by simp [hc]))
      rw [hm] at h1
      rw [Nat.add_mul_div_left _ _ (Nat.pow_pos (by omega)), Nat.div_eq_of_lt h1]
      congr 2
      omega
  have := key l.length l rfl hl 0
  simpa using this
theorem fix_eq_iff {c : Nat} {t : List Nat} (hc : c < 4294967296) (ht : t.length = 4) (hl : ∀ b ∈ t, b < 256) : fixN c 4 = t ↔ le t = c := by
  constructor
  · intro h
    rw [← h, le_fixN]
    exact Nat.mod_eq_of_lt (by simpa using hc)
  · intro h
    have := fixN_le t hl
    rw [ht, h] at this
    exact this
/-- A text's place lies behind its beginning. -/
theorem textS_pos {m : Int} {D : List Nat} (h : (textS m D).2.2 = 0) : 0 < (textS m D).2.1 ∧ (textS m D).2.1 ≤ D.length := by
  unfold textS at h ⊢
  split at h
  · rename_i h0
    have h1 := few_le D 0 h0
    rw [if_pos h0]
    split at h
    · simp at h
    · rename_i h2
      rw [if_neg h2]
      split at h
      · simp at h
      · rename_i h3
        rw [if_neg h3]
        show 0 < (few D 0).2.1 + (few D 0).1 ∧ (few D 0).2.1 + (few D 0).1 ≤ _
        omega
  · rename_i h0
    exact absurd h h0
theorem textS_lt {m : Int} {D : List Nat} (hD : ∀ b ∈ D, b < 256) : ∀ b ∈ (textS m D).1, b < 256 := by
  unfold textS
  repeat' split
  all_goals first
    | (intro b hb; simp at hb; done)
    | exact fun b hb => hD b (List.mem_of_mem_drop (List.mem_of_mem_take hb))
theorem textS_err (m : Int) (D : List Nat) : (textS m D).2.2 = 0 ∨ (textS m D).2.2 = 10 ∨ (textS m D).2.2 = 12 := by
  have h := few_err D 0
  unfold textS
  split
  · repeat' split
    all_goals simp
  · rename_i h0
    rcases h with h | h | h
    · exact absurd h h0
    · rw [h]; simp
    · rw [h]; simp
theorem textS_bad {m : Int} {D : List Nat} (h : (textS m D).2.2 ≠ 0) : (textS m D).1 = [] ∧ (textS m D).2.1 = 0 := by
  unfold textS at h ⊢
  split
  · rename_i h0
    rw [if_pos h0] at h
    split
    · exact ⟨rfl, rfl⟩
    · rename_i h2
      rw [if_neg h2] at h
      split
      · exact ⟨rfl, rfl⟩
      · rename_i h3
        rw [if_neg h3] at h
        exact absurd rfl h
  · exact ⟨rfl, rfl⟩
theorem nextN_ok {D : List Nat} (h : (nextN D).2.2.2 = 0) : 0 < (nextN D).2.2.1 ∧ (nextN D).2.2.1 ≤ D.length := by
  cases D with
  | nil => simp [nextN] at h
  | cons k R =>
    rw [nextN_cons] at h ⊢
    unfold nextC at h ⊢
    split at h
    · simp at h
    · rename_i h1
      rw [if_neg h1]
      split at h
      · rename_i h2
        rw [if_pos h2]
        split at h
        · simp at h
        · rename_i h3
          rw [if_neg h3]
          split at h
          · rename_i h4
            rw [if_pos h4]
            show 0 < 1 + _ + 4 ∧ 1 + _ + 4 ≤ (k :: R).length
            rw [List.length_cons]
            omega
          · simp at h
      · rename_i h2
        exact absurd h h2
theorem nextN_lt {D : List Nat} (hD : ∀ b ∈ D, b < 256) : (nextN D).1 < 256 ∧ (∀ b ∈ (nextN D).2.1, b < 256) ∧ (nextN D).2.2.2 < 256 ∧ (nextN D).2.2.1 ≤ D.length := by
  cases D with
  | nil => simp [nextN]
  | cons k R =>
    have hk := hD k (by simp)
    have hR : ∀ b ∈ R, b < 256 := fun b hb => hD b (by simp [hb])
    have he := textS_err 1048576 R
    rw [nextN_cons]
    unfold nextC
    split
    · exact ⟨by simp, by simp, by simp, by simp⟩
    · split
      · split
        · exact ⟨by simp, by simp, by simp, by simp⟩
        · split
          · refine ⟨hk, textS_lt hR, by simp, ?_⟩
            show 1 + _ + 4 ≤ (k :: R).length
            rw [List.length_cons]
            omega
          · exact ⟨by simp, by simp, by simp, by simp⟩
      · refine ⟨by simp, by simp, ?_, by simp⟩
        show (textS 1048576 R).2.2 < 256
        omega
end Go.Proofs.Ytkeaijocjbldmaa
