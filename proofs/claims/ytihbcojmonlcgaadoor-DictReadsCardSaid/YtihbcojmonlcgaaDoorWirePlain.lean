/- Numbers as bytes, in plain lists. -/
import Derived.Test.YtihbcojmonlcgaaDoorCrc
namespace Go.Proofs.YtihbcojmonlcgaaDoor

/-- So many bytes of a number, the low one first. -/
def fixN (x : Nat) : Nat → List Nat
  | 0 => []
  | n + 1 => fixN x n ++ [x / 256 ^ n % 256]
theorem fixN_len (x n : Nat) : (fixN x n).length = n := by induction n <;> simp_all [fixN]
theorem fixN_lt (x n : Nat) : ∀ b ∈ fixN x n, b < 256 := by
  induction n with
  | zero => simp [fixN]
  | succ n ih =>
    intro b hb
    simp only [fixN, List.mem_append, List.mem_singleton] at hb
    rcases hb with hb | rfl
    · exact ih b hb
    · omega
/-- The number of bytes, the low one first. -/
def le : List Nat → Nat
  | [] => 0
  | b :: l => b + 256 * le l
theorem le_snoc (l : List Nat) (b : Nat) : le (l ++ [b]) = le l + b * 256 ^ l.length := by
  induction l with
  | nil => simp [le]
  | cons a l ih => simp only [List.cons_append, le, ih, List.length_cons, Nat.pow_succ]; rw [Nat.mul_add, Nat.mul_comm 256 (b * _), Nat.mul_assoc]; omega
theorem le_lt (l : List Nat) (h : ∀ b ∈ l, b < 256) : le l < 256 ^ l.length := by
  induction l with
  | nil => simp [le]
  | cons a l ih =>
    have h1 := h a (by simp)
    have h2 := ih (fun b hb => h b (by simp [hb]))
    simp only [le, List.length_cons, Nat.pow_succ]
    omega
theorem le_fixN (x n : Nat) : le (fixN x n) = x % 256 ^ n := by
  induction n with
  | zero => simp [fixN, le]; omega
  | succ n ih =>
    rw [fixN, le_snoc, ih, fixN_len, Nat.pow_succ, Nat.mod_mul, Nat.mul_comm (256 ^ n)]

/-- A number of few bytes. -/
def uvar (x : Nat) : List Nat := if x < 128 then [x] else (128 + x % 128) :: uvar (x / 128)
theorem uvar_small {x : Nat} (h : x < 128) : uvar x = [x] := by rw [uvar, if_pos h]
theorem uvar_big {x : Nat} (h : ¬ x < 128) : uvar x = (128 + x % 128) :: uvar (x / 128) := by rw [uvar, if_neg h]
theorem uvar_lt (x : Nat) : ∀ b ∈ uvar x, b < 256 := by
  induction x using Nat.strongRecOn with
  | ind x ih =>
    intro b hb
    by_cases h : x < 128
    · rw [uvar_small h] at hb; simp at hb; omega
    · rw [uvar_big h] at hb
      simp only [List.mem_cons] at hb
      rcases hb with rfl | hb
      · omega
      · exact ih _ (by omega) b hb
theorem uvar_len (n : Nat) : ∀ x, x < 128 ^ (n + 1) → (uvar x).length ≤ n + 1 := by
  induction n with
  | zero => intro x hx; rw [uvar_small (by simpa using hx)]; simp
  | succ n ih =>
    intro x hx
    by_cases h : x < 128
    · rw [uvar_small h]; simp
    · rw [uvar_big h]
      have := ih (x / 128) (by rw [Nat.div_lt_iff_lt_mul (by omega)]; rw [Nat.pow_succ] at hx; exact hx)
      simp only [List.length_cons]; omega
theorem uvar_len10 {x : Nat} (h : x < 18446744073709551616) : (uvar x).length ≤ 10 := uvar_len 9 x (by omega)
theorem uvar_pos (x : Nat) : 0 < (uvar x).length := by
  by_cases h : x < 128
  · rw [uvar_small h]; simp
  · rw [uvar_big h]; simp

/-- What is read as a number of few bytes: the number, how many bytes, the error. -/
def few : List Nat → Nat → Nat × Nat × Nat
  | [], _ => (0, 0, 10)
  | b :: bs, i =>
    if (i = 9 ∧ 1 < b) ∨ (0 < i ∧ b = 0) then (0, 0, 12)
    else if b < 128 then (b, 1, 0)
    else if (few bs (i + 1)).2.2 = 0 then (b % 128 + 128 * (few bs (i + 1)).1, (few bs (i + 1)).2.1 + 1, 0)
    else (0, 0, (few bs (i + 1)).2.2)
theorem few_nil (i : Nat) : few [] i = (0, 0, 10) := rfl
theorem few_bad {b : Nat} {bs : List Nat} {i : Nat} (h : (i = 9 ∧ 1 < b) ∨ (0 < i ∧ b = 0)) : few (b :: bs) i = (0, 0, 12) := by rw [few, if_pos h]
theorem few_last {b : Nat} {bs : List Nat} {i : Nat} (h : ¬ ((i = 9 ∧ 1 < b) ∨ (0 < i ∧ b = 0))) (hb : b < 128) : few (b :: bs) i = (b, 1, 0) := by rw [few, if_neg h, if_pos hb]
theorem few_on {b : Nat} {bs : List Nat} {i : Nat} (h : ¬ ((i = 9 ∧ 1 < b) ∨ (0 < i ∧ b = 0))) (hb : ¬ b < 128) : few (b :: bs) i = if (few bs (i + 1)).2.2 = 0 then (b % 128 + 128 * (few bs (i + 1)).1, (few bs (i + 1)).2.1 + 1, 0) else (0, 0, (few bs (i + 1)).2.2) := by rw [few, if_neg h, if_neg hb]
theorem few_err (l : List Nat) : ∀ i, (few l i).2.2 = 0 ∨ (few l i = (0, 0, 10)) ∨ (few l i = (0, 0, 12)) := by
  induction l with
  | nil => intro i; exact .inr (.inl rfl)
  | cons b bs ih =>
    intro i
    by_cases h : (i = 9 ∧ 1 < b) ∨ (0 < i ∧ b = 0)
    · exact .inr (.inr (few_bad h))
    · by_cases hb : b < 128
      · rw [few_last h hb]; exact .inl rfl
      · rw [few_on h hb]
        rcases ih (i + 1) with e | e | e
        · rw [if_pos e]; exact .inl rfl
        · rw [e]; exact .inr (.inl rfl)
        · rw [e]; exact .inr (.inr rfl)
theorem few_le (l : List Nat) : ∀ i, (few l i).2.2 = 0 → (few l i).2.1 ≤ l.length ∧ 0 < (few l i).2.1 := by
  induction l with
  | nil => intro i h; simp [few_nil] at h
  | cons b bs ih =>
    intro i h
    by_cases h1 : (i = 9 ∧ 1 < b) ∨ (0 < i ∧ b = 0)
    · rw [few_bad h1] at h; simp at h
    · by_cases hb : b < 128
      · rw [few_last h1 hb]; simp
      · rw [few_on h1 hb] at h ⊢
        by_cases e : (few bs (i + 1)).2.2 = 0
        · rw [if_pos e]; have := ih (i + 1) e; simp only [List.length_cons]; omega
        · rw [if_neg e] at h; exact absurd h e
/-- At most ten bytes; the number has 64 bits. -/
theorem few_lt (l : List Nat) : ∀ i, i ≤ 9 → (few l i).2.2 = 0 → (few l i).2.1 ≤ 10 - i ∧ (few l i).1 < 2 * 128 ^ (9 - i) := by
  induction l with
  | nil => intro i _ h; simp [few_nil] at h
  | cons b bs ih =>
    intro i hi h
    by_cases h1 : (i = 9 ∧ 1 < b) ∨ (0 < i ∧ b = 0)
    · rw [few_bad h1] at h; simp at h
    · by_cases hb : b < 128
      · rw [few_last h1 hb]
        refine ⟨by simp; omega, ?_⟩
        by_cases h9 : i = 9
        · subst h9; simp; omega
        · obtain ⟨j, hj⟩ : ∃ j, 9 - i = j + 1 := ⟨8 - i, by omega⟩
          rw [hj, Nat.pow_succ]
          have : 0 < 128 ^ j := Nat.pow_pos (by omega)
          show b < _
          omega
      · rw [few_on h1 hb] at h ⊢
        by_cases e : (few bs (i + 1)).2.2 = 0
        · rw [if_pos e]
          have h9 : i ≠ 9 := by omega
          have := ih (i + 1) (by omega) e
          obtain ⟨j, hj⟩ : ∃ j, 9 - i = j + 1 := ⟨8 - i, by omega⟩
          have hj' : 9 - (i + 1) = j := by omega
          rw [hj'] at this
          rw [hj, Nat.pow_succ]
          refine ⟨by show _ + 1 ≤ _; omega, ?_⟩
          show b % 128 + 128 * _ < _
          omega
        · rw [if_neg e] at h; exact absurd h e
theorem few_lt64 (l : List Nat) : (few l 0).1 < 18446744073709551616 := by
  by_cases e : (few l 0).2.2 = 0
  · have := (few_lt l 0 (by omega) e).2; simpa using this
  · rcases few_err l 0 with h | h | h
    · exact absurd h e
    · rw [h]; decide
    · rw [h]; decide
/-- What was written is read. -/
theorem few_uvar (n : Nat) : ∀ (i x : Nat) (rest : List Nat), i + n = 9 → x < 2 * 128 ^ n → (0 < i → 0 < x) → few (uvar x ++ rest) i = (x, (uvar x).length, 0) := by
  induction n with
  | zero =>
    intro i x rest hi hx hp
    have := hp (by omega)
    have : x = 1 := by simp at hx; omega
    subst this
    rw [uvar_small (by omega)]
    exact few_last (by omega) (by omega)
  | succ n ih =>
    intro i x rest hi hx hp
    by_cases h : x < 128
    · rw [uvar_small h]
      exact few_last (by omega) h
    · rw [uvar_big h, List.cons_append, few_on (by omega) (by omega)]
      rw [ih (i + 1) (x / 128) rest (by omega) (by rw [Nat.div_lt_iff_lt_mul (by omega)]; rw [Nat.pow_succ] at hx; omega) (by omega)]
      rw [if_pos rfl]
      simp only [List.length_cons]
      congr 1
      omega
theorem few_uvar0 (x : Nat) (hx : x < 18446744073709551616) (rest : List Nat) : few (uvar x ++ rest) 0 = (x, (uvar x).length, 0) := few_uvar 9 0 x rest rfl (by simpa using hx) (by omega)
/-- A beginning of it is short. -/
theorem few_cut (n : Nat) : ∀ (i x c : Nat), i + n = 9 → x < 2 * 128 ^ n → (0 < i → 0 < x) → c < (uvar x).length → few ((uvar x).take c) i = (0, 0, 10) := by
  induction n with
  | zero =>
    intro i x c hi hx hp hc
    have := hp (by omega)
    have : x = 1 := by simp at hx; omega
    subst this
    rw [uvar_small (by omega)] at hc ⊢
    simp at hc
    subst hc
    exact few_nil _
  | succ n ih =>
    intro i x c hi hx hp hc
    by_cases h : x < 128
    · rw [uvar_small h] at hc ⊢
      simp at hc
      subst hc
      exact few_nil _
    · rw [uvar_big h] at hc ⊢
      match c with
      | 0 => exact few_nil _
      | c + 1 =>
        rw [List.take_succ_cons, few_on (by omega) (by omega)]
        rw [ih (i + 1) (x / 128) c (by omega) (by rw [Nat.div_lt_iff_lt_mul (by omega)]; rw [Nat.pow_succ] at hx; omega) (by omega) (by simpa using hc)]
        simp
theorem few_cut0 (x c : Nat) (hx : x < 18446744073709551616) (hc : c < (uvar x).length) : few ((uvar x).take c) 0 = (0, 0, 10) := few_cut 9 0 x c rfl (by simpa using hx) (by omega) hc
/-- One form: what is read is what would be written. -/
theorem few_one (l : List Nat) : ∀ i, (∀ b ∈ l, b < 256) → (few l i).2.2 = 0 → l.take (few l i).2.1 = uvar (few l i).1 ∧ (0 < i → 0 < (few l i).1) := by
  induction l with
  | nil => intro i _ h; simp [few_nil] at h
  | cons b bs ih =>
    intro i hl h
    have hb256 := hl b (by simp)
    by_cases h1 : (i = 9 ∧ 1 < b) ∨ (0 < i ∧ b = 0)
    · rw [few_bad h1] at h; simp at h
    · by_cases hb : b < 128
      · rw [few_last h1 hb]
        refine ⟨by rw [uvar_small hb]; rfl, fun hi => ?_⟩
        show 0 < b
        omega
      · rw [few_on h1 hb] at h ⊢
        by_cases e : (few bs (i + 1)).2.2 = 0
        · rw [if_pos e]
          obtain ⟨h2, h3⟩ := ih (i + 1) (fun b hb => hl b (by simp [hb])) e
          have h4 := h3 (by omega)
          refine ⟨?_, fun _ => by show 0 < b % 128 + 128 * _; omega⟩
          show (b :: bs).take (_ + 1) = uvar (b % 128 + 128 * _)
          rw [List.take_succ_cons, h2, uvar_big (x := b % 128 + 128 * (few bs (i + 1)).1) (by omega)]
          congr 1
          · omega
          · congr 1; omega
        · rw [if_neg e] at h; exact absurd h e

/-- A number that may be below 0, as one that may not. -/
def zz (x : Int) : Nat := if x < 0 then (2 * (-1 - x) + 1).toNat else (2 * x).toNat
def back (x : Nat) : Int := if x % 2 = 1 then -1 - (x / 2 : Nat) else (x / 2 : Nat)
theorem back_zz (x : Int) : back (zz x) = x := by unfold back zz; split <;> split <;> omega
theorem zz_back (x : Nat) : zz (back x) = x := by unfold back zz; split <;> split <;> omega
theorem zz_lt {x : Int} (h1 : -9223372036854775808 ≤ x) (h2 : x ≤ 9223372036854775807) : zz x < 18446744073709551616 := by unfold zz; split <;> omega
theorem back_ge {x : Nat} (h : x < 18446744073709551616) : -9223372036854775808 ≤ back x ∧ back x ≤ 9223372036854775807 := by unfold back; split <;> omega
end Go.Proofs.YtihbcojmonlcgaaDoor
