import Derived.Test.YtkeaijocjbldmaaCrc
namespace Go.Proofs.Ytkeaijocjbldmaa

/-- A list of bytes of which k are turned, from a place on. -/
def turnN (l : List Nat) (p : Nat) (f : Nat → Nat) : Nat → List Nat
  | 0 => l
  | k + 1 => (turnN l p f k).set (p + k) ((turnN l p f k).getD (p + k) 0 ^^^ f k)
def anyN (f : Nat → Nat) : Nat → Bool
  | 0 => false
  | k + 1 => anyN f k || (f k != 0)
theorem turnN_length (l : List Nat) (p : Nat) (f : Nat → Nat) (k : Nat) : (turnN l p f k).length = l.length := by
  induction k with
  | zero => rfl
  | succ k ih => simp [turnN, ih]
theorem turnN_get (l : List Nat) (p : Nat) (f : Nat → Nat) (k j : Nat) (hj : j < l.length) : (turnN l p f k).getD j 0 = l.getD j 0 ^^^ (if p ≤ j ∧ j < p + k then f (j - p) else 0) := by
  induction k with
  | zero => rw [if_neg (by omega)]; simp [turnN]
  | succ k ih =>
    simp only [turnN]
    by_cases e : j = p + k
    · subst e
      rw [if_pos (by omega), Nat.add_sub_cancel_left]
      rw [if_neg (by omega), Nat.xor_zero] at ih
      have hl := turnN_length l p f k
      rw [List.getD_eq_getElem?_getD, List.getElem?_set_self (by omega)]
      simp only [Option.getD_some]
      rw [ih]
    · rw [List.getD_eq_getElem?_getD, List.getElem?_set_ne (by omega), ← List.getD_eq_getElem?_getD, ih]
      congr 1
      by_cases h : p ≤ j ∧ j < p + k
      · rw [if_pos h, if_pos (by omega)]
      · rw [if_neg h, if_neg (by omega)]
theorem turnN_lt (l : List Nat) (p : Nat) (f : Nat → Nat) (k : Nat) (hl : ∀ b ∈ l, b < 256) (hf : ∀ i, f i < 256) : ∀ b ∈ turnN l p f k, b < 256 := by
  induction k with
  | zero => exact hl
  | succ k ih =>
    intro b hb
    simp only [turnN] at hb
    rcases List.mem_or_eq_of_mem_set hb with h | h
    · exact ih b h
    · subst h
      refine Nat.xor_lt_two_pow (n := 8) ?_ (hf k)
      rcases Nat.lt_or_ge (p + k) (turnN l p f k).length with h | h
      · rw [List.getD_eq_getElem?_getD, List.getElem?_eq_getElem h]; exact ih _ (List.getElem_mem h)
      · rw [List.getD_eq_getElem?_getD, List.getElem?_eq_none h]; decide
/-- The differences. -/
theorem turnN_diff (l : List Nat) (p : Nat) (f : Nat → Nat) (k : Nat) (hk : p + k ≤ l.length) :
    List.zipWith (· ^^^ ·) (turnN l p f k) l = List.replicate p 0 ++ ((List.range k).map f ++ List.replicate (l.length - (p + k)) 0) := by
  apply List.ext_getElem
  · simp [turnN_length]; omega
  · intro j h1 h2
    have hjl : j < l.length := by simp [turnN_length] at h1; exact h1
    have hg := turnN_get l p f k j hjl
    have hjt : j < (turnN l p f k).length := by rw [turnN_length]; exact hjl
    rw [List.getElem_zipWith]
    rw [List.getD_eq_getElem?_getD, List.getElem?_eq_getElem hjt, List.getD_eq_getElem?_getD, List.getElem?_eq_getElem hjl] at hg
    simp only [Option.getD_some] at hg
    rw [hg, Nat.xor_comm l[j], Nat.xor_assoc, Nat.xor_self, Nat.xor_zero]
    by_cases ha : j < p
    · rw [if_neg (by omega), List.getElem_append_left (by simpa using ha)]; simp
    · rw [List.getElem_append_right (by simpa using ha)]
      simp only [List.length_replicate]
      by_cases hb : j < p + k
      · rw [if_pos (by omega), List.getElem_append_left (by simp; omega)]; simp
      · rw [if_neg (by omega), List.getElem_append_right (by simp; omega)]; simp
theorem xor_zero_eq {a b : Nat} (h : a ^^^ b = 0) : a = b := by
  have := xor_cancel a b
  rw [h, Nat.xor_zero] at this
  exact this
theorem low_zero {x y : Nat} (hx : x < 256) (h : x ^^^ y * 2 ^ 8 = 0) : x = 0 ∧ y = 0 := by
  have := xor_zero_eq h
  omega
theorem four_zero {a b c d : Nat} (ha : a < 256) (hb : b < 256) (hc : c < 256) (h : a ^^^ (b * 2 ^ 8 ^^^ (c * 2 ^ 16 ^^^ d * 2 ^ 24)) = 0) : a = 0 ∧ b = 0 ∧ c = 0 ∧ d = 0 := by
  have s : ∀ x y : Nat, x * 2 ^ 8 ^^^ y * 2 ^ 8 = (x ^^^ y) * 2 ^ 8 := by
    intro x y
    have := Nat.shiftLeft_xor_distrib (a := x) (b := y) (i := 8)
    simp only [Nat.shiftLeft_eq] at this
    exact this.symm
  have e1 : c * 2 ^ 16 = (c * 2 ^ 8) * 2 ^ 8 := by rw [Nat.mul_assoc, ← Nat.pow_add]
  have e2 : d * 2 ^ 24 = (d * 2 ^ 8 * 2 ^ 8) * 2 ^ 8 := by rw [Nat.mul_assoc, Nat.mul_assoc, ← Nat.pow_add, ← Nat.pow_add]
  rw [e1, e2, s, s] at h
  obtain ⟨h1, h2⟩ := low_zero ha h
  rw [s] at h2
  obtain ⟨h3, h4⟩ := low_zero hb h2
  obtain ⟨h5, h6⟩ := low_zero hc h4
  exact ⟨h1, h3, h5, h6⟩
theorem anyN_false (f : Nat → Nat) (k : Nat) : anyN f k = false ↔ ∀ i, i < k → f i = 0 := by
  induction k with
  | zero => simp [anyN]
  | succ k ih =>
    simp only [anyN, Bool.or_eq_false_iff, ih]
    constructor
    · rintro ⟨h1, h2⟩ i hi
      rcases Nat.lt_or_ge i k with h | h
      · exact h1 i h
      · have : i = k := by omega
        subst this
        simpa using h2
    · intro h
      exact ⟨fun i hi => h i (by omega), by simpa using h k (by omega)⟩
theorem reg_four_zero (f : Nat → Nat) (hf : ∀ i, f i < 256) (k : Nat) (hk : k ≤ 4) (h : reg 0 ((List.range k).map f) = 0) : ∀ i, i < k → f i = 0 := by
  -- up to four, filled with noughts
  have hg : reg 0 ((List.range k).map f ++ List.replicate (4 - k) 0) = 0 := by
    rw [reg_append, h]
    exact reg_zero_zeros _ (fun b hb => (List.mem_replicate.1 hb).2)
  have e : (List.range k).map f ++ List.replicate (4 - k) 0 = (List.range 4).map (fun i => if i < k then f i else 0) := by
    match k, hk with
    | 0, _ => rfl
    | 1, _ => rfl
    | 2, _ => rfl
    | 3, _ => rfl
    | 4, _ => rfl
  rw [e] at hg
  have e4 : (List.range 4).map (fun i => if i < k then f i else 0) = [if 0 < k then f 0 else 0, if 1 < k then f 1 else 0, if 2 < k then f 2 else 0, if 3 < k then f 3 else 0] := rfl
  rw [e4, four] at hg
  have b : ∀ i, (if i < k then f i else 0) < 256 := fun i => by split; exact hf i; omega
  have lt : (if 0 < k then f 0 else 0) ^^^ ((if 1 < k then f 1 else 0) * 2 ^ 8 ^^^ ((if 2 < k then f 2 else 0) * 2 ^ 16 ^^^ (if 3 < k then f 3 else 0) * 2 ^ 24)) < 4294967296 := by
    have b0 := b 0
    have b1 := b 1
    have b2 := b 2
    have b3 := b 3
    refine Nat.xor_lt_two_pow (n := 32) (by omega) (Nat.xor_lt_two_pow (by omega) (Nat.xor_lt_two_pow (by omega) (by omega)))
  obtain ⟨z0, z1, z2, z3⟩ := four_zero (b 0) (b 1) (b 2) (hvN_inj0 lt hg)
  intro i hi
  match i with
  | 0 => rwa [if_pos hi] at z0
  | 1 => rwa [if_pos hi] at z1
  | 2 => rwa [if_pos hi] at z2
  | 3 => rwa [if_pos hi] at z3
  | i + 4 => omega
/-- The check sums differ just where a byte does. -/
theorem told (l : List Nat) (p : Nat) (f : Nat → Nat) (hf : ∀ i, f i < 256) (k : Nat) (hk : k ≤ 4) (hp : p + k ≤ l.length) : (crc (turnN l p f k) != crc l) = anyN f k := by
  have hd := reg_diff (0 ^^^ ones) (turnN l p f k) l (turnN_length l p f k)
  rw [turnN_diff l p f k hp, reg_append, reg_zero_zeros _ (fun b hb => (List.mem_replicate.1 hb).2), reg_append, reg_zeros _ (List.replicate _ 0) (fun b hb => (List.mem_replicate.1 hb).2)] at hd
  have hlt : reg 0 ((List.range k).map f) < 4294967296 := reg_lt (by decide) (fun b hb => by
    simp only [List.mem_map] at hb
    obtain ⟨i, _, rfl⟩ := hb
    exact hf i)
  have key : crc (turnN l p f k) = crc l ↔ reg 0 ((List.range k).map f) = 0 := by
    unfold crc more
    constructor
    · intro h
      have h2 : reg (0 ^^^ ones) (turnN l p f k) = reg (0 ^^^ ones) l := by
        have := congrArg (fun x => x ^^^ ones) h
        simpa only [Nat.xor_assoc, Nat.xor_self, Nat.xor_zero] using this
      rw [h2, Nat.xor_self] at hd
      exact hvN_inj0 hlt hd.symm
    · intro h
      rw [h, hvN_zero] at hd
      rw [xor_zero_eq hd]
  by_cases hz : ∀ i, i < k → f i = 0
  · rw [(anyN_false f k).2 hz]
    have : reg 0 ((List.range k).map f) = 0 := reg_zero_zeros _ (fun b hb => by
      simp only [List.mem_map, List.mem_range] at hb
      obtain ⟨i, hi, rfl⟩ := hb
      exact hz i hi)
    rw [key.2 this]
    simp
  · have ht : anyN f k = true := by
      cases h : anyN f k with
      | true => rfl
      | false => exact absurd ((anyN_false f k).1 h) hz
    rw [ht]
    have hne : crc (turnN l p f k) ≠ crc l := fun h => hz (reg_four_zero f hf k hk (key.1 h))
    simpa using hne
end Go.Proofs.Ytkeaijocjbldmaa
