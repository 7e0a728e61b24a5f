/- Bits as bytes, and back: plain lists, no program in sight. -/
namespace Go.Proofs.YtihbcojmonlcgaaDoor

def bit (l : List Bool) (i : Nat) : Nat := if l.getD i false then 1 else 0
/-- n bits from a place on, the low one first. -/
def sb (l : List Bool) (b : Nat) : Nat → Nat
  | 0 => 0
  | n + 1 => sb l b n + bit l (b + n) * 2 ^ n
def packL (l : List Bool) : List Nat := (List.range ((l.length + 7) / 8)).map fun j => sb l (8 * j) 8
def cntTo (l : List Bool) : Nat → Nat
  | 0 => 0
  | n + 1 => cntTo l n + bit l n
def cnt (l : List Bool) : Nat := cntTo l l.length
theorem bit_le (l : List Bool) (i : Nat) : bit l i ≤ 1 := by unfold bit; split <;> omega
theorem bit_out (l : List Bool) (i : Nat) (h : l.length ≤ i) : bit l i = 0 := by
  unfold bit; rw [List.getD_eq_getElem?_getD, List.getElem?_eq_none h]; rfl
theorem sb_succ (l : List Bool) (b n : Nat) : sb l b (n + 1) = sb l b n + bit l (b + n) * 2 ^ n := rfl
theorem sb_zero (l : List Bool) (b : Nat) : sb l b 0 = 0 := rfl
theorem sb_lt (l : List Bool) (b n : Nat) : sb l b n < 2 ^ n := by
  induction n with
  | zero => exact Nat.zero_lt_one
  | succ n ih =>
    rw [sb_succ, Nat.pow_succ]
    have h1 : bit l (b + n) * 2 ^ n ≤ 1 * 2 ^ n := Nat.mul_le_mul_right _ (bit_le l (b + n))
    omega
theorem sb_8 (l : List Bool) (b : Nat) : sb l b 8 < 256 := sb_lt l b 8
theorem sb_stop (l : List Bool) (b n m : Nat) (h : l.length ≤ b + n) : sb l b (n + m) = sb l b n := by
  induction m with
  | zero => rfl
  | succ m ih => rw [Nat.add_succ, sb_succ, ih, bit_out l _ (by omega)]; omega
theorem cntTo_le (l : List Bool) (n : Nat) : cntTo l n ≤ n := by
  induction n with
  | zero => exact Nat.le_refl _
  | succ n ih => have := bit_le l n; simp only [cntTo]; omega
theorem cntTo_succ (l : List Bool) (n : Nat) : cntTo l (n + 1) = cntTo l n + bit l n := rfl
theorem packL_length (l : List Bool) : (packL l).length = (l.length + 7) / 8 := by simp [packL]
theorem packL_lt (l : List Bool) : ∀ b ∈ packL l, b < 256 := by
  intro b hb
  simp only [packL, List.mem_map] at hb
  obtain ⟨j, _, rfl⟩ := hb
  exact sb_8 l _
/-- The bytes after i bits: byte j. -/
def pby (l : List Bool) (i j : Nat) : Nat := sb l (8 * j) (min 8 (i - 8 * j))
theorem pby_0 (l : List Bool) (j : Nat) : pby l 0 j = 0 := by simp [pby, sb]
theorem pby_lt (l : List Bool) (i j : Nat) : pby l i j < 256 := by
  unfold pby
  exact Nat.lt_of_lt_of_le (sb_lt l _ _) (Nat.pow_le_pow_right (by omega) (Nat.min_le_left _ _) : 2 ^ (min 8 (i - 8 * j)) ≤ 2 ^ 8)
theorem pby_other (l : List Bool) (i j : Nat) (h : j ≠ i / 8) : pby l (i + 1) j = pby l i j := by
  unfold pby
  congr 1
  omega
theorem pby_at (l : List Bool) (i : Nat) : pby l (i + 1) (i / 8) = pby l i (i / 8) + bit l i * 2 ^ (i % 8) := by
  unfold pby
  have h1 : min 8 (i + 1 - 8 * (i / 8)) = i % 8 + 1 := by omega
  have h2 : min 8 (i - 8 * (i / 8)) = i % 8 := by omega
  rw [h1, h2, sb_succ]
  congr 3
  omega
theorem pby_at_lt (l : List Bool) (i : Nat) : pby l i (i / 8) < 2 ^ (i % 8) := by
  unfold pby
  rw [show min 8 (i - 8 * (i / 8)) = i % 8 by omega]
  exact sb_lt _ _ _
theorem pby_full (l : List Bool) (j : Nat) : pby l l.length j = sb l (8 * j) 8 := by
  unfold pby
  by_cases h : 8 ≤ l.length - 8 * j
  · rw [Nat.min_eq_left h]
  · rw [Nat.min_eq_right (by omega)]
    have : sb l (8 * j) 8 = sb l (8 * j) ((l.length - 8 * j) + (8 - (l.length - 8 * j))) := by congr 1; omega
    rw [this, sb_stop _ _ _ _ (by omega)]
theorem or_bit (x k : Nat) (h : x < 2 ^ k) : x ||| 2 ^ k = x + 2 ^ k := by
  have := Nat.two_pow_add_eq_or_of_lt h 1
  rw [Nat.mul_one] at this
  rw [Nat.add_comm, this, Nat.or_comm]
theorem bit_append_left (a b : List Bool) (i : Nat) (h : i < a.length) : bit (a ++ b) i = bit a i := by
  unfold bit
  rw [List.getD_eq_getElem?_getD, List.getD_eq_getElem?_getD, List.getElem?_append_left h]
theorem bit_append_right (a b : List Bool) (i : Nat) : bit (a ++ b) (a.length + i) = bit b i := by
  unfold bit
  rw [List.getD_eq_getElem?_getD, List.getD_eq_getElem?_getD, List.getElem?_append_right (by omega), Nat.add_sub_cancel_left]
theorem cntTo_left (a b : List Bool) (n : Nat) (h : n ≤ a.length) : cntTo (a ++ b) n = cntTo a n := by
  induction n with
  | zero => rfl
  | succ n ih => rw [cntTo_succ, cntTo_succ, ih (by omega), bit_append_left _ _ _ (by omega)]
theorem cntTo_right (a b : List Bool) (n : Nat) : cntTo (a ++ b) (a.length + n) = cntTo a a.length + cntTo b n := by
  induction n with
  | zero => exact cntTo_left a b _ (Nat.le_refl _)
  | succ n ih => rw [Nat.add_succ, cntTo_succ, ih, cntTo_succ, bit_append_right, Nat.add_assoc]
theorem cnt_append (a b : List Bool) : cnt (a ++ b) = cnt a + cnt b := by
  unfold cnt
  rw [List.length_append, cntTo_right]
theorem sb_left (a b : List Bool) (s n : Nat) (h : s + n ≤ a.length) : sb (a ++ b) s n = sb a s n := by
  induction n with
  | zero => rfl
  | succ n ih => rw [sb_succ, sb_succ, ih (by omega), bit_append_left _ _ _ (by omega)]
theorem sb_right (a b : List Bool) (s n : Nat) : sb (a ++ b) (a.length + s) n = sb b s n := by
  induction n with
  | zero => rfl
  | succ n ih => rw [sb_succ, sb_succ, ih, Nat.add_assoc, bit_append_right]
theorem packL_append (a b : List Bool) (h : a.length % 8 = 0) : packL (a ++ b) = packL a ++ packL b := by
  apply List.ext_getElem
  · simp [packL_length]; omega
  · intro j h1 h2
    rw [packL_length, List.length_append] at h1
    by_cases hj : j < (a.length + 7) / 8
    · rw [List.getElem_append_left (by rw [packL_length]; exact hj)]
      simp only [packL, List.getElem_map, List.getElem_range]
      exact sb_left _ _ _ _ (by omega)
    · rw [List.getElem_append_right (by rw [packL_length]; omega)]
      simp only [packL, List.getElem_map, List.getElem_range, List.length_map, List.length_range]
      have e : 8 * j = a.length + 8 * (j - (a.length + 7) / 8) := by omega
      rw [e, sb_right]
/-! ### Back -/
def ubit (s : List Nat) (i : Nat) : Bool := s.getD (i / 8) 0 / 2 ^ (i % 8) % 2 == 1
def ubits (s : List Nat) (n : Nat) : List Bool := (List.range n).map (ubit s)
theorem ubits_length (s : List Nat) (n : Nat) : (ubits s n).length = n := by simp [ubits]
theorem ubits_succ (s : List Nat) (n : Nat) : ubits s (n + 1) = ubits s n ++ [ubit s n] := by simp [ubits, List.range_succ]
theorem ubits_getD (s : List Nat) (n i : Nat) (h : i < n) : (ubits s n).getD i false = ubit s i := by simp [ubits, List.getD, h]
/-- Is no bit set from n on, up to m? -/
def cleanTo (s : List Nat) (n : Nat) : Nat → Bool
  | 0 => true
  | m + 1 => cleanTo s n m && (decide (m < n) || !ubit s m)
theorem cleanTo_succ (s : List Nat) (n m : Nat) : cleanTo s n (m + 1) = (cleanTo s n m && (decide (m < n) || !ubit s m)) := rfl
theorem cleanTo_bad (s : List Nat) (n m k : Nat) (hk : m < k) (h1 : n ≤ m) (h2 : ubit s m = true) : cleanTo s n k = false := by
  induction k with
  | zero => omega
  | succ k ih =>
    rw [cleanTo_succ]
    by_cases e : m = k
    · subst e
      rw [h2]; simp; omega
    · rw [ih (by omega)]; rfl
theorem cleanTo_all (s : List Nat) (n m : Nat) (h : m ≤ n) : cleanTo s n m = true := by
  induction m with
  | zero => rfl
  | succ m ih => rw [cleanTo_succ, ih (by omega)]; simp; omega
/-- What bytes tell as n bits: an error's number, and the bits. -/
def unR (s : List Nat) (n : Int) : Nat × List Bool :=
  if n < 0 ∨ 1048576 < n then (1, [])
  else if s.length < (n.toNat + 7) / 8 then (10, [])
  else if (n.toNat + 7) / 8 < s.length then (11, [])
  else if cleanTo s n.toNat (8 * s.length) then (0, ubits s n.toNat) else (12, [])
theorem unR_arg (s : List Nat) (n : Int) (h : n < 0 ∨ 1048576 < n) : unR s n = (1, []) := by unfold unR; rw [if_pos h]
theorem unR_short (s : List Nat) (n : Nat) (h : n ≤ 1048576) (h1 : s.length < (n + 7) / 8) : unR s n = (10, []) := by
  unfold unR; rw [if_neg (by omega), if_pos (by simpa using h1)]
theorem unR_long (s : List Nat) (n : Nat) (h : n ≤ 1048576) (h1 : (n + 7) / 8 < s.length) : unR s n = (11, []) := by
  unfold unR; rw [if_neg (by omega), if_neg (by simp; omega), if_pos (by simpa using h1)]
theorem unR_ok (s : List Nat) (n : Nat) (h : n ≤ 1048576) (h1 : s.length = (n + 7) / 8) (hc : cleanTo s n (8 * s.length) = true) : unR s n = (0, ubits s n) := by
  unfold unR; rw [if_neg (by omega), if_neg (by simp; omega), if_neg (by simp; omega), if_pos (by simpa using hc)]; rfl
theorem unR_form (s : List Nat) (n : Nat) (h : n ≤ 1048576) (h1 : s.length = (n + 7) / 8) (hc : cleanTo s n (8 * s.length) = false) : unR s n = (12, []) := by
  unfold unR; rw [if_neg (by omega), if_neg (by simp; omega), if_neg (by simp; omega), if_neg (by simp [hc])]
attribute [irreducible] sb cntTo ubit pby bit cleanTo unR
end Go.Proofs.YtihbcojmonlcgaaDoor
