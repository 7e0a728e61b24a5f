/- Whole numbers as floats: back to whole numbers, and sums. -/
import Derived.Test.YtihbcojmonlcgaaDoorFloat
import Derived.WalkLawsBesides
namespace Go.Proofs.YtihbcojmonlcgaaDoor

theorem cut_zero (neg : Bool) (q d m : Nat) (hm : m = q * 2 ^ d) (hd : d ≤ m.log2 + 2) : Ieee.Toward.zero.cut neg m d = q := by
  unfold Ieee.Toward.cut
  have hmin : min d (m.log2 + 2) = d := by omega
  have hp := Nat.two_pow_pos d
  simp only [hmin, Nat.one_shiftLeft]
  have h1 : m / 2 ^ d = q := by rw [hm]; exact Nat.mul_div_cancel _ hp
  rw [h1]
  simp
theorem cut_nought (neg : Bool) (d : Nat) : Ieee.Toward.zero.cut neg 0 d = 0 := by
  unfold Ieee.Toward.cut
  simp
theorem abs_of {s : Bool} {m k : Nat} {n : Int} (h : 2 * (if s then -(m : Int) else (m : Int)) = n * 2 ^ k) : 2 * m = n.natAbs * 2 ^ k := by
  have h2 := congrArg Int.natAbs h
  rw [Int.natAbs_mul, Int.natAbs_mul, Int.natAbs_pow] at h2
  have e : (if s then -(m : Int) else (m : Int)).natAbs = m := by cases s <;> simp
  rw [e] at h2
  simpa using h2
/-- Back again: 'int64(float64(n))'. -/
theorem toInt_int (n : Int) (h : n.natAbs ≤ 9007199254740992) : floatToIntVal .f64 (floatOfInt .f64 n) .i64 = some n := by
  obtain ⟨s, m, k, e1, h1, hs, hk⟩ := read_int n h
  have hd : FloatKind.f64.decode (floatOfInt .f64 n) = .number s m (1 - (k : Int)) := e1
  have habs := abs_of h1
  have hcut : Ieee.Toward.zero.cut s (m <<< (1 - (k : Int)).toNat) (-(1 - (k : Int))).toNat = n.natAbs := by
    rw [Nat.shiftLeft_eq]
    rcases Nat.eq_zero_or_pos k with h0 | h0
    · subst h0
      have e2 : (1 - ((0 : Nat) : Int)).toNat = 1 := by omega
      have e3 : (-(1 - ((0 : Nat) : Int))).toNat = 0 := by omega
      rw [e2, e3]
      refine cut_zero _ _ _ _ ?_ (by omega)
      simp at habs ⊢; omega
    · have e2 : (1 - (k : Int)).toNat = 0 := by omega
      have e3 : (-(1 - (k : Int))).toNat = k - 1 := by omega
      rw [e2, e3, Nat.pow_zero, Nat.mul_one]
      have hm : m = n.natAbs * 2 ^ (k - 1) := by
        have : 2 ^ k = 2 * 2 ^ (k - 1) := by rw [← Nat.pow_succ', show (k - 1).succ = k by omega]
        rw [this, ← Nat.mul_assoc, Nat.mul_comm n.natAbs 2, Nat.mul_assoc] at habs
        omega
      rcases Nat.eq_zero_or_pos n.natAbs with hn0 | hn0
      · rw [hm, hn0, Nat.zero_mul]; exact cut_nought _ _
      · refine cut_zero _ _ _ _ hm ?_
        have hp : 2 ^ (k - 1) ≤ m := by
          rw [hm]; exact Nat.le_mul_of_pos_left _ hn0
        have hm0 : 0 < m := Nat.lt_of_lt_of_le (Nat.two_pow_pos _) hp
        obtain ⟨_, hl⟩ := log2_spec hm0
        have : k - 1 < m.log2 + 1 := (Nat.pow_lt_pow_iff_right (by omega)).1 (Nat.lt_of_le_of_lt hp hl)
        omega
  unfold floatToIntVal
  rw [hd]
  have ht : (Ieee.Datum.number s m (1 - (k : Int))).toInt .zero = some n := by
    unfold Ieee.Datum.toInt Ieee.Datum.integral
    simp only [hcut]
    unfold Ieee.signed
    rw [Nat.shiftLeft_eq, Nat.pow_zero, Nat.mul_one]
    congr 1
    cases s with
    | true => simp only [if_true]; have := hs rfl; omega
    | false =>
      simp only [Bool.false_eq_true, if_false]
      simp only [Bool.false_eq_true, if_false] at h1
      have hp : (0 : Int) < 2 ^ k := Int.pow_pos (by omega)
      have : 0 ≤ n := by
        apply Int.not_lt.1
        intro hn
        have : n * 2 ^ k < 0 := Int.mul_neg_of_neg_of_pos hn hp
        omega
      omega
  rw [ht]
  have hmin : IntKind.i64.min = -9223372036854775808 := by decide
  have hmax : IntKind.i64.max = 9223372036854775807 := by decide
  simp only [hmin, hmax]
  rw [if_pos (by omega)]
/-- A sum of whole numbers is exact, where it does not grow too far. -/
theorem add_int (a b : Int) (ha : a.natAbs ≤ 9007199254740992) (hb : b.natAbs ≤ 9007199254740992) (hc : (a + b).natAbs ≤ 9007199254740992) :
    Ieee.double.add (floatOfInt .f64 a) (floatOfInt .f64 b) = some (floatOfInt .f64 (a + b)) := by
  obtain ⟨s, m, k, e1, h1, hs, _⟩ := read_int a ha
  obtain ⟨t, n, l, e2, h2, ht, _⟩ := read_int b hb
  unfold Ieee.Format.add
  rw [e1, e2]
  unfold Ieee.Datum.sum
  simp only [min_place, Option.map_some]
  have g1 := signed_of s m k (max k l) a (by omega) h1
  have g2 := signed_of t n l (max k l) b (by omega) h2
  generalize Ieee.signed s m ((1 - (k : Int)) - (1 - ((max k l : Nat) : Int))).toNat = X at *
  generalize Ieee.signed t n ((1 - (l : Int)) - (1 - ((max k l : Nat) : Int))).toNat = Y at *
  generalize max k l = K at *
  have hP : (0 : Int) < 2 ^ K := Int.pow_pos (by omega)
  have hsum : 2 * (X + Y) = (a + b) * 2 ^ K := by rw [Int.mul_add, g1, g2, Int.add_mul]
  congr 1
  by_cases h0 : a + b = 0
  · have hXY : X + Y = 0 := by rw [h0, Int.zero_mul] at hsum; omega
    rw [hXY, h0, if_pos rfl]
    have hst : (s && t) = false := by
      cases s with
      | false => rfl
      | true =>
        cases t with
        | false => rfl
        | true => have := hs rfl; have := ht rfl; omega
    rw [hst]
    have hz : floatOfInt .f64 0 = Ieee.double.word false 0 := by kernel_rfl
    rw [hz]
    show Ieee.double.nearest false (0 : Int).natAbs _ = _
    unfold Ieee.Format.nearest
    rw [if_pos Int.natAbs_zero]
  · have hXY : X + Y ≠ 0 := by
      intro h
      rw [h, Int.mul_zero] at hsum
      rcases Int.mul_eq_zero.1 hsum.symm with q | q
      · exact h0 q
      · omega
    rw [if_neg hXY]
    have hsg : decide (X + Y < 0) = decide (a + b < 0) := by
      rw [decide_eq_decide]
      constructor
      · intro h
        apply Int.not_le.1
        intro hn
        have : 0 ≤ (a + b) * 2 ^ K := Int.mul_nonneg hn (by omega)
        omega
      · intro h
        have : (a + b) * 2 ^ K < 0 := Int.mul_neg_of_neg_of_pos h hP
        omega
    have hab : 2 * (X + Y).natAbs = (a + b).natAbs * 2 ^ K := by
      have h3 := congrArg Int.natAbs hsum
      rw [Int.natAbs_mul, Int.natAbs_mul, Int.natAbs_pow] at h3
      simpa using h3
    have hpos : 0 < (a + b).natAbs := by omega
    obtain ⟨q1, hq1, w1⟩ := nearest_of (decide (a + b < 0)) (X + Y).natAbs K (a + b).natAbs hpos hc hab
    obtain ⟨q2, hq2, w2⟩ := nearest_of (decide (a + b < 0)) (a + b).natAbs 1 (a + b).natAbs hpos hc (by omega)
    have hq : q1 = q2 := by omega
    subst hq
    show Ieee.double.nearest (decide (X + Y < 0)) (X + Y).natAbs (1 - (K : Int)) = _
    rw [hsg, w1]
    have hf : floatOfInt .f64 (a + b) = Ieee.double.nearest (decide (a + b < 0)) (a + b).natAbs (1 - ((1 : Nat) : Int)) := rfl
    rw [hf, w2]
end Go.Proofs.YtihbcojmonlcgaaDoor
