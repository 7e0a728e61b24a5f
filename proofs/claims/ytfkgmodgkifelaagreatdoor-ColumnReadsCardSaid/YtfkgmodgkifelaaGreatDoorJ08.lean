/- Whole numbers as floats: what their words stand for (plain Lean, no program in sight). -/
import Derived.Laws.FloatArith
import Derived.KernelRfl
namespace Go.Proofs.YtfkgmodgkifelaaGreatDoor

theorem log2_of {m k : Nat} (h1 : 2 ^ k ≤ m) (h2 : m < 2 ^ (k + 1)) : m.log2 = k := by
  have hm : m ≠ 0 := by have := Nat.two_pow_pos k; omega
  exact (Nat.log2_eq_iff hm).2 ⟨h1, h2⟩
theorem log2_spec {m : Nat} (hm : 0 < m) : 2 ^ m.log2 ≤ m ∧ m < 2 ^ (m.log2 + 1) := (Nat.log2_eq_iff (by omega)).1 rfl
theorem cut_exact (neg : Bool) (q d m : Nat) (hm : m = q * 2 ^ d) (hd : d ≤ m.log2 + 2) : Ieee.Toward.even.cut neg m d = q := by
  unfold Ieee.Toward.cut
  have hmin : min d (m.log2 + 2) = d := by omega
  have hp := Nat.two_pow_pos d
  simp only [hmin, Nat.one_shiftLeft]
  have h1 : m / 2 ^ d = q := by rw [hm]; exact Nat.mul_div_cancel _ hp
  have h2 : m % 2 ^ d = 0 := by rw [hm]; exact Nat.mul_mod_left _ _
  rw [h1, h2]
  have h3 : decide (2 ^ d < 2 * 0) = false := by simp
  have h4 : (2 ^ d == 2 * 0) = false := by rw [beq_eq_false_iff_ne]; omega
  rw [h3, h4]
  simp
/-- The word of a whole number of up to 53 digits, however it is spelt. -/
theorem nearest_of (neg : Bool) (M K C : Nat) (hC : 0 < C) (hC53 : C ≤ 9007199254740992) (h : 2 * M = C * 2 ^ K) :
    ∃ q : Nat, 2 * q = C * 2 ^ (53 - C.log2) ∧ Ieee.double.nearest neg M (1 - (K : Int)) = Ieee.double.word neg (min ((C.log2 + 1022) * 4503599627370496 + q) Ieee.double.infRung) := by
  obtain ⟨hl1, hl2⟩ := log2_spec hC
  have hL : C.log2 ≤ 53 := by
    apply Nat.le_of_lt_succ
    apply Nat.lt_of_not_le
    intro h54
    have : 2 ^ 54 ≤ 2 ^ C.log2 := Nat.pow_le_pow_right (by omega) h54
    omega
  have h53 : C.log2 = 53 → C = 9007199254740992 := fun h => by rw [h] at hl1; omega
  generalize C.log2 = L at *
  have hpK := Nat.two_pow_pos K
  have hM : 0 < M := by
    rcases Nat.eq_zero_or_pos M with h0 | h0
    · subst h0
      have : 0 < C * 2 ^ K := Nat.mul_pos hC hpK
      omega
    · exact h0
  -- the digits of M
  have hLM : M.log2 + 1 = L + K := by
    have e1 : 2 ^ (L + K) ≤ 2 * M := by rw [h, Nat.pow_add]; exact Nat.mul_le_mul_right _ hl1
    have e2 : 2 * M < 2 ^ (L + K + 1) := by
      rw [h, show L + K + 1 = (L + 1) + K by omega, Nat.pow_add]
      exact Nat.mul_lt_mul_of_pos_right hl2 hpK
    have hpos : 1 ≤ L + K := by
      rcases Nat.eq_zero_or_pos (L + K) with h0 | h0
      · rw [h0] at e2; simp at e2; omega
      · exact h0
    obtain ⟨n, hn⟩ : ∃ n, L + K = n + 1 := ⟨L + K - 1, by omega⟩
    rw [hn] at e1 e2 ⊢
    have := log2_of (m := M) (k := n) (by rw [Nat.pow_succ] at e1; omega) (by rw [Nat.pow_succ] at e2; omega)
    omega
  obtain ⟨q, hq⟩ : ∃ q : Nat, 2 * q = C * 2 ^ (53 - L) := by
    by_cases hl : L = 53
    · have := h53 hl
      subst this
      subst hl
      exact ⟨4503599627370496, by decide⟩
    · refine ⟨C * 2 ^ (52 - L), ?_⟩
      rw [show 53 - L = (52 - L) + 1 by omega, Nat.pow_succ]
      simp only [Nat.mul_comm, Nat.mul_left_comm]
  refine ⟨q, hq, ?_⟩
  unfold Ieee.Format.nearest
  rw [if_neg (by omega)]
  have hleast : Ieee.double.leastPlace = -1074 := by decide
  have hfb : (Ieee.double.fractionBits : Int) = 52 := by decide
  have hbin : Ieee.double.binade = 4503599627370496 := by decide
  have hlast : max ((1 - (K : Int)) + (M.log2 : Int) - (Ieee.double.fractionBits : Int)) Ieee.double.leastPlace = (L : Int) - 52 := by
    rw [hleast, hfb]; omega
  simp only [hlast]
  simp only [hleast, hbin]
  have hup : ((1 - (K : Int)) - ((L : Int) - 52)).toNat = 53 - K - L := by omega
  have hdr : (((L : Int) - 52) - (1 - (K : Int))).toNat = L + K - 53 := by omega
  have hrg : (((L : Int) - 52) - (-1074)).toNat = L + 1022 := by omega
  rw [hup, hdr, hrg, Nat.shiftLeft_eq]
  have hcut : Ieee.Toward.even.cut neg (M * 2 ^ (53 - K - L)) (L + K - 53) = q := by
    by_cases hkl : K + L ≤ 53
    · have hd0 : L + K - 53 = 0 := by omega
      rw [hd0]
      refine cut_exact _ _ _ _ ?_ (by omega)
      have : 2 * (M * 2 ^ (53 - K - L)) = 2 * q := by
        rw [hq, ← Nat.mul_assoc, h, Nat.mul_assoc, ← Nat.pow_add, show K + (53 - K - L) = 53 - L by omega]
      simp; omega
    · have hu0 : 53 - K - L = 0 := by omega
      rw [hu0, Nat.pow_zero, Nat.mul_one]
      refine cut_exact _ _ _ _ ?_ (by omega)
      have : 2 * M = 2 * (q * 2 ^ (L + K - 53)) := by
        rw [h, ← Nat.mul_assoc, hq, Nat.mul_assoc, ← Nat.pow_add, show 53 - L + (L + K - 53) = K by omega]
      omega
  rw [hcut]
/-- What such a word stands for. -/
theorem read_word (neg : Bool) (C q : Nat) (hC : 0 < C) (hC53 : C ≤ 9007199254740992) (hq : 2 * q = C * 2 ^ (53 - C.log2)) :
    Ieee.double.read (Ieee.double.word neg (min ((C.log2 + 1022) * 4503599627370496 + q) Ieee.double.infRung)) = .number neg q (1 - ((53 - C.log2 : Nat) : Int)) := by
  obtain ⟨hl1, hl2⟩ := log2_spec hC
  have hL : C.log2 ≤ 53 := by
    apply Nat.le_of_lt_succ
    apply Nat.lt_of_not_le
    intro h54
    have : 2 ^ 54 ≤ 2 ^ C.log2 := Nat.pow_le_pow_right (by omega) h54
    omega
  generalize C.log2 = L at *
  have hq1 : 4503599627370496 ≤ q := by
    have : 2 ^ 53 ≤ C * 2 ^ (53 - L) := by
      have e : 2 ^ 53 = 2 ^ L * 2 ^ (53 - L) := by rw [← Nat.pow_add, show L + (53 - L) = 53 by omega]
      rw [e]; exact Nat.mul_le_mul_right _ hl1
    omega
  have hq2 : q < 9007199254740992 := by
    have : C * 2 ^ (53 - L) < 2 ^ 54 := by
      have e : 2 ^ 54 = 2 ^ (L + 1) * 2 ^ (53 - L) := by rw [← Nat.pow_add, show L + 1 + (53 - L) = 54 by omega]
      rw [e]; exact Nat.mul_lt_mul_of_pos_right hl2 (Nat.two_pow_pos _)
    omega
  have hinf : Ieee.double.infRung = 9218868437227405312 := by decide
  have hsw : Ieee.double.signWeight = 9223372036854775808 := by decide
  have hbin : Ieee.double.binade = 4503599627370496 := by decide
  have hleast : Ieee.double.leastPlace = -1074 := by decide
  have hmin : min ((L + 1022) * 4503599627370496 + q) Ieee.double.infRung = (L + 1022) * 4503599627370496 + q := by rw [hinf]; omega
  rw [hmin]
  have hneg : (Ieee.double.word neg ((L + 1022) * 4503599627370496 + q) / 9223372036854775808 % 2 == 1) = neg := by
    unfold Ieee.Format.word
    rw [hsw]
    cases neg
    · simp only [Bool.false_eq_true, if_false]; rw [beq_eq_false_iff_ne]; omega
    · simp only [if_true]; rw [beq_iff_eq]; omega
  have hmod : Ieee.double.word neg ((L + 1022) * 4503599627370496 + q) % 9223372036854775808 = (L + 1022) * 4503599627370496 + q := by
    unfold Ieee.Format.word
    rw [hsw]
    cases neg
    · simp only [Bool.false_eq_true, if_false]; omega
    · simp only [if_true]; omega
  unfold Ieee.Format.read
  simp only [hsw, hneg, hmod, hbin, hinf, hleast]
  rw [if_neg (by omega), if_pos (by omega)]
  have e1 : 4503599627370496 + ((L + 1022) * 4503599627370496 + q) % 4503599627370496 = q := by omega
  have e2 : ((L + 1022) * 4503599627370496 + q) / 4503599627370496 = L + 1023 := by omega
  have e3 : (-1074 : Int) + ((L + 1023 - 1 : Nat) : Int) = 1 - ((53 - L : Nat) : Int) := by omega
  rw [e1, e2, e3]
theorem read_zero : Ieee.double.read (floatOfInt .f64 0) = .number false 0 (1 - ((1075 : Nat) : Int)) := by kernel_rfl
/-- A whole number's float: what it stands for. -/
theorem read_int (n : Int) (h : n.natAbs ≤ 9007199254740992) : ∃ (s : Bool) (m k : Nat), Ieee.double.read (floatOfInt .f64 n) = .number s m (1 - (k : Int)) ∧ 2 * (if s then -(m : Int) else (m : Int)) = n * 2 ^ k ∧ (s = true → n < 0) ∧ k ≤ 1075 := by
  by_cases h0 : n = 0
  · subst h0
    obtain ⟨K, hK⟩ : ∃ K : Nat, K = 1075 := ⟨_, rfl⟩
    refine ⟨false, 0, K, ?_, ?_, by simp, by omega⟩
    · rw [hK]; exact read_zero
    · rw [Int.zero_mul]; simp
  · have hpos : 0 < n.natAbs := by omega
    obtain ⟨q, hq, hw⟩ := nearest_of (decide (n < 0)) n.natAbs 1 n.natAbs hpos h (by omega)
    have hf : floatOfInt .f64 n = Ieee.double.nearest (decide (n < 0)) n.natAbs (1 - ((1 : Nat) : Int)) := rfl
    rw [hf, hw, read_word _ _ _ hpos h hq]
    refine ⟨_, _, _, rfl, ?_, by simp, by omega⟩
    have hq' : (2 : Int) * (q : Int) = (n.natAbs : Int) * 2 ^ (53 - n.natAbs.log2) := by exact_mod_cast hq
    have hA : n = (if n < 0 then -(n.natAbs : Int) else (n.natAbs : Int)) := by split <;> omega
    clear hf hw hq h hpos h0
    generalize n.natAbs = A at *
    by_cases hn : n < 0
    · simp only [hn, decide_true, if_true] at hA ⊢
      rw [Int.mul_neg, hq', hA, Int.neg_mul]
    · simp only [hn, decide_false, Bool.false_eq_true, if_false] at hA ⊢
      rw [hq', hA]
theorem signed_of (s : Bool) (m k K : Nat) (n : Int) (hk : k ≤ K) (h : 2 * (if s then -(m : Int) else (m : Int)) = n * 2 ^ k) : 2 * Ieee.signed s m ((1 - (k : Int)) - (1 - (K : Int))).toNat = n * 2 ^ K := by
  have hsh : ((1 - (k : Int)) - (1 - (K : Int))).toNat = K - k := by omega
  rw [hsh]
  unfold Ieee.signed
  rw [Nat.shiftLeft_eq]
  have e : (2 : Int) ^ K = 2 ^ k * 2 ^ (K - k) := by rw [← Int.pow_add, show k + (K - k) = K by omega]
  rw [e, ← Int.mul_assoc, ← h]
  have hc : ((m * 2 ^ (K - k) : Nat) : Int) = (m : Int) * 2 ^ (K - k) := by push_cast; rfl
  cases s
  · simp only [Bool.false_eq_true, if_false, hc, Int.mul_assoc]
  · simp only [if_true, hc, Int.mul_assoc, Int.neg_mul]
theorem min_place (k l : Nat) : min (1 - (k : Int)) (1 - (l : Int)) = 1 - ((max k l : Nat) : Int) := by omega
theorem compare_of {x y a b P : Int} (hP : 0 < P) (hx : 2 * x = a * P) (hy : 2 * y = b * P) : compare x y = compare a b := by
  rcases Int.lt_trichotomy a b with h | h | h
  · have : a * P < b * P := Int.mul_lt_mul_of_pos_right h hP
    rw [Int.compare_eq_lt.2 h, Int.compare_eq_lt.2 (by omega)]
  · subst h
    have : x = y := by omega
    subst this
    simp
  · have : b * P < a * P := Int.mul_lt_mul_of_pos_right h hP
    rw [Int.compare_eq_gt.2 h, Int.compare_eq_gt.2 (by omega)]
/-- Floats of whole numbers stand to each other as these. -/
theorem order_int (a b : Int) (ha : a.natAbs ≤ 9007199254740992) (hb : b.natAbs ≤ 9007199254740992) : FloatKind.f64.format.order (floatOfInt .f64 a) (floatOfInt .f64 b) = some (compare a b) := by
  obtain ⟨s, m, k, e1, h1, _, _⟩ := read_int a ha
  obtain ⟨t, n, l, e2, h2, _, _⟩ := read_int b hb
  show (Ieee.double.read _).order (Ieee.double.read _) = _
  rw [e1, e2]
  unfold Ieee.Datum.order
  simp only [min_place]
  have hP : (0 : Int) < 2 ^ (max k l) := Int.pow_pos (by omega)
  rw [compare_of hP (signed_of s m k (max k l) a (by omega) h1) (signed_of t n l (max k l) b (by omega) h2)]
theorem order_self (a : Int) (ha : a.natAbs ≤ 9007199254740992) : FloatKind.f64.format.order (floatOfInt .f64 a) (floatOfInt .f64 a) = some .eq := by
  rw [order_int a a ha ha]; simp
theorem order_zero : FloatKind.f64.format.order 0 0 = some .eq := by kernel_rfl
end Go.Proofs.YtfkgmodgkifelaaGreatDoor
