/- Whole numbers as floats: what their words stand for (plain Lean, no program in sight). A cell at the beginning of bytes: one plain function, and that plain.Get and the document's Read both give it. -/
import Derived.Laws.FloatArith
import Derived.KernelRfl
import Derived.Test.YtfkgmodgkifelaaGreatDoorJ07
namespace Go.Proofs.YtfkgmodgkifelaaGreatDoor

theorem log2_of {m k : Nat} (h1 : 2 ^ k ≤ m) (h2 : m < 2 ^ (k + 1)) : m.log2 = k := by
  have hm : m ≠ 0 := by have := Nat.two_pow_pos k; omega
  exact (Nat.log2_eq_iff hm).2 ⟨h1, h2⟩
theorem log2_spec {m : Nat} (hm : 0 < m) : 2 ^ m.log2 ≤ m ∧ m < 2 ^ (m.log2 + 1) := (Nat.log2_eq_iff (by omega)).1 rfl
theorem cut_exact (neg : Bool) (q d m : Nat) (hm : m = q * 2 ^ d) (hd : d ≤ m.log2 + 2) : Ieee.Toward.even.cut neg m d = q := by
  unfold Ieee.Toward.cut
  have hmin : min d (m.log2 + 2) = d := by omega
  have hp := Nat.two_pow_pos d
  simp only [hmin, Nat.one_shiftLeft]
  have h1 : m / 2 ^ d = q := by rw [hm]; exact Nat.mul_div_cancel _ hp
  have h2 : m % 2 ^ d = 0 := by rw [hm]; exact Nat.mul_mod_left _ _
  rw [h1, h2]
  have h3 : decide (2 ^ d < 2 * 0) = false := by simp
  have h4 : (2 ^ d == 2 * 0) = false := by rw [beq_eq_false_iff_ne]; omega
  rw [h3, h4]
  simp
/-- The word of a whole number of up to 53 digits, however it is spelt. -/
theorem nearest_of (neg : Bool) (M K C : Nat) (hC : 0 < C) (hC53 : C ≤ 9007199254740992) (h : 2 * M = C * 2 ^ K) :
    ∃ q : Nat, 2 * q = C * 2 ^ (53 - C.log2) ∧ Ieee.double.nearest neg M (1 - (K : Int)) = Ieee.double.word neg (min ((C.log2 + 1022) * 4503599627370496 + q) Ieee.double.infRung) := by
  obtain ⟨hl1, hl2⟩ := log2_spec hC
  have hL : C.log2 ≤ 53 := by
    apply Nat.le_of_lt_succ
    apply Nat.lt_of_not_le
    intro h54
    have : 2 ^ 54 ≤ 2 ^ C.log2 := Nat.pow_le_pow_right (by omega) h54
    omega
  have h53 : C.log2 = 53 → C = 9007199254740992 := fun h => by rw [h] at hl1; omega
  generalize C.log2 = L at *
  have hpK := Nat.two_pow_pos K
  have hM : 0 < M := by
    rcases Nat.eq_zero_or_pos M with h0 | h0
    · subst h0
      have : 0 < C * 2 ^ K := Nat.mul_pos hC hpK
      omega
    · exact h0
  -- the digits of M
  have hLM : M.log2 + 1 = L + K := by
    have e1 : 2 ^ (L + K) ≤ 2 * M := by rw [h, Nat.pow_add]; exact Nat.mul_le_mul_right _ hl1
    have e2 : 2 * M < 2 ^ (L + K + 1) := by
      rw [h, show L + K + 1 = (L + 1) + K by omega, Nat.pow_add]
      exact Nat.mul_lt_mul_of_pos_right hl2 hpK
    have hpos : 1 ≤ L + K := by
      rcases Nat.eq_zero_or_pos (L + K) with h0 | h0
      · rw [h0] at e2; simp at e2; omega
      · exact h0
    obtain ⟨n, hn⟩ : ∃ n, L + K = n + 1 := ⟨L + K - 1, by omega⟩
    rw [hn] at e1 e2 ⊢
    have := log2_of (m := M) (k := n) (by rw [Nat.pow_succ] at e1; omega) (by rw [Nat.pow_succ] at e2; omega)
    omega
  obtain ⟨q, hq⟩ : ∃ q : Nat, 2 * q = C * 2 ^ (53 - L) := by
    by_cases hl : L = 53
    · have := h53 hl
      subst this
      subst hl
      exact ⟨4503599627370496, by decide⟩
    · refine ⟨C * 2 ^ (52 - L), ?_⟩
      rw [show 53 - L = (52 - L) + 1 by omega, Nat.pow_succ]
      simp only [Nat.mul_comm, Nat.mul_left_comm]
  refine ⟨q, hq, ?_⟩
  unfold Ieee.Format.nearest
  rw [if_neg (by omega)]
  have hleast : Ieee.double.leastPlace = -1074 := by decide
  have hfb : (Ieee.double.fractionBits : Int) = 52 := by decide
  have hbin : Ieee.double.binade = 4503599627370496 := by decide
  have hlast : max ((1 - (K : Int)) + (M.log2 : Int) - (Ieee.double.fractionBits : Int)) Ieee.double.leastPlace = (L : Int) - 52 := by
    rw [hleast, hfb]; omega
  simp only [hlast]
  simp only [hleast, hbin]
  have hup : ((1 - (K : Int)) - ((L : Int) - 52)).toNat = 53 - K - L := by omega
  have hdr : (((L : Int) - 52) - (1 - (K : Int))).toNat = L + K - 53 := by omega
  have hrg : (((L : Int) - 52) - (-1074)).toNat = L + 1022 := by omega
  rw [hup, hdr, hrg, Nat.shiftLeft_eq]
  have hcut : Ieee.Toward.even.cut neg (M * 2 ^ (53 - K - L)) (L + K - 53) = q := by
    by_cases hkl : K + L ≤ 53
    · have hd0 : L + K - 53 = 0 := by omega
      rw [hd0]
      refine cut_exact _ _ _ _ ?_ (by omega)
      have : 2 * (M * 2 ^ (53 - K - L)) = 2 * q := by
        rw [hq, ← Nat.mul_assoc, h, Nat.mul_assoc, ← Nat.pow_add, show K + (53 - K - L) = 53 - L by omega]
      simp; omega
    · have hu0 : 53 - K - L = 0 := by omega
      rw [hu0, Nat.pow_zero, Nat.mul_one]
      refine cut_exact _ _ _ _ ?_ (by omega)
      have : 2 * M = 2 * (q * 2 ^ (L + K - 53)) := by
        rw [h, ← Nat.mul_assoc, hq, Nat.mul_assoc, ← Nat.pow_add, show 53 - L + (L + K - 53) = K by omega]
      omega
  rw [hcut]
/-- What such a word stands for. -/
theorem read_word (neg : Bool) (C q : Nat) (hC : 0 < C) (hC53 : C ≤ 9007199254740992) (hq : 2 * q = C * 2 ^ (53 - C.log2)) :
    Ieee.double.read (Ieee.double.word neg (min ((C.log2 + 1022) * 4503599627370496 + q) Ieee.double.infRung)) = .number neg q (1 - ((53 - C.log2 : Nat) : Int)) := by
  obtain ⟨hl1, hl2⟩ := log2_spec hC
  have hL : C.log2 ≤ 53 := by
    apply Nat.le_of_lt_succ
    apply Nat.lt_of_not_le
    intro h54
    have : 2 ^ 54 ≤ 2 ^ C.log2 := Nat.pow_le_pow_right (by omega) h54
    omega
  generalize C.log2 = L at *
  have hq1 : 4503599627370496 ≤ q := by
    have : 2 ^ 53 ≤ C * 2 ^ (53 - L) := by
      have e : 2 ^ 53 = 2 ^ L * 2 ^ (53 - L) := by rw [← Nat.pow_add, show L + (53 - L) = 53 by omega]
      rw [e]; exact Nat.mul_le_mul_right _ hl1
    omega
  have hq2 : q < 9007199254740992 := by
    have : C * 2 ^ (53 - L) < 2 ^ 54 := by
      have e : 2 ^ 54 = 2 ^ (L + 1) * 2 ^ (53 - L) := by rw [← Nat.pow_add, show L + 1 + (53 - L) = 54 by omega]
      rw [e]; exact Nat.mul_lt_mul_of_pos_right hl2 (Nat.two_pow_pos _)
    omega
  have hinf : Ieee.double.infRung = 9218868437227405312 := by decide
  have hsw : Ieee.double.signWeight = 9223372036854775808 := by decide
  have hbin : Ieee.double.binade = 4503599627370496 := by decide
  have hleast : Ieee.double.leastPlace = -1074 := by decide
  have hmin : min ((L + 1022) * 4503599627370496 + q) Ieee.double.infRung = (L + 1022) * 4503599627370496 + q := by rw [hinf]; omega
  rw [hmin]
  have hneg : (Ieee.double.word neg ((L + 1022) * 4503599627370496 + q) / 9223372036854775808 % 2 == 1) = neg := by
    unfold Ieee.Format.word
    rw [hsw]
    cases neg
    · simp only [Bool.false_eq_true, if_false]; rw [beq_eq_false_iff_ne]; omega
    · simp only [if_true]; rw [beq_iff_eq]; omega
  have hmod : Ieee.double.word neg ((L + 1022) * 4503599627370496 + q) % 9223372036854775808 = (L + 1022) * 4503599627370496 + q := by
    unfold Ieee.Format.word
    rw [hsw]
    cases neg
    · simp only [Bool.false_eq_true, if_false]; omega
    · simp only [if_true]; omega
  unfold Ieee.Format.read
  simp only [hsw, hneg, hmod, hbin, hinf, hleast]
  rw [if_neg (by omega), if_pos (by omega)]
  have e1 : 4503599627370496 + ((L + 1022) * 4503599627370496 + q) % 4503599627370496 = q := by omega
  have e2 : ((L + 1022) * 4503599627370496 + q) / 4503599627370496 = L + 1023 := by omega
  have e3 : (-1074 : Int) + ((L + 1023 - 1 : Nat) : Int) = 1 - ((53 - L : Nat) : Int) := by omega
  rw [e1, e2, e3]
theorem read_zero : Ieee.double.read (floatOfInt .f64 0) = .number false 0 (1 - ((1075 : Nat) : Int)) := by kernel_rfl
/-- A whole number's float: what it stands for. -/
theorem read_int (n : Int) (h : n.natAbs ≤ 9007199254740992) : ∃ (s : Bool) (m k : Nat), Ieee.double.read (floatOfInt .f64 n) = .number s m (1 - (k : Int)) ∧ 2 * (if s then -(m : Int) else (m : Int)) = n * 2 ^ k ∧ (s = true → n < 0) ∧ k ≤ 1075 := by
  by_cases h0 : n = 0
  · subst h0
    obtain ⟨K, hK⟩ : ∃ K : Nat, K = 1075 := ⟨_, rfl⟩
    refine ⟨false, 0, K, ?_, ?_, by simp, by omega⟩
    · rw [hK]; exact read_zero
    · rw [Int.zero_mul]; simp
  · have hpos : 0 < n.natAbs := by omega
    obtain ⟨q, hq, hw⟩ := nearest_of (decide (n < 0)) n.natAbs 1 n.natAbs hpos h (by omega)
    have hf : floatOfInt .f64 n = Ieee.double.nearest (decide (n < 0)) n.natAbs (1 - ((1 : Nat) : Int)) := rfl
    rw [hf, hw, read_word _ _ _ hpos h hq]
    refine ⟨_, _, _, rfl, ?_, by simp, by omega⟩
    have hq' : (2 : Int) * (q : Int) = (n.natAbs : Int) * 2 ^ (53 - n.natAbs.log2) := by exact_mod_cast hq
    have hA : n = (if n < 0 then -(n.natAbs : Int) else (n.natAbs : Int)) := by split <;> omega
    clear hf hw hq h hpos h0
    generalize n.natAbs = A at *
    by_cases hn : n < 0
    · simp only [hn, decide_true, if_true] at hA ⊢
      rw [Int.mul_neg, hq', hA, Int.neg_mul]
    · simp only [hn, decide_false, Bool.false_eq_true, if_false] at hA ⊢
      rw [hq', hA]
theorem signed_of (s : Bool) (m k K : Nat) (n : Int) (hk : k ≤ K) (h : 2 * (if s then -(m : Int) else (m : Int)) = n * 2 ^ k) : 2 * Ieee.signed s m ((1 - (k : Int)) - (1 - (K : Int))).toNat = n * 2 ^ K := by
  have hsh : ((1 - (k : Int)) - (1 - (K : Int))).toNat = K - k := by omega
  rw [hsh]
  unfold Ieee.signed
  rw [Nat.shiftLeft_eq]
  have e : (2 : Int) ^ K = 2 ^ k * 2 ^ (K - k) := by rw [← Int.pow_add, show k + (K - k) = K by omega]
  rw [e, ← Int.mul_assoc, ← h]
  have hc : ((m * 2 ^ (K - k) : Nat) : Int) = (m : Int) * 2 ^ (K - k) := by push_cast; rfl
  cases s
  · simp only [Bool.false_eq_true, if_false, hc, Int.mul_assoc]
  · simp only [if_true, hc, Int.mul_assoc, Int.neg_mul]
theorem min_place (k l : Nat) : min (1 - (k : Int)) (1 - (l : Int)) = 1 - ((max k l : Nat) : Int) := by omega
theorem compare_of {x y a b P : Int} (hP : 0 < P) (hx : 2 * x = a * P) (hy : 2 * y = b * P) : compare x y = compare a b := by
  rcases Int.lt_trichotomy a b with h | h | h
  · have : a * P < b * P := Int.mul_lt_mul_of_pos_right h hP
    rw [Int.compare_eq_lt.2 h, Int.compare_eq_lt.2 (by omega)]
  · subst h
    have : x = y := by omega
    subst this
    simp
  · have : b * P < a * P := Int.mul_lt_mul_of_pos_right h hP
    rw [Int.compare_eq_gt.2 h, Int.compare_eq_gt.2 (by omega)]
/-- Floats of whole numbers stand to each other as these. -/
theorem order_int (a b : Int) (ha : a.natAbs ≤ 9007199254740992) (hb : b.natAbs ≤ 9007199254740992) : FloatKind.f64.format.order (floatOfInt .f64 a) (floatOfInt .f64 b) = some (compare a b) := by
  obtain ⟨s, m, k, e1, h1, _, _⟩ := read_int a ha
  obtain ⟨t, n, l, e2, h2, _, _⟩ := read_int b hb
  show (Ieee.double.read _).order (Ieee.double.read _) = _
  rw [e1, e2]
  unfold Ieee.Datum.order
  simp only [min_place]
  have hP : (0 : Int) < 2 ^ (max k l) := Int.pow_pos (by omega)
  rw [compare_of hP (signed_of s m k (max k l) a (by omega) h1) (signed_of t n l (max k l) b (by omega) h2)]
theorem order_self (a : Int) (ha : a.natAbs ≤ 9007199254740992) : FloatKind.f64.format.order (floatOfInt .f64 a) (floatOfInt .f64 a) = some .eq := by
  rw [order_int a a ha ha]; simp
theorem order_zero : FloatKind.f64.format.order 0 0 = some .eq := by kernel_rfl
end Go.Proofs.YtfkgmodgkifelaaGreatDoor
namespace Go.Proofs.YtfkgmodgkifelaaGreatDoor
open Go.RowKit

/-- The cell, how many bytes it has, the reader's error, what is answered. -/
def gp1 (D : List Nat) : CD × Nat × Nat × Nat :=
  if (num 1 D).2.2 = 0 then (if (num 1 D).1 ≤ 1 then (⟨((num 1 D).1 : Int) == 1, 0, 0, ByteArray.empty, 0, 0⟩, (num 1 D).2.1, 0, 0) else (CD.z, (num 1 D).2.1, 0, 12)) else (CD.z, (num 1 D).2.1, (num 1 D).2.2, (num 1 D).2.2)
def gp2 (D : List Nat) : CD × Nat × Nat × Nat :=
  if (num 8 D).2.2 = 0 then (⟨false, wrap64 ((num 8 D).1 : Nat), 0, ByteArray.empty, 0, 0⟩, (num 8 D).2.1, 0, 0) else (CD.z, (num 8 D).2.1, (num 8 D).2.2, (num 8 D).2.2)
def gp3 (D : List Nat) : CD × Nat × Nat × Nat :=
  if (num 8 D).2.2 = 0 then (⟨false, 0, ((num 8 D).1 : Nat), ByteArray.empty, 0, 0⟩, (num 8 D).2.1, 0, 0) else (CD.z, (num 8 D).2.1, (num 8 D).2.2, (num 8 D).2.2)
def gp4 (D : List Nat) : CD × Nat × Nat × Nat :=
  if (textS 1048576 D).2.2 = 0 then (⟨false, 0, 0, strN (textS 1048576 D).1, 0, 0⟩, (textS 1048576 D).2.1, 0, 0) else (CD.z, (textS 1048576 D).2.1, (textS 1048576 D).2.2, (textS 1048576 D).2.2)
def gp5 (D : List Nat) : CD × Nat × Nat × Nat :=
  if (textS 1048576 D).2.2 = 0 then (if Lib.validD (strN (textS 1048576 D).1).data.toList = true then (⟨false, 0, 0, strN (textS 1048576 D).1, 0, 0⟩, (textS 1048576 D).2.1, 0, 0) else (CD.z, (textS 1048576 D).2.1, 0, 12))
  else (CD.z, (textS 1048576 D).2.1, (textS 1048576 D).2.2, (textS 1048576 D).2.2)
def gp6 (D : List Nat) : CD × Nat × Nat × Nat :=
  if (few D 0).2.2 = 0 then
    (if (few (D.drop (few D 0).2.1) 0).2.2 = 0 then
      (if farB (back (few D 0).1) = true ∨ farB (back (few (D.drop (few D 0).2.1) 0).1) = true then (CD.z, (few D 0).2.1 + (few (D.drop (few D 0).2.1) 0).2.1, 0, 12)
       else (⟨false, 0, 0, ByteArray.empty, floatOfInt .f64 (back (few D 0).1), floatOfInt .f64 (back (few (D.drop (few D 0).2.1) 0).1)⟩, (few D 0).2.1 + (few (D.drop (few D 0).2.1) 0).2.1, 0, 0))
     else (CD.z, (few D 0).2.1, (few (D.drop (few D 0).2.1) 0).2.2, (few (D.drop (few D 0).2.1) 0).2.2))
  else (CD.z, 0, (few D 0).2.2, (few D 0).2.2)
def gp (k : Int) (D : List Nat) : CD × Nat × Nat × Nat :=
  if k = 1 then gp1 D else if k = 2 then gp2 D else if k = 3 then gp3 D else if k = 4 then gp4 D else if k = 5 then gp5 D else gp6 D
theorem num_err (n : Nat) (D : List Nat) : (num n D).2.2 = 0 ∨ num n D = (0, 0, 10) := by
  unfold num; split
  · exact .inr rfl
  · exact .inl rfl
theorem num_le (n : Nat) (D : List Nat) : (num n D).2.1 ≤ D.length := by unfold num; split <;> simp <;> omega
theorem textS_err (m : Int) (D : List Nat) : (textS m D).2.2 = 0 ∨ (0 < (textS m D).2.2 ∧ (textS m D).1 = [] ∧ (textS m D).2.1 = 0) := by
  unfold textS
  split
  · split
    · exact .inr ⟨by simp, rfl, rfl⟩
    · split
      · exact .inr ⟨by simp, rfl, rfl⟩
      · exact .inl rfl
  · exact .inr ⟨by simp; omega, rfl, rfl⟩
theorem few_le0 (D : List Nat) : (few D 0).2.1 ≤ D.length := by
  rcases few_err D 0 with h | h | h
  · exact (few_le D 0 h).1
  · rw [h]; simp
  · rw [h]; simp
theorem textS_le (m : Int) (D : List Nat) : (textS m D).2.1 ≤ D.length ∧ (textS m D).1.length ≤ D.length := by
  unfold textS
  have := few_le0 D
  split
  · split
    · simp
    · split
      · simp
      · simp; omega
  · simp
theorem gp_le (k : Int) (D : List Nat) : (gp k D).2.1 ≤ D.length := by
  unfold gp
  split
  · unfold gp1; have := num_le 1 D; split
    · split <;> exact this
    · exact this
  · split
    · unfold gp2; have := num_le 8 D; split <;> exact this
    · split
      · unfold gp3; have := num_le 8 D; split <;> exact this
      · split
        · unfold gp4; have := (textS_le 1048576 D).1; split <;> exact this
        · split
          · unfold gp5; have := (textS_le 1048576 D).1; split
            · split <;> exact this
            · exact this
          · unfold gp6
            have h1 := few_le0 D
            have h2 := few_le0 (D.drop (few D 0).2.1)
            rw [List.length_drop] at h2
            split
            · split
              · split
                · show _ + _ ≤ _; omega
                · show _ + _ ≤ _; omega
              · exact h1
            · show 0 ≤ _; omega
theorem gp_z (k : Int) (D : List Nat) : (gp k D).2.2.2 = 0 ∨ (gp k D).1 = CD.z := by
  unfold gp
  repeat' split
  · unfold gp1; repeat' split
    all_goals first | exact .inl rfl | exact .inr rfl
  · unfold gp2; repeat' split
    all_goals first | exact .inl rfl | exact .inr rfl
  · unfold gp3; repeat' split
    all_goals first | exact .inl rfl | exact .inr rfl
  · unfold gp4; repeat' split
    all_goals first | exact .inl rfl | exact .inr rfl
  · unfold gp5; repeat' split
    all_goals first | exact .inl rfl | exact .inr rfl
  · unfold gp6; repeat' split
    all_goals first | exact .inl rfl | exact .inr rfl
theorem e_ite {c : Prop} [Decidable c] {a b : CD × Nat × Nat × Nat} (ha : a.2.2.2 = 0 → a.2.2.1 = 0) (hb : b.2.2.2 = 0 → b.2.2.1 = 0) : (if c then a else b).2.2.2 = 0 → (if c then a else b).2.2.1 = 0 := by
  by_cases h : c
  · rw [if_pos h]; exact ha
  · rw [if_neg h]; exact hb
theorem gp_e (k : Int) (D : List Nat) : (gp k D).2.2.2 = 0 → (gp k D).2.2.1 = 0 := by
  unfold gp gp1 gp2 gp3 gp4 gp5 gp6
  repeat' (apply e_ite)
  all_goals (intro h; first | rfl | exact h)
/-- The parts of a point are themselves (no NaN). -/
def CD.num (c : CD) : Prop := FloatKind.f64.format.order c.p c.p = some .eq ∧ FloatKind.f64.format.order c.q c.q = some .eq
theorem far_abs {x : Int} (h : ¬ farB x = true) : x.natAbs ≤ 9007199254740992 := by
  unfold farB at h
  rw [decide_eq_true_eq] at h
  omega
theorem num_mk (b : Bool) (x u : Int) (t : ByteArray) (p q : Nat) (h1 : FloatKind.f64.format.order p p = some .eq) (h2 : FloatKind.f64.format.order q q = some .eq) : (⟨b, x, u, t, p, q⟩ : CD).num := ⟨h1, h2⟩
theorem num_z : CD.z.num := num_mk _ _ _ _ _ _ order_zero order_zero
theorem num_ite {c : Prop} [Decidable c] {a b : CD × Nat × Nat × Nat} (ha : c → a.1.num) (hb : ¬ c → b.1.num) : (if c then a else b).1.num := by
  by_cases h : c
  · rw [if_pos h]; exact ha h
  · rw [if_neg h]; exact hb h
theorem gp6_num (D : List Nat) : (gp6 D).1.num := by
  unfold gp6
  refine num_ite (fun _ => num_ite (fun _ => num_ite (fun _ => num_z) (fun hf => ?_)) (fun _ => num_z)) (fun _ => num_z)
  rw [not_or] at hf
  exact num_mk _ _ _ _ _ _ (order_self _ (far_abs hf.1)) (order_self _ (far_abs hf.2))
theorem gp_num (k : Int) (D : List Nat) : (gp k D).1.num := by
  unfold gp
  refine num_ite (fun _ => ?_) (fun _ => num_ite (fun _ => ?_) (fun _ => num_ite (fun _ => ?_) (fun _ => num_ite (fun _ => ?_) (fun _ => num_ite (fun _ => ?_) (fun _ => gp6_num D)))))
  · unfold gp1; exact num_ite (fun _ => num_ite (fun _ => num_mk _ _ _ _ _ _ order_zero order_zero) (fun _ => num_z)) (fun _ => num_z)
  · unfold gp2; exact num_ite (fun _ => num_mk _ _ _ _ _ _ order_zero order_zero) (fun _ => num_z)
  · unfold gp3; exact num_ite (fun _ => num_mk _ _ _ _ _ _ order_zero order_zero) (fun _ => num_z)
  · unfold gp4; exact num_ite (fun _ => num_mk _ _ _ _ _ _ order_zero order_zero) (fun _ => num_z)
  · unfold gp5; exact num_ite (fun _ => num_ite (fun _ => num_mk _ _ _ _ _ _ order_zero order_zero) (fun _ => num_z)) (fun _ => num_z)
theorem wrap0 : wrap64 ((0 : Nat) : Int) = 0 := by simp [wrap64]
/-- The document's answer, at any kind. -/
theorem sread_all (k : Int) (h1 : 1 ≤ k) (h6 : k ≤ 6) (s : ByteArray) (hs : s.size ≤ maxLen) (w : World) (hT : Tabs w) :
    Calls Tryz.prog 97 #[.int .i64 k, .string s] w (SPost w (gp k (bn s)).1.v (gp k (bn s)).2.1 (gp k (bn s)).2.2.2) := by
  have hk : k = 1 ∨ k = 2 ∨ k = 3 ∨ k = 4 ∨ k = 5 ∨ k = 6 := by omega
  rcases hk with rfl | rfl | rfl | rfl | rfl | rfl
  · have e : gp 1 (bn s) = gp1 (bn s) := rfl
    rw [e]
    unfold gp1
    have he := num_err 1 (bn s)
    rcases hn : num 1 (bn s) with ⟨x, n, er⟩
    rw [hn] at he
    simp only [Prod.mk.injEq] at he ⊢
    by_cases h0 : er = 0
    · rw [if_pos h0]
      by_cases hx : x ≤ 1
      · rw [if_pos hx]; exact sread_bool s hs x n er hn _ _ (.inl ⟨h0, hx, rfl, rfl⟩) w
      · rw [if_neg hx]; exact sread_bool s hs x n er hn _ _ (.inr (.inl ⟨h0, by omega, rfl, rfl⟩)) w
    · rw [if_neg h0]; exact sread_bool s hs x n er hn _ _ (.inr (.inr ⟨by omega, (he.resolve_left h0).1, rfl, rfl⟩)) w
  · have e : gp 2 (bn s) = gp2 (bn s) := rfl
    rw [e]
    unfold gp2
    have he := num_err 8 (bn s)
    rcases hn : num 8 (bn s) with ⟨x, n, er⟩
    rw [hn] at he
    simp only [Prod.mk.injEq] at he ⊢
    have K := sread_int s hs x n er hn w
    by_cases h0 : er = 0
    · rw [if_pos h0]; subst h0; exact K
    · rw [if_neg h0]; obtain ⟨rfl, rfl, rfl⟩ := he.resolve_left h0; rw [wrap0] at K; exact K
  · have e : gp 3 (bn s) = gp3 (bn s) := rfl
    rw [e]
    unfold gp3
    have he := num_err 8 (bn s)
    rcases hn : num 8 (bn s) with ⟨x, n, er⟩
    rw [hn] at he
    simp only [Prod.mk.injEq] at he ⊢
    have K := sread_uint s hs x n er hn w
    by_cases h0 : er = 0
    · rw [if_pos h0]; subst h0; exact K
    · rw [if_neg h0]; obtain ⟨rfl, rfl, rfl⟩ := he.resolve_left h0; exact K
  · have e : gp 4 (bn s) = gp4 (bn s) := rfl
    rw [e]
    unfold gp4
    have he := textS_err 1048576 (bn s)
    rcases hn : textS 1048576 (bn s) with ⟨x, n, er⟩
    rw [hn] at he
    simp only at he ⊢
    have K := sread_bytes s hs x n er hn w
    by_cases h0 : er = 0
    · rw [if_pos h0]; subst h0; exact K
    · rw [if_neg h0]
      obtain ⟨_, rfl, _⟩ := he.resolve_left h0
      rw [strN_nil] at K
      exact K
  · have e : gp 5 (bn s) = gp5 (bn s) := rfl
    rw [e]
    unfold gp5
    have he := textS_err 1048576 (bn s)
    have hl := (textS_le 1048576 (bn s)).2
    rw [bn_len] at hl
    rcases hn : textS 1048576 (bn s) with ⟨x, n, er⟩
    rw [hn] at he hl
    simp only at he hl ⊢
    by_cases h0 : er = 0
    · rw [if_pos h0]
      by_cases hv : Lib.validD (strN x).data.toList = true
      · rw [if_pos hv]; exact sread_text s hs x hl n er hn _ _ (.inl ⟨h0, hv, rfl, rfl⟩) w hT
      · rw [if_neg hv]; exact sread_text s hs x hl n er hn _ _ (.inr (.inl ⟨h0, by simpa using hv, rfl, rfl⟩)) w hT
    · rw [if_neg h0]
      obtain ⟨hp, hx, _⟩ := he.resolve_left h0
      exact sread_text s hs x hl n er hn _ _ (.inr (.inr ⟨hp, hx, rfl, rfl⟩)) w hT
  · have e : gp 6 (bn s) = gp6 (bn s) := rfl
    rw [e]
    unfold gp6
    rcases hn : few (bn s) 0 with ⟨x, n, er⟩
    simp only
    rcases hm : few ((bn s).drop n) 0 with ⟨y, m, fr⟩
    simp only
    by_cases h0 : er = 0
    · rw [if_pos h0]
      by_cases h00 : fr = 0
      · rw [if_pos h00]
        by_cases hf : farB (back x) = true ∨ farB (back y) = true
        · rw [if_pos hf]
          refine sread_point s hs x n er y m fr hn hm _ _ _ (.inr (.inr (.inr ⟨h0, h00, ?_, rfl, rfl, rfl⟩))) w
          cases ha : farB (back x)
          · exact .inr ⟨rfl, by rw [ha] at hf; simpa using hf⟩
          · exact .inl rfl
        · rw [if_neg hf]
          rw [not_or] at hf
          exact sread_point s hs x n er y m fr hn hm _ _ _ (.inr (.inr (.inl ⟨h0, h00, by simpa using hf.1, by simpa using hf.2, rfl, rfl, rfl⟩))) w
      · rw [if_neg h00]; exact sread_point s hs x n er y m fr hn hm _ _ _ (.inr (.inl ⟨h0, by omega, rfl, rfl, rfl⟩)) w
    · rw [if_neg h0]; exact sread_point s hs x n er y m fr hn hm _ _ _ (.inl ⟨by omega, rfl, rfl, rfl⟩) w
theorem st_at (s : ByteArray) (p : Nat) (f : List Nat → Nat × Nat × Nat) : st s p 0 f = ((f ((bn s).drop p)).1, p + (f ((bn s).drop p)).2.1, (f ((bn s).drop p)).2.2) := by
  unfold st; rw [if_pos rfl]
theorem stT_at (s : ByteArray) (p : Nat) (f : List Nat → List Nat × Nat × Nat) : stT s p 0 f = ((f ((bn s).drop p)).1, p + (f ((bn s).drop p)).2.1, (f ((bn s).drop p)).2.2) := by
  unfold stT; rw [if_pos rfl]
theorem rd_alloc {w : World} {R : Nat} {s : ByteArray} {p : Nat} (h : Rd w R s p 0) (o : Obj) : Rd (w.alloc o) R s p 0 := h.below ((Below.refl _ _).alloc (Nat.le_refl _) _)
/-- plain.Get, at any kind. -/
theorem gget_all (k : Int) (h1 : 1 ≤ k) (h6 : k ≤ 6) (R : Nat) (s : ByteArray) (p : Nat) (hs : s.size ≤ maxLen) (hp : p ≤ s.size) (w : World) (h : Rd w R s p 0) (hT : Tabs w) :
    Calls Tryz.prog 109 #[.pointer (some ⟨R, 0, none⟩), .int .i64 k] w
      (GPost R w s (gp k ((bn s).drop p)).1.v (gp k ((bn s).drop p)).2.2.2 (p + (gp k ((bn s).drop p)).2.1) (gp k ((bn s).drop p)).2.2.1) := by
  have hk : k = 1 ∨ k = 2 ∨ k = 3 ∨ k = 4 ∨ k = 5 ∨ k = 6 := by omega
  rcases hk with rfl | rfl | rfl | rfl | rfl | rfl
  · have e : gp 1 ((bn s).drop p) = gp1 ((bn s).drop p) := rfl
    rw [e]
    unfold gp1
    have HK := fun o => pread_bool R s p hs hp (w.alloc o) (rd_alloc h o)
    rw [st_at] at HK
    have he := num_err 1 ((bn s).drop p)
    rcases hn : num 1 ((bn s).drop p) with ⟨x, n, er⟩
    rw [hn] at he HK
    simp only [Prod.mk.injEq] at he HK ⊢
    by_cases h0 : er = 0
    · rw [if_pos h0]
      subst h0
      by_cases hx : x ≤ 1
      · rw [if_pos hx]
        rw [show decide ((x : Int) ≤ 1) = true by rw [decide_eq_true_eq]; omega] at HK
        exact pget_of 1 h1 h6 R s p _ _ _ _ _ _ _ _ _ w h _ _ (.inl ⟨rfl, rfl, rfl, rfl⟩) HK
      · rw [if_neg hx]
        rw [show decide ((x : Int) ≤ 1) = false by rw [decide_eq_false_iff_not]; omega] at HK
        exact pget_of 1 h1 h6 R s p _ _ _ _ _ _ _ _ _ w h _ _ (.inr (.inl ⟨rfl, rfl, rfl, rfl⟩)) HK
    · rw [if_neg h0]
      have hpos : 0 < er := by omega
      exact pget_of 1 h1 h6 R s p _ _ _ _ _ _ _ _ _ w h _ _ (.inr (.inr ⟨hpos, rfl, rfl⟩)) HK
  · have e : gp 2 ((bn s).drop p) = gp2 ((bn s).drop p) := rfl
    rw [e]
    unfold gp2
    have HK := fun o => pread_int R s p hs hp (w.alloc o) (rd_alloc h o)
    rw [st_at] at HK
    rcases hn : num 8 ((bn s).drop p) with ⟨x, n, er⟩
    rw [hn] at HK
    simp only at HK ⊢
    by_cases h0 : er = 0
    · rw [if_pos h0]
      subst h0
      exact pget_of 2 h1 h6 R s p _ _ _ _ _ _ _ _ _ w h _ _ (.inl ⟨rfl, rfl, rfl, rfl⟩) HK
    · rw [if_neg h0]
      have hpos : 0 < er := by omega
      exact pget_of 2 h1 h6 R s p _ _ _ _ _ _ _ _ _ w h _ _ (.inr (.inr ⟨hpos, rfl, rfl⟩)) HK
  · have e : gp 3 ((bn s).drop p) = gp3 ((bn s).drop p) := rfl
    rw [e]
    unfold gp3
    have HK := fun o => pread_uint R s p hs hp (w.alloc o) (rd_alloc h o)
    rw [st_at] at HK
    rcases hn : num 8 ((bn s).drop p) with ⟨x, n, er⟩
    rw [hn] at HK
    simp only at HK ⊢
    by_cases h0 : er = 0
    · rw [if_pos h0]
      subst h0
      exact pget_of 3 h1 h6 R s p _ _ _ _ _ _ _ _ _ w h _ _ (.inl ⟨rfl, rfl, rfl, rfl⟩) HK
    · rw [if_neg h0]
      have hpos : 0 < er := by omega
      exact pget_of 3 h1 h6 R s p _ _ _ _ _ _ _ _ _ w h _ _ (.inr (.inr ⟨hpos, rfl, rfl⟩)) HK
  · have e : gp 4 ((bn s).drop p) = gp4 ((bn s).drop p) := rfl
    rw [e]
    unfold gp4
    have HK := fun o => pread_bytes R s p hs hp (w.alloc o) (rd_alloc h o)
    rw [stT_at] at HK
    rcases hn : textS 1048576 ((bn s).drop p) with ⟨x, n, er⟩
    rw [hn] at HK
    simp only at HK ⊢
    by_cases h0 : er = 0
    · rw [if_pos h0]
      subst h0
      exact pget_of 4 h1 h6 R s p _ _ _ _ _ _ _ _ _ w h _ _ (.inl ⟨rfl, rfl, rfl, rfl⟩) HK
    · rw [if_neg h0]
      have hpos : 0 < er := by omega
      exact pget_of 4 h1 h6 R s p _ _ _ _ _ _ _ _ _ w h _ _ (.inr (.inr ⟨hpos, rfl, rfl⟩)) HK
  · have e : gp 5 ((bn s).drop p) = gp5 ((bn s).drop p) := rfl
    rw [e]
    unfold gp5
    have hl := (textS_le 1048576 ((bn s).drop p)).2
    rw [List.length_drop, bn_len] at hl
    have hst := stT_at s p (textS 1048576)
    rcases hn : textS 1048576 ((bn s).drop p) with ⟨x, n, er⟩
    rw [hn] at hl hst
    simp only at hl hst ⊢
    have HK := fun o => pread_text R s p hs hp (w.alloc o) (rd_alloc h o) (hT.below ((Below.refl _ _).alloc (Nat.le_refl _) _)) x (by omega) _ _ hst
    by_cases h0 : er = 0
    · rw [if_pos h0]
      subst h0
      by_cases hv : Lib.validD (strN x).data.toList = true
      · rw [if_pos hv]
        rw [hv] at HK
        exact pget_of 5 h1 h6 R s p _ _ _ _ _ _ _ _ _ w h _ _ (.inl ⟨rfl, rfl, rfl, rfl⟩) HK
      · rw [if_neg hv]
        rw [show Lib.validD (strN x).data.toList = false by simpa using hv] at HK
        exact pget_of 5 h1 h6 R s p _ _ _ _ _ _ _ _ _ w h _ _ (.inr (.inl ⟨rfl, rfl, rfl, rfl⟩)) HK
    · rw [if_neg h0]
      have hpos : 0 < er := by omega
      exact pget_of 5 h1 h6 R s p _ _ _ _ _ _ _ _ _ w h _ _ (.inr (.inr ⟨hpos, rfl, rfl⟩)) HK
  · have e : gp 6 ((bn s).drop p) = gp6 ((bn s).drop p) := rfl
    rw [e]
    unfold gp6
    have hst := st_at s p (fun D => few D 0)
    have hle := few_le0 ((bn s).drop p)
    have herr := few_err ((bn s).drop p) 0
    rw [List.length_drop, bn_len] at hle
    rcases hn : few ((bn s).drop p) 0 with ⟨x, n, er⟩
    rw [hn] at hle herr
    simp only [hn] at hst
    simp only [Prod.mk.injEq] at hle herr ⊢
    have hst2 := st_at s (p + n) (fun D => few D 0)
    rcases hm : few (((bn s).drop p).drop n) 0 with ⟨y, m, fr⟩
    rw [List.drop_drop] at hm
    simp only [hm] at hst2
    simp only
    have back0 : back 0 = 0 := by decide
    have far0 : farB 0 = false := by decide
    by_cases h0 : er = 0
    · rw [if_pos h0]
      subst h0
      have HA : Hid (back (st s p 0 (fun D => few D 0)).1 = back x ∧ (st s p 0 (fun D => few D 0)).2.1 = p + n ∧ (st s p 0 (fun D => few D 0)).2.2 = 0) := by show _ ∧ _; rw [hst]; exact ⟨rfl, rfl, rfl⟩
      have HB : Hid (back (st s (p + n) 0 (fun D => few D 0)).1 = back y ∧ (st s (p + n) 0 (fun D => few D 0)).2.1 = p + n + m ∧ (st s (p + n) 0 (fun D => few D 0)).2.2 = fr) := by show _ ∧ _; rw [hst2]; exact ⟨rfl, rfl, rfl⟩
      by_cases hf : farB (back x) = true ∨ farB (back y) = true
      · have hf' : farB (back x) = true ∨ farB (back x) = false ∧ farB (back y) = true := by
          cases ha : farB (back x)
          · exact .inr ⟨rfl, by rw [ha] at hf; simpa using hf⟩
          · exact .inl rfl
        have HK := fun o => pread_point R s p (p + n) 0 (p + n + m) fr (back x) (back y) hs hp (by omega) (w.alloc o) (rd_alloc h o) HA HB clZ false (.inr ⟨hf', rfl, rfl⟩)
        by_cases h00 : fr = 0
        · rw [if_pos h00, if_pos hf, ← Nat.add_assoc]
          subst h00
          exact pget_of 6 h1 h6 R s p _ _ _ _ _ _ _ _ _ w h _ _ (.inr (.inl ⟨rfl, rfl, rfl, rfl⟩)) HK
        · rw [if_neg h00]
          have hpos : 0 < fr := by omega
          have hm0 : m = 0 := by
            rcases few_err ((bn s).drop (p + n)) 0 with q | q | q
            · rw [hm] at q; exact absurd q h00
            · rw [hm] at q; simp only [Prod.mk.injEq] at q; exact q.2.1
            · rw [hm] at q; simp only [Prod.mk.injEq] at q; exact q.2.1
          subst hm0
          exact pget_of 6 h1 h6 R s p _ _ _ _ _ _ _ _ _ w h _ _ (.inr (.inr ⟨hpos, rfl, rfl⟩)) HK
      · have hf2 := hf
        rw [not_or] at hf2
        have HK := fun o => pread_point R s p (p + n) 0 (p + n + m) fr (back x) (back y) hs hp (by omega) (w.alloc o) (rd_alloc h o) HA HB _ true (.inl ⟨by simpa using hf2.1, by simpa using hf2.2, rfl, rfl⟩)
        by_cases h00 : fr = 0
        · rw [if_pos h00, if_neg hf, ← Nat.add_assoc]
          subst h00
          exact pget_of 6 h1 h6 R s p _ _ _ _ _ _ _ _ _ w h _ _ (.inl ⟨rfl, rfl, rfl, rfl⟩) HK
        · rw [if_neg h00]
          have hpos : 0 < fr := by omega
          have hm0 : m = 0 := by
            rcases few_err ((bn s).drop (p + n)) 0 with q | q | q
            · rw [hm] at q; exact absurd q h00
            · rw [hm] at q; simp only [Prod.mk.injEq] at q; exact q.2.1
            · rw [hm] at q; simp only [Prod.mk.injEq] at q; exact q.2.1
          subst hm0
          exact pget_of 6 h1 h6 R s p _ _ _ _ _ _ _ _ _ w h _ _ (.inr (.inr ⟨hpos, rfl, rfl⟩)) HK
    · rw [if_neg h0]
      have hpos : 0 < er := by omega
      have hxn : x = 0 ∧ n = 0 := by
        rcases herr with q | q | q
        · exact absurd q h0
        · exact ⟨q.1, q.2.1⟩
        · exact ⟨q.1, q.2.1⟩
      obtain ⟨rfl, rfl⟩ := hxn
      have hst3 : st s (p + 0) er (fun D => few D 0) = (0, p + 0, er) := by unfold st; rw [if_neg h0]
      have HA : Hid (back (st s p 0 (fun D => few D 0)).1 = back 0 ∧ (st s p 0 (fun D => few D 0)).2.1 = p + 0 ∧ (st s p 0 (fun D => few D 0)).2.2 = er) := by show _ ∧ _; rw [hst]; exact ⟨rfl, rfl, rfl⟩
      have HB : Hid (back (st s (p + 0) er (fun D => few D 0)).1 = back 0 ∧ (st s (p + 0) er (fun D => few D 0)).2.1 = p + 0 ∧ (st s (p + 0) er (fun D => few D 0)).2.2 = er) := by show _ ∧ _; rw [hst3]; exact ⟨rfl, rfl, rfl⟩
      have HK := fun o => pread_point R s p (p + 0) er (p + 0) er (back 0) (back 0) hs hp (by omega) (w.alloc o) (rd_alloc h o) HA HB _ true (.inl ⟨by rw [back0]; exact far0, by rw [back0]; exact far0, rfl, rfl⟩)
      exact pget_of 6 h1 h6 R s p _ _ _ _ _ _ _ _ _ w h _ _ (.inr (.inr ⟨hpos, rfl, rfl⟩)) HK
end Go.Proofs.YtfkgmodgkifelaaGreatDoor
