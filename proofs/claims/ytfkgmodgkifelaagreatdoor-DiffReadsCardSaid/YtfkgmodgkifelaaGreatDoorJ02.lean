/- Numbers as bytes, in plain lists. -/
namespace Go.Proofs.YtfkgmodgkifelaaGreatDoor
/-- One step of a register by a bit. -/
def hv (x : Nat) : Nat := if x % 2 = 1 then x / 2 ^^^ 0x82f63b78 else x / 2
theorem two32 : (2:Nat) ^ 32 = 4294967296 := by decide
theorem hv_lt {x : Nat} (h : x < 4294967296) : hv x < 4294967296 := by
  unfold hv
  split
  · exact Nat.xor_lt_two_pow (n := 32) (by omega) (by omega)
  · omega
theorem xor_div2 (a b : Nat) : (a ^^^ b) / 2 = a / 2 ^^^ b / 2 := by
  have := Nat.shiftRight_xor_distrib (a := a) (b := b) (i := 1)
  simpa [Nat.shiftRight_eq_div_pow] using this
theorem xor_mod2 (a b : Nat) : (a ^^^ b) % 2 = (a + b) % 2 := by
  have h := Nat.xor_mod_two_pow (a := a) (b := b) (n := 1)
  simp only [Nat.pow_one] at h
  rw [h]
  rcases Nat.mod_two_eq_zero_or_one a with ha | ha <;> rcases Nat.mod_two_eq_zero_or_one b with hb | hb <;> simp [ha, hb, Nat.add_mod]
theorem xor_cancel (a b : Nat) : a ^^^ (a ^^^ b) = b := by rw [← Nat.xor_assoc, Nat.xor_self, Nat.zero_xor]
theorem xor_left_comm' (a b c : Nat) : a ^^^ (b ^^^ c) = b ^^^ (a ^^^ c) := by
  rw [← Nat.xor_assoc, ← Nat.xor_assoc, Nat.xor_comm a b]
theorem hv_xor (a b : Nat) : hv (a ^^^ b) = hv a ^^^ hv b := by
  unfold hv
  rw [xor_div2, xor_mod2]
  rcases Nat.mod_two_eq_zero_or_one a with ha | ha <;> rcases Nat.mod_two_eq_zero_or_one b with hb | hb
  · have : (a + b) % 2 = 0 := by omega
    simp [ha, hb, this]
  · have : (a + b) % 2 = 1 := by omega
    simp [ha, hb, this, Nat.xor_assoc]
  · have : (a + b) % 2 = 1 := by omega
    simp only [ha, hb, this, if_true]
    simp only [Nat.zero_ne_one, if_false]
    rw [Nat.xor_assoc, Nat.xor_assoc, Nat.xor_comm (b / 2)]
  · have : (a + b) % 2 = 0 := by omega
    simp only [ha, hb, this, if_true]
    simp only [Nat.zero_ne_one, if_false]
    rw [Nat.xor_assoc, xor_left_comm' 0x82f63b78, Nat.xor_self, Nat.xor_zero]
theorem hv_zero : hv 0 = 0 := rfl
/-- The register is lost at no step. -/
theorem hv_inj0 {x : Nat} (h : x < 4294967296) (h0 : hv x = 0) : x = 0 := by
  unfold hv at h0
  split at h0
  · exfalso
    have h1 : x / 2 = 0x82f63b78 := by
      have := congrArg (fun y => y ^^^ 0x82f63b78) h0
      simp only [Nat.xor_assoc, Nat.xor_self, Nat.xor_zero, Nat.zero_xor] at this
      exact this
    omega
  · omega

/-- k steps. -/
def hvN : Nat → Nat → Nat
  | 0, x => x
  | k + 1, x => hvN k (hv x)
theorem hvN_0 (x : Nat) : hvN 0 x = x := rfl
theorem hvN_succ (k x : Nat) : hvN (k + 1) x = hvN k (hv x) := rfl
theorem hvN_lt {k x : Nat} (h : x < 4294967296) : hvN k x < 4294967296 := by
  induction k generalizing x with
  | zero => exact h
  | succ k ih => exact ih (hv_lt h)
theorem hvN_xor (k a b : Nat) : hvN k (a ^^^ b) = hvN k a ^^^ hvN k b := by
  induction k generalizing a b with
  | zero => rfl
  | succ k ih => simp only [hvN, hv_xor, ih]
theorem hvN_zero (k : Nat) : hvN k 0 = 0 := by
  induction k with
  | zero => rfl
  | succ k ih => exact ih
theorem hvN_add (j k x : Nat) : hvN (j + k) x = hvN k (hvN j x) := by
  induction j generalizing x with
  | zero => simp [hvN]
  | succ j ih => rw [Nat.succ_add]; exact ih (hv x)
theorem hvN_hv (k x : Nat) : hvN k (hv x) = hv (hvN k x) := by
  induction k generalizing x with
  | zero => rfl
  | succ k ih => exact ih (hv x)
theorem hvN_inj0 {k x : Nat} (h : x < 4294967296) (h0 : hvN k x = 0) : x = 0 := by
  induction k generalizing x with
  | zero => exact h0
  | succ k ih => exact hv_inj0 h (ih (hv_lt h) h0)
theorem hvN_shift (k x : Nat) : hvN k (x * 2 ^ k) = x := by
  induction k generalizing x with
  | zero => simp [hvN]
  | succ k ih =>
    have : hv (x * 2 ^ (k + 1)) = x * 2 ^ k := by
      have e : x * 2 ^ (k + 1) = 2 * (x * 2 ^ k) := by rw [Nat.pow_succ]; ac_rfl
      unfold hv
      rw [e, if_neg (by omega)]
      omega
    simp only [hvN, this, ih]

attribute [irreducible] hvN
/-- A number is its high part and its low part. -/
theorem split_xor (k x : Nat) : x = (x / 2 ^ k * 2 ^ k) ^^^ (x % 2 ^ k) := by
  apply Nat.eq_of_testBit_eq
  intro i
  rw [Nat.testBit_xor, Nat.testBit_mod_two_pow, Nat.mul_comm, Nat.testBit_two_pow_mul]
  by_cases h : i < k
  · simp [h, Nat.not_le.2 h]
  · have h' : k ≤ i := Nat.le_of_not_lt h
    rw [Nat.testBit_div_two_pow]
    simp [h, h', Nat.sub_add_cancel h']

/-- By the table. -/
theorem hv8_split (x : Nat) : hvN 8 x = x / 256 ^^^ hvN 8 (x % 256) := by
  conv => lhs; rw [split_xor 8 x, hvN_xor]
  rw [hvN_shift]

theorem tab_step (r y : Nat) (hy : y < 256) : r / 256 ^^^ hvN 8 (r % 256 ^^^ y) = hvN 8 (r ^^^ y) := by
  have hd : (r ^^^ y) / 256 = r / 256 := by
    have := Nat.shiftRight_xor_distrib (a := r) (b := y) (i := 8)
    simp only [Nat.shiftRight_eq_div_pow] at this
    rw [show (2 : Nat) ^ 8 = 256 from rfl] at this
    rw [this, show y / 256 = 0 by omega, Nat.xor_zero]
  have hm : (r ^^^ y) % 256 = r % 256 ^^^ y := by
    have := Nat.xor_mod_two_pow (a := r) (b := y) (n := 8)
    rw [show (2 : Nat) ^ 8 = 256 from rfl] at this
    rw [this, Nat.mod_eq_of_lt hy]
  rw [hv8_split (r ^^^ y), hd, hm]
/-- The register behind bytes. -/
def reg (x : Nat) : List Nat → Nat
  | [] => x
  | b :: l => reg (hvN 8 (x ^^^ b)) l
def ones : Nat := 4294967295
def more (crc : Nat) (l : List Nat) : Nat := reg (crc ^^^ ones) l ^^^ ones
def crc (l : List Nat) : Nat := more 0 l

theorem reg_append (x : Nat) (l m : List Nat) : reg x (l ++ m) = reg (reg x l) m := by
  induction l generalizing x with
  | nil => rfl
  | cons b l ih => exact ih _
theorem reg_lt {x : Nat} {l : List Nat} (h : x < 4294967296) (hl : ∀ b ∈ l, b < 256) : reg x l < 4294967296 := by
  induction l generalizing x with
  | nil => exact h
  | cons b l ih =>
    have hb := hl b (by simp)
    exact ih (hvN_lt (Nat.xor_lt_two_pow (n := 32) (by omega) (by omega))) (fun c hc => hl c (by simp [hc]))
theorem reg_xor (x y : Nat) (l : List Nat) : reg (x ^^^ y) l = hvN (8 * l.length) x ^^^ reg y l := by
  induction l generalizing x y with
  | nil => simp only [reg, List.length_nil, Nat.mul_zero, hvN_0]
  | cons b l ih =>
    have e : 8 * (b :: l).length = 8 + 8 * l.length := by rw [List.length_cons]; omega
    rw [e, hvN_add, reg, reg, Nat.xor_assoc, hvN_xor 8, ih]
theorem more_append (a : Nat) (l m : List Nat) : more (more a l) m = more a (l ++ m) := by
  unfold more
  rw [Nat.xor_assoc, Nat.xor_self, Nat.xor_zero, reg_append]
/-- Of two parts: the first one's sum, moved on, and the second one's. -/
theorem more_crc (a : Nat) (l : List Nat) : more a l = hvN (8 * l.length) a ^^^ crc l := by
  unfold crc more
  rw [Nat.zero_xor, reg_xor, Nat.xor_assoc]
theorem crc_append (l m : List Nat) : crc (l ++ m) = hvN (8 * m.length) (crc l) ^^^ crc m := by
  rw [← more_crc]; exact (more_append 0 l m).symm

/-- Two lists of one length: the difference of their registers. -/
theorem reg_diff (x : Nat) (l m : List Nat) (h : l.length = m.length) : reg x l ^^^ reg x m = reg 0 (List.zipWith (· ^^^ ·) l m) := by
  suffices H : ∀ (l m : List Nat) (x y : Nat), l.length = m.length → reg x l ^^^ reg y m = reg (x ^^^ y) (List.zipWith (· ^^^ ·) l m) by
    rw [H l m x x h, Nat.xor_self]
  intro l
  induction l with
  | nil =>
    intro m x y h
    cases m with
    | nil => rfl
    | cons c m => simp at h
  | cons b l ih =>
    intro m x y h
    cases m with
    | nil => simp at h
    | cons c m =>
      simp only [List.zipWith_cons_cons, reg]
      rw [ih m _ _ (by simpa using h), ← hvN_xor]
      congr 2
      rw [Nat.xor_assoc, xor_left_comm' b, ← Nat.xor_assoc]
theorem reg_zero_zeros (l : List Nat) (h : ∀ b ∈ l, b = 0) : reg 0 l = 0 := by
  induction l with
  | nil => rfl
  | cons b l ih =>
    have hb := h b (by simp)
    subst hb
    simp only [reg, Nat.xor_self, hvN_zero]
    exact ih (fun c hc => h c (by simp [hc]))
theorem reg_zeros (x : Nat) (l : List Nat) (h : ∀ b ∈ l, b = 0) : reg x l = hvN (8 * l.length) x := by
  have := reg_xor x 0 l
  rw [Nat.xor_zero, reg_zero_zeros l h, Nat.xor_zero] at this
  exact this
theorem hv8_low (x y : Nat) : hvN 8 x ^^^ y = hvN 8 (x ^^^ y * 256) := by
  rw [hvN_xor]
  have := hvN_shift 8 y
  rw [show y * 256 = y * 2 ^ 8 from rfl, this]
/-- Up to four bytes make one number. -/
theorem four (a b c d : Nat) : reg 0 [a, b, c, d] = hvN 32 (a ^^^ (b * 2 ^ 8 ^^^ (c * 2 ^ 16 ^^^ d * 2 ^ 24))) := by
  have a16 : ∀ y, hvN 8 (hvN 8 y) = hvN 16 y := fun y => (hvN_add 8 8 y).symm
  have a24 : ∀ y, hvN 8 (hvN 16 y) = hvN 24 y := fun y => (hvN_add 16 8 y).symm
  have a32 : ∀ y, hvN 8 (hvN 24 y) = hvN 32 y := fun y => (hvN_add 24 8 y).symm
  have b32 : ∀ y, hvN 32 (y * 2 ^ 8) = hvN 24 y := fun y => by rw [show (32 : Nat) = 8 + 24 from rfl, hvN_add, hvN_shift]
  have c32 : ∀ y, hvN 32 (y * 2 ^ 16) = hvN 16 y := fun y => by rw [show (32 : Nat) = 16 + 16 from rfl, hvN_add, hvN_shift]
  have d32 : ∀ y, hvN 32 (y * 2 ^ 24) = hvN 8 y := fun y => by rw [show (32 : Nat) = 24 + 8 from rfl, hvN_add, hvN_shift]
  simp only [reg, Nat.zero_xor, hvN_xor, a16, a24, a32, b32, c32, d32, Nat.xor_assoc]

theorem sub_ones {x : Nat} (h : x < 4294967296) : 4294967295 - x = x ^^^ 4294967295 := by
  apply Nat.eq_of_testBit_eq
  intro i
  have h1 : 4294967295 - x = 2 ^ 32 - (x + 1) := by omega
  have h2 : (4294967295 : Nat) = 2 ^ 32 - 1 := rfl
  rw [h1, Nat.testBit_two_pow_sub_succ (by omega), Nat.testBit_xor, h2, Nat.testBit_two_pow_sub_one]
  by_cases hi : i < 32
  · simp [hi]
  · have : x.testBit i = false := Nat.testBit_lt_two_pow (Nat.lt_of_lt_of_le h (by rw [← two32]; exact Nat.pow_le_pow_right (by omega) (by omega)))
    simp [hi, this]
/-! ### The product of two registers -/
def one31 : Nat := 2147483648
/-- Of the n lowest bits of a, the highest one first. -/
def tmul : Nat → Nat → Nat → Nat
  | 0, _, _ => 0
  | n + 1, a, b => (if a / 2 ^ n % 2 = 1 then b else 0) ^^^ tmul n a (hv b)
theorem tmul_succ (n a b : Nat) : tmul (n + 1) a b = (if a / 2 ^ n % 2 = 1 then b else 0) ^^^ tmul n a (hv b) := rfl
theorem tmul_zero (a b : Nat) : tmul 0 a b = 0 := rfl
theorem tmul_hv (n a b : Nat) : tmul n a (hv b) = hv (tmul n a b) := by
  induction n generalizing b with
  | zero => rw [tmul_zero, tmul_zero, hv_zero]
  | succ n ih =>
    rw [tmul_succ, tmul_succ, hv_xor, ih]
    split <;> simp [hv_zero]
theorem tmul_hvN (n a k b : Nat) : tmul n a (hvN k b) = hvN k (tmul n a b) := by
  induction k generalizing b with
  | zero => rw [hvN_0, hvN_0]
  | succ k ih => rw [hvN_succ, hvN_succ, ih, tmul_hv]
theorem hv_pow (n : Nat) : hv (2 ^ (n + 1)) = 2 ^ n := by
  have : 2 ^ (n + 1) = 2 * 2 ^ n := by rw [Nat.pow_succ]; omega
  unfold hv
  rw [this, if_neg (by omega)]
  omega
theorem tmul_pow (n a : Nat) : tmul (n + 1) a (2 ^ n) = a % 2 ^ (n + 1) := by
  induction n with
  | zero =>
    rw [tmul_succ, tmul_zero, Nat.xor_zero]
    simp only [Nat.pow_zero, Nat.div_one, Nat.zero_add, Nat.pow_one]
    split <;> omega
  | succ n ih =>
    rw [tmul_succ, hv_pow, ih]
    conv => rhs; rw [split_xor (n + 1) (a % 2 ^ (n + 1 + 1))]
    have h1 : a % 2 ^ (n + 1 + 1) % 2 ^ (n + 1) = a % 2 ^ (n + 1) := Nat.mod_mod_of_dvd a (Nat.pow_dvd_pow 2 (by omega))
    have h2 : a % 2 ^ (n + 1 + 1) / 2 ^ (n + 1) = a / 2 ^ (n + 1) % 2 := by
      rw [Nat.pow_succ 2 (n + 1), Nat.mod_mul_right_div_self]
    rw [h1, h2]
    congr 1
    rcases Nat.mod_two_eq_zero_or_one (a / 2 ^ (n + 1)) with h | h <;> simp [h]
theorem tmul_one {a : Nat} (h : a < 4294967296) : tmul 32 a one31 = a := by
  have := tmul_pow 31 a
  rw [show (2 : Nat) ^ 31 = one31 from rfl, show (2 : Nat) ^ (31 + 1) = 4294967296 from rfl, Nat.mod_eq_of_lt h] at this
  exact this
theorem one31_lt : one31 < 4294967296 := by decide
/-- By a power: moved on. -/
theorem tmul_moved {a : Nat} (h : a < 4294967296) (k : Nat) : tmul 32 a (hvN k one31) = hvN k a := by rw [tmul_hvN, tmul_one h]
theorem tmul_powers (j k : Nat) : tmul 32 (hvN j one31) (hvN k one31) = hvN (j + k) one31 := by rw [tmul_moved (hvN_lt one31_lt), hvN_add]
theorem tmul_lt {n a b : Nat} (h : b < 4294967296) : tmul n a b < 4294967296 := by
  induction n generalizing b with
  | zero => rw [tmul_zero]; omega
  | succ n ih =>
    rw [tmul_succ]
    refine Nat.xor_lt_two_pow (n := 32) ?_ (ih (hv_lt h))
    split <;> omega

/-! ### The table of a seed -/
def two64 : Nat := 18446744073709551616
def gstep : Nat := 11400714819323198485
def mixA (x : Nat) : Nat := (x ^^^ x / 1073741824) * 13787848793156543929 % 18446744073709551616
def mixB (x : Nat) : Nat := (x ^^^ x / 134217728) * 10723151780598845931 % 18446744073709551616
def mixC (x : Nat) : Nat := x ^^^ x / 2147483648
def mix (x : Nat) : Nat := mixC (mixB (mixA x))
/-- The seed, moved on k times. -/
def sd (seed k : Nat) : Nat := (seed + k * gstep) % 18446744073709551616
def gear (seed i : Nat) : Nat := mix (sd seed (i + 1))
theorem sd_lt (seed k : Nat) : sd seed k < 18446744073709551616 := Nat.mod_lt _ (by decide)
theorem sd_succ (seed k : Nat) : (sd seed k + 11400714819323198485) % 18446744073709551616 = sd seed (k + 1) := by
  unfold sd gstep
  rw [Nat.mod_add_mod, Nat.add_assoc, Nat.succ_mul]
/-- The seed, moved on once. -/
def nxt (s : Nat) : Nat := (s + 11400714819323198485) % 18446744073709551616
theorem nxt_lt (s : Nat) : nxt s < 18446744073709551616 := Nat.mod_lt _ (by decide)
theorem nxt_sd (seed k : Nat) : nxt (sd seed k) = sd seed (k + 1) := sd_succ seed k
theorem sd_zero {seed : Nat} (h : seed < 18446744073709551616) : sd seed 0 = seed := by
  unfold sd; rw [Nat.zero_mul, Nat.add_zero, Nat.mod_eq_of_lt h]
theorem xs_lt {x s : Nat} (h : x < 18446744073709551616) : x ^^^ x / s < 18446744073709551616 :=
  Nat.xor_lt_two_pow (n := 64) h (Nat.lt_of_le_of_lt (Nat.div_le_self _ _) h)
theorem mixA_lt (x : Nat) : mixA x < 18446744073709551616 := Nat.mod_lt _ (by decide)
theorem mixB_lt (x : Nat) : mixB x < 18446744073709551616 := Nat.mod_lt _ (by decide)
theorem gear_lt (seed i : Nat) : gear seed i < 18446744073709551616 := xs_lt (mixB_lt _)
/-- A rolling sum. -/
def roll (h g : Nat) : Nat := (2 * h + g) % 18446744073709551616
def rollAll (f : Nat → Nat) : Nat → List Nat → Nat
  | h, [] => h
  | h, b :: l => rollAll f (roll h (f b)) l
theorem roll_lt (h g : Nat) : roll h g < 18446744073709551616 := Nat.mod_lt _ (by decide)
theorem rollAll_append (f : Nat → Nat) (h : Nat) (l m : List Nat) : rollAll f h (l ++ m) = rollAll f (rollAll f h l) m := by
  induction l generalizing h with
  | nil => rfl
  | cons b l ih => exact ih _
theorem rollAll_lt (f : Nat → Nat) {h : Nat} (l : List Nat) (hh : h < 18446744073709551616) : rollAll f h l < 18446744073709551616 := by
  induction l generalizing h with
  | nil => exact hh
  | cons b l ih => exact ih (roll_lt _ _)
/-- What was there ahead is moved out. -/
theorem rollAll_mod (f : Nat → Nat) (h k : Nat) (l : List Nat) : rollAll f ((h + k) % 18446744073709551616) l % 18446744073709551616 = (rollAll f k l + 2 ^ l.length * h) % 18446744073709551616 := by
  induction l generalizing h k with
  | nil => simp [rollAll, Nat.add_comm]
  | cons b l ih =>
    have e : roll ((h + k) % 18446744073709551616) (f b) = (2 * h + roll k (f b)) % 18446744073709551616 := by
      unfold roll; omega
    rw [rollAll, rollAll, e, ih, List.length_cons, Nat.pow_succ]
    congr 2
    rw [Nat.mul_assoc]
theorem rollAll_forget (f : Nat → Nat) (h k : Nat) (l : List Nat) (hl : 64 ≤ l.length) (hh : h < 18446744073709551616) (hk : k < 18446744073709551616) : rollAll f h l = rollAll f k l := by
  have H : ∀ h, h < 18446744073709551616 → rollAll f h l = rollAll f 0 l := by
    intro h hh
    have := rollAll_mod f h 0 l
    rw [Nat.add_zero, Nat.mod_eq_of_lt hh, Nat.mod_eq_of_lt (rollAll_lt f l hh)] at this
    rw [this]
    have hp : 2 ^ l.length * h = 18446744073709551616 * (2 ^ (l.length - 64) * h) := by
      have : 2 ^ l.length = 18446744073709551616 * 2 ^ (l.length - 64) := by
        rw [show (18446744073709551616 : Nat) = 2 ^ 64 from rfl, ← Nat.pow_add]
        congr 1; omega
      rw [this, Nat.mul_assoc]
    rw [hp, Nat.add_mul_mod_self_left, Nat.mod_eq_of_lt (rollAll_lt f l (by decide))]
  rw [H h hh, H k hk]
theorem mix_eq (x : Nat) : mix x = mixB (mixA x) ^^^ mixB (mixA x) / 2147483648 := rfl
theorem nxt_eq (s : Nat) : (s + 11400714819323198485) % 18446744073709551616 = nxt s := rfl
theorem gear_eq (seed i : Nat) : gear seed i = mix (sd seed (i + 1)) := rfl
attribute [irreducible] mix nxt sd gear
end Go.Proofs.YtfkgmodgkifelaaGreatDoor
namespace Go.Proofs.YtfkgmodgkifelaaGreatDoor

/-- So many bytes of a number, the low one first. -/
def fixN (x : Nat) : Nat → List Nat
  | 0 => []
  | n + 1 => fixN x n ++ [x / 256 ^ n % 256]
theorem fixN_len (x n : Nat) : (fixN x n).length = n := by induction n <;> simp_all [fixN]
theorem fixN_lt (x n : Nat) : ∀ b ∈ fixN x n, b < 256 := by
  induction n with
  | zero => simp [fixN]
  | succ n ih =>
    intro b hb
    simp only [fixN, List.mem_append, List.mem_singleton] at hb
    rcases hb with hb | rfl
    · exact ih b hb
    · omega
/-- The number of bytes, the low one first. -/
def le : List Nat → Nat
  | [] => 0
  | b :: l => b + 256 * le l
theorem le_snoc (l : List Nat) (b : Nat) : le (l ++ [b]) = le l + b * 256 ^ l.length := by
  induction l with
  | nil => simp [le]
  | cons a l ih => simp only [List.cons_append, le, ih, List.length_cons, Nat.pow_succ]; rw [Nat.mul_add, Nat.mul_comm 256 (b * _), Nat.mul_assoc]; omega
theorem le_lt (l : List Nat) (h : ∀ b ∈ l, b < 256) : le l < 256 ^ l.length := by
  induction l with
  | nil => simp [le]
  | cons a l ih =>
    have h1 := h a (by simp)
    have h2 := ih (fun b hb => h b (by simp [hb]))
    simp only [le, List.length_cons, Nat.pow_succ]
    omega
theorem le_fixN (x n : Nat) : le (fixN x n) = x % 256 ^ n := by
  induction n with
  | zero => simp [fixN, le]; omega
  | succ n ih =>
    rw [fixN, le_snoc, ih, fixN_len, Nat.pow_succ, Nat.mod_mul, Nat.mul_comm (256 ^ n)]

/-- A number of few bytes. -/
def uvar (x : Nat) : List Nat := if x < 128 then [x] else (128 + x % 128) :: uvar (x / 128)
theorem uvar_small {x : Nat} (h : x < 128) : uvar x = [x] := by rw [uvar, if_pos h]
theorem uvar_big {x : Nat} (h : ¬ x < 128) : uvar x = (128 + x % 128) :: uvar (x / 128) := by rw [uvar, if_neg h]
theorem uvar_lt (x : Nat) : ∀ b ∈ uvar x, b < 256 := by
  induction x using Nat.strongRecOn with
  | ind x ih =>
    intro b hb
    by_cases h : x < 128
    · rw [uvar_small h] at hb; simp at hb; omega
    · rw [uvar_big h] at hb
      simp only [List.mem_cons] at hb
      rcases hb with rfl | hb
      · omega
      · exact ih _ (by omega) b hb
theorem uvar_len (n : Nat) : ∀ x, x < 128 ^ (n + 1) → (uvar x).length ≤ n + 1 := by
  induction n with
  | zero => intro x hx; rw [uvar_small (by simpa using hx)]; simp
  | succ n ih =>
    intro x hx
    by_cases h : x < 128
    · rw [uvar_small h]; simp
    · rw [uvar_big h]
      have := ih (x / 128) (by rw [Nat.div_lt_iff_lt_mul (by omega)]; rw [Nat.pow_succ] at hx; exact hx)
      simp only [List.length_cons]; omega
theorem uvar_len10 {x : Nat} (h : x < 18446744073709551616) : (uvar x).length ≤ 10 := uvar_len 9 x (by omega)
theorem uvar_pos (x : Nat) : 0 < (uvar x).length := by
  by_cases h : x < 128
  · rw [uvar_small h]; simp
  · rw [uvar_big h]; simp

/-- What is read as a number of few bytes: the number, how many bytes, the error. -/
def few : List Nat → Nat → Nat × Nat × Nat
  | [], _ => (0, 0, 10)
  | b :: bs, i =>
    if (i = 9 ∧ 1 < b) ∨ (0 < i ∧ b = 0) then (0, 0, 12)
    else if b < 128 then (b, 1, 0)
    else if (few bs (i + 1)).2.2 = 0 then (b % 128 + 128 * (few bs (i + 1)).1, (few bs (i + 1)).2.1 + 1, 0)
    else (0, 0, (few bs (i + 1)).2.2)
theorem few_nil (i : Nat) : few [] i = (0, 0, 10) := rfl
theorem few_bad {b : Nat} {bs : List Nat} {i : Nat} (h : (i = 9 ∧ 1 < b) ∨ (0 < i ∧ b = 0)) : few (b :: bs) i = (0, 0, 12) := by rw [few, if_pos h]
theorem few_last {b : Nat} {bs : List Nat} {i : Nat} (h : ¬ ((i = 9 ∧ 1 < b) ∨ (0 < i ∧ b = 0))) (hb : b < 128) : few (b :: bs) i = (b, 1, 0) := by rw [few, if_neg h, if_pos hb]
theorem few_on {b : Nat} {bs : List Nat} {i : Nat} (h : ¬ ((i = 9 ∧ 1 < b) ∨ (0 < i ∧ b = 0))) (hb : ¬ b < 128) : few (b :: bs) i = if (few bs (i + 1)).2.2 = 0 then (b % 128 + 128 * (few bs (i + 1)).1, (few bs (i + 1)).2.1 + 1, 0) else (0, 0, (few bs (i + 1)).2.2) := by rw [few, if_neg h, if_neg hb]
theorem few_err (l : List Nat) : ∀ i, (few l i).2.2 = 0 ∨ (few l i = (0, 0, 10)) ∨ (few l i = (0, 0, 12)) := by
  induction l with
  | nil => intro i; exact .inr (.inl rfl)
  | cons b bs ih =>
    intro i
    by_cases h : (i = 9 ∧ 1 < b) ∨ (0 < i ∧ b = 0)
    · exact .inr (.inr (few_bad h))
    · by_cases hb : b < 128
      · rw [few_last h hb]; exact .inl rfl
      · rw [few_on h hb]
        rcases ih (i + 1) with e | e | e
        · rw [if_pos e]; exact .inl rfl
        · rw [e]; exact .inr (.inl rfl)
        · rw [e]; exact .inr (.inr rfl)
theorem few_le (l : List Nat) : ∀ i, (few l i).2.2 = 0 → (few l i).2.1 ≤ l.length ∧ 0 < (few l i).2.1 := by
  induction l with
  | nil => intro i h; simp [few_nil] at h
  | cons b bs ih =>
    intro i h
    by_cases h1 : (i = 9 ∧ 1 < b) ∨ (0 < i ∧ b = 0)
    · rw [few_bad h1] at h; simp at h
    · by_cases hb : b < 128
      · rw [few_last h1 hb]; simp
      · rw [few_on h1 hb] at h ⊢
        by_cases e : (few bs (i + 1)).2.2 = 0
        · rw [if_pos e]; have := ih (i + 1) e; simp only [List.length_cons]; omega
        · rw [if_neg e] at h; exact absurd h e
/-- At most ten bytes; the number has 64 bits. -/
theorem few_lt (l : List Nat) : ∀ i, i ≤ 9 → (few l i).2.2 = 0 → (few l i).2.1 ≤ 10 - i ∧ (few l i).1 < 2 * 128 ^ (9 - i) := by
  induction l with
  | nil => intro i _ h; simp [few_nil] at h
  | cons b bs ih =>
    intro i hi h
    by_cases h1 : (i = 9 ∧ 1 < b) ∨ (0 < i ∧ b = 0)
    · rw [few_bad h1] at h; simp at h
    · by_cases hb : b < 128
      · rw [few_last h1 hb]
        refine ⟨by simp; omega, ?_⟩
        by_cases h9 : i = 9
        · subst h9; simp; omega
        · obtain ⟨j, hj⟩ : ∃ j, 9 - i = j + 1 := ⟨8 - i, by omega⟩
          rw [hj, Nat.pow_succ]
          have : 0 < 128 ^ j := Nat.pow_pos (by omega)
          show b < _
          omega
      · rw [few_on h1 hb] at h ⊢
        by_cases e : (few bs (i + 1)).2.2 = 0
        · rw [if_pos e]
          have h9 : i ≠ 9 := by omega
          have := ih (i + 1) (by omega) e
          obtain ⟨j, hj⟩ : ∃ j, 9 - i = j + 1 := ⟨8 - i, by omega⟩
          have hj' : 9 - (i + 1) = j := by omega
          rw [hj'] at this
          rw [hj, Nat.pow_succ]
          refine ⟨by show _ + 1 ≤ _; omega, ?_⟩
          show b % 128 + 128 * _ < _
          omega
        · rw [if_neg e] at h; exact absurd h e
theorem few_lt64 (l : List Nat) : (few l 0).1 < 18446744073709551616 := by
  by_cases e : (few l 0).2.2 = 0
  · have := (few_lt l 0 (by omega) e).2; simpa using this
  · rcases few_err l 0 with h | h | h
    · exact absurd h e
    · rw [h]; decide
    · rw [h]; decide
/-- What was written is read. -/
theorem few_uvar (n : Nat) : ∀ (i x : Nat) (rest : List Nat), i + n = 9 → x < 2 * 128 ^ n → (0 < i → 0 < x) → few (uvar x ++ rest) i = (x, (uvar x).length, 0) := by
  induction n with
  | zero =>
    intro i x rest hi hx hp
    have := hp (by omega)
    have : x = 1 := by simp at hx; omega
    subst this
    rw [uvar_small (by omega)]
    exact few_last (by omega) (by omega)
  | succ n ih =>
    intro i x rest hi hx hp
    by_cases h : x < 128
    · rw [uvar_small h]
      exact few_last (by omega) h
    · rw [uvar_big h, List.cons_append, few_on (by omega) (by omega)]
      rw [ih (i + 1) (x / 128) rest (by omega) (by rw [Nat.div_lt_iff_lt_mul (by omega)]; rw [Nat.pow_succ] at hx; omega) (by omega)]
      rw [if_pos rfl]
      simp only [List.length_cons]
      congr 1
      omega
theorem few_uvar0 (x : Nat) (hx : x < 18446744073709551616) (rest : List Nat) : few (uvar x ++ rest) 0 = (x, (uvar x).length, 0) := few_uvar 9 0 x rest rfl (by simpa using hx) (by omega)
/-- A beginning of it is short. -/
theorem few_cut (n : Nat) : ∀ (i x c : Nat), i + n = 9 → x < 2 * 128 ^ n → (0 < i → 0 < x) → c < (uvar x).length → few ((uvar x).take c) i = (0, 0, 10) := by
  induction n with
  | zero =>
    intro i x c hi hx hp hc
    have := hp (by omega)
    have : x = 1 := by simp at hx; omega
    subst this
    rw [uvar_small (by omega)] at hc ⊢
    simp at hc
    subst hc
    exact few_nil _
  | succ n ih =>
    intro i x c hi hx hp hc
    by_cases h : x < 128
    · rw [uvar_small h] at hc ⊢
      simp at hc
      subst hc
      exact few_nil _
    · rw [uvar_big h] at hc ⊢
      match c with
      | 0 => exact few_nil _
      | c + 1 =>
        rw [List.take_succ_cons, few_on (by omega) (by omega)]
        rw [ih (i + 1) (x / 128) c (by omega) (by rw [Nat.div_lt_iff_lt_mul (by omega)]; rw [Nat.pow_succ] at hx; omega) (by omega) (by simpa using hc)]
        simp
theorem few_cut0 (x c : Nat) (hx : x < 18446744073709551616) (hc : c < (uvar x).length) : few ((uvar x).take c) 0 = (0, 0, 10) := few_cut 9 0 x c rfl (by simpa using hx) (by omega) hc
/-- One form: what is read is what would be written. -/
theorem few_one (l : List Nat) : ∀ i, (∀ b ∈ l, b < 256) → (few l i).2.2 = 0 → l.take (few l i).2.1 = uvar (few l i).1 ∧ (0 < i → 0 < (few l i).1) := by
  induction l with
  | nil => intro i _ h; simp [few_nil] at h
  | cons b bs ih =>
    intro i hl h
    have hb256 := hl b (by simp)
    by_cases h1 : (i = 9 ∧ 1 < b) ∨ (0 < i ∧ b = 0)
    · rw [few_bad h1] at h; simp at h
    · by_cases hb : b < 128
      · rw [few_last h1 hb]
        refine ⟨by rw [uvar_small hb]; rfl, fun hi => ?_⟩
        show 0 < b
        omega
      · rw [few_on h1 hb] at h ⊢
        by_cases e : (few bs (i + 1)).2.2 = 0
        · rw [if_pos e]
          obtain ⟨h2, h3⟩ := ih (i + 1) (fun b hb => hl b (by simp [hb])) e
          have h4 := h3 (by omega)
          refine ⟨?_, fun _ => by show 0 < b % 128 + 128 * _; omega⟩
          show (b :: bs).take (_ + 1) = uvar (b % 128 + 128 * _)
          rw [List.take_succ_cons, h2, uvar_big (x := b % 128 + 128 * (few bs (i + 1)).1) (by omega)]
          congr 1
          · omega
          · congr 1; omega
        · rw [if_neg e] at h; exact absurd h e

/-- A number that may be below 0, as one that may not. -/
def zz (x : Int) : Nat := if x < 0 then (2 * (-1 - x) + 1).toNat else (2 * x).toNat
def back (x : Nat) : Int := if x % 2 = 1 then -1 - (x / 2 : Nat) else (x / 2 : Nat)
theorem back_zz (x : Int) : back (zz x) = x := by unfold back zz; split <;> split <;> omega
theorem zz_back (x : Nat) : zz (back x) = x := by unfold back zz; split <;> split <;> omega
theorem zz_lt {x : Int} (h1 : -9223372036854775808 ≤ x) (h2 : x ≤ 9223372036854775807) : zz x < 18446744073709551616 := by unfold zz; split <;> omega
theorem back_ge {x : Nat} (h : x < 18446744073709551616) : -9223372036854775808 ≤ back x ∧ back x ≤ 9223372036854775807 := by unfold back; split <;> omega
end Go.Proofs.YtfkgmodgkifelaaGreatDoor
