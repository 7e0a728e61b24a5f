/- Cells one behind the other, read: at any kind and any number. Whole numbers as floats: back to whole numbers, and sums. Steps of cells, walked back: what each call of delta.Decode's gives. -/
import Derived.Test.YtfkgmodgkifelaaGreatDoorJ13
import Derived.Test.YtfkgmodgkifelaaGreatDoorJ08
import Derived.WalkLawsBesides
namespace Go.Proofs.YtfkgmodgkifelaaGreatDoor
open Go.RowKit

theorem take_snocD {α : Type} {l : List α} {i : Nat} (hi : i < l.length) (d : α) : l.take (i + 1) = l.take i ++ [l.getD i d] := by
  rw [List.take_succ_eq_append_getElem hi]
  simp [List.getD, hi]
set_option maxHeartbeats 4000000 in
set_option maxRecDepth 100000 in
theorem sdecode_bool (s : ByteArray) (hm : s.size ≤ 1048576) (n : Nat) (hn : n ≤ 10000) (w : World) :
    Calls Tryz.prog 56 #[.int .i64 1, .string s, .int .i64 n] w (DPost w ((unR (bn s) n).1, ((unR (bn s) n).2).map bc)) := by
  have KK := hide (skind_any 1 true (by show _ = _; decide))
  have K := hide (fun w => refunpack_any s hm n w)
  have hn0 : (0 : Int) ≤ (n : Int) := by omega
  have hn1 : (n : Int) ≤ 10000 := by omega
  obtain ⟨i0, hi, hz0, hz1, hz2⟩ := info_parts info_cC
  unfold UnPost at K
  have hlen := unR_len (bn s) n
  have herr := unR_err (bn s) n
  rcases hu : unR (bn s) n with ⟨er, l⟩
  rw [hu] at K hlen herr
  simp only at K hlen herr ⊢
  clear hu hm
  have hl : l.length ≤ 10000 := by
    by_cases h0 : er = 0
    · rw [hlen h0]; exact hn
    · rw [herr h0]; simp
  clear hlen herr
  have hst := fun (w1 : World) (a1 : Addr) (m : Mode) (x y : Nat) => run_store Tryz.prog w1 a1 (.complex .f64 x y) m rfl
  go_enter Tryz.func56, Tryz.ntmps56
  go_wp2_with fail
  refine (KK.out _).mono ?_
  rintro e w0 ⟨rfl, rfl⟩
  go_wp2_with fail
  refine (K.out _).mono ?_
  rintro e w1 ⟨v, rfl, hsl, hb1⟩
  have HB1 := hide hb1
  obtain ⟨hml, hs⟩ := hsl
  clear hb1 hml
  rcases hs with ⟨hn0, a, c, rfl, _⟩ | ⟨hpos, g, o, c, rfl, hc, hg, hcell⟩
  · obtain rfl : l = [] := List.eq_nil_of_length_eq_zero hn0
    clear hn0
    have hl0 : ([] : List Bool).length = 0 := rfl
    go_wp2_with fail
    go_loopw [8, 11] (fun ov iv wr => iv = .int .i64 (0 : Int) ∧ ov = .slice none 0 0 ∧ wr = w1) (fun _ iv _ => 0)
    case atStart => exact ⟨rfl, rfl, rfl⟩
    case round =>
      obtain ⟨rfl, rfl, rfl⟩ := hrel
      go_wp2_with fail
      go_ret2
      exact ⟨_, rfl, inC_nil _, HB1.out⟩
  · have HC := hide hcell
    have HG := hide hg
    clear hcell
    generalize hL : l.length = m at *
    have HL := hide hL
    clear hL
    go_wp2_with fail
    go_loopw [8, 11] (fun ov iv wr => ∃ i : Nat, i ≤ m ∧ iv = .int .i64 (i : Int) ∧ wr.ownsRow w1.heap.size 45 6 ov i (((l.take i).map bc).flatMap cellsC) ∧ Below w1.heap.size w1 wr) (fun _ iv _ => m - (intOf iv).toNat)
    case atStart => exact ⟨0, by omega, rfl, World.ownsRow_nil _ _ _ _, Below.refl _ _⟩
    case round =>
      obtain ⟨i, him, rfl, ha, hbe⟩ := hrel
      obtain ⟨Aa, ca, rfl⟩ := own_form3 ha
      by_cases hlt : i < m
      · have hc1 := (hbe.cell (p := ⟨g, o + i, none⟩) HG.out).trans (HC.out i hlt)
        have HT := hide (take_snocD (l := l) (i := i) (by rw [HL.out]; exact hlt) false)
        have HA := hide ha
        have HBE := hide hbe
        have hi0 : (0 : Int) ≤ (i : Int) := by omega
        have hi1 : (i : Int) < (m : Int) := by omega
        clear ha hbe
        generalize l.getD i false = ui at *
        go_wp2_with (at_builtin; refine wpList_append_own_at _ rfl _ _ 25 rfl w1.heap.size 45 i0 _ 6 56 Tryz.underlying25 hi hz0 hz1 hz2 rfl (by decide) _ _ _ rfl (HA.out.alloc _) ⟨wr.heap.size, 0, none⟩ 1 1 [.bool false, .bool ui, .int .i64 0, .int .u64 0, .string { data := #[] }, .complex .f64 0 0] rfl rfl (World.news_of_block (Blk.new _ _ _).out) (by simp [Value.oneCell']) (by simp only [maxLen]; omega) (by omega) (by simpa using Nat.le_succ_of_le HBE.out.size) ?_; intro v1 w2 hown1 hgrow1 _ hat1)
        have HB3 := hide ((HBE.out.alloc HBE.out.size _).grown hgrow1 (by simpa using Nat.le_succ_of_le HBE.out.size) (fun j hj => (HA.out.lt j hj).1))
        have HA3 : Hid (w2.ownsRow w1.heap.size 45 6 v1 (i + 1) (((l.take (i + 1)).map bc).flatMap cellsC)) := by
          show World.ownsRow _ _ _ _ _ _ _
          rw [HT.out, List.map_append, List.map_singleton, cellsC_snoc]; exact hown1
        clear hown1 hgrow1 hat1 hc1
        go_roundw
        case rel => exact ⟨i + 1, by omega, by go_num, HA3.out, HB3.out⟩
        case measure => simp [intOf] <;> omega
      · obtain rfl : i = m := by omega
        have HA := hide ha
        have HBE := hide hbe
        clear ha hbe
        go_wp2_with fail
        go_ret2
        have hA := HA.out
        rw [List.take_of_length_le (by rw [HL.out]; exact Nat.le_refl _)] at hA
        exact ⟨_, rfl, inC_own hA (by rw [List.length_map, HL.out]), HB1.out.trans (HBE.out.mono HB1.out.size)⟩
/-- So many cells of any kind. -/
def dspec (k : Int) (D : List Nat) (n : Int) : Nat × List CD :=
  if k < 1 ∨ 6 < k then (14, []) else if n < 0 ∨ 10000 < n then (1, []) else if k = 1 then ((unR D n).1, ((unR D n).2).map bc) else decR k D n.toNat
theorem bc_num (b : Bool) : (bc b).num := ⟨order_zero, order_zero⟩
theorem dspec_num (k : Int) (D : List Nat) (n : Int) : ∀ c ∈ (dspec k D n).2, c.num := by
  unfold dspec
  intro c hc
  split at hc
  · cases hc
  · split at hc
    · cases hc
    · split at hc
      · obtain ⟨b, _, rfl⟩ := List.mem_map.1 hc
        exact bc_num b
      · unfold decR at hc
        split at hc
        · split at hc
          · cases hc
          · exact cellsN_num _ _ _ c hc
        · cases hc
theorem dspec_len (k : Int) (D : List Nat) (n : Int) : (dspec k D n).2.length ≤ 10000 := by
  unfold dspec
  split
  · simp
  · split
    · simp
    · obtain ⟨m, rfl⟩ : ∃ m : Nat, n = m := ⟨n.toNat, by omega⟩
      split
      · rw [List.length_map]
        by_cases h0 : (unR D m).1 = 0
        · rw [unR_len D m h0]; omega
        · rw [unR_err D m h0]; simp
      · unfold decR
        split
        · split
          · simp
          · rw [cellsN_len]; omega
        · simp
set_option maxHeartbeats 2000000 in
set_option maxRecDepth 100000 in
theorem pdecode_arg (k : Int) (h1 : 1 ≤ k) (h6 : k ≤ 6) (s : ByteArray) (n : Int) (h : n < 0 ∨ 10000 < n) (w : World) :
    Calls Tryz.prog 88 #[.int .i64 k, .string s, .int .i64 n] w (DPost w (1, [])) := by
  have KI := hide (is_yes k h1 h6)
  clear h1 h6
  rcases h with h | h
  · go_enter Tryz.func88, Tryz.ntmps88
    go_wp2_with fail
    refine (KI.out _).mono ?_
    rintro e w0 ⟨rfl, rfl⟩
    go_wp2_with fail
    go_ret2
    exact ⟨_, rfl, inC_nil _, Below.refl _ _⟩
  · have h0 : ¬ n < 0 := by omega
    have hd : decide (n < 0) = false := by simp; omega
    go_enter Tryz.func88, Tryz.ntmps88
    go_wp2_with fail
    refine (KI.out _).mono ?_
    rintro e w0 ⟨rfl, rfl⟩
    go_wp2_with fail
    go_ret2
    exact ⟨_, rfl, inC_nil _, Below.refl _ _⟩
set_option maxHeartbeats 2000000 in
set_option maxRecDepth 100000 in
theorem pdecode_kind (k : Int) (hk : k < 1 ∨ 6 < k) (s : ByteArray) (n : Int) (w : World) :
    Calls Tryz.prog 88 #[.int .i64 k, .string s, .int .i64 n] w (DPost w (14, [])) := by
  have KI := hide (is_no k hk)
  clear hk
  go_enter Tryz.func88, Tryz.ntmps88
  go_wp2_with fail
  refine (KI.out _).mono ?_
  rintro e w0 ⟨rfl, rfl⟩
  go_wp2_with fail
  go_ret2
  exact ⟨_, rfl, inC_nil _, Below.refl _ _⟩
set_option maxHeartbeats 2000000 in
set_option maxRecDepth 100000 in
theorem pdecode_bool (s : ByteArray) (hm : s.size ≤ maxLen) (n : Nat) (hn : n ≤ 10000) (w : World) :
    Calls Tryz.prog 88 #[.int .i64 1, .string s, .int .i64 n] w (DPost w ((unR (bn s) n).1, ((unR (bn s) n).2).map bc)) := by
  have KI := hide (is_yes 1 (by omega) (by omega))
  have KB := hide (fun w => pbools_any s hm n hn w)
  have hn0 : (0 : Int) ≤ (n : Int) := by omega
  have hn1 : (n : Int) ≤ 10000 := by omega
  unfold DPost at KB
  generalize (unR (bn s) n).1 = er at *
  generalize ((unR (bn s) n).2).map bc = l at *
  go_enter Tryz.func88, Tryz.ntmps88
  go_wp2_with fail
  refine (KI.out _).mono ?_
  rintro e w0 ⟨rfl, rfl⟩
  go_wp2_with fail
  refine (KB.out _).mono ?_
  rintro e w1 ⟨v, rfl, hv, hb⟩
  have HV := hide hv
  have HB := hide hb
  clear hv hb
  go_wp2_with fail
  go_ret2
  exact ⟨_, rfl, HV.out, HB.out⟩
set_option maxHeartbeats 2000000 in
set_option maxRecDepth 100000 in
theorem sdecode_arg (k : Int) (h1 : 1 ≤ k) (h6 : k ≤ 6) (s : ByteArray) (n : Int) (h : n < 0 ∨ 10000 < n) (w : World) :
    Calls Tryz.prog 56 #[.int .i64 k, .string s, .int .i64 n] w (DPost w (1, [])) := by
  have KK := hide (skind_any k true (by show _ = _; rw [eq_comm, decide_eq_true_eq]; exact ⟨h1, h6⟩))
  clear h1 h6
  rcases h with h | h
  · go_enter Tryz.func56, Tryz.ntmps56
    go_wp2_with fail
    refine (KK.out _).mono ?_
    rintro e w0 ⟨rfl, rfl⟩
    go_wp2_with fail
    go_ret2
    exact ⟨_, rfl, inC_nil _, Below.refl _ _⟩
  · have hd : decide (n < 0) = false := by simp; omega
    go_enter Tryz.func56, Tryz.ntmps56
    go_wp2_with fail
    refine (KK.out _).mono ?_
    rintro e w0 ⟨rfl, rfl⟩
    go_wp2_with fail
    go_ret2
    exact ⟨_, rfl, inC_nil _, Below.refl _ _⟩
set_option maxHeartbeats 2000000 in
set_option maxRecDepth 100000 in
theorem sdecode_kind (k : Int) (hk : k < 1 ∨ 6 < k) (s : ByteArray) (n : Int) (w : World) :
    Calls Tryz.prog 56 #[.int .i64 k, .string s, .int .i64 n] w (DPost w (14, [])) := by
  have KK := hide (skind_any k false (by show _ = _; rw [eq_comm, decide_eq_false_iff_not]; omega))
  clear hk
  go_enter Tryz.func56, Tryz.ntmps56
  go_wp2_with fail
  refine (KK.out _).mono ?_
  rintro e w0 ⟨rfl, rfl⟩
  go_wp2_with fail
  go_ret2
  exact ⟨_, rfl, inC_nil _, Below.refl _ _⟩
theorem pdecode_any (k : Int) (s : ByteArray) (hs : s.size ≤ maxLen) (n : Int) (w : World) (hT : Tabs w) :
    Calls Tryz.prog 88 #[.int .i64 k, .string s, .int .i64 n] w (DPost w (dspec k (bn s) n)) := by
  unfold dspec
  by_cases hk : k < 1 ∨ 6 < k
  · rw [if_pos hk]; exact pdecode_kind k hk s n w
  · rw [if_neg hk]
    by_cases hn : n < 0 ∨ 10000 < n
    · rw [if_pos hn]; exact pdecode_arg k (by omega) (by omega) s n hn w
    · rw [if_neg hn]
      obtain ⟨m, rfl⟩ : ∃ m : Nat, n = m := ⟨n.toNat, by omega⟩
      by_cases h1 : k = 1
      · rw [if_pos h1]; subst h1; exact pdecode_bool s hs m (by omega) w
      · rw [if_neg h1]; exact pdecode_loop k (by omega) (by omega) s hs m (by omega) w hT
theorem sdecode_any (k : Int) (s : ByteArray) (hs : s.size ≤ 1048576) (n : Int) (w : World) (hT : Tabs w) :
    Calls Tryz.prog 56 #[.int .i64 k, .string s, .int .i64 n] w (DPost w (dspec k (bn s) n)) := by
  unfold dspec
  by_cases hk : k < 1 ∨ 6 < k
  · rw [if_pos hk]; exact sdecode_kind k hk s n w
  · rw [if_neg hk]
    by_cases hn : n < 0 ∨ 10000 < n
    · rw [if_pos hn]; exact sdecode_arg k (by omega) (by omega) s n hn w
    · rw [if_neg hn]
      obtain ⟨m, rfl⟩ : ∃ m : Nat, n = m := ⟨n.toNat, by omega⟩
      by_cases h1 : k = 1
      · rw [if_pos h1]; subst h1; exact sdecode_bool s hs m (by omega) w
      · rw [if_neg h1]; exact sdecode_loop k (by omega) (by omega) s (by unfold maxLen; omega) m (by omega) w hT
end Go.Proofs.YtfkgmodgkifelaaGreatDoor
namespace Go.Proofs.YtfkgmodgkifelaaGreatDoor

theorem cut_zero (neg : Bool) (q d m : Nat) (hm : m = q * 2 ^ d) (hd : d ≤ m.log2 + 2) : Ieee.Toward.zero.cut neg m d = q := by
  unfold Ieee.Toward.cut
  have hmin : min d (m.log2 + 2) = d := by omega
  have hp := Nat.two_pow_pos d
  simp only [hmin, Nat.one_shiftLeft]
  have h1 : m / 2 ^ d = q := by rw [hm]; exact Nat.mul_div_cancel _ hp
  rw [h1]
  simp
theorem cut_nought (neg : Bool) (d : Nat) : Ieee.Toward.zero.cut neg 0 d = 0 := by
  unfold Ieee.Toward.cut
  simp
theorem abs_of {s : Bool} {m k : Nat} {n : Int} (h : 2 * (if s then -(m : Int) else (m : Int)) = n * 2 ^ k) : 2 * m = n.natAbs * 2 ^ k := by
  have h2 := congrArg Int.natAbs h
  rw [Int.natAbs_mul, Int.natAbs_mul, Int.natAbs_pow] at h2
  have e : (if s then -(m : Int) else (m : Int)).natAbs = m := by cases s <;> simp
  rw [e] at h2
  simpa using h2
/-- Back again: 'int64(float64(n))'. -/
theorem toInt_int (n : Int) (h : n.natAbs ≤ 9007199254740992) : floatToIntVal .f64 (floatOfInt .f64 n) .i64 = some n := by
  obtain ⟨s, m, k, e1, h1, hs, hk⟩ := read_int n h
  have hd : FloatKind.f64.decode (floatOfInt .f64 n) = .number s m (1 - (k : Int)) := e1
  have habs := abs_of h1
  have hcut : Ieee.Toward.zero.cut s (m <<< (1 - (k : Int)).toNat) (-(1 - (k : Int))).toNat = n.natAbs := by
    rw [Nat.shiftLeft_eq]
    rcases Nat.eq_zero_or_pos k with h0 | h0
    · subst h0
      have e2 : (1 - ((0 : Nat) : Int)).toNat = 1 := by omega
      have e3 : (-(1 - ((0 : Nat) : Int))).toNat = 0 := by omega
      rw [e2, e3]
      refine cut_zero _ _ _ _ ?_ (by omega)
      simp at habs ⊢; omega
    · have e2 : (1 - (k : Int)).toNat = 0 := by omega
      have e3 : (-(1 - (k : Int))).toNat = k - 1 := by omega
      rw [e2, e3, Nat.pow_zero, Nat.mul_one]
      have hm : m = n.natAbs * 2 ^ (k - 1) := by
        have : 2 ^ k = 2 * 2 ^ (k - 1) := by rw [← Nat.pow_succ', show (k - 1).succ = k by omega]
        rw [this, ← Nat.mul_assoc, Nat.mul_comm n.natAbs 2, Nat.mul_assoc] at habs
        omega
      rcases Nat.eq_zero_or_pos n.natAbs with hn0 | hn0
      · rw [hm, hn0, Nat.zero_mul]; exact cut_nought _ _
      · refine cut_zero _ _ _ _ hm ?_
        have hp : 2 ^ (k - 1) ≤ m := by
          rw [hm]; exact Nat.le_mul_of_pos_left _ hn0
        have hm0 : 0 < m := Nat.lt_of_lt_of_le (Nat.two_pow_pos _) hp
        obtain ⟨_, hl⟩ := log2_spec hm0
        have : k - 1 < m.log2 + 1 := (Nat.pow_lt_pow_iff_right (by omega)).1 (Nat.lt_of_le_of_lt hp hl)
        omega
  unfold floatToIntVal
  rw [hd]
  have ht : (Ieee.Datum.number s m (1 - (k : Int))).toInt .zero = some n := by
    unfold Ieee.Datum.toInt Ieee.Datum.integral
    simp only [hcut]
    unfold Ieee.signed
    rw [Nat.shiftLeft_eq, Nat.pow_zero, Nat.mul_one]
    congr 1
    cases s with
    | true => simp only [if_true]; have := hs rfl; omega
    | false =>
      simp only [Bool.false_eq_true, if_false]
      simp only [Bool.false_eq_true, if_false] at h1
      have hp : (0 : Int) < 2 ^ k := Int.pow_pos (by omega)
      have : 0 ≤ n := by
        apply Int.not_lt.1
        intro hn
        have : n * 2 ^ k < 0 := Int.mul_neg_of_neg_of_pos hn hp
        omega
      omega
  rw [ht]
  have hmin : IntKind.i64.min = -9223372036854775808 := by decide
  have hmax : IntKind.i64.max = 9223372036854775807 := by decide
  simp only [hmin, hmax]
  rw [if_pos (by omega)]
/-- A sum of whole numbers is exact, where it does not grow too far. -/
theorem add_int (a b : Int) (ha : a.natAbs ≤ 9007199254740992) (hb : b.natAbs ≤ 9007199254740992) (hc : (a + b).natAbs ≤ 9007199254740992) :
    Ieee.double.add (floatOfInt .f64 a) (floatOfInt .f64 b) = some (floatOfInt .f64 (a + b)) := by
  obtain ⟨s, m, k, e1, h1, hs, _⟩ := read_int a ha
  obtain ⟨t, n, l, e2, h2, ht, _⟩ := read_int b hb
  unfold Ieee.Format.add
  rw [e1, e2]
  unfold Ieee.Datum.sum
  simp only [min_place, Option.map_some]
  have g1 := signed_of s m k (max k l) a (by omega) h1
  have g2 := signed_of t n l (max k l) b (by omega) h2
  generalize Ieee.signed s m ((1 - (k : Int)) - (1 - ((max k l : Nat) : Int))).toNat = X at *
  generalize Ieee.signed t n ((1 - (l : Int)) - (1 - ((max k l : Nat) : Int))).toNat = Y at *
  generalize max k l = K at *
  have hP : (0 : Int) < 2 ^ K := Int.pow_pos (by omega)
  have hsum : 2 * (X + Y) = (a + b) * 2 ^ K := by rw [Int.mul_add, g1, g2, Int.add_mul]
  congr 1
  by_cases h0 : a + b = 0
  · have hXY : X + Y = 0 := by rw [h0, Int.zero_mul] at hsum; omega
    rw [hXY, h0, if_pos rfl]
    have hst : (s && t) = false := by
      cases s with
      | false => rfl
      | true =>
        cases t with
        | false => rfl
        | true => have := hs rfl; have := ht rfl; omega
    rw [hst]
    have hz : floatOfInt .f64 0 = Ieee.double.word false 0 := by kernel_rfl
    rw [hz]
    show Ieee.double.nearest false (0 : Int).natAbs _ = _
    unfold Ieee.Format.nearest
    rw [if_pos Int.natAbs_zero]
  · have hXY : X + Y ≠ 0 := by
      intro h
      rw [h, Int.mul_zero] at hsum
      rcases Int.mul_eq_zero.1 hsum.symm with q | q
      · exact h0 q
      · omega
    rw [if_neg hXY]
    have hsg : decide (X + Y < 0) = decide (a + b < 0) := by
      rw [decide_eq_decide]
      constructor
      · intro h
        apply Int.not_le.1
        intro hn
        have : 0 ≤ (a + b) * 2 ^ K := Int.mul_nonneg hn (by omega)
        omega
      · intro h
        have : (a + b) * 2 ^ K < 0 := Int.mul_neg_of_neg_of_pos h hP
        omega
    have hab : 2 * (X + Y).natAbs = (a + b).natAbs * 2 ^ K := by
      have h3 := congrArg Int.natAbs hsum
      rw [Int.natAbs_mul, Int.natAbs_mul, Int.natAbs_pow] at h3
      simpa using h3
    have hpos : 0 < (a + b).natAbs := by omega
    obtain ⟨q1, hq1, w1⟩ := nearest_of (decide (a + b < 0)) (X + Y).natAbs K (a + b).natAbs hpos hc hab
    obtain ⟨q2, hq2, w2⟩ := nearest_of (decide (a + b < 0)) (a + b).natAbs 1 (a + b).natAbs hpos hc (by omega)
    have hq : q1 = q2 := by omega
    subst hq
    show Ieee.double.nearest (decide (X + Y < 0)) (X + Y).natAbs (1 - (K : Int)) = _
    rw [hsg, w1]
    have hf : floatOfInt .f64 (a + b) = Ieee.double.nearest (decide (a + b < 0)) (a + b).natAbs (1 - ((1 : Nat) : Int)) := rfl
    rw [hf, w2]
end Go.Proofs.YtfkgmodgkifelaaGreatDoor
namespace Go.Proofs.YtfkgmodgkifelaaGreatDoor
open Go.RowKit

theorem farB_no {x : Int} (h : farB x = false) : x.natAbs ≤ 9007199254740992 := far_abs (by rw [h]; exact Bool.false_ne_true)
set_option maxHeartbeats 1000000 in
set_option maxRecDepth 100000 in
theorem dsum_gen (a b : Int) (ha : a.natAbs ≤ 9007199254740992) (hb : b.natAbs ≤ 9007199254740992) (w : World) :
    Calls Tryz.prog 157 #[.float .f64 (floatOfInt .f64 a), .float .f64 (floatOfInt .f64 b)] w fun e w' => e = .returned (.bool (!farB (a + b))) ∧ w = w' := by
  have h4 := fun w => run_convert_float_int (P := Tryz.prog) w 153 2 .f64 .i64 (floatOfInt .f64 a) a (by kernel_rfl) Tryz.underlying2 (toInt_int a ha)
  have h5 := fun w => run_convert_float_int (P := Tryz.prog) w 153 2 .f64 .i64 (floatOfInt .f64 b) b (by kernel_rfl) Tryz.underlying2 (toInt_int b hb)
  have h6 : wrap64 (a + b) = a + b := by unfold wrap64; omega
  generalize floatOfInt .f64 a = fa at *
  generalize floatOfInt .f64 b = fb at *
  by_cases h1 : a + b < -9007199254740992
  · have e : Hid ((!farB (a + b)) = false) := by show _ = _; unfold farB; simp [h1]
    have h7 : decide (-9007199254740992 ≤ a + b) = false := by rw [decide_eq_false_iff_not]; omega
    rw [e.out]
    clear ha hb
    go_enter Tryz.func157, Tryz.ntmps157
    go_wp2_with fail
    go_ret
    exact ⟨rfl, rfl⟩
  · by_cases h2 : 9007199254740992 < a + b
    · have e : Hid ((!farB (a + b)) = false) := by show _ = _; unfold farB; simp [h2]
      have h7 : decide (-9007199254740992 ≤ a + b) = true := by rw [decide_eq_true_eq]; omega
      have h8 : decide (a + b ≤ 9007199254740992) = false := by rw [decide_eq_false_iff_not]; omega
      rw [e.out]
      clear ha hb h1
      go_enter Tryz.func157, Tryz.ntmps157
      go_wp2_with fail
      go_ret
      exact ⟨rfl, rfl⟩
    · have e : Hid ((!farB (a + b)) = true) := by show _ = _; unfold farB; simp [h1, h2]
      have h7 : decide (-9007199254740992 ≤ a + b) = true := by rw [decide_eq_true_eq]; omega
      have h8 : decide (a + b ≤ 9007199254740992) = true := by rw [decide_eq_true_eq]; omega
      rw [e.out]
      clear ha hb h1 h2
      go_enter Tryz.func157, Tryz.ntmps157
      go_wp2_with fail
      go_ret
      exact ⟨rfl, rfl⟩
set_option maxHeartbeats 1000000 in
set_option maxRecDepth 100000 in
theorem reach_gen (a b c d : Int) (ha : a.natAbs ≤ 9007199254740992) (hb : b.natAbs ≤ 9007199254740992) (hc : c.natAbs ≤ 9007199254740992) (hd : d.natAbs ≤ 9007199254740992) (w : World) :
    Calls Tryz.prog 139 #[.complex .f64 (floatOfInt .f64 a) (floatOfInt .f64 b), .complex .f64 (floatOfInt .f64 c) (floatOfInt .f64 d)] w fun e w' => e = .returned (.bool (!farB (a + c) && !farB (b + d))) ∧ w = w' := by
  have K1 := hide (dsum_gen a c ha hc)
  have K2 := hide (dsum_gen b d hb hd)
  clear ha hb hc hd
  generalize floatOfInt .f64 a = fa at *
  generalize floatOfInt .f64 b = fb at *
  generalize floatOfInt .f64 c = fc at *
  generalize floatOfInt .f64 d = fd at *
  cases h1 : (!farB (a + c))
  · rw [h1] at K1
    clear h1
    go_enter Tryz.func139, Tryz.ntmps139
    go_wp2_with fail
    refine (K1.out _).mono ?_
    rintro e w1 ⟨rfl, rfl⟩
    go_wp2_with fail
    go_ret
    exact ⟨rfl, rfl⟩
  · rw [h1] at K1
    clear h1
    generalize (!farB (b + d)) = r at *
    go_enter Tryz.func139, Tryz.ntmps139
    go_wp2_with fail
    refine (K1.out _).mono ?_
    rintro e w1 ⟨rfl, rfl⟩
    go_wp2_with fail
    refine (K2.out _).mono ?_
    rintro e w1 ⟨rfl, rfl⟩
    go_wp2_with fail
    go_ret
    exact ⟨rfl, rfl⟩
set_option maxHeartbeats 1000000 in
set_option maxRecDepth 100000 in
theorem go_int (c d : CD) (w : World) :
    Calls Tryz.prog 141 #[.int .i64 2, c.v, d.v] w fun e w' => e = .returned (.tuple #[clV false (wrap64 (c.x + d.x)) 0 ByteArray.empty 0 0, .int .i64 0]) ∧ Below w.heap.size w w' := by
  obtain ⟨cb, cx, cu, ct, cp, cq⟩ := c
  obtain ⟨db, dx, du, dt, dp, dq⟩ := d
  unfold CD.v clV clA
  simp only
  have H3 := hide (row3 w)
  have HB := hide (below3 w)
  go_enter Tryz.func141, Tryz.ntmps141
  have hst := fun (w1 : World) (a1 : Addr) (m : Mode) (x y : Nat) => run_store Tryz.prog w1 a1 (.complex .f64 x y) m rfl
  go_wp2_with fail
  refine bodyPost_ret (results_cell_tmp_row rfl _ _ _ (w.heap.size + 1 + 1) 45 #[.bool false, .bool false, .int .i64 (wrap64 (cx + dx)), .int .u64 0, .string ByteArray.empty, .complex .f64 0 0] (0, 0) rfl (H3.out _ _ _) Tryz.underlying45 (by exact info_cell)) rfl ?_
  exact ⟨rfl, HB.out _ _ _⟩
set_option maxHeartbeats 1000000 in
set_option maxRecDepth 100000 in
theorem go_uint (c d : CD) (w : World) :
    Calls Tryz.prog 141 #[.int .i64 3, c.v, d.v] w fun e w' => e = .returned (.tuple #[clV false 0 ((c.u + d.x % 18446744073709551616) % 18446744073709551616) ByteArray.empty 0 0, .int .i64 0]) ∧ Below w.heap.size w w' := by
  obtain ⟨cb, cx, cu, ct, cp, cq⟩ := c
  obtain ⟨db, dx, du, dt, dp, dq⟩ := d
  unfold CD.v clV clA
  simp only
  have H3 := hide (row3 w)
  have HB := hide (below3 w)
  go_enter Tryz.func141, Tryz.ntmps141
  have hst := fun (w1 : World) (a1 : Addr) (m : Mode) (x y : Nat) => run_store Tryz.prog w1 a1 (.complex .f64 x y) m rfl
  go_wp2_with fail
  refine bodyPost_ret (results_cell_tmp_row rfl _ _ _ (w.heap.size + 1 + 1) 45 #[.bool false, .bool false, .int .i64 0, .int .u64 ((cu + dx % 18446744073709551616) % 18446744073709551616), .string ByteArray.empty, .complex .f64 0 0] (0, 0) rfl (H3.out _ _ _) Tryz.underlying45 (by exact info_cell)) rfl ?_
  exact ⟨rfl, HB.out _ _ _⟩
set_option maxHeartbeats 1000000 in
set_option maxRecDepth 100000 in
theorem go_point (c d : CD) (re im : Nat) (hc : cSumBits .add .f64 c.p c.q d.p d.q = some (re, im)) (w : World) :
    Calls Tryz.prog 141 #[.int .i64 6, c.v, d.v] w fun e w' => e = .returned (.tuple #[clV false 0 0 ByteArray.empty re im, .int .i64 0]) ∧ Below w.heap.size w w' := by
  obtain ⟨cb, cx, cu, ct, cp, cq⟩ := c
  obtain ⟨db, dx, du, dt, dp, dq⟩ := d
  unfold CD.v clV clA
  simp only at hc ⊢
  have H3 := hide (row3 w)
  have HB := hide (below3 w)
  have hadd := fun w => run_complex_sum (P := Tryz.prog) (w := w) .add (.inl rfl) 43 .f64 cp cq dp dq re im hc
  clear hc
  go_enter Tryz.func141, Tryz.ntmps141
  have hst := fun (w1 : World) (a1 : Addr) (m : Mode) (x y : Nat) => run_store Tryz.prog w1 a1 (.complex .f64 x y) m rfl
  go_wp2_with fail
  refine bodyPost_ret (results_cell_tmp_row rfl _ _ _ (w.heap.size + 1 + 1) 45 #[.bool false, .bool false, .int .i64 0, .int .u64 0, .string ByteArray.empty, .complex .f64 re im] (0, 0) rfl (H3.out _ _ _) Tryz.underlying45 (by exact info_cell)) rfl ?_
  exact ⟨rfl, HB.out _ _ _⟩
theorem csum_int (a b c d : Int) (ha : a.natAbs ≤ 9007199254740992) (hb : b.natAbs ≤ 9007199254740992) (hc : c.natAbs ≤ 9007199254740992) (hd : d.natAbs ≤ 9007199254740992) (hac : (a + c).natAbs ≤ 9007199254740992) (hbd : (b + d).natAbs ≤ 9007199254740992) :
    cSumBits .add .f64 (floatOfInt .f64 a) (floatOfInt .f64 b) (floatOfInt .f64 c) (floatOfInt .f64 d) = some (floatOfInt .f64 (a + c), floatOfInt .f64 (b + d)) := by
  unfold cSumBits floatBits
  show (Ieee.double.add _ _).bind (fun re => (Ieee.double.add _ _).bind fun im => some (re, im)) = _
  rw [add_int a c ha hc hac, add_int b d hb hd hbd]
  rfl
set_option maxHeartbeats 2000000 in
set_option maxRecDepth 100000 in
theorem next_num (k : Int) (hk : ((k : Int) == 6) = false) (R : Nat) (s : ByteArray) (p : Nat) (hs : s.size ≤ maxLen) (hp : p ≤ s.size) (w : World) (h : Rd w R s p 0) (x n er : Nat) (hf : Hid (few ((bn s).drop p) 0 = (x, n, er))) :
    Calls Tryz.prog 140 #[.pointer (some ⟨R, 0, none⟩), .int .i64 k] w (GPost R w s (clV false (back x) 0 ByteArray.empty 0 0) er (p + n) er) := by
  have hRw := Blk.lt h
  have K := hide (fun o => rsvar_any R s p 0 hs hp (w.alloc o) (rd_alloc h o))
  rw [st_at, hf.out] at K
  simp only at K
  clear h hf
  generalize back x = b at *
  have hst := fun (w1 : World) (a1 : Addr) (m : Mode) (x y : Nat) => run_store Tryz.prog w1 a1 (.complex .f64 x y) m rfl
  go_enter Tryz.func140, Tryz.ntmps140
  go_wp2_with fail
  refine (K.out _).mono ?_
  rintro e w1 ⟨rfl, hr1, hf1⟩
  have hb0 : Blk w1 w.heap.size 45 (clA false 0 0 ByteArray.empty 0 0) := Blk.fr (Blk.new _ _ _) hf1 (by omega)
  have KE := hide (rerr_any R s (p + n) er w1 hr1)
  have HB0 := hide hb0
  have HR1 := hide hr1
  have HF := hide ((Fr.alloc w _ _).trans hf1 (fun _ _ h => h))
  obtain ⟨c0, c1, c2, c3, c4, c5, f0, f1, f2, f3, f4, f5⟩ := Blk.six hb0
  clear hb0 hr1 hf1
  go_wp2_with fail
  refine KE.out.mono ?_
  rintro e w2 ⟨rfl, rfl⟩
  go_wp2_with fail
  obtain ⟨q1, q2, q3⟩ := st6_two hRw HF.out HR1.out HB0.out (.bool false) (.bool false) (.int .i64 b) (.int .u64 0) (.string { data := #[] }) (.complex .f64 0 0)
  refine bodyPost_ret (results_cell_tmp_row' rfl _ _ _ w.heap.size 45 #[.bool false, .bool false, .int .i64 b, .int .u64 0, .string { data := #[] }, .complex .f64 0 0] (0, 0) rfl q3 Tryz.underlying45 (by exact info_c)) rfl ?_
  exact ⟨rfl, q2, q1⟩
set_option maxHeartbeats 2000000 in
set_option maxRecDepth 100000 in
theorem next_point (R : Nat) (s : ByteArray) (p : Nat) (hs : s.size ≤ maxLen) (hp : p ≤ s.size) (w : World) (h : Rd w R s p 0) (hT : Tabs w) :
    Calls Tryz.prog 140 #[.pointer (some ⟨R, 0, none⟩), .int .i64 6] w
      (GPost R w s (gp 6 ((bn s).drop p)).1.v (gp 6 ((bn s).drop p)).2.2.2 (p + (gp 6 ((bn s).drop p)).2.1) (gp 6 ((bn s).drop p)).2.2.1) := by
  have hRw := Blk.lt h
  have K := hide (fun o => gget_all 6 (by omega) (by omega) R s p hs hp (w.alloc o) (rd_alloc h o) (hT.below ((Below.refl _ _).alloc (Nat.le_refl _) _)))
  rcases hg : gp 6 ((bn s).drop p) with ⟨c, m, e', er⟩
  rw [hg] at K
  simp only at K ⊢
  obtain ⟨cb, cx, cu, ct, cp, cq⟩ := c
  unfold CD.v clV clA at K ⊢
  simp only at K ⊢
  clear hg h hT hs hp
  have hst := fun (w1 : World) (a1 : Addr) (m : Mode) (x y : Nat) => run_store Tryz.prog w1 a1 (.complex .f64 x y) m rfl
  go_enter Tryz.func140, Tryz.ntmps140
  go_wp2_with fail
  refine (K.out _).mono ?_
  rintro e w1 ⟨rfl, hr1, hf1⟩
  have hb0 : Blk w1 w.heap.size 45 (clA false 0 0 ByteArray.empty 0 0) := Blk.fr (Blk.new _ _ _) hf1 (by omega)
  have HB0 := hide hb0
  have HR1 := hide hr1
  have HF := hide ((Fr.alloc w _ _).trans hf1 (fun _ _ h => h))
  obtain ⟨c0, c1, c2, c3, c4, c5, f0, f1, f2, f3, f4, f5⟩ := Blk.six hb0
  clear hb0 hr1 hf1
  go_wp2_with fail
  obtain ⟨q1, q2, q3⟩ := st6_two hRw HF.out HR1.out HB0.out (.bool false) (.bool cb) (.int .i64 cx) (.int .u64 cu) (.string ct) (.complex .f64 cp cq)
  refine bodyPost_ret (results_cell_tmp_row' rfl _ _ _ w.heap.size 45 #[.bool false, .bool cb, .int .i64 cx, .int .u64 cu, .string ct, .complex .f64 cp cq] (0, 0) rfl q3 Tryz.underlying45 (by exact info_c)) rfl ?_
  exact ⟨rfl, q2, q1⟩
end Go.Proofs.YtfkgmodgkifelaaGreatDoor
