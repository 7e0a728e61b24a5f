/- The document's loop over cells. Bits as bytes, and back: plain lists, no program in sight. -/
import Derived.Test.YtfkgmodgkifelaaGreatDoorJ10
import Derived.Test.YtfkgmodgkifelaaGreatDoorProg
import Derived.Test.YtfkgmodgkifelaaGreatDoorJ01
import Derived.Laws.BitsAllLaws
namespace Go.Proofs.YtfkgmodgkifelaaGreatDoor
open Go.RowKit

theorem str_someD {a : ByteArray} (h : 0 < a.size) : a.toList.isEmpty = false := by
  rw [ByteArray.toList_eq]
  cases ha : a.data.toList with
  | nil =>
    have : a.size = 0 := by
      show a.data.size = 0
      rw [← Array.length_toList, ha]; rfl
    omega
  | cons x l => rfl
set_option maxHeartbeats 4000000 in
set_option maxRecDepth 100000 in
theorem sdecode_loop (k : Int) (h1 : 2 ≤ k) (h6 : k ≤ 6) (s : ByteArray) (hs : s.size ≤ maxLen) (n : Nat) (hn : n ≤ 10000) (w : World) (hT : Tabs w) :
    Calls Tryz.prog 56 #[.int .i64 k, .string s, .int .i64 n] w (DPost w (decR k (bn s) n)) := by
  have KK := hide (skind_any k true (by show _ = _; rw [eq_comm, decide_eq_true_eq]; exact ⟨by omega, h6⟩))
  have hk1 : ((k : Int) == 1) = false := by rw [beq_eq_false_iff_ne]; omega
  have hn0 : (0 : Int) ≤ (n : Int) := by omega
  have hn1 : (n : Int) ≤ 10000 := by omega
  have KS := hide (fun (s' : ByteArray) (hs : s'.size ≤ maxLen) (w : World) (hT : Tabs w) => sread_all k (by omega) h6 s' hs w hT)
  obtain ⟨i0, hi, hz0, hz1, hz2⟩ := info_parts info_cC
  have HT := hide hT
  have hS := hide hs
  clear hT hs h1 h6
  have hst := fun (w1 : World) (a1 : Addr) (m : Mode) (x y : Nat) => run_store Tryz.prog w1 a1 (.complex .f64 x y) m rfl
  go_enter Tryz.func56, Tryz.ntmps56
  go_wp2_with fail
  refine (KK.out _).mono ?_
  rintro e w0 ⟨rfl, rfl⟩
  go_wp2_with fail
  go_loopw [1, 8, 12] (fun sv lv iv wr => ∃ i : Nat, i ≤ n ∧ iv = .int .i64 (i : Int) ∧ (∃ s' : ByteArray, sv = .string s' ∧ Hid (bn s' = (bn s).drop (posn k (bn s) i)) ∧ s'.size ≤ s.size) ∧ Hid (errN k (bn s) i = 0) ∧ wr.ownsRow w.heap.size 45 6 lv i ((cellsN k (bn s) i).flatMap cellsC) ∧ Below w.heap.size w wr) (fun _ _ iv _ => n - (intOf iv).toNat)
  case atStart => exact ⟨0, by omega, rfl, ⟨s, rfl, rfl, Nat.le_refl _⟩, rfl, World.ownsRow_nil _ _ _ _, Below.refl _ _⟩
  case round =>
    obtain ⟨i, hin, rfl, ⟨s', rfl, HS', hs'⟩, he, ha, hbe⟩ := hrel
    obtain ⟨Aa, ca, rfl⟩ := own_form3 ha
    by_cases hlt : i < n
    · have K := hide (KS.out s' (Nat.le_trans hs' hS.out) wr (HT.out.below hbe))
      rw [HS'.out] at K
      have HC : Hid (cellsN k (bn s) (i + 1) = cellsN k (bn s) i ++ [(gp k ((bn s).drop (posn k (bn s) i))).1]) := cellsN_succ _ _ _
      have HP : Hid (posn k (bn s) (i + 1) = posn k (bn s) i + (gp k ((bn s).drop (posn k (bn s) i))).2.1) := rfl
      have HE : Hid (errN k (bn s) (i + 1) = (gp k ((bn s).drop (posn k (bn s) i))).2.2.2) := errN_succ k (bn s) i he.out
      have HX := hide (fun h => decR_err k (bn s) i n hlt he.out h)
      unfold errAt at HX
      have hL := gp_le k ((bn s).drop (posn k (bn s) i))
      rw [← HS'.out, bn_len] at hL
      rw [← HS'.out] at K HC HP HE HX
      rcases hg : gp k (bn s') with ⟨c, m, e', er⟩
      rw [hg] at K HC HP HE HX hL
      simp only at K HC HP HE HX hL
      obtain ⟨cb, cx, cu, ct, cp, cq⟩ := c
      unfold CD.v clV clA at K
      simp only at K
      have HA := hide ha
      have HBE := hide hbe
      have hms : s'.size ≤ 9223372036854775807 := by have := hS.out; unfold maxLen at this; omega
      clear hg ha hbe
      by_cases h0 : er = 0
      · subst h0
        go_wp2_with fail
        refine K.out.mono ?_
        rintro e w1 ⟨rfl, hb1⟩
        have HA2 := hide (own_below HA.out hb1)
        have HB2 := hide (HBE.out.trans (hb1.mono HBE.out.size))
        clear hb1
        go_wp2_with (at_builtin; refine wpList_append_own_at _ rfl _ _ 25 rfl w.heap.size 45 i0 _ 6 56 Tryz.underlying25 hi hz0 hz1 hz2 rfl (by decide) _ _ _ rfl ((HA2.out.alloc _).alloc _) ⟨w1.heap.size + 1, 0, none⟩ 1 1 [.bool false, .bool cb, .int .i64 cx, .int .u64 cu, .string ct, .complex .f64 cp cq] rfl rfl (World.news_of_block (blk_2 _ _ _ _).out) (by simp [Value.oneCell']) (by simp only [maxLen]; omega) (by omega) (by simpa using Nat.le_succ_of_le (Nat.le_succ_of_le HB2.out.size)) ?_; intro v1 w2 hown1 hgrow1 _ hat1)
        have hba := fun o1 o2 => (HB2.out.alloc HB2.out.size o1).alloc (by simp; exact Nat.le_succ_of_le HB2.out.size) o2
        have HB3 := hide ((hba _ _).grown hgrow1 (by simpa using Nat.le_succ_of_le (Nat.le_succ_of_le HB2.out.size)) (fun j hj => (HA2.out.lt j hj).1))
        have HA3 : Hid (w2.ownsRow w.heap.size 45 6 v1 (i + 1) ((cellsN k (bn s) (i + 1)).flatMap cellsC)) := by
          show World.ownsRow _ _ _ _ _ _ _
          rw [HC.out, cellsC_snoc]; exact hown1
        clear hba hown1 hgrow1 hat1
        have HS2 : Hid (bn (s'.extract m s'.size) = (bn s).drop (posn k (bn s) (i + 1))) := by
          show _ = _
          rw [bn_drop, HS'.out, List.drop_drop, HP.out]
        have hs2 : (s'.extract m s'.size).size ≤ s.size := by simp; omega
        go_roundw
        case rel => exact ⟨i + 1, by omega, by go_num, ⟨_, rfl, HS2, hs2⟩, HE.out, HA3.out, HB3.out⟩
        case measure => simp [intOf] <;> omega
      · have hne : ((er : Int) != 0) = true := by rw [bne_iff_ne]; omega
        have HX2 := hide (HX.out h0)
        clear h0 HX
        go_wp2_with fail
        refine K.out.mono ?_
        rintro e w1 ⟨rfl, hb1⟩
        have HB2 := hide (HBE.out.trans (hb1.mono HBE.out.size))
        clear hb1
        go_wp2_with fail
        go_ret2
        rw [HX2.out]
        exact ⟨_, rfl, inC_nil _, HB2.out.alloc HB2.out.size _⟩
    · obtain rfl : i = n := by omega
      have HA := hide ha
      have HBE := hide hbe
      have hl := congrArg List.length HS'.out
      rw [bn_len, List.length_drop, bn_len] at hl
      clear ha hbe
      by_cases hp : posn k (bn s) i < s.size
      · have HX : Hid (decR k (bn s) i = (11, [])) := by show _ = _; unfold decR; rw [if_pos he.out, if_pos (by rw [bn_len]; exact hp)]
        have hp2 : 0 < s'.size := by omega
        clear hl hp
        have hz1 := str_someD hp2
        have hz2 : (!s'.toList.isEmpty) = true := by rw [hz1]; rfl
        clear hz1
        go_wp2_with fail
        go_ret2
        rw [HX.out]
        exact ⟨_, rfl, inC_nil _, HBE.out⟩
      · have HX : Hid (decR k (bn s) i = (0, cellsN k (bn s) i)) := by show _ = _; unfold decR; rw [if_pos he.out, if_neg (by rw [bn_len]; exact hp)]
        have hp2 : s'.size = 0 := by omega
        clear hl hp
        have hz1 : s' = { data := #[] } := by
          apply bn_inj
          have := bn_len s'
          rw [hp2] at this
          rw [List.eq_nil_of_length_eq_zero this]; rfl
        subst hz1
        go_wp2_with fail
        go_ret2
        rw [HX.out]
        exact ⟨_, rfl, inC_own HA.out (cellsN_len _ _ _).symm, HBE.out⟩
end Go.Proofs.YtfkgmodgkifelaaGreatDoor
namespace Go.Proofs.YtfkgmodgkifelaaGreatDoor

def bit (l : List Bool) (i : Nat) : Nat := if l.getD i false then 1 else 0
/-- n bits from a place on, the low one first. -/
def sb (l : List Bool) (b : Nat) : Nat → Nat
  | 0 => 0
  | n + 1 => sb l b n + bit l (b + n) * 2 ^ n
def packL (l : List Bool) : List Nat := (List.range ((l.length + 7) / 8)).map fun j => sb l (8 * j) 8
def cntTo (l : List Bool) : Nat → Nat
  | 0 => 0
  | n + 1 => cntTo l n + bit l n
def cnt (l : List Bool) : Nat := cntTo l l.length
theorem bit_le (l : List Bool) (i : Nat) : bit l i ≤ 1 := by unfold bit; split <;> omega
theorem bit_out (l : List Bool) (i : Nat) (h : l.length ≤ i) : bit l i = 0 := by
  unfold bit; rw [List.getD_eq_getElem?_getD, List.getElem?_eq_none h]; rfl
theorem sb_succ (l : List Bool) (b n : Nat) : sb l b (n + 1) = sb l b n + bit l (b + n) * 2 ^ n := rfl
theorem sb_zero (l : List Bool) (b : Nat) : sb l b 0 = 0 := rfl
theorem sb_lt (l : List Bool) (b n : Nat) : sb l b n < 2 ^ n := by
  induction n with
  | zero => exact Nat.zero_lt_one
  | succ n ih =>
    rw [sb_succ, Nat.pow_succ]
    have h1 : bit l (b + n) * 2 ^ n ≤ 1 * 2 ^ n := Nat.mul_le_mul_right _ (bit_le l (b + n))
    omega
theorem sb_8 (l : List Bool) (b : Nat) : sb l b 8 < 256 := sb_lt l b 8
theorem sb_stop (l : List Bool) (b n m : Nat) (h : l.length ≤ b + n) : sb l b (n + m) = sb l b n := by
  induction m with
  | zero => rfl
  | succ m ih => rw [Nat.add_succ, sb_succ, ih, bit_out l _ (by omega)]; omega
theorem cntTo_le (l : List Bool) (n : Nat) : cntTo l n ≤ n := by
  induction n with
  | zero => exact Nat.le_refl _
  | succ n ih => have := bit_le l n; simp only [cntTo]; omega
theorem cntTo_succ (l : List Bool) (n : Nat) : cntTo l (n + 1) = cntTo l n + bit l n := rfl
theorem packL_length (l : List Bool) : (packL l).length = (l.length + 7) / 8 := by simp [packL]
theorem packL_lt (l : List Bool) : ∀ b ∈ packL l, b < 256 := by
  intro b hb
  simp only [packL, List.mem_map] at hb
  obtain ⟨j, _, rfl⟩ := hb
  exact sb_8 l _
/-- The bytes after i bits: byte j. -/
def pby (l : List Bool) (i j : Nat) : Nat := sb l (8 * j) (min 8 (i - 8 * j))
theorem pby_0 (l : List Bool) (j : Nat) : pby l 0 j = 0 := by simp [pby, sb]
theorem pby_lt (l : List Bool) (i j : Nat) : pby l i j < 256 := by
  unfold pby
  exact Nat.lt_of_lt_of_le (sb_lt l _ _) (Nat.pow_le_pow_right (by omega) (Nat.min_le_left _ _) : 2 ^ (min 8 (i - 8 * j)) ≤ 2 ^ 8)
theorem pby_other (l : List Bool) (i j : Nat) (h : j ≠ i / 8) : pby l (i + 1) j = pby l i j := by
  unfold pby
  congr 1
  omega
theorem pby_at (l : List Bool) (i : Nat) : pby l (i + 1) (i / 8) = pby l i (i / 8) + bit l i * 2 ^ (i % 8) := by
  unfold pby
  have h1 : min 8 (i + 1 - 8 * (i / 8)) = i % 8 + 1 := by omega
  have h2 : min 8 (i - 8 * (i / 8)) = i % 8 := by omega
  rw [h1, h2, sb_succ]
  congr 3
  omega
theorem pby_at_lt (l : List Bool) (i : Nat) : pby l i (i / 8) < 2 ^ (i % 8) := by
  unfold pby
  rw [show min 8 (i - 8 * (i / 8)) = i % 8 by omega]
  exact sb_lt _ _ _
theorem pby_full (l : List Bool) (j : Nat) : pby l l.length j = sb l (8 * j) 8 := by
  unfold pby
  by_cases h : 8 ≤ l.length - 8 * j
  · rw [Nat.min_eq_left h]
  · rw [Nat.min_eq_right (by omega)]
    have : sb l (8 * j) 8 = sb l (8 * j) ((l.length - 8 * j) + (8 - (l.length - 8 * j))) := by congr 1; omega
    rw [this, sb_stop _ _ _ _ (by omega)]
theorem or_bit (x k : Nat) (h : x < 2 ^ k) : x ||| 2 ^ k = x + 2 ^ k := by
  have := Nat.two_pow_add_eq_or_of_lt h 1
  rw [Nat.mul_one] at this
  rw [Nat.add_comm, this, Nat.or_comm]
theorem bit_append_left (a b : List Bool) (i : Nat) (h : i < a.length) : bit (a ++ b) i = bit a i := by
  unfold bit
  rw [List.getD_eq_getElem?_getD, List.getD_eq_getElem?_getD, List.getElem?_append_left h]
theorem bit_append_right (a b : List Bool) (i : Nat) : bit (a ++ b) (a.length + i) = bit b i := by
  unfold bit
  rw [List.getD_eq_getElem?_getD, List.getD_eq_getElem?_getD, List.getElem?_append_right (by omega), Nat.add_sub_cancel_left]
theorem cntTo_left (a b : List Bool) (n : Nat) (h : n ≤ a.length) : cntTo (a ++ b) n = cntTo a n := by
  induction n with
  | zero => rfl
  | succ n ih => rw [cntTo_succ, cntTo_succ, ih (by omega), bit_append_left _ _ _ (by omega)]
theorem cntTo_right (a b : List Bool) (n : Nat) : cntTo (a ++ b) (a.length + n) = cntTo a a.length + cntTo b n := by
  induction n with
  | zero => exact cntTo_left a b _ (Nat.le_refl _)
  | succ n ih => rw [Nat.add_succ, cntTo_succ, ih, cntTo_succ, bit_append_right, Nat.add_assoc]
theorem cnt_append (a b : List Bool) : cnt (a ++ b) = cnt a + cnt b := by
  unfold cnt
  rw [List.length_append, cntTo_right]
theorem sb_left (a b : List Bool) (s n : Nat) (h : s + n ≤ a.length) : sb (a ++ b) s n = sb a s n := by
  induction n with
  | zero => rfl
  | succ n ih => rw [sb_succ, sb_succ, ih (by omega), bit_append_left _ _ _ (by omega)]
theorem sb_right (a b : List Bool) (s n : Nat) : sb (a ++ b) (a.length + s) n = sb b s n := by
  induction n with
  | zero => rfl
  | succ n ih => rw [sb_succ, sb_succ, ih, Nat.add_assoc, bit_append_right]
theorem packL_append (a b : List Bool) (h : a.length % 8 = 0) : packL (a ++ b) = packL a ++ packL b := by
  apply List.ext_getElem
  · simp [packL_length]; omega
  · intro j h1 h2
    rw [packL_length, List.length_append] at h1
    by_cases hj : j < (a.length + 7) / 8
    · rw [List.getElem_append_left (by rw [packL_length]; exact hj)]
      simp only [packL, List.getElem_map, List.getElem_range]
      exact sb_left _ _ _ _ (by omega)
    · rw [List.getElem_append_right (by rw [packL_length]; omega)]
      simp only [packL, List.getElem_map, List.getElem_range, List.length_map, List.length_range]
      have e : 8 * j = a.length + 8 * (j - (a.length + 7) / 8) := by omega
      rw [e, sb_right]
/-! ### Back -/
def ubit (s : List Nat) (i : Nat) : Bool := s.getD (i / 8) 0 / 2 ^ (i % 8) % 2 == 1
def ubits (s : List Nat) (n : Nat) : List Bool := (List.range n).map (ubit s)
theorem ubits_length (s : List Nat) (n : Nat) : (ubits s n).length = n := by simp [ubits]
theorem ubits_succ (s : List Nat) (n : Nat) : ubits s (n + 1) = ubits s n ++ [ubit s n] := by simp [ubits, List.range_succ]
theorem ubits_getD (s : List Nat) (n i : Nat) (h : i < n) : (ubits s n).getD i false = ubit s i := by simp [ubits, List.getD, h]
/-- Is no bit set from n on, up to m? -/
def cleanTo (s : List Nat) (n : Nat) : Nat → Bool
  | 0 => true
  | m + 1 => cleanTo s n m && (decide (m < n) || !ubit s m)
theorem cleanTo_succ (s : List Nat) (n m : Nat) : cleanTo s n (m + 1) = (cleanTo s n m && (decide (m < n) || !ubit s m)) := rfl
theorem cleanTo_bad (s : List Nat) (n m k : Nat) (hk : m < k) (h1 : n ≤ m) (h2 : ubit s m = true) : cleanTo s n k = false := by
  induction k with
  | zero => omega
  | succ k ih =>
    rw [cleanTo_succ]
    by_cases e : m = k
    · subst e
      rw [h2]; simp; omega
    · rw [ih (by omega)]; rfl
theorem cleanTo_all (s : List Nat) (n m : Nat) (h : m ≤ n) : cleanTo s n m = true := by
  induction m with
  | zero => rfl
  | succ m ih => rw [cleanTo_succ, ih (by omega)]; simp; omega
/-- What bytes tell as n bits: an error's number, and the bits. -/
def unR (s : List Nat) (n : Int) : Nat × List Bool :=
  if n < 0 ∨ 1048576 < n then (1, [])
  else if s.length < (n.toNat + 7) / 8 then (10, [])
  else if (n.toNat + 7) / 8 < s.length then (11, [])
  else if cleanTo s n.toNat (8 * s.length) then (0, ubits s n.toNat) else (12, [])
theorem unR_arg (s : List Nat) (n : Int) (h : n < 0 ∨ 1048576 < n) : unR s n = (1, []) := by unfold unR; rw [if_pos h]
theorem unR_short (s : List Nat) (n : Nat) (h : n ≤ 1048576) (h1 : s.length < (n + 7) / 8) : unR s n = (10, []) := by
  unfold unR; rw [if_neg (by omega), if_pos (by simpa using h1)]
theorem unR_long (s : List Nat) (n : Nat) (h : n ≤ 1048576) (h1 : (n + 7) / 8 < s.length) : unR s n = (11, []) := by
  unfold unR; rw [if_neg (by omega), if_neg (by simp; omega), if_pos (by simpa using h1)]
theorem unR_ok (s : List Nat) (n : Nat) (h : n ≤ 1048576) (h1 : s.length = (n + 7) / 8) (hc : cleanTo s n (8 * s.length) = true) : unR s n = (0, ubits s n) := by
  unfold unR; rw [if_neg (by omega), if_neg (by simp; omega), if_neg (by simp; omega), if_pos (by simpa using hc)]; rfl
theorem unR_form (s : List Nat) (n : Nat) (h : n ≤ 1048576) (h1 : s.length = (n + 7) / 8) (hc : cleanTo s n (8 * s.length) = false) : unR s n = (12, []) := by
  unfold unR; rw [if_neg (by omega), if_neg (by simp; omega), if_neg (by simp; omega), if_neg (by simp [hc])]
attribute [irreducible] sb cntTo ubit pby bit cleanTo unR
end Go.Proofs.YtfkgmodgkifelaaGreatDoor
namespace Go.Proofs.YtfkgmodgkifelaaGreatDoor
open Go.RowKit

/-- A slice of bools. -/
def SlB (w : World) (v : Value) (l : List Bool) : Prop := InSl w v l.length (fun i => .bool (l.getD i false))
theorem InSl.below {w w' : World} {v : Value} {n : Nat} {V : Nat → Value} (h : InSl w v n V) (hb : Below w.heap.size w w') : InSl w' v n V := by
  obtain ⟨h1, h2⟩ := h
  refine ⟨h1, h2.imp id ?_⟩
  rintro ⟨h0, b, o, c, rfl, hc, hlt, hcell⟩
  exact ⟨h0, b, o, c, rfl, hc, Nat.lt_of_lt_of_le hlt hb.size, fun i hi => (hb.cell (p := ⟨b, o + i, none⟩) hlt).trans (hcell i hi)⟩
theorem bit_true {l : List Bool} {i : Nat} (h : l.getD i false = true) : bit l i = 1 := by unfold bit; rw [if_pos h]
theorem bit_false {l : List Bool} {i : Nat} (h : l.getD i false = false) : bit l i = 0 := by unfold bit; rw [if_neg (by rw [h]; decide)]
set_option maxHeartbeats 400000 in
theorem size_any (n : Nat) (hn : n ≤ 1099511627776) (w : World) :
    Calls Tryz.prog 80 #[.int .i64 n] w fun e w' => e = .returned (.int .i64 (((n + 7) / 8 : Nat) : Int)) ∧ w = w' := by
  go_enter Tryz.func80, Tryz.ntmps80
  go_wp2
  go_ret
  exact ⟨ret_int (by omega), rfl⟩
set_option maxHeartbeats 400000 in
theorem count_any (l : List Bool) (v : Value) (w : World) (h : SlB w v l) :
    Calls Tryz.prog 54 #[v] w fun e w' => e = .returned (.int .i64 ((cnt l : Nat) : Int)) ∧ w = w' := by
  obtain ⟨hm, hs⟩ := h
  unfold maxLen at hm
  rcases hs with ⟨h0, a, c, rfl, _⟩ | ⟨hpos, b, o, c, rfl, hc, hb, hcell⟩
  · have hl : l = [] := List.eq_nil_of_length_eq_zero h0
    subst hl
    clear h0 hm
    go_enter Tryz.func54, Tryz.ntmps54
    go_wp2_with fail
    refine wp_loop_rounds 1 ?_
    rw [rounds_succ]
    go_wp2
    go_ret
    exact ⟨ret_int (by simp [cnt, cntTo]), rfl⟩
  have HC := hide hcell
  clear hcell
  go_enter Tryz.func54, Tryz.ntmps54
  go_wp2_with fail
  go_loop [3, 8] (fun x i => ∃ k : Nat, k ≤ l.length ∧ i = .int .i64 k ∧ x = .int .i64 ((cntTo l k : Nat) : Int)) (fun _ i => l.length - (intOf i).toNat)
  case atStart => exact ⟨0, by omega, rfl, by unfold cntTo; rfl⟩
  case round =>
    obtain ⟨k, hk, rfl, rfl⟩ := hrel
    have hle := cntTo_le l k
    by_cases hlt : k < l.length
    · have hck := HC.out k hlt
      have HN := hide (cntTo_succ l k)
      cases hbit : l.getD k false with
      | true =>
        have HB := hide (bit_true hbit)
        have hck' : w.cell? ⟨b, o + k, none⟩ = some (.bool true) := hck.trans (by rw [hbit])
        clear hck hbit
        go_wp2
        go_round
        case rel => exact ⟨k + 1, by omega, by go_num, by rw [HN.out, HB.out]; go_num⟩
        case measure => simp [intOf] <;> omega
      | false =>
        have HB := hide (bit_false hbit)
        have hck' : w.cell? ⟨b, o + k, none⟩ = some (.bool false) := hck.trans (by rw [hbit])
        clear hck hbit
        go_wp2
        go_round
        case rel => exact ⟨k + 1, by omega, by go_num, by rw [HN.out, HB.out]; go_num⟩
        case measure => simp [intOf] <;> omega
    · have hk8 : k = l.length := by omega
      subst hk8
      go_wp2
      go_ret
      exact ⟨rfl, rfl⟩
/-- The bytes after i bits. -/
def pst (l : List Bool) (i : Nat) : List Nat := (List.range ((l.length + 7) / 8)).map (pby l i)
theorem pst_length (l : List Bool) (i : Nat) : (pst l i).length = (l.length + 7) / 8 := by simp [pst]
theorem pst_0 (l : List Bool) : pst l 0 = List.replicate ((l.length + 7) / 8) 0 := by
  apply List.ext_getElem
  · simp [pst]
  · intro j h1 h2; simp [pst, pby_0]
theorem pst_full (l : List Bool) : pst l l.length = packL l := by
  unfold pst packL
  exact List.map_congr_left fun j _ => pby_full l j
theorem pst_getD (l : List Bool) (i j : Nat) (h : j < (l.length + 7) / 8) : (pst l i).getD j 0 = pby l i j := by simp [pst, List.getD, h]
theorem pst_set (l : List Bool) (i : Nat) : (pst l i).set (i / 8) (pby l i (i / 8) + bit l i * 2 ^ (i % 8)) = pst l (i + 1) := by
  apply List.ext_getElem
  · simp [pst]
  · intro j h1 h2
    rw [List.getElem_set]
    simp only [pst, List.getElem_map, List.getElem_range]
    by_cases e : i / 8 = j
    · subst e; rw [if_pos rfl, pby_at]
    · rw [if_neg e, pby_other l i j (fun h => e h.symm)]
theorem or_pow_u8 (x k : Nat) (hk : k < 8) (hx : x < 2 ^ k) : bits .or .u8 (x : Int) (2 ^ k % 256) = ((x + 2 ^ k : Nat) : Int) := by
  have h8 : 2 ^ k ≤ 2 ^ 7 := Nat.pow_le_pow_right (by omega) (by omega)
  have h7 : (2 : Nat) ^ 7 = 128 := rfl
  have e : ((2 : Int) ^ k % 256) = ((2 ^ k : Nat) : Int) := by
    rw [show ((2 : Int) ^ k) = ((2 ^ k : Nat) : Int) from by rw [Int.natCast_pow]; rfl]
    omega
  rw [e, u8_or_nat x (2 ^ k) (by omega) (by omega), or_bit x k hx]
set_option maxHeartbeats 1000000 in
theorem pack_any (l : List Bool) (hl : l.length ≤ 1048576) (v : Value) (w : World) (h : SlB w v l) :
    Calls Tryz.prog 40 #[v] w fun e w' => e = .returned (.string (strN (packL l))) ∧ Below w.heap.size w w' := by
  obtain ⟨hm, hs⟩ := h
  have hmk := run_make_row' (P := Tryz.prog) 75 5 (.int .u8 0) 1 Tryz.underlying75 info_u8 rfl .i64 .i64 ((l.length + 7) / 8) (by omega) (by omega)
  have hsz : ((l.length + 7) / 8 : Nat) ≤ 1048576 := by omega
  rcases hs with ⟨h0, a, c, rfl, _⟩ | ⟨hpos, b, o, c, rfl, hc, hb, hcell⟩
  · have hl : l = [] := List.eq_nil_of_length_eq_zero h0
    subst hl
    have HS0 : Hid (strN (packL []) = { data := #[] }) := by show _ = _; unfold strN; rfl
    have K1 : Hid (∀ w, Calls Tryz.prog 80 #[.int .i64 0] w fun e w' => e = .returned (.int .i64 0) ∧ w = w') := fun w => size_any 0 (by omega) w
    have hmk0 : ∀ w, (Instr.makeSlice 75 (.int .i64 0) (.int .i64 0)).run Tryz.prog w = .ok (.slice (some ⟨w.heap.size, 0, none⟩) 0 0) (w.alloc (.cells (madeCells #[.int .u8 0] 0) 5)) := fun w => hmk w
    have hcv := row8_string (row8_new w 0 5) 0
    have e0 : strN (List.replicate 0 0) = { data := #[] } := by unfold strN; rfl
    rw [e0] at hcv
    have hcv' : Sem.run Tryz.prog (convert 75 9 (.slice (some ⟨w.heap.size, 0, none⟩) 0 0)) (w.alloc (.cells (madeCells #[.int .u8 0] 0) 5)) = .ok (.string { data := #[] }) (w.alloc (.cells (madeCells #[.int .u8 0] 0) 5)) := hcv
    have HBB := (Below.refl w.heap.size w).alloc (Nat.le_refl _) (.cells (madeCells #[.int .u8 0] 0) 5)
    clear hmk hcv hl h0 hm e0 hsz
    generalize madeCells #[Value.int .u8 0] 0 = C0 at *
    go_enter Tryz.func40, Tryz.ntmps40
    go_wp2_with fail
    refine (K1.out _).mono ?_
    rintro e w' ⟨rfl, rfl⟩
    go_wp2_with fail
    refine wp_loop_rounds 1 ?_
    rw [rounds_succ]
    go_wp2
    go_ret
    exact ⟨by rw [HS0.out]; rfl, HBB⟩
  have HC := hide hcell
  clear hcell hm
  generalize hM : (l.length + 7) / 8 = M at hmk hsz
  have HM := hide hM
  have K1 : Hid (∀ w, Calls Tryz.prog 80 #[.int .i64 l.length] w fun e w' => e = .returned (.int .i64 ((M : Nat) : Int)) ∧ w = w') := fun w => by rw [← hM]; exact size_any _ (by omega) w
  clear hM
  go_enter Tryz.func40, Tryz.ntmps40
  go_wp2_with fail
  refine (K1.out _).mono ?_
  rintro e w' ⟨rfl, rfl⟩
  go_wp2_with fail
  go_loopw [12] (fun i wr => ∃ k : Nat, k ≤ l.length ∧ i = .int .i64 k ∧ Row8 wr w.heap.size (pst l k) ∧ Below w.heap.size w wr) (fun i _ => l.length - (intOf i).toNat)
  case atStart => exact ⟨0, by omega, rfl, by rw [pst_0, HM.out]; exact row8_new w M _, (Below.refl _ _).alloc (Nat.le_refl _) _⟩
  case round =>
    obtain ⟨k, hk, rfl, HR, hb1⟩ := hrel
    by_cases hlt : k < l.length
    · have hck := (hb1.cell (p := ⟨b, o + k, none⟩) hb).trans (HC.out k hlt)
      have HN := hide (pst_set l k)
      cases hbit : l.getD k false with
      | true =>
        have HB := hide (bit_true hbit)
        have hck' : wr.cell? ⟨b, o + k, none⟩ = some (.bool true) := hck.trans (by rw [hbit])
        clear hck hbit
        have hkM : k / 8 < M := by have := HM.out; omega
        have hl8 : k / 8 < (pst l k).length := by rw [pst_length, HM.out]; exact hkM
        have hc8 := HR.cell hl8
        have hf8 := HR.frozen hl8
        have hx := pby_at_lt l k
        have hx256 := pby_lt l k (k / 8)
        rw [pst_getD l k _ (by have := HM.out; omega)] at hc8
        generalize pby l k (k / 8) = x at hc8 hx hx256 HN
        have HX := hide (or_pow_u8 x (k % 8) (Nat.mod_lt _ (by decide)) hx)
        have HR2 : Row8 (wr.setCell ⟨w.heap.size, k / 8, none⟩ (.int .u8 (bits BinOp.or IntKind.u8 (x : Int) (2 ^ (k % 8) % 256)))) w.heap.size (pst l (k + 1)) := by
          rw [HX.out, ← HN.out, HB.out, Nat.one_mul]; exact HR.set _ _ hl8
        have HB2 := hb1.setCell (p := ⟨w.heap.size, k / 8, none⟩) (Nat.le_refl _) (.int .u8 (bits BinOp.or IntKind.u8 (x : Int) (2 ^ (k % 8) % 256)))
        go_wp2
        go_roundw
        case rel => exact ⟨k + 1, by omega, by go_num, HR2, HB2⟩
        case measure => simp [intOf] <;> omega
      | false =>
        have HB := hide (bit_false hbit)
        have hck' : wr.cell? ⟨b, o + k, none⟩ = some (.bool false) := hck.trans (by rw [hbit])
        clear hck hbit
        have HR2 : Row8 wr w.heap.size (pst l (k + 1)) := by
          have e : (pst l k).set (k / 8) (pby l k (k / 8)) = pst l k := by
            have hl8 : k / 8 < (pst l k).length := by rw [pst_length]; omega
            apply List.ext_getElem (by simp)
            intro j h1 h2
            rw [List.getElem_set]
            split
            · rename_i e; subst e; simp [pst]
            · rfl
          have := HN.out
          rw [HB.out, Nat.zero_mul, Nat.add_zero, e] at this
          rw [← this]; exact HR
        go_wp2
        go_roundw
        case rel => exact ⟨k + 1, by omega, by go_num, HR2, hb1⟩
        case measure => simp [intOf] <;> omega
    · have hk8 : k = l.length := by omega
      subst hk8
      have hcv := row8_string HR M
      have HL : (pst l l.length).length = M := by rw [pst_length, HM.out]
      rw [HL, pst_full] at hcv
      clear HL
      go_wp2
      go_ret
      exact ⟨rfl, hb1⟩
end Go.Proofs.YtfkgmodgkifelaaGreatDoor
