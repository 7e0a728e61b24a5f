/- Columns: what is wrong with one column, whatever its name and kind. Whole numbers as floats: back to whole numbers, and sums. -/
import Derived.Test.YtfkgmodgkifelaaGreatDoorJ13
import Derived.Test.YtfkgmodgkifelaaGreatDoorJ07
import Derived.Test.YtfkgmodgkifelaaGreatDoorJ08
import Derived.WalkLawsBesides
namespace Go.Proofs.YtfkgmodgkifelaaGreatDoor
open Go.RowKit

/-- What is wrong with one column. -/
def colE (nm : ByteArray) (k : Int) : Nat := if nm.size = 0 ∨ 64 < nm.size ∨ Lib.validD nm.data.toList = false ∨ k < 1 ∨ 6 < k then 30 else 0
theorem str_nil (nm : ByteArray) (h : nm.size ≠ 0) : (nm.toList == ByteArray.empty.toList) = false := by
  rw [beq_eq_false_iff_ne]
  intro he
  rw [ByteArray.toList_eq, ByteArray.toList_eq] at he
  have := WideShapes.bytes_inj he
  rw [this] at h
  exact h rfl
set_option maxHeartbeats 1000000 in
set_option maxRecDepth 100000 in
theorem sis_no (k : Int) (h : k < 1 ∨ 6 < k) (w : World) :
    Calls Tryz.prog 46 #[.int .i64 k] w fun e w' => e = .returned (.bool false) ∧ w = w' := by
  rcases h with h | h
  · have h2 : decide (1 ≤ k) = false := by rw [decide_eq_false_iff_not]; omega
    go_enter Tryz.func46, Tryz.ntmps46
    go_wp2_with fail
    go_ret
    exact ⟨rfl, rfl⟩
  · have h2 : decide (k ≤ 6) = false := by rw [decide_eq_false_iff_not]; omega
    have h3 : decide (1 ≤ k) = true := by rw [decide_eq_true_eq]; omega
    go_enter Tryz.func46, Tryz.ntmps46
    go_wp2_with fail
    go_ret
    exact ⟨rfl, rfl⟩
set_option maxHeartbeats 2000000 in
set_option maxRecDepth 100000 in
theorem columns_gen (nm : ByteArray) (hnm : nm.size ≤ maxLen) (k : Int) (nl : Bool) (g cz : Nat) (w : World) (hT : Tabs w) (c0 : w.cell? ⟨g, 0, none⟩ = some (.string nm)) (c1 : w.cell? ⟨g, 1, none⟩ = some (.int .i64 k)) (c2 : w.cell? ⟨g, 2, none⟩ = some (.bool nl)) :
    Calls Tryz.prog 14 #[.slice (some ⟨g, 0, none⟩) 1 cz] w fun e w' => e = .returned (.int .i64 (colE nm k : Nat)) ∧ Below w.heap.size w w' := by
  have hg := cell_in c0
  obtain ⟨R, hR⟩ : ∃ R, colE nm k = R := ⟨_, rfl⟩
  rw [hR]
  have HR := hide hR
  clear hR
  have HT := hide hT
  clear hT
  have hmm := fun w1 : World => run_makeMap_plain (P := Tryz.prog) w1 95
  go_enter Tryz.func14, Tryz.ntmps14
  go_wp2_with fail
  refine wp_loop_rounds 2 ?_
  rw [rounds_succ]
  obtain ⟨w1, hw1⟩ : ∃ w1, w.alloc (.map #[] 0) = w1 := ⟨_, rfl⟩
  have hb1 : Below w.heap.size w w1 := by rw [← hw1]; exact (Below.refl _ _).alloc (Nat.le_refl _) _
  have hm1 : w1.heap[w.heap.size]? = some (.map #[] 0) := by rw [← hw1]; exact Array.getElem?_push_size
  rw [hw1]
  have d0 := (hb1.cell hg).trans c0
  have d1 := (hb1.cell hg).trans c1
  have d2 := (hb1.cell hg).trans c2
  have hs1 : w.heap.size < w1.heap.size := by rw [← hw1]; simp
  clear hw1 hmm c0 c1 c2
  go_wp2_with fail
  obtain ⟨w2, hw2⟩ : ∃ w2, w1.alloc (.cells #[.string nm, .int .i64 k, .bool nl] 23) = w2 := ⟨_, rfl⟩
  have hb2 : Below w.heap.size w w2 := by rw [← hw2]; exact hb1.alloc hb1.size _
  have hm2 : w2.heap[w.heap.size]? = some (.map #[] 0) := by rw [← hw2]; exact (Below.heap_alloc _ _ _ hs1).trans hm1
  have hk2 : Blk w2 w1.heap.size 23 #[.string nm, .int .i64 k, .bool nl] := by rw [← hw2]; exact Blk.new _ _ _
  have hl2 := look_none w2 _ _ nm hm2
  have hu2 := run_mapUpdate_first w2 95 9 3 w.heap.size 0 nm (.int .i64 1) map_und str_und hm2
  obtain ⟨w3, hw3⟩ : ∃ w3, { w2 with heap := w2.heap.setIfInBounds w.heap.size (.map #[{ key := .string nm, val := .int .i64 1, born := 0 }] (0 + 1)) } = w3 := ⟨_, rfl⟩
  have hz2 : w.heap.size < w2.heap.size := hk2.lt |> fun h => by omega
  have hb3 : Below w.heap.size w w3 := by
    rw [← hw3]
    exact ⟨hb2.os, hb2.tape, hb2.output, by simpa using hb2.size, fun j hj => by
      rw [Array.getElem?_setIfInBounds, if_neg (by omega)]; exact hb2.block j hj⟩
  have hm3 : w3.heap[w.heap.size]? = some (.map #[{ key := .string nm, val := .int .i64 1, born := 0 }] 1) := by
    rw [← hw3]; exact (MapKept.heap_set hm2).1
  have hk3 : Blk w3 w1.heap.size 23 #[.string nm, .int .i64 k, .bool nl] := by
    unfold Blk at hk2 ⊢
    rw [← hw3]; exact ((MapKept.heap_set hm2).2 _ (by omega)).trans hk2
  rw [hw3] at hu2
  rw [hw2]
  have k0 := hk3.cell 0
  have k1 := hk3.cell 1
  simp at k0 k1
  clear hw2 hw3 hb1 hb2 hm1 d0 d1 d2
  have HS := hide hnm
  have HM3 := hide hm3
  have HB3 := hide hb3
  have HT3 := hide (HT.out.below hb3)
  have HK3 := hide hk3
  clear hm3 hb3 hnm
  rw [hl2]
  have KV := hide (valid_any nm w3 HS.out HT3.out)
  have hnl : (nm.size : Int) ≤ 9223372036854775807 := by have := HS.out; unfold maxLen at this; omega
  by_cases h0 : nm.size = 0
  · obtain rfl : R = 30 := by rw [← HR.out]; unfold colE; rw [if_pos (.inl h0)]
    have hnm0 : nm = ByteArray.empty := by
      cases nm with
      | mk d =>
        have : d = #[] := Array.eq_empty_of_size_eq_zero h0
        subst this; rfl
    have hq : (nm.toList == ByteArray.empty.toList) = true := by rw [hnm0]; exact beq_self_eq_true _
    have hq2 : nm.toList.isEmpty = true := by rw [hnm0, ByteArray.toList_eq]; rfl
    clear KV hnm0 h0 HR
    go_wp2_with fail
    go_ret
    exact ⟨rfl, HB3.out⟩
  · have hq : (nm.toList == ByteArray.empty.toList) = false := str_nil nm h0
    have hq2 : nm.toList.isEmpty = false := by
      cases he : nm.toList.isEmpty
      · rfl
      · rw [ByteArray.toList_eq, List.isEmpty_iff] at he
        exact absurd (show nm.size = 0 by rw [← ByteArray.size_data, ← Array.length_toList, he]; rfl) h0
    by_cases h64 : 64 < nm.size
    · obtain rfl : R = 30 := by rw [← HR.out]; unfold colE; rw [if_pos (.inr (.inl h64))]
      have h64' : (64 : Int) < (nm.size : Int) := by omega
      clear KV h0 HR h64
      go_wp2_with fail
      go_ret
      exact ⟨rfl, HB3.out⟩
    · have h64' : (nm.size : Int) ≤ 64 := by omega
      cases hv : Lib.validD nm.data.toList
      · obtain rfl : R = 30 := by rw [← HR.out]; unfold colE; rw [if_pos (.inr (.inr (.inl hv)))]
        rw [hv] at KV
        clear h0 HR h64 hv
        go_wp2_with fail
        refine KV.out.mono ?_
        rintro e w4 ⟨rfl, hb4⟩
        have HB4 := hide (HB3.out.trans (hb4.mono HB3.out.size))
        clear hb4
        go_wp2_with fail
        go_ret
        exact ⟨rfl, HB4.out⟩
      · rw [hv] at KV
        by_cases hk : k < 1 ∨ 6 < k
        · obtain rfl : R = 30 := by rw [← HR.out]; unfold colE; rw [if_pos (.inr (.inr (.inr hk)))]
          have KI := hide (fun w => sis_no k hk w)
          clear h0 HR h64 hv hk
          go_wp2_with fail
          refine KV.out.mono ?_
          rintro e w4 ⟨rfl, hb4⟩
          have hk4 := HK3.out.below hb4 HK3.out.lt
          have HB4 := hide (HB3.out.trans (hb4.mono HB3.out.size))
          have j0 := hk4.cell 0
          have j1 := hk4.cell 1
          simp at j0 j1
          clear hb4 k0 k1 hk4 hl2 hu2
          go_wp2_with fail
          refine (KI.out _).mono ?_
          rintro e w5 ⟨rfl, rfl⟩
          go_wp2_with fail
          go_ret
          exact ⟨rfl, HB4.out⟩
        · obtain rfl : R = 0 := by
            rw [← HR.out]; unfold colE; rw [if_neg]
            rintro (h | h | h | h | h)
            · exact h0 h
            · exact h64 h
            · rw [hv] at h; cases h
            · exact hk (.inl h)
            · exact hk (.inr h)
          have KI := hide (fun w => sis_yes k (by omega) (by omega) w)
          clear h0 HR h64 hv hk
          go_wp2_with fail
          refine KV.out.mono ?_
          rintro e w4 ⟨rfl, hb4⟩
          have hk4 := HK3.out.below hb4 HK3.out.lt
          have hm4 : w4.heap[w.heap.size]? = some (.map #[{ key := .string nm, val := .int .i64 1, born := 0 }] 1) := (hb4.block _ (Array.getElem?_eq_some_iff.1 HM3.out).1).trans HM3.out
          have HB4 := hide (HB3.out.trans (hb4.mono HB3.out.size))
          have j0 := hk4.cell 0
          have j1 := hk4.cell 1
          simp at j0 j1
          have hl4 := look_one w4 _ _ _ nm _ hm4
          clear hb4 k0 k1 hk4 hl2 hu2 hm4
          go_wp2_with fail
          refine (KI.out _).mono ?_
          rintro e w5 ⟨rfl, rfl⟩
          go_wp2_with fail
          rw [rounds_succ]
          go_wp2_with fail
          go_ret
          exact ⟨rfl, HB4.out⟩
set_option maxHeartbeats 2000000 in
set_option maxRecDepth 100000 in
theorem scolumns_gen (nm : ByteArray) (hnm : nm.size ≤ maxLen) (k : Int) (nl : Bool) (g cz : Nat) (w : World) (hT : Tabs w) (c0 : w.cell? ⟨g, 0, none⟩ = some (.string nm)) (c1 : w.cell? ⟨g, 1, none⟩ = some (.int .i64 k)) (_c2 : w.cell? ⟨g, 2, none⟩ = some (.bool nl)) :
    Calls Tryz.prog 16 #[.slice (some ⟨g, 0, none⟩) 1 cz] w fun e w' => e = .returned (.bool (colE nm k == 0)) ∧ Below w.heap.size w w' := by
  have hg := cell_in c0
  obtain ⟨R, hR⟩ : ∃ R, colE nm k = R := ⟨_, rfl⟩
  rw [hR]
  have HR := hide hR
  have KV := hide (valid_any nm w hnm hT)
  have HC1 := hide c1
  have hnl : (nm.size : Int) ≤ 9223372036854775807 := by unfold maxLen at hnm; omega
  clear hR hT hnm
  go_enter Tryz.func16, Tryz.ntmps16
  go_wp2_with fail
  refine wp_loop_rounds 2 ?_
  rw [rounds_succ]
  go_wp2_with fail
  refine wp_loop_rounds 1 ?_
  rw [rounds_succ]
  by_cases h0 : nm.size = 0
  · obtain rfl : R = 30 := by rw [← HR.out]; unfold colE; rw [if_pos (.inl h0)]
    have hnm0 : nm = ByteArray.empty := by
      cases nm with
      | mk d =>
        have : d = #[] := Array.eq_empty_of_size_eq_zero h0
        subst this; rfl
    have hq : (nm.toList == ByteArray.empty.toList) = true := by rw [hnm0]; exact beq_self_eq_true _
    have hq2 : nm.toList.isEmpty = true := by rw [hnm0, ByteArray.toList_eq]; rfl
    clear KV hnm0 h0 HR
    go_wp2_with fail
    go_ret
    exact ⟨rfl, Below.refl _ _⟩
  · have hq : (nm.toList == ByteArray.empty.toList) = false := str_nil nm h0
    have hq2 : nm.toList.isEmpty = false := by
      cases he : nm.toList.isEmpty
      · rfl
      · rw [ByteArray.toList_eq, List.isEmpty_iff] at he
        exact absurd (show nm.size = 0 by rw [← ByteArray.size_data, ← Array.length_toList, he]; rfl) h0
    by_cases h64 : 64 < nm.size
    · obtain rfl : R = 30 := by rw [← HR.out]; unfold colE; rw [if_pos (.inr (.inl h64))]
      have h64' : (64 : Int) < (nm.size : Int) := by omega
      clear KV h0 HR h64
      go_wp2_with fail
      go_ret
      exact ⟨rfl, Below.refl _ _⟩
    · have h64' : (nm.size : Int) ≤ 64 := by omega
      cases hv : Lib.validD nm.data.toList
      · obtain rfl : R = 30 := by rw [← HR.out]; unfold colE; rw [if_pos (.inr (.inr (.inl hv)))]
        rw [hv] at KV
        clear h0 HR h64 hv
        go_wp2_with fail
        refine KV.out.mono ?_
        rintro e w4 ⟨rfl, hb4⟩
        have HB4 := hide hb4
        clear hb4
        go_wp2_with fail
        go_ret
        exact ⟨rfl, HB4.out⟩
      · rw [hv] at KV
        by_cases hk1 : k < 1
        · obtain rfl : R = 30 := by rw [← HR.out]; unfold colE; rw [if_pos (.inr (.inr (.inr (.inl hk1))))]
          clear h0 HR h64 hv c1
          have hd : decide (k < 1) = true := by rw [decide_eq_true_eq]; exact hk1
          go_wp2_with fail
          refine KV.out.mono ?_
          rintro e w4 ⟨rfl, hb4⟩
          have HB4 := hide hb4
          have j1 := (hb4.cell (p := ⟨g, 1, none⟩) hg).trans HC1.out
          clear hb4
          go_wp2_with fail
          go_ret
          exact ⟨rfl, HB4.out⟩
        · have hd : decide (k < 1) = false := by rw [decide_eq_false_iff_not]; exact hk1
          by_cases hk6 : 6 < k
          · obtain rfl : R = 30 := by rw [← HR.out]; unfold colE; rw [if_pos (.inr (.inr (.inr (.inr hk6))))]
            clear h0 HR h64 hv c1
            go_wp2_with fail
            refine KV.out.mono ?_
            rintro e w4 ⟨rfl, hb4⟩
            have HB4 := hide hb4
            have j1 := (hb4.cell (p := ⟨g, 1, none⟩) hg).trans HC1.out
            clear hb4
            go_wp2_with fail
            go_ret
            exact ⟨rfl, HB4.out⟩
          · obtain rfl : R = 0 := by
              rw [← HR.out]; unfold colE; rw [if_neg]
              rintro (h | h | h | h | h)
              · exact h0 h
              · exact h64 h
              · rw [hv] at h; cases h
              · exact hk1 h
              · exact hk6 h
            have hd6 : decide (6 < k) = false := by rw [decide_eq_false_iff_not]; exact hk6
            clear h0 HR h64 hv c1
            go_wp2_with fail
            refine KV.out.mono ?_
            rintro e w4 ⟨rfl, hb4⟩
            have HB4 := hide hb4
            have j1 := (hb4.cell (p := ⟨g, 1, none⟩) hg).trans HC1.out
            clear hb4
            go_wp2_with fail
            rw [rounds_succ]
            go_wp2_with fail
            go_ret
            exact ⟨rfl, HB4.out⟩
end Go.Proofs.YtfkgmodgkifelaaGreatDoor
namespace Go.Proofs.YtfkgmodgkifelaaGreatDoor

theorem cut_zero (neg : Bool) (q d m : Nat) (hm : m = q * 2 ^ d) (hd : d ≤ m.log2 + 2) : Ieee.Toward.zero.cut neg m d = q := by
  unfold Ieee.Toward.cut
  have hmin : min d (m.log2 + 2) = d := by omega
  have hp := Nat.two_pow_pos d
  simp only [hmin, Nat.one_shiftLeft]
  have h1 : m / 2 ^ d = q := by rw [hm]; exact Nat.mul_div_cancel _ hp
  rw [h1]
  simp
theorem cut_nought (neg : Bool) (d : Nat) : Ieee.Toward.zero.cut neg 0 d = 0 := by
  unfold Ieee.Toward.cut
  simp
theorem abs_of {s : Bool} {m k : Nat} {n : Int} (h : 2 * (if s then -(m : Int) else (m : Int)) = n * 2 ^ k) : 2 * m = n.natAbs * 2 ^ k := by
  have h2 := congrArg Int.natAbs h
  rw [Int.natAbs_mul, Int.natAbs_mul, Int.natAbs_pow] at h2
  have e : (if s then -(m : Int) else (m : Int)).natAbs = m := by cases s <;> simp
  rw [e] at h2
  simpa using h2
/-- Back again: 'int64(float64(n))'. -/
theorem toInt_int (n : Int) (h : n.natAbs ≤ 9007199254740992) : floatToIntVal .f64 (floatOfInt .f64 n) .i64 = some n := by
  obtain ⟨s, m, k, e1, h1, hs, hk⟩ := read_int n h
  have hd : FloatKind.f64.decode (floatOfInt .f64 n) = .number s m (1 - (k : Int)) := e1
  have habs := abs_of h1
  have hcut : Ieee.Toward.zero.cut s (m <<< (1 - (k : Int)).toNat) (-(1 - (k : Int))).toNat = n.natAbs := by
    rw [Nat.shiftLeft_eq]
    rcases Nat.eq_zero_or_pos k with h0 | h0
    · subst h0
      have e2 : (1 - ((0 : Nat) : Int)).toNat = 1 := by omega
      have e3 : (-(1 - ((0 : Nat) : Int))).toNat = 0 := by omega
      rw [e2, e3]
      refine cut_zero _ _ _ _ ?_ (by omega)
      simp at habs ⊢; omega
    · have e2 : (1 - (k : Int)).toNat = 0 := by omega
      have e3 : (-(1 - (k : Int))).toNat = k - 1 := by omega
      rw [e2, e3, Nat.pow_zero, Nat.mul_one]
      have hm : m = n.natAbs * 2 ^ (k - 1) := by
        have : 2 ^ k = 2 * 2 ^ (k - 1) := by rw [← Nat.pow_succ', show (k - 1).succ = k by omega]
        rw [this, ← Nat.mul_assoc, Nat.mul_comm n.natAbs 2, Nat.mul_assoc] at habs
        omega
      rcases Nat.eq_zero_or_pos n.natAbs with hn0 | hn0
      · rw [hm, hn0, Nat.zero_mul]; exact cut_nought _ _
      · refine cut_zero _ _ _ _ hm ?_
        have hp : 2 ^ (k - 1) ≤ m := by
          rw [hm]; exact Nat.le_mul_of_pos_left _ hn0
        have hm0 : 0 < m := Nat.lt_of_lt_of_le (Nat.two_pow_pos _) hp
        obtain ⟨_, hl⟩ := log2_spec hm0
        have : k - 1 < m.log2 + 1 := (Nat.pow_lt_pow_iff_right (by omega)).1 (Nat.lt_of_le_of_lt hp hl)
        omega
  unfold floatToIntVal
  rw [hd]
  have ht : (Ieee.Datum.number s m (1 - (k : Int))).toInt .zero = some n := by
    unfold Ieee.Datum.toInt Ieee.Datum.integral
    simp only [hcut]
    unfold Ieee.signed
    rw [Nat.shiftLeft_eq, Nat.pow_zero, Nat.mul_one]
    congr 1
    cases s with
    | true => simp only [if_true]; have := hs rfl; omega
    | false =>
      simp only [Bool.false_eq_true, if_false]
      simp only [Bool.false_eq_true, if_false] at h1
      have hp : (0 : Int) < 2 ^ k := Int.pow_pos (by omega)
      have : 0 ≤ n := by
        apply Int.not_lt.1
        intro hn
        have : n * 2 ^ k < 0 := Int.mul_neg_of_neg_of_pos hn hp
        omega
      omega
  rw [ht]
  have hmin : IntKind.i64.min = -9223372036854775808 := by decide
  have hmax : IntKind.i64.max = 9223372036854775807 := by decide
  simp only [hmin, hmax]
  rw [if_pos (by omega)]
/-- A sum of whole numbers is exact, where it does not grow too far. -/
theorem add_int (a b : Int) (ha : a.natAbs ≤ 9007199254740992) (hb : b.natAbs ≤ 9007199254740992) (hc : (a + b).natAbs ≤ 9007199254740992) :
    Ieee.double.add (floatOfInt .f64 a) (floatOfInt .f64 b) = some (floatOfInt .f64 (a + b)) := by
  obtain ⟨s, m, k, e1, h1, hs, _⟩ := read_int a ha
  obtain ⟨t, n, l, e2, h2, ht, _⟩ := read_int b hb
  unfold Ieee.Format.add
  rw [e1, e2]
  unfold Ieee.Datum.sum
  simp only [min_place, Option.map_some]
  have g1 := signed_of s m k (max k l) a (by omega) h1
  have g2 := signed_of t n l (max k l) b (by omega) h2
  generalize Ieee.signed s m ((1 - (k : Int)) - (1 - ((max k l : Nat) : Int))).toNat = X at *
  generalize Ieee.signed t n ((1 - (l : Int)) - (1 - ((max k l : Nat) : Int))).toNat = Y at *
  generalize max k l = K at *
  have hP : (0 : Int) < 2 ^ K := Int.pow_pos (by omega)
  have hsum : 2 * (X + Y) = (a + b) * 2 ^ K := by rw [Int.mul_add, g1, g2, Int.add_mul]
  congr 1
  by_cases h0 : a + b = 0
  · have hXY : X + Y = 0 := by rw [h0, Int.zero_mul] at hsum; omega
    rw [hXY, h0, if_pos rfl]
    have hst : (s && t) = false := by
      cases s with
      | false => rfl
      | true =>
        cases t with
        | false => rfl
        | true => have := hs rfl; have := ht rfl; omega
    rw [hst]
    have hz : floatOfInt .f64 0 = Ieee.double.word false 0 := by kernel_rfl
    rw [hz]
    show Ieee.double.nearest false (0 : Int).natAbs _ = _
    unfold Ieee.Format.nearest
    rw [if_pos Int.natAbs_zero]
  · have hXY : X + Y ≠ 0 := by
      intro h
      rw [h, Int.mul_zero] at hsum
      rcases Int.mul_eq_zero.1 hsum.symm with q | q
      · exact h0 q
      · omega
    rw [if_neg hXY]
    have hsg : decide (X + Y < 0) = decide (a + b < 0) := by
      rw [decide_eq_decide]
      constructor
      · intro h
        apply Int.not_le.1
        intro hn
        have : 0 ≤ (a + b) * 2 ^ K := Int.mul_nonneg hn (by omega)
        omega
      · intro h
        have : (a + b) * 2 ^ K < 0 := Int.mul_neg_of_neg_of_pos h hP
        omega
    have hab : 2 * (X + Y).natAbs = (a + b).natAbs * 2 ^ K := by
      have h3 := congrArg Int.natAbs hsum
      rw [Int.natAbs_mul, Int.natAbs_mul, Int.natAbs_pow] at h3
      simpa using h3
    have hpos : 0 < (a + b).natAbs := by omega
    obtain ⟨q1, hq1, w1⟩ := nearest_of (decide (a + b < 0)) (X + Y).natAbs K (a + b).natAbs hpos hc hab
    obtain ⟨q2, hq2, w2⟩ := nearest_of (decide (a + b < 0)) (a + b).natAbs 1 (a + b).natAbs hpos hc (by omega)
    have hq : q1 = q2 := by omega
    subst hq
    show Ieee.double.nearest (decide (X + Y < 0)) (X + Y).natAbs (1 - (K : Int)) = _
    rw [hsg, w1]
    have hf : floatOfInt .f64 (a + b) = Ieee.double.nearest (decide (a + b < 0)) (a + b).natAbs (1 - ((1 : Nat) : Int)) := rfl
    rw [hf, w2]
end Go.Proofs.YtfkgmodgkifelaaGreatDoor
