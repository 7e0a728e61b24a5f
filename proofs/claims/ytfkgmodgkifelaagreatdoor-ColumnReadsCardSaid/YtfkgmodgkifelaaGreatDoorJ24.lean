/- Schema: one column. Columns: what is wrong with one column, whatever its name and kind. -/
import Derived.Test.YtfkgmodgkifelaaGreatDoorJ18
import Derived.WideMake
import Derived.MapKept
import Derived.LoopN
import Derived.Lib.QuietBelow
import Derived.Test.YtfkgmodgkifelaaGreatDoorJ07
namespace Go.Proofs.YtfkgmodgkifelaaGreatDoor
open Go.RowKit

theorem map_und : Tryz.prog.underlying 95 = some (.map 9 3) := by kernel_rfl
theorem str_und : Tryz.prog.underlying 9 = some .string := by kernel_rfl
theorem look_none (w : World) (r clock : Nat) (s : ByteArray) (hb : w.heap[r]? = some (.map #[] clock)) :
    (Instr.lookup 95 (.map (some r)) (.string s) false).run Tryz.prog w = .ok (.int .i64 0) w := by
  have hf : Instr.findNow .string (.string s) ([] : List MapEntry) 0 = some none := rfl
  have hc : ∀ b : Bool, (Instr.checkKey b 10000 9 (.string s)).run Tryz.prog w = .ok () w := fun b => MapKept.run_checkKey (k := .string s) str_und (by simp [MapKept.IsKey]) b 9999
  simp [Instr.lookup, run_underlying map_und, MapKept.run_getObj_map hb, hc, MapKept.run_findKey str_und hf, Result.andThen]
theorem look_one (w : World) (r clock b : Nat) (s : ByteArray) (v : Value) (hb : w.heap[r]? = some (.map #[{ key := .string s, val := v, born := b }] clock)) :
    (Instr.lookup 95 (.map (some r)) (.string s) false).run Tryz.prog w = .ok v w := by
  have hf : Instr.findNow .string (.string s) [({ key := .string s, val := v, born := b } : MapEntry)] 0 = some (some (0, v)) := by simp [Instr.findNow, Instr.sameNow, (MapKept.bytes_beq s s).2 rfl]
  have hc : ∀ b : Bool, (Instr.checkKey b 10000 9 (.string s)).run Tryz.prog w = .ok () w := fun b => MapKept.run_checkKey (k := .string s) str_und (by simp [MapKept.IsKey]) b 9999
  simp [Instr.lookup, run_underlying map_und, MapKept.run_getObj_map hb, hc, MapKept.run_findKey str_und hf, Result.andThen]
set_option maxHeartbeats 2000000 in
set_option maxRecDepth 100000 in
theorem columns_one (k : Int) (hk : 1 ≤ k ∧ k ≤ 6) (g : Nat) (w : World) (hT : Tabs w) (c0 : w.cell? ⟨g, 0, none⟩ = some (.string ⟨#[97]⟩)) (c1 : w.cell? ⟨g, 1, none⟩ = some (.int .i64 k)) (c2 : w.cell? ⟨g, 2, none⟩ = some (.bool false)) :
    Calls Tryz.prog 14 #[.slice (some ⟨g, 0, none⟩) 1 1] w fun e w' => e = .returned (.int .i64 0) ∧ Below w.heap.size w w' := by
  have hg := cell_in c0
  have HT := hide hT
  clear hT
  have hmm := fun w1 : World => run_makeMap_plain (P := Tryz.prog) w1 95
  go_enter Tryz.func14, Tryz.ntmps14
  go_wp2_with fail
  refine wp_loop_rounds 2 ?_
  rw [rounds_succ]
  obtain ⟨w1, hw1⟩ : ∃ w1, w.alloc (.map #[] 0) = w1 := ⟨_, rfl⟩
  have hb1 : Below w.heap.size w w1 := by rw [← hw1]; exact (Below.refl _ _).alloc (Nat.le_refl _) _
  have hm1 : w1.heap[w.heap.size]? = some (.map #[] 0) := by rw [← hw1]; exact Array.getElem?_push_size
  rw [hw1]
  have d0 := (hb1.cell hg).trans c0
  have d1 := (hb1.cell hg).trans c1
  have d2 := (hb1.cell hg).trans c2
  have hs1 : w.heap.size < w1.heap.size := by rw [← hw1]; simp
  clear hw1 hmm c0 c1 c2
  go_wp2_with fail
  obtain ⟨w2, hw2⟩ : ∃ w2, w1.alloc (.cells #[.string ⟨#[97]⟩, .int .i64 k, .bool false] 23) = w2 := ⟨_, rfl⟩
  have hb2 : Below w.heap.size w w2 := by rw [← hw2]; exact hb1.alloc hb1.size _
  have hm2 : w2.heap[w.heap.size]? = some (.map #[] 0) := by rw [← hw2]; exact (Below.heap_alloc _ _ _ hs1).trans hm1
  have hk2 : Blk w2 w1.heap.size 23 #[.string ⟨#[97]⟩, .int .i64 k, .bool false] := by rw [← hw2]; exact Blk.new _ _ _
  have hl2 := look_none w2 _ _ ⟨#[97]⟩ hm2
  have hu2 := run_mapUpdate_first w2 95 9 3 w.heap.size 0 ⟨#[97]⟩ (.int .i64 1) map_und str_und hm2
  obtain ⟨w3, hw3⟩ : ∃ w3, { w2 with heap := w2.heap.setIfInBounds w.heap.size (.map #[{ key := .string ⟨#[97]⟩, val := .int .i64 1, born := 0 }] (0 + 1)) } = w3 := ⟨_, rfl⟩
  have hz2 : w.heap.size < w2.heap.size := hk2.lt |> fun h => by omega
  have hb3 : Below w.heap.size w w3 := by
    rw [← hw3]
    exact ⟨hb2.os, hb2.tape, hb2.output, by simpa using hb2.size, fun j hj => by
      rw [Array.getElem?_setIfInBounds, if_neg (by omega)]; exact hb2.block j hj⟩
  have hm3 : w3.heap[w.heap.size]? = some (.map #[{ key := .string ⟨#[97]⟩, val := .int .i64 1, born := 0 }] 1) := by
    rw [← hw3]; exact (MapKept.heap_set hm2).1
  have hk3 : Blk w3 w1.heap.size 23 #[.string ⟨#[97]⟩, .int .i64 k, .bool false] := by
    unfold Blk at hk2 ⊢
    rw [← hw3]; exact ((MapKept.heap_set hm2).2 _ (by omega)).trans hk2
  rw [hw3] at hu2
  rw [hw2]
  have k0 := hk3.cell 0
  have k1 := hk3.cell 1
  simp at k0 k1
  clear hw2 hw3 hb1 hb2 hm1 d0 d1 d2
  have HM3 := hide hm3
  have HB3 := hide hb3
  have HT3 := hide (HT.out.below hb3)
  have HK3 := hide hk3
  clear hm3 hb3
  have hk1 := hk.1
  have hk6 := hk.2
  rw [hl2]
  go_wp2_with fail
  have KV := hide (valid_any ⟨#[97]⟩ w3 (by decide) HT3.out)
  rw [show Lib.validD (⟨#[97]⟩ : ByteArray).data.toList = true by kernel_rfl] at KV
  refine KV.out.mono ?_
  rintro e w4 ⟨rfl, hb4⟩
  have hk4 := HK3.out.below hb4 HK3.out.lt
  have hm4 : w4.heap[w.heap.size]? = some (.map #[{ key := .string ⟨#[97]⟩, val := .int .i64 1, born := 0 }] 1) := (hb4.block _ (Array.getElem?_eq_some_iff.1 HM3.out).1).trans HM3.out
  have HB4 := hide (HB3.out.trans (hb4.mono HB3.out.size))
  have j0 := hk4.cell 0
  have j1 := hk4.cell 1
  simp at j0 j1
  have hl4 := look_one w4 _ _ _ ⟨#[97]⟩ _ hm4
  have KI := hide (sis_yes k hk1 hk6 w4)
  clear hl2 hu2 KV hb4 hm4 k0 k1 hk1 hk6
  go_wp2_with fail
  refine KI.out.mono ?_
  rintro e w5 ⟨rfl, rfl⟩
  clear KI
  go_wp2_with fail
  rw [rounds_succ]
  go_wp2_with fail
  go_ret
  exact ⟨rfl, HB4.out⟩
end Go.Proofs.YtfkgmodgkifelaaGreatDoor
namespace Go.Proofs.YtfkgmodgkifelaaGreatDoor
open Go.RowKit

/-- What is wrong with one column. -/
def colE (nm : ByteArray) (k : Int) : Nat := if nm.size = 0 ∨ 64 < nm.size ∨ Lib.validD nm.data.toList = false ∨ k < 1 ∨ 6 < k then 30 else 0
theorem str_nil (nm : ByteArray) (h : nm.size ≠ 0) : (nm.toList == ByteArray.empty.toList) = false := by
  rw [beq_eq_false_iff_ne]
  intro he
  rw [ByteArray.toList_eq, ByteArray.toList_eq] at he
  have := WideShapes.bytes_inj he
  rw [this] at h
  exact h rfl
set_option maxHeartbeats 1000000 in
set_option maxRecDepth 100000 in
theorem sis_no (k : Int) (h : k < 1 ∨ 6 < k) (w : World) :
    Calls Tryz.prog 46 #[.int .i64 k] w fun e w' => e = .returned (.bool false) ∧ w = w' := by
  rcases h with h | h
  · have h2 : decide (1 ≤ k) = false := by rw [decide_eq_false_iff_not]; omega
    go_enter Tryz.func46, Tryz.ntmps46
    go_wp2_with fail
    go_ret
    exact ⟨rfl, rfl⟩
  · have h2 : decide (k ≤ 6) = false := by rw [decide_eq_false_iff_not]; omega
    have h3 : decide (1 ≤ k) = true := by rw [decide_eq_true_eq]; omega
    go_enter Tryz.func46, Tryz.ntmps46
    go_wp2_with fail
    go_ret
    exact ⟨rfl, rfl⟩
set_option maxHeartbeats 2000000 in
set_option maxRecDepth 100000 in
theorem columns_gen (nm : ByteArray) (hnm : nm.size ≤ maxLen) (k : Int) (nl : Bool) (g cz : Nat) (w : World) (hT : Tabs w) (c0 : w.cell? ⟨g, 0, none⟩ = some (.string nm)) (c1 : w.cell? ⟨g, 1, none⟩ = some (.int .i64 k)) (c2 : w.cell? ⟨g, 2, none⟩ = some (.bool nl)) :
    Calls Tryz.prog 14 #[.slice (some ⟨g, 0, none⟩) 1 cz] w fun e w' => e = .returned (.int .i64 (colE nm k : Nat)) ∧ Below w.heap.size w w' := by
  have hg := cell_in c0
  obtain ⟨R, hR⟩ : ∃ R, colE nm k = R := ⟨_, rfl⟩
  rw [hR]
  have HR := hide hR
  clear hR
  have HT := hide hT
  clear hT
  have hmm := fun w1 : World => run_makeMap_plain (P := Tryz.prog) w1 95
  go_enter Tryz.func14, Tryz.ntmps14
  go_wp2_with fail
  refine wp_loop_rounds 2 ?_
  rw [rounds_succ]
  obtain ⟨w1, hw1⟩ : ∃ w1, w.alloc (.map #[] 0) = w1 := ⟨_, rfl⟩
  have hb1 : Below w.heap.size w w1 := by rw [← hw1]; exact (Below.refl _ _).alloc (Nat.le_refl _) _
  have hm1 : w1.heap[w.heap.size]? = some (.map #[] 0) := by rw [← hw1]; exact Array.getElem?_push_size
  rw [hw1]
  have d0 := (hb1.cell hg).trans c0
  have d1 := (hb1.cell hg).trans c1
  have d2 := (hb1.cell hg).trans c2
  have hs1 : w.heap.size < w1.heap.size := by rw [← hw1]; simp
  clear hw1 hmm c0 c1 c2
  go_wp2_with fail
  obtain ⟨w2, hw2⟩ : ∃ w2, w1.alloc (.cells #[.string nm, .int .i64 k, .bool nl] 23) = w2 := ⟨_, rfl⟩
  have hb2 : Below w.heap.size w w2 := by rw [← hw2]; exact hb1.alloc hb1.size _
  have hm2 : w2.heap[w.heap.size]? = some (.map #[] 0) := by rw [← hw2]; exact (Below.heap_alloc _ _ _ hs1).trans hm1
  have hk2 : Blk w2 w1.heap.size 23 #[.string nm, .int .i64 k, .bool nl] := by rw [← hw2]; exact Blk.new _ _ _
  have hl2 := look_none w2 _ _ nm hm2
  have hu2 := run_mapUpdate_first w2 95 9 3 w.heap.size 0 nm (.int .i64 1) map_und str_und hm2
  obtain ⟨w3, hw3⟩ : ∃ w3, { w2 with heap := w2.heap.setIfInBounds w.heap.size (.map #[{ key := .string nm, val := .int .i64 1, born := 0 }] (0 + 1)) } = w3 := ⟨_, rfl⟩
  have hz2 : w.heap.size < w2.heap.size := hk2.lt |> fun h => by omega
  have hb3 : Below w.heap.size w w3 := by
    rw [← hw3]
    exact ⟨hb2.os, hb2.tape, hb2.output, by simpa using hb2.size, fun j hj => by
      rw [Array.getElem?_setIfInBounds, if_neg (by omega)]; exact hb2.block j hj⟩
  have hm3 : w3.heap[w.heap.size]? = some (.map #[{ key := .string nm, val := .int .i64 1, born := 0 }] 1) := by
    rw [← hw3]; exact (MapKept.heap_set hm2).1
  have hk3 : Blk w3 w1.heap.size 23 #[.string nm, .int .i64 k, .bool nl] := by
    unfold Blk at hk2 ⊢
    rw [← hw3]; exact ((MapKept.heap_set hm2).2 _ (by omega)).trans hk2
  rw [hw3] at hu2
  rw [hw2]
  have k0 := hk3.cell 0
  have k1 := hk3.cell 1
  simp at k0 k1
  clear hw2 hw3 hb1 hb2 hm1 d0 d1 d2
  have HS := hide hnm
  have HM3 := hide hm3
  have HB3 := hide hb3
  have HT3 := hide (HT.out.below hb3)
  have HK3 := hide hk3
  clear hm3 hb3 hnm
  rw [hl2]
  have KV := hide (valid_any nm w3 HS.out HT3.out)
  have hnl : (nm.size : Int) ≤ 9223372036854775807 := by have := HS.out; unfold maxLen at this; omega
  by_cases h0 : nm.size = 0
  · obtain rfl : R = 30 := by rw [← HR.out]; unfold colE; rw [if_pos (.inl h0)]
    have hnm0 : nm = ByteArray.empty := by
      cases nm with
      | mk d =>
        have : d = #[] := Array.eq_empty_of_size_eq_zero h0
        subst this; rfl
    have hq : (nm.toList == ByteArray.empty.toList) = true := by rw [hnm0]; exact beq_self_eq_true _
    have hq2 : nm.toList.isEmpty = true := by rw [hnm0, ByteArray.toList_eq]; rfl
    clear KV hnm0 h0 HR
    go_wp2_with fail
    go_ret
    exact ⟨rfl, HB3.out⟩
  · have hq : (nm.toList == ByteArray.empty.toList) = false := str_nil nm h0
    have hq2 : nm.toList.isEmpty = false := by
      cases he : nm.toList.isEmpty
      · rfl
      · rw [ByteArray.toList_eq, List.isEmpty_iff] at he
        exact absurd (show nm.size = 0 by rw [← ByteArray.size_data, ← Array.length_toList, he]; rfl) h0
    by_cases h64 : 64 < nm.size
    · obtain rfl : R = 30 := by rw [← HR.out]; unfold colE; rw [if_pos (.inr (.inl h64))]
      have h64' : (64 : Int) < (nm.size : Int) := by omega
      clear KV h0 HR h64
      go_wp2_with fail
      go_ret
      exact ⟨rfl, HB3.out⟩
    · have h64' : (nm.size : Int) ≤ 64 := by omega
      cases hv : Lib.validD nm.data.toList
      · obtain rfl : R = 30 := by rw [← HR.out]; unfold colE; rw [if_pos (.inr (.inr (.inl hv)))]
        rw [hv] at KV
        clear h0 HR h64 hv
        go_wp2_with fail
        refine KV.out.mono ?_
        rintro e w4 ⟨rfl, hb4⟩
        have HB4 := hide (HB3.out.trans (hb4.mono HB3.out.size))
        clear hb4
        go_wp2_with fail
        go_ret
        exact ⟨rfl, HB4.out⟩
      · rw [hv] at KV
        by_cases hk : k < 1 ∨ 6 < k
        · obtain rfl : R = 30 := by rw [← HR.out]; unfold colE; rw [if_pos (.inr (.inr (.inr hk)))]
          have KI := hide (fun w => sis_no k hk w)
          clear h0 HR h64 hv hk
          go_wp2_with fail
          refine KV.out.mono ?_
          rintro e w4 ⟨rfl, hb4⟩
          have hk4 := HK3.out.below hb4 HK3.out.lt
          have HB4 := hide (HB3.out.trans (hb4.mono HB3.out.size))
          have j0 := hk4.cell 0
          have j1 := hk4.cell 1
          simp at j0 j1
          clear hb4 k0 k1 hk4 hl2 hu2
          go_wp2_with fail
          refine (KI.out _).mono ?_
          rintro e w5 ⟨rfl, rfl⟩
          go_wp2_with fail
          go_ret
          exact ⟨rfl, HB4.out⟩
        · obtain rfl : R = 0 := by
            rw [← HR.out]; unfold colE; rw [if_neg]
            rintro (h | h | h | h | h)
            · exact h0 h
            · exact h64 h
            · rw [hv] at h; cases h
            · exact hk (.inl h)
            · exact hk (.inr h)
          have KI := hide (fun w => sis_yes k (by omega) (by omega) w)
          clear h0 HR h64 hv hk
          go_wp2_with fail
          refine KV.out.mono ?_
          rintro e w4 ⟨rfl, hb4⟩
          have hk4 := HK3.out.below hb4 HK3.out.lt
          have hm4 : w4.heap[w.heap.size]? = some (.map #[{ key := .string nm, val := .int .i64 1, born := 0 }] 1) := (hb4.block _ (Array.getElem?_eq_some_iff.1 HM3.out).1).trans HM3.out
          have HB4 := hide (HB3.out.trans (hb4.mono HB3.out.size))
          have j0 := hk4.cell 0
          have j1 := hk4.cell 1
          simp at j0 j1
          have hl4 := look_one w4 _ _ _ nm _ hm4
          clear hb4 k0 k1 hk4 hl2 hu2 hm4
          go_wp2_with fail
          refine (KI.out _).mono ?_
          rintro e w5 ⟨rfl, rfl⟩
          go_wp2_with fail
          rw [rounds_succ]
          go_wp2_with fail
          go_ret
          exact ⟨rfl, HB4.out⟩
set_option maxHeartbeats 2000000 in
set_option maxRecDepth 100000 in
theorem scolumns_gen (nm : ByteArray) (hnm : nm.size ≤ maxLen) (k : Int) (nl : Bool) (g cz : Nat) (w : World) (hT : Tabs w) (c0 : w.cell? ⟨g, 0, none⟩ = some (.string nm)) (c1 : w.cell? ⟨g, 1, none⟩ = some (.int .i64 k)) (_c2 : w.cell? ⟨g, 2, none⟩ = some (.bool nl)) :
    Calls Tryz.prog 16 #[.slice (some ⟨g, 0, none⟩) 1 cz] w fun e w' => e = .returned (.bool (colE nm k == 0)) ∧ Below w.heap.size w w' := by
  have hg := cell_in c0
  obtain ⟨R, hR⟩ : ∃ R, colE nm k = R := ⟨_, rfl⟩
  rw [hR]
  have HR := hide hR
  have KV := hide (valid_any nm w hnm hT)
  have HC1 := hide c1
  have hnl : (nm.size : Int) ≤ 9223372036854775807 := by unfold maxLen at hnm; omega
  clear hR hT hnm
  go_enter Tryz.func16, Tryz.ntmps16
  go_wp2_with fail
  refine wp_loop_rounds 2 ?_
  rw [rounds_succ]
  go_wp2_with fail
  refine wp_loop_rounds 1 ?_
  rw [rounds_succ]
  by_cases h0 : nm.size = 0
  · obtain rfl : R = 30 := by rw [← HR.out]; unfold colE; rw [if_pos (.inl h0)]
    have hnm0 : nm = ByteArray.empty := by
      cases nm with
      | mk d =>
        have : d = #[] := Array.eq_empty_of_size_eq_zero h0
        subst this; rfl
    have hq : (nm.toList == ByteArray.empty.toList) = true := by rw [hnm0]; exact beq_self_eq_true _
    have hq2 : nm.toList.isEmpty = true := by rw [hnm0, ByteArray.toList_eq]; rfl
    clear KV hnm0 h0 HR
    go_wp2_with fail
    go_ret
    exact ⟨rfl, Below.refl _ _⟩
  · have hq : (nm.toList == ByteArray.empty.toList) = false := str_nil nm h0
    have hq2 : nm.toList.isEmpty = false := by
      cases he : nm.toList.isEmpty
      · rfl
      · rw [ByteArray.toList_eq, List.isEmpty_iff] at he
        exact absurd (show nm.size = 0 by rw [← ByteArray.size_data, ← Array.length_toList, he]; rfl) h0
    by_cases h64 : 64 < nm.size
    · obtain rfl : R = 30 := by rw [← HR.out]; unfold colE; rw [if_pos (.inr (.inl h64))]
      have h64' : (64 : Int) < (nm.size : Int) := by omega
      clear KV h0 HR h64
      go_wp2_with fail
      go_ret
      exact ⟨rfl, Below.refl _ _⟩
    · have h64' : (nm.size : Int) ≤ 64 := by omega
      cases hv : Lib.validD nm.data.toList
      · obtain rfl : R = 30 := by rw [← HR.out]; unfold colE; rw [if_pos (.inr (.inr (.inl hv)))]
        rw [hv] at KV
        clear h0 HR h64 hv
        go_wp2_with fail
        refine KV.out.mono ?_
        rintro e w4 ⟨rfl, hb4⟩
        have HB4 := hide hb4
        clear hb4
        go_wp2_with fail
        go_ret
        exact ⟨rfl, HB4.out⟩
      · rw [hv] at KV
        by_cases hk1 : k < 1
        · obtain rfl : R = 30 := by rw [← HR.out]; unfold colE; rw [if_pos (.inr (.inr (.inr (.inl hk1))))]
          clear h0 HR h64 hv c1
          have hd : decide (k < 1) = true := by rw [decide_eq_true_eq]; exact hk1
          go_wp2_with fail
          refine KV.out.mono ?_
          rintro e w4 ⟨rfl, hb4⟩
          have HB4 := hide hb4
          have j1 := (hb4.cell (p := ⟨g, 1, none⟩) hg).trans HC1.out
          clear hb4
          go_wp2_with fail
          go_ret
          exact ⟨rfl, HB4.out⟩
        · have hd : decide (k < 1) = false := by rw [decide_eq_false_iff_not]; exact hk1
          by_cases hk6 : 6 < k
          · obtain rfl : R = 30 := by rw [← HR.out]; unfold colE; rw [if_pos (.inr (.inr (.inr (.inr hk6))))]
            clear h0 HR h64 hv c1
            go_wp2_with fail
            refine KV.out.mono ?_
            rintro e w4 ⟨rfl, hb4⟩
            have HB4 := hide hb4
            have j1 := (hb4.cell (p := ⟨g, 1, none⟩) hg).trans HC1.out
            clear hb4
            go_wp2_with fail
            go_ret
            exact ⟨rfl, HB4.out⟩
          · obtain rfl : R = 0 := by
              rw [← HR.out]; unfold colE; rw [if_neg]
              rintro (h | h | h | h | h)
              · exact h0 h
              · exact h64 h
              · rw [hv] at h; cases h
              · exact hk1 h
              · exact hk6 h
            have hd6 : decide (6 < k) = false := by rw [decide_eq_false_iff_not]; exact hk6
            clear h0 HR h64 hv c1
            go_wp2_with fail
            refine KV.out.mono ?_
            rintro e w4 ⟨rfl, hb4⟩
            have HB4 := hide hb4
            have j1 := (hb4.cell (p := ⟨g, 1, none⟩) hg).trans HC1.out
            clear hb4
            go_wp2_with fail
            rw [rounds_succ]
            go_wp2_with fail
            go_ret
            exact ⟨rfl, HB4.out⟩
end Go.Proofs.YtfkgmodgkifelaaGreatDoor
