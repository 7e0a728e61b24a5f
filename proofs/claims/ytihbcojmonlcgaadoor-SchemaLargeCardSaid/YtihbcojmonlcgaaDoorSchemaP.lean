/- Schema: one column as bytes; the chapter's example. -/
import Derived.Test.YtihbcojmonlcgaaDoorSchemaK
import Derived.Test.YtihbcojmonlcgaaDoorPlainA
namespace Go.Proofs.YtihbcojmonlcgaaDoor
open Go.RowKit

theorem bl6 : strN [1, 1, 97, 2] = ⟨#[1, 1, 97, 2]⟩ := strN_bn ⟨#[1, 1, 97, 2]⟩
set_option maxHeartbeats 4000000 in
set_option maxRecDepth 100000 in
theorem sput_one (g : Nat) (w : World) (hT : Tabs w) (c0 : w.cell? ⟨g, 0, none⟩ = some (.string ⟨#[97]⟩)) (c1 : w.cell? ⟨g, 1, none⟩ = some (.int .i64 2)) (c2 : w.cell? ⟨g, 2, none⟩ = some (.bool false)) :
    Calls Tryd.prog 30 #[.slice (some ⟨g, 0, none⟩) 1 1] w fun e w' => e = .returned (.string ⟨#[1, 1, 97, 2]⟩) ∧ Below w.heap.size w w' := by
  have hg := cell_in c0
  have KC := hide (columns_one 2 (by omega) g w hT c0 c1 c2)
  have C0 := hide c0
  have C1 := hide c1
  have C2 := hide c2
  have hwU := fun W B sv l w h hl hB => wuvar_any W B sv l 1 (by omega) w h hl hB
  rw [uvar_small (by omega)] at hwU
  have KU := hide hwU
  have hwT := fun W B sv l w h hl hB => wtext_any W B sv l ⟨#[97]⟩ (by decide) w h hl hB
  rw [show (⟨#[97]⟩ : ByteArray).size = 1 from rfl, uvar_small (by omega), show bn ⟨#[97]⟩ = [97] from rfl] at hwT
  have KT := hide hwT
  have K8 := hide (fun W B sv l w h hl hB => wu8_any W B sv l 2 w h hl hB)
  clear hT c0 c1 c2 hwU hwT
  go_enter Tryd.func30, Tryd.ntmps30
  go_wp2_with fail
  refine KC.out.mono ?_
  rintro e w2 ⟨rfl, hb2⟩
  have HB2 := hide hb2
  clear hb2
  go_wp2_with fail
  obtain ⟨w3, hw3⟩ : ∃ w3, w2.alloc (.cells #[.slice none 0 0] 100) = w3 := ⟨_, rfl⟩
  rw [hw3]
  have hwr3 : Wr w3 w2.heap.size w.heap.size (.slice none 0 0) [] := by rw [← hw3]; exact ⟨Blk.new _ _ _, ownU8_nil _ _, HB2.out.size⟩
  have hb3 : Below w.heap.size w w3 := by rw [← hw3]; exact HB2.out.alloc HB2.out.size _
  have HW3 := hide hwr3
  have HB3 := hide hb3
  clear hw3 hwr3 hb3
  generalize w2.heap.size = W at *
  refine (KU.out _ _ _ _ _ HW3.out (by simp) HB3.out.size).mono ?_
  rintro e w4 ⟨rfl, sv4, hw4, hs4⟩
  have HB4 := hide (HB3.out.trans (hs4.below HW3.out HB3.out.size))
  have HW4 := hide hw4
  clear hw4 hs4
  have c0 := (HB4.out.cell hg).trans C0.out
  have c1 := (HB4.out.cell (p := ⟨g, 1, none⟩) hg).trans C1.out
  have c2 := (HB4.out.cell (p := ⟨g, 2, none⟩) hg).trans C2.out
  simp only [List.nil_append] at HW4
  go_wp2_with fail
  refine wp_loop_rounds 2 ?_
  rw [rounds_succ]
  go_wp2_with fail
  obtain ⟨w5, hw5⟩ : ∃ w5, w4.alloc (.cells #[.string ⟨#[97]⟩, .int .i64 2, .bool false] 25) = w5 := ⟨_, rfl⟩
  have hb45 : Below w4.heap.size w4 w5 := by rw [← hw5]; exact (Below.refl _ _).alloc (Nat.le_refl _) _
  rw [hw5]
  have HW5 := hide (HW4.out.below hb45)
  have HB5 := hide (HB4.out.trans (hb45.mono HB4.out.size))
  clear hw5 hb45 c0 c1 c2
  refine (KT.out _ _ _ _ _ HW5.out (by simp) HB5.out.size).mono ?_
  rintro e w6 ⟨rfl, sv6, hw6, hs6⟩
  have HB6 := hide (HB5.out.trans (hs6.below HW5.out HB5.out.size))
  have HW6 := hide hw6
  clear hw6 hs6
  go_wp2_with fail
  refine (K8.out _ _ _ _ _ HW6.out (by simp) HB6.out.size).mono ?_
  rintro e w7 ⟨rfl, sv7, hw7, hs7⟩
  have HB7 := hide (HB6.out.trans (hs7.below HW6.out HB6.out.size))
  have KS := hide (wstring_any _ _ _ _ _ hw7)
  clear hw7 hs7
  rw [show [1] ++ ([1] ++ [97]) ++ [2] = [1, 1, 97, 2] from rfl, bl6] at KS
  go_wp2_with fail
  rw [rounds_succ]
  go_wp2_with fail
  refine KS.out.mono ?_
  rintro e w8 ⟨rfl, rfl⟩
  go_wp2_with fail
  go_ret
  exact ⟨rfl, HB7.out⟩
theorem cell_n (w : World) (cs : Array Value) (t : TypeId) (i : Nat) : (w.alloc (.cells cs t)).cell? ⟨w.heap.size, i, none⟩ = cs[i]? := (Blk.new w cs t).cell i
set_option maxHeartbeats 4000000 in
set_option maxRecDepth 100000 in
theorem check_ex (gc gs g : Nat) (w : World) (hT : Tabs w) (c0 : w.cell? ⟨gc, 0, none⟩ = some (.string ⟨#[97]⟩)) (c1 : w.cell? ⟨gc, 1, none⟩ = some (.int .i64 2)) (c2 : w.cell? ⟨gc, 2, none⟩ = some (.bool false))
    (s0 : w.cell? ⟨gs, 0, none⟩ = some (.slice (some ⟨g, 0, none⟩) 2 2)) (ca : AtN w g 0 false 1 ⟨#[]⟩) (cb : AtN w g 6 true 0 ⟨#[]⟩) :
    Calls Tryd.prog 10 #[.agg #[.slice (some ⟨gc, 0, none⟩) 1 1, .slice (some ⟨gs, 0, none⟩) 1 1]] w fun e w' => e = .returned (.int .i64 30) ∧ Below w.heap.size w w' :=
  check_pos 2 (by omega) (by omega) 73 74 rfl rfl rfl 2 (by omega) (fun i => i == 1) (fun i => i == 0) (fun i => if i = 0 then 1 else 0) (fun _ => ⟨#[]⟩)
    (by show ∀ i, i < 2 → _; intro i _; decide) (fun i => i * 20) rfl (by show ∀ i, i < 2 → _; intro i _; show (i + 1) * 20 = i * 20 + (20 + 0); omega) (by show ∀ i, i ≤ 2 → i * 20 ≤ _; intro i _; omega) 40 rfl 30 (.inl ⟨⟨1, by omega, rfl⟩, rfl⟩)
    (by
      show ∀ i, i < 2 → _
      intro i hi w
      have : i = 0 ∨ i = 1 := by omega
      rcases this with rfl | rfl
      · exact may_of 73 _ _ _ _ 1 0 ⟨#[]⟩ ⟨#[]⟩ true (enters_of Tryd.func70 (by kernel_rfl) rfl) (enters_of Tryd.func73 (by kernel_rfl) rfl) (.inl ⟨rfl, rfl, rfl⟩) (noInt_any 1 ⟨#[]⟩) w
      · exact may_null _ _ _ _ _ _ w)
    gc gs g 2 w hT c0 c1 c2 s0 (cell_in ca.c0) (by
      show ∀ i, i < 2 → _
      intro i hi
      have : i = 0 ∨ i = 1 := by omega
      rcases this with rfl | rfl
      · exact ca
      · exact cb)
set_option maxHeartbeats 4000000 in
set_option maxRecDepth 100000 in
theorem awake6 (w : World) (hT : Tabs w) : Calls Tryd.prog 9 #[] w fun e w' => e = .returned (.bool true) ∧ Below w.heap.size w w' := by
  have HT := hide hT
  have KE := hide check_ex
  have KP := hide sput_one
  have KC := hide (columns_one 2 (by omega))
  clear hT
  go_enter Tryd.func9, Tryd.ntmps9
  go_wp2_with fail
  obtain ⟨w4, hw4⟩ : ∃ w4, ((((w.alloc (.cells #[.string ⟨#[97]⟩, .int .i64 2, .bool false] 25)).alloc (.cells #[.bool false, .bool false, .int .i64 1, .int .u64 0, .string ⟨#[]⟩, .complex .f64 0 0, .bool true, .bool false, .int .i64 0, .int .u64 0, .string ⟨#[]⟩, .complex .f64 0 0] 34)).alloc
      (.cells #[.slice (some ⟨w.heap.size + 1, 0, none⟩) 2 2] 30)).alloc (.cells #[.slice (some ⟨w.heap.size, 0, none⟩) 1 1, .slice (some ⟨w.heap.size + 1 + 1, 0, none⟩) 1 1] 29)) = w4 := ⟨_, rfl⟩
  have hb4 : Below w.heap.size w w4 := by rw [← hw4]; exact ((((Below.refl _ _).alloc (Nat.le_refl _) _).alloc (by simp) _).alloc (by simp; omega) _).alloc (by simp; omega) _
  have k0 : Blk w4 w.heap.size 25 #[.string ⟨#[97]⟩, .int .i64 2, .bool false] := by rw [← hw4]; exact (((Blk.new _ _ _).alloc _).alloc _).alloc _
  have k1 : Blk w4 (w.heap.size + 1) 34 #[.bool false, .bool false, .int .i64 1, .int .u64 0, .string ⟨#[]⟩, .complex .f64 0 0, .bool true, .bool false, .int .i64 0, .int .u64 0, .string ⟨#[]⟩, .complex .f64 0 0] := by rw [← hw4]; exact ((blk_n2 _ _ _ _).alloc _).alloc _
  have k2 : Blk w4 (w.heap.size + 1 + 1) 30 #[.slice (some ⟨w.heap.size + 1, 0, none⟩) 2 2] := by rw [← hw4]; exact (blk_n3 _ _ _ _ _).alloc _
  rw [hw4]
  have HB4 := hide hb4
  have HK0 := hide k0
  have K1 := hide (KE.out w.heap.size (w.heap.size + 1 + 1) (w.heap.size + 1) w4 (HT.out.below hb4) (k0.cell 0) (k0.cell 1) (k0.cell 2) (k2.cell 0) ⟨k1.cell 0, k1.cell 1, k1.cell 2, k1.cell 3, k1.cell 4, k1.cell 5⟩ ⟨k1.cell 6, k1.cell 7, k1.cell 8, k1.cell 9, k1.cell 10, k1.cell 11⟩)
  clear hw4 hb4 k0 k1 k2 KE
  refine K1.out.mono ?_
  rintro e w5 ⟨rfl, hb5⟩
  have HB5 := hide (HB4.out.trans (hb5.mono HB4.out.size))
  have HK5 := hide (HK0.out.below hb5 HK0.out.lt)
  have KP5 := hide (KP.out w.heap.size w5 (HT.out.below HB5.out) (HK5.out.cell 0) (HK5.out.cell 1) (HK5.out.cell 2))
  clear hb5 K1
  go_wp2_with fail
  refine KP5.out.mono ?_
  rintro e w6 ⟨rfl, hb6⟩
  have HB6 := hide (HB5.out.trans (hb6.mono HB5.out.size))
  have HK6 := hide (HK5.out.below hb6 HK5.out.lt)
  have KC6 := hide (KC.out w.heap.size w6 (HT.out.below HB6.out) (HK6.out.cell 0) (HK6.out.cell 1) (HK6.out.cell 2))
  clear hb6 KP5
  go_wp2_with fail
  refine KC6.out.mono ?_
  rintro e w7 ⟨rfl, hb7⟩
  have HB7 := hide (HB6.out.trans (hb7.mono HB6.out.size))
  clear hb7
  go_wp2_with fail
  go_ret
  exact ⟨rfl, HB7.out⟩
end Go.Proofs.YtihbcojmonlcgaaDoor
