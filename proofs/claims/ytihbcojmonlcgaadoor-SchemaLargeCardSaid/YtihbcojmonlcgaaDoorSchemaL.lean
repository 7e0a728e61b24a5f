/- SchemaLarge: the walk of the law. -/
import Derived.Test.YtihbcojmonlcgaaDoorSchemaO
import Derived.Deep.RegionHeldLaw
namespace Go.Proofs.YtihbcojmonlcgaaDoor
open Go.RowKit

theorem blk_n4 (w : World) (a b c : Obj) (cs : Array Value) (t : TypeId) : Blk ((((w.alloc a).alloc b).alloc c).alloc (.cells cs t)) (w.heap.size + 1 + 1 + 1) t cs := by
  have := Blk.new (((w.alloc a).alloc b).alloc c) cs t
  rwa [show (((w.alloc a).alloc b).alloc c).heap.size = w.heap.size + 1 + 1 + 1 by simp] at this
set_option maxHeartbeats 1000000 in
set_option maxRecDepth 100000 in
theorem large_early (R Z : Int) (hR1 : -9223372036854775808 ≤ R) (hR2 : R ≤ 9223372036854775807) (hZ1 : -9223372036854775808 ≤ Z) (hZ2 : Z ≤ 9223372036854775807)
    (h : R < 0 ∨ 20000 < R ∨ (0 ≤ R ∧ R ≤ 20000 ∧ Z < 0) ∨ (0 ≤ R ∧ R ≤ 20000 ∧ 2000000 < Z) ∨ (0 ≤ R ∧ R ≤ 20000 ∧ 0 ≤ Z ∧ Z ≤ 2000000 ∧ 3000000 < R * Z ∧ R * Z ≤ 40000000000)) (w : World) (hT : Tabs w) :
    Calls Tryd.prog 3 #[.int .i64 R, .int .i64 Z] w fun e w' => e = .returned (.bool true) ∧ Below w.heap.size w w' := by
  have KA := hide (awake6 w hT)
  clear hT
  rcases h with h | h | ⟨h1, h2, h3⟩ | ⟨h1, h2, h3⟩ | ⟨h1, h2, h3, h4, h5, h6⟩
  · go_enter Tryd.func3, Tryd.ntmps3
    go_wp2_with fail
    refine KA.out.mono ?_
    rintro e w' ⟨rfl, hb⟩
    have HB := hide hb
    clear hb
    go_wp2_with fail
    go_ret
    exact ⟨rfl, HB.out⟩
  · have h0 : 0 ≤ R := by omega
    go_enter Tryd.func3, Tryd.ntmps3
    go_wp2_with fail
    refine KA.out.mono ?_
    rintro e w' ⟨rfl, hb⟩
    have HB := hide hb
    clear hb
    go_wp2_with fail
    go_ret
    exact ⟨rfl, HB.out⟩
  all_goals
    go_enter Tryd.func3, Tryd.ntmps3
    go_wp2_with fail
    refine KA.out.mono ?_
    rintro e w' ⟨rfl, hb⟩
    have HB := hide hb
    clear hb
    go_wp2_with fail
    go_ret
    exact ⟨rfl, HB.out⟩
theorem large_rel {h z i g cap ca : Nat} {A : Option Addr} {wr w1 w2 : World} {o : Obj} (HV : Blk wr (h + 1 + 1) 30 #[.slice A i ca]) (HTB : Blk wr (h + 1 + 1 + 1) 29 #[.slice (some ⟨h + 1, 0, none⟩) 1 1, .slice (some ⟨h + 1 + 1, 0, none⟩) 1 1])
    (HBE : Below (h + 1 + 1) w1 wr) (hne2 : some (h + 1 + 1) ≠ (Value.slice A i ca).ownBlock) (hne3 : some (h + 1 + 1 + 1) ≠ (Value.slice A i ca).ownBlock) (hlt : ∀ k, (Value.slice A i ca).ownBlock = some k → h + 1 + 1 + 1 + 1 ≤ k)
    (hown : w2.ownsRow (h + 1 + 1 + 1 + 1) 34 6 (.slice (some ⟨g, 0, none⟩) (i + 1) cap) (i + 1) (zrows z i ++ [.bool false, .bool false, .int .i64 0, .int .u64 0, .string (zc z).t, .complex .f64 0 0]))
    (hgrow : (wr.alloc o).drew.grownBy w2 (Value.slice A i ca).ownBlock) :
    Hid (∃ V, Blk (w2.setCell ⟨h + 1 + 1, 0, none⟩ (.slice (some ⟨g, 0, none⟩) (i + 1) cap)) (h + 1 + 1) 30 #[V] ∧ Blk (w2.setCell ⟨h + 1 + 1, 0, none⟩ (.slice (some ⟨g, 0, none⟩) (i + 1) cap)) (h + 1 + 1 + 1) 29 #[.slice (some ⟨h + 1, 0, none⟩) 1 1, .slice (some ⟨h + 1 + 1, 0, none⟩) 1 1]
      ∧ (w2.setCell ⟨h + 1 + 1, 0, none⟩ (.slice (some ⟨g, 0, none⟩) (i + 1) cap)).ownsRow (h + 1 + 1 + 1 + 1) 34 6 V (i + 1) (zrows z (i + 1)) ∧ Below (h + 1 + 1) w1 (w2.setCell ⟨h + 1 + 1, 0, none⟩ (.slice (some ⟨g, 0, none⟩) (i + 1) cap))) := by
  have h1 := ((HV.alloc o).drew).fr (Fr.of_grown hgrow) hne2
  have h2 := ((HTB.alloc o).drew).fr (Fr.of_grown hgrow) hne3
  have hg := (hown.lt g rfl).1
  have h3 := (HBE.alloc (by have := HV.lt; omega) o).drew.grown hgrow (by have := HV.lt; simp; omega) (fun k hk => by have := hlt k hk; omega)
  refine ⟨.slice (some ⟨g, 0, none⟩) (i + 1) cap, h1.set 0 _, h2.other (by simp) _, ?_, h3.setCell (Nat.le_refl _) _⟩
  rw [zrows_succ]
  exact own_fr hown (Fr.setCell w2 _ _) (fun k hk hb => by
    simp [Value.ownBlock] at hk
    simp at hb
    omega)
set_option maxHeartbeats 40000000 in
set_option maxRecDepth 100000 in
theorem large_good (n z : Nat) (hn : n ≤ 20000) (hz : z ≤ 2000000) (P : Nat) (hP : Hid (n * z = P)) (hP3 : P ≤ 3000000) (w : World) (hT : Tabs w) :
    Calls Tryd.prog 3 #[.int .i64 n, .int .i64 z] w fun e w' => e = .returned (.bool true) ∧ Below w.heap.size w w' := by
  have HT := hide hT
  obtain ⟨i0, hi, hz0, hz1, hz2⟩ := info_parts info_cC
  have hmk := run_make_row' (P := Tryd.prog) 23 5 (.int .u8 0) 1 Tryd.underlying23 info_u8 rfl .i64 .i64 z (by omega) (by omega)
  have hR8 := hide (row8_new w z 5)
  generalize madeCells #[Value.int .u8 0] z = CZ at *
  have hn1 : (n : Int) ≤ 20000 := by omega
  have hz1' : (z : Int) ≤ 2000000 := by omega
  have hp0 : (0 : Int) ≤ (n : Int) * (z : Int) := by rw [← Int.natCast_mul]; omega
  have hp1 : (n : Int) * (z : Int) ≤ 3000000 := by rw [← Int.natCast_mul, hP.out]; omega
  clear hT
  go_enter Tryd.func3, Tryd.ntmps3
  go_wp2_with fail
  obtain ⟨w1, hw1⟩ : ∃ w1, ((((w.alloc (.cells CZ 5)).alloc (.cells #[.string ⟨#[97]⟩, .int .i64 4, .bool false] 25)).alloc (.cells #[.slice none 0 0] 30)).alloc
      (.cells #[.slice (some ⟨w.heap.size + 1, 0, none⟩) 1 1, .slice (some ⟨w.heap.size + 1 + 1, 0, none⟩) 1 1] 29)) = w1 := ⟨_, rfl⟩
  have hb1 : Below w.heap.size w w1 := by rw [← hw1]; exact ((((Below.refl _ _).alloc (Nat.le_refl _) _).alloc (by simp) _).alloc (by simp; omega) _).alloc (by simp; omega) _
  have k0 : Row8 w1 w.heap.size (List.replicate z 0) := by rw [← hw1]; exact ((hR8.out.alloc _).alloc _).alloc _
  have k1 : Blk w1 (w.heap.size + 1) 25 #[.string ⟨#[97]⟩, .int .i64 4, .bool false] := by rw [← hw1]; exact ((blk_n2 _ _ _ _).alloc _).alloc _
  have k2 : Blk w1 (w.heap.size + 1 + 1) 30 #[.slice none 0 0] := by rw [← hw1]; exact (blk_n3 _ _ _ _ _).alloc _
  have k3 : Blk w1 (w.heap.size + 1 + 1 + 1) 29 #[.slice (some ⟨w.heap.size + 1, 0, none⟩) 1 1, .slice (some ⟨w.heap.size + 1 + 1, 0, none⟩) 1 1] := by rw [← hw1]; exact blk_n4 _ _ _ _ _ _
  have hz4 : w.heap.size + 1 + 1 + 1 + 1 ≤ w1.heap.size := k3.lt
  rw [hw1]
  have HB1 := hide hb1
  have K0 := hide k0
  have K1 := hide k1
  have K2 := hide k2
  have K3 := hide k3
  clear hw1 hb1 k0 k1 k2 k3 hR8 hmk
  go_loopw [7] (fun iv wr => ∃ (i : Nat), i ≤ n ∧ iv = .int .i64 (i : Int) ∧ Hid (∃ V, Blk wr (w.heap.size + 1 + 1) 30 #[V] ∧ Blk wr (w.heap.size + 1 + 1 + 1) 29 #[.slice (some ⟨w.heap.size + 1, 0, none⟩) 1 1, .slice (some ⟨w.heap.size + 1 + 1, 0, none⟩) 1 1]
      ∧ wr.ownsRow (w.heap.size + 1 + 1 + 1 + 1) 34 6 V i (zrows z i) ∧ Below (w.heap.size + 1 + 1) w1 wr)) (fun iv _ => n - (intOf iv).toNat)
  case atStart => exact ⟨0, by omega, rfl, .slice none 0 0, K2.out, K3.out, World.ownsRow_nil _ _ _ _, Below.refl _ _⟩
  case round =>
    obtain ⟨i, hin, rfl, hrel⟩ := hrel
    obtain ⟨V, hV, hTab, hown, hbe⟩ := hrel.out
    obtain ⟨A, ca, rfl⟩ := own_form3 hown
    have hi0 : (0 : Int) ≤ (i : Int) := by omega
    have hi1 : (i : Int) ≤ (n : Int) := by omega
    by_cases hlt : i < n
    · have hi2 : (i : Int) < (n : Int) := by omega
      have HV := hide hV
      have HTB := hide hTab
      have HOW := hide hown
      have HBE := hide hbe
      have t1 := hTab.cell 1
      have v0 := hV.cell 0
      have f0 := hV.frozen 0
      simp at t1 v0
      have hw0 := hide (K0.out.below hbe (by omega))
      have hcv : (convert 23 9 (.slice (some ⟨w.heap.size, 0, none⟩) z z)).run Tryd.prog wr.drew = .ok (.string (zc z).t) wr.drew := by have := row8_string hw0.out.drew z; rwa [List.length_replicate] at this
      have hsz : w.heap.size + 1 + 1 + 1 + 1 ≤ wr.heap.size := Nat.le_trans hz4 HBE.out.size
      have hne2 := hide (show some (w.heap.size + 1 + 1) ≠ (Value.slice A i ca).ownBlock from fun h => by have := (HOW.out.lt _ h.symm).1; omega)
      have hne3 := hide (show some (w.heap.size + 1 + 1 + 1) ≠ (Value.slice A i ca).ownBlock from fun h => by have := (HOW.out.lt _ h.symm).1; omega)
      have HOA := hide (fun o => (HOW.out.alloc o).drew)
      have NB := hide (fun cs t => ((Blk.new wr cs t).drew).out)
      have t2 := fun o : Obj => ((HTB.out.alloc o).drew).cell 1
      have v2 := fun o : Obj => ((HV.out.alloc o).drew).cell 0
      have f2 := fun o : Obj => ((HV.out.alloc o).drew).frozen 0
      clear hrel hV hTab hown hbe
      go_wp2_with fail
      go_region_law ((refine step_append_lies _ rfl (.tmp 46) (.tmp 50) 30 rfl (w.heap.size + 1 + 1 + 1 + 1) 34 i0 clZ 6 56 Tryd.underlying30 hi hz0 hz1 hz2 rfl (by decide) _ i (zrows z i) rfl (HOA.out _) ⟨wr.heap.size, 0, none⟩ 1 1 [.bool false, .bool false, .int .i64 0, .int .u64 0, .string (zc z).t, .complex .f64 0 0] rfl rfl (World.news_of_block (NB.out _ _)) (by simp [Value.oneCell']) (by omega) (by unfold maxLen; omega) (by omega) (by simp; omega) _ rfl ?_; intro g cap w2 hown2 hgrow2 hat2 hlt2; have hS2 := (hgrow2.cell_far ⟨w.heap.size + 1 + 1 + 1, 1, none⟩ (by simp; omega) hne3.out).trans (t2 _); have hv2 := (hgrow2.cell_far ⟨w.heap.size + 1 + 1, 0, none⟩ (by simp; omega) hne2.out).trans (v2 _); have hf2 := (hgrow2.frozen_far ⟨w.heap.size + 1 + 1, 0, none⟩ (by simp; omega) hne2.out).trans (f2 _)))
      all_goals
        have hrel' := large_rel HV.out HTB.out HBE.out hne2.out hne3.out (fun k hk => (HOW.out.lt k hk).1) hown2 hgrow2
        clear hS2 hv2 hf2 hown2 hgrow2 hat2 hlt2
        go_wp2_with fail
        go_roundw
        case rel => exact ⟨i + 1, by omega, by go_num, hrel'⟩
        case measure => simp [intOf]; omega
    · obtain rfl : n = i := by omega
      have HV := hide hV
      have HTB := hide hTab
      have HOW := hide hown
      have HBE := hide (HB1.out.trans (hbe.mono (show w.heap.size ≤ w.heap.size + 1 + 1 by omega)))
      have HC1 := hide (K1.out.below hbe (by omega))
      clear hrel hV hTab hown hbe hlt hi0 hi1 hin
      obtain ⟨Q, hQ⟩ : ∃ Q, n * (20 + z) = Q := ⟨_, rfl⟩
      have hQi : (n : Int) * ((z : Int) + 20) = (Q : Int) := by rw [← hQ, Int.natCast_mul]; congr 1; omega
      have hQm : Q ≤ 60000000000 := by rw [← hQ]; exact Nat.le_trans (Nat.mul_le_mul hn (show 20 + z ≤ 2000020 by omega)) (by omega)
      have q0 : (0 : Int) ≤ (n : Int) * ((z : Int) + 20) := by omega
      have q1 : (n : Int) * ((z : Int) + 20) ≤ 60000000000 := by omega
      have hcs : Hid (∃ r1 r2 : Int, (n ≤ 10000 ∧ Q ≤ 1048576 ∧ r1 = 0 ∨ n ≤ 10000 ∧ 1048576 < Q ∧ r1 = 31 ∨ 10000 < n ∧ Q ≤ 1048576 ∧ r1 = 31 ∨ 10000 < n ∧ 1048576 < Q ∧ r1 = 31) ∧ (0 < n ∧ 0 < z ∧ r2 = 30 ∨ (n = 0 ∨ z = 0) ∧ r2 = r1)) := by
        have hr1 : ∃ r1 : Int, (n ≤ 10000 ∧ Q ≤ 1048576 ∧ r1 = 0 ∨ n ≤ 10000 ∧ 1048576 < Q ∧ r1 = 31 ∨ 10000 < n ∧ Q ≤ 1048576 ∧ r1 = 31 ∨ 10000 < n ∧ 1048576 < Q ∧ r1 = 31) := by
          by_cases h1 : n ≤ 10000 <;> by_cases h2 : Q ≤ 1048576
          · exact ⟨0, by omega⟩
          · exact ⟨31, by omega⟩
          · exact ⟨31, by omega⟩
          · exact ⟨31, by omega⟩
        obtain ⟨r1, hr1⟩ := hr1
        by_cases h3 : 0 < n ∧ 0 < z
        · exact ⟨r1, 30, hr1, .inl ⟨h3.1, h3.2, rfl⟩⟩
        · exact ⟨r1, r1, hr1, .inr ⟨by omega, rfl⟩⟩
      obtain ⟨r1, r2, hr1, hr2⟩ := hcs.out
      have KC4 := hide (check_own4 n z Q hn hz hQ r1 hr1 _ (w.heap.size + 1) (w.heap.size + 1 + 1) _ wr (HT.out.below HBE.out) (HC1.out.cell 0) (HC1.out.cell 1) (HC1.out.cell 2) (HV.out.cell 0) HOW.out)
      have KC2 := hide (fun w2 hT a b c d e => check_own2 n z Q hn hz hQ r2 (hr2.imp id (fun h => ⟨h.1, by rw [h.2]; exact hr1⟩)) (w.heap.size + 1 + 1 + 1 + 1) (w.heap.size + 1) (w.heap.size + 1 + 1) (.slice A n ca) w2 hT a b c d e)
      have KR := hide (fun w2 h => rows_any (w.heap.size + 1) (w.heap.size + 1 + 1) A n ca w2 h)
      have KA := hide awake6
      have t0 := HTB.out.cell 0
      have t1 := HTB.out.cell 1
      simp at t0 t1
      clear hcs hQ hQm K0 K1 K2 K3
      have hwant : (n ≤ 10000 ∧ (n : Int) * ((z : Int) + 20) ≤ 1048576 ∧ r1 = 0 ∨ n ≤ 10000 ∧ 1048576 < (n : Int) * ((z : Int) + 20) ∧ r1 = 31 ∨ 10000 < n ∧ r1 = 31) := by omega
      clear hr1 hQi
      have hsec : Hid (((0 : Int) < n ∧ (0 : Int) < z ∧ r2 = 30) ∨ ((n : Int) ≤ 0 ∧ r2 = r1) ∨ ((0 : Int) < n ∧ (z : Int) ≤ 0 ∧ r2 = r1)) := by show _ ∨ _; omega
      clear hr2
      rcases hwant with ⟨h1, h2, rfl⟩ | ⟨h1, h2, rfl⟩ | ⟨h1, rfl⟩
      all_goals
        have g1 := Int.ofNat_le.2 (Nat.le_of_lt_succ (Nat.lt_succ_of_le h1))
        simp at g1
        clear h1
        go_wp2_with fail
        refine KC4.out.mono ?_
        rintro e w2 ⟨rfl, hb2⟩
        have HB2 := hide (HBE.out.trans (hb2.mono HBE.out.size))
        have HV2 := hide (HV.out.below hb2 HV.out.lt)
        have HTB2 := hide (HTB.out.below hb2 HTB.out.lt)
        have HC2 := hide (HC1.out.below hb2 HC1.out.lt)
        have HOW2 := hide (own_below HOW.out hb2)
        have KR2 := hide (KR.out w2 (HV2.out.cell 0))
        have t0 := HTB2.out.cell 0
        have t1 := HTB2.out.cell 1
        simp at t0 t1
        clear hb2 KC4 HV HTB HC1 HOW HBE
        go_wp2_with fail
        refine KR2.out.mono ?_
        rintro e w3 ⟨rfl, hb3⟩
        have HB3 := hide (HB2.out.trans (hb3.mono HB2.out.size))
        have HV3 := hide (HV2.out.below hb3 HV2.out.lt)
        have HTB3 := hide (HTB2.out.below hb3 HTB2.out.lt)
        have HC3 := hide (HC2.out.below hb3 HC2.out.lt)
        have HOW3 := hide (own_below HOW2.out hb3)
        have t0 := HTB3.out.cell 0
        have t1 := HTB3.out.cell 1
        have m0 := HC3.out.cell 1
        have f0 := HC3.out.frozen 1
        simp at t0 t1 m0
        clear hb3 KR2 HV2 HTB2 HC2 HOW2 HB2
        rcases hsec.out with ⟨e1, e2, rfl⟩ | ⟨e1, rfl⟩ | ⟨e1, e2, rfl⟩
      all_goals try (exfalso; omega)
      all_goals
        have HB4 := hide (HB3.out.setCell (p := ⟨w.heap.size + 1, 1, none⟩) (Nat.le_succ _) (.int .i64 2))
        have HV4 := hide (HV3.out.other (a := ⟨w.heap.size + 1, 1, none⟩) (by simp) (.int .i64 2))
        have HTB4 := hide (HTB3.out.other (a := ⟨w.heap.size + 1, 1, none⟩) (by simp; omega) (.int .i64 2))
        have HC4 := hide (HC3.out.set 1 (.int .i64 2))
        have HOW4 := hide (own_fr HOW3.out (Fr.setCell w3 ⟨w.heap.size + 1, 1, none⟩ (.int .i64 2)) (fun k hk hb => by have := (HOW3.out.lt k hk).1; simp at hb; omega))
        have KC5 := hide (KC2.out _ (HT.out.below HB4.out) (HC4.out.cell 0) (HC4.out.cell 1) (HC4.out.cell 2) (HV4.out.cell 0) HOW4.out)
        go_wp2_with fail
        refine KC5.out.mono ?_
        rintro e w5 ⟨rfl, hb5⟩
        have HB5 := hide (HB4.out.trans (hb5.mono HB4.out.size))
        have KA5 := hide (KA.out w5 (HT.out.below HB5.out))
        clear hb5 KC5
        go_wp2_with fail
        refine KA5.out.mono ?_
        rintro e w6 ⟨rfl, hb6⟩
        have HB6 := hide (HB5.out.trans (hb6.mono HB5.out.size))
        clear hb6
        go_wp2_with fail
        go_ret
        exact ⟨rfl, HB6.out⟩
theorem schemaLarge_walk (R : Int) (hR : (Lit.int .i64 R).wf = true) (Z : Int) (hZ : (Lit.int .i64 Z).wf = true) (w : World) (hT : Tabs w) :
    Calls Tryd.prog 3 #[.int .i64 R, .int .i64 Z] w fun e w' => e = .returned (.bool true) ∧ Below w.heap.size w w' := by
  have hb := bounds_i64 hR
  have hc := bounds_i64 hZ
  by_cases h1 : 0 ≤ R ∧ R ≤ 20000 ∧ 0 ≤ Z ∧ Z ≤ 2000000
  · obtain ⟨h1, h2, h3, h4⟩ := h1
    obtain ⟨n, rfl⟩ : ∃ n : Nat, R = n := ⟨R.toNat, by omega⟩
    obtain ⟨z, rfl⟩ : ∃ z : Nat, Z = z := ⟨Z.toNat, by omega⟩
    have hm : n * z ≤ 20000 * 2000000 := Nat.mul_le_mul (by omega) (by omega)
    by_cases h5 : n * z ≤ 3000000
    · exact large_good n z (by omega) (by omega) _ rfl h5 w hT
    · exact large_early n z hb.1 hb.2 hc.1 hc.2 (.inr (.inr (.inr (.inr ⟨h1, h2, h3, h4, by rw [← Int.natCast_mul]; omega, by rw [← Int.natCast_mul]; omega⟩)))) w hT
  · exact large_early R Z (by omega) (by omega) (by omega) (by omega) (by
      by_cases a : R < 0
      · exact .inl a
      · by_cases b : 20000 < R
        · exact .inr (.inl b)
        · by_cases c : Z < 0
          · exact .inr (.inr (.inl ⟨by omega, by omega, c⟩))
          · exact .inr (.inr (.inr (.inl ⟨by omega, by omega, by omega⟩)))) w hT
end Go.Proofs.YtihbcojmonlcgaaDoor
