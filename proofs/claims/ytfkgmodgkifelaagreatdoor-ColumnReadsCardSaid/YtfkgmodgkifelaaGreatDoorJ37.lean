/- Columns: the way that has the fewest bytes, the program. Columns: how many are missing, and the cells that are there. Columns: a column's cells as a stream, the program. -/
import Derived.Test.YtfkgmodgkifelaaGreatDoorJ36
import Derived.Test.YtfkgmodgkifelaaGreatDoorJ26
import Derived.Maps.AppendAt
import Derived.Test.YtfkgmodgkifelaaGreatDoorJ31
import Derived.Test.YtfkgmodgkifelaaGreatDoorJ13
namespace Go.Proofs.YtfkgmodgkifelaaGreatDoor
open Go.RowKit

/-- One more way: is it better? -/
def pick (b : Nat × List Nat) (w : Nat) (o : Nat × List Nat) : Nat × List Nat := if o.1 = 0 ∧ (b.1 = 0 ∨ o.2.length < b.2.length) then (w, o.2) else b
def wayO (k : Int) (l : List CD) (i : Nat) : Nat × List Nat := if i = 0 then (1, []) else if i = 1 then (0, encP k l) else if i = 2 then (0, encR k l) else if i = 3 then encL k l else (0, encX k l)
/-- The best of the first ways. -/
def bst (k : Int) (l : List CD) : Nat → Nat × List Nat
  | 0 => (0, [])
  | i + 1 => pick (bst k l i) i (wayO k l i)
def bestW (k : Int) (l : List CD) : Nat × List Nat := bst k l 5
theorem bst_lt (k : Int) (l : List CD) : ∀ i, (bst k l i).1 ≤ i
  | 0 => Nat.le_refl _
  | i + 1 => by
    have := bst_lt k l i
    show (pick _ _ _).1 ≤ _
    unfold pick
    split
    · exact Nat.le_succ _
    · omega
theorem bst_of (k : Int) (l : List CD) : ∀ i, (bst k l i).2 = (if (bst k l i).1 = 0 then [] else (wayO k l (bst k l i).1).2)
  | 0 => rfl
  | i + 1 => by
    rw [show bst k l (i + 1) = pick (bst k l i) i (wayO k l i) from rfl]
    unfold pick
    split
    · rename_i h
      show (wayO k l i).2 = if i = 0 then [] else (wayO k l i).2
      by_cases hi : i = 0
      · subst hi; rfl
      · rw [if_neg hi]
    · exact bst_of k l i
def strA (k : Int) (l : List CD) : Array Value := #[.string (strN (wayO k l 0).2), .string (strN (wayO k l 1).2), .string (strN (wayO k l 2).2), .string (strN (wayO k l 3).2), .string (strN (wayO k l 4).2)]
theorem strA_get (k : Int) (l : List CD) (i : Nat) (hi : i < 5) : (strA k l)[i]? = some (.string (strN (wayO k l i).2)) := by
  have : i = 0 ∨ i = 1 ∨ i = 2 ∨ i = 3 ∨ i = 4 := by omega
  rcases this with rfl | rfl | rfl | rfl | rfl <;> rfl
def isA (k : Int) (l : List CD) : Array Value := #[.bool ((wayO k l 0).1 == 0), .bool ((wayO k l 1).1 == 0), .bool ((wayO k l 2).1 == 0), .bool ((wayO k l 3).1 == 0), .bool ((wayO k l 4).1 == 0)]
theorem isA_get (k : Int) (l : List CD) (i : Nat) (hi : i < 5) : (isA k l)[i]? = some (.bool ((wayO k l i).1 == 0)) := by
  have : i = 0 ∨ i = 1 ∨ i = 2 ∨ i = 3 ∨ i = 4 := by omega
  rcases this with rfl | rfl | rfl | rfl | rfl <;> rfl
theorem strA_cur (k : Int) (l : List CD) (i : Nat) (hi : i ≤ 5) : (strA k l)[(bst k l i).1]? = some (.string (strN (bst k l i).2)) := by
  have h1 := bst_lt k l i
  have h2 := bst_of k l i
  by_cases h0 : (bst k l i).1 = 0
  · rw [if_pos h0] at h2
    rw [h0, h2]; rfl
  · rw [if_neg h0] at h2
    by_cases h5 : (bst k l i).1 < 5
    · rw [h2]; exact strA_get k l _ h5
    · have hi5 : i = 5 := by omega
      subst hi5
      exfalso
      have : ∀ i, i ≤ 5 → (bst k l i).1 < 5 := by
        intro i
        induction i with
        | zero => intro _; show 0 < 5; omega
        | succ i ih =>
          intro h
          show (pick _ _ _).1 < 5
          unfold pick
          split
          · show i < 5; omega
          · exact ih (by omega)
      exact h5 (this 5 (by omega))
theorem all_any' (k : Int) (h1 : 1 ≤ k) (h6 : k ≤ 6) (l : List CD) (hl : Wok l) (v : Value) (w : World) (hv : InC w v l) :
    Calls Tryz.prog 81 #[.int .i64 k, v] w fun e w' => e = .returned (.tuple #[.agg (strA k l), .agg (isA k l)]) ∧ Below w.heap.size w w' := by
  have h := all_any k h1 h6 l hl v w hv ((encL k l).1 == 0) (by
    cases he : ((encL k l).1 == 0)
    · rw [beq_eq_false_iff_ne] at he ⊢; omega
    · rw [beq_iff_eq] at he ⊢; omega)
  have e : (ByteArray.empty : ByteArray) = strN (wayO k l 0).2 := strN_nil.symm
  refine h.mono ?_
  rintro x w' ⟨rfl, hb⟩
  refine ⟨?_, hb⟩
  rw [e]; rfl
set_option maxHeartbeats 4000000 in
set_option maxRecDepth 100000 in
theorem best_any (k : Int) (h1 : 1 ≤ k) (h6 : k ≤ 6) (l : List CD) (hl : Wok l) (v : Value) (w : World) (hv : InC w v l) :
    Calls Tryz.prog 42 #[.int .i64 k, v] w fun e w' => e = .returned (.tuple #[.int .i64 ((bestW k l).1 : Nat), .string (strN (bestW k l).2)]) ∧ Below w.heap.size w w' := by
  obtain ⟨⟨o5, Y5⟩, hRES⟩ : ∃ R, bestW k l = R := ⟨_, rfl⟩
  rw [hRES]
  simp only
  have HRES := hide hRES
  clear hRES
  have KA := hide (all_any' k h1 h6 l hl v w hv)
  have HS := hide (strA_cur k l)
  have HG := hide (strA_get k l)
  have HI := hide (isA_get k l)
  have HL := hide (bst_lt k l)
  have HB5 : Hid (bestW k l = bst k l 5) := rfl
  have HST : Hid (∀ i, bst k l (i + 1) = pick (bst k l i) i (wayO k l i)) := fun _ => rfl
  obtain ⟨a0, a1, a2, a3, a4, ha⟩ : ∃ a0 a1 a2 a3 a4, strA k l = #[.string a0, .string a1, .string a2, .string a3, .string a4] := ⟨_, _, _, _, _, rfl⟩
  obtain ⟨b0, b1, b2, b3, b4, hb⟩ : ∃ b0 b1 b2 b3 b4, isA k l = #[.bool b0, .bool b1, .bool b2, .bool b3, .bool b4] := ⟨_, _, _, _, _, rfl⟩
  rw [ha, hb] at KA
  rw [ha] at HS HG
  rw [hb] at HI
  have HW := hide hl
  clear ha hb hv hl
  have HB := hide (fun o1 o2 => ((Below.refl w.heap.size w).alloc (Nat.le_refl _) o1).alloc (by simp) o2)
  go_enter Tryz.func42, Tryz.ntmps42
  go_wp2_with fail
  refine KA.out.mono ?_
  rintro e w1 ⟨rfl, hb1⟩
  go_wp2_with fail
  have hK6 := (Blk.new w1 #[.string a0, .string a1, .string a2, .string a3, .string a4] 137).alloc (.cells #[.bool b0, .bool b1, .bool b2, .bool b3, .bool b4] 138)
  have hK7 := blk_n2 w1 (.cells #[.string a0, .string a1, .string a2, .string a3, .string a4] 137) #[.bool b0, .bool b1, .bool b2, .bool b3, .bool b4] 138
  have hBE := (hb1.alloc hb1.size (.cells #[.string a0, .string a1, .string a2, .string a3, .string a4] 137)).alloc (by simp; exact Nat.le_succ_of_le hb1.size) (.cells #[.bool b0, .bool b1, .bool b2, .bool b3, .bool b4] 138)
  have HK6 := hide hK6
  have HK7 := hide hK7
  have HBE := hide hBE
  clear hK6 hK7 hBE hb1
  go_loopw [8, 16] (fun ov iv wr => ∃ (i : Nat), i ≤ 5 ∧ iv = .int .i64 (i : Int) ∧ ov = .int .i64 ((bst k l i).1 : Nat) ∧ Hid (Blk wr w1.heap.size 137 #[.string a0, .string a1, .string a2, .string a3, .string a4]) ∧ Hid (Blk wr (w1.heap.size + 1) 138 #[.bool b0, .bool b1, .bool b2, .bool b3, .bool b4]) ∧ Hid (Below w.heap.size w wr)) (fun _ iv _ => 5 - (intOf iv).toNat)
  case atStart => exact ⟨0, by omega, rfl, rfl, HK6.out, HK7.out, HBE.out⟩
  case round =>
    obtain ⟨i, hi, rfl, rfl, g6, g7, hbe⟩ := hrel
    by_cases hlt : i < 5
    · have ci := (g7.out.cell i).trans (HI.out i hlt)
      have si := (g6.out.cell i).trans (HG.out i hlt)
      have so := (g6.out.cell (bst k l i).1).trans (HS.out i hi)
      have hol := HL.out i
      have HLT := hide hlt
      have hi0 : (0 : Int) ≤ (i : Int) := by omega
      have hi1 : (i : Int) < 5 := by omega
      have HW1 := hide (strN_size (wayO k l i).2)
      have HW2 := hide (strN_size (bst k l i).2)
      have HP := hide (HST.out i)
      rcases hbs : bst k l i with ⟨o, Y⟩
      rcases hwo : wayO k l i with ⟨er, X⟩
      rw [hbs] at so hol HW2 HP
      rw [hwo] at ci si HW1 HP
      simp only at ci si so hol HW1 HW2
      clear hbs hwo hlt
      generalize strN X = SX at *
      generalize strN Y = SY at *
      have ho0 : (0 : Int) ≤ (o : Int) := by omega
      have ho1 : (o : Int) < 5 := by omega
      cases her : (er == 0)
      · have HO : Hid (pick (o, Y) i (er, X) = (o, Y)) := by
          show _ = _
          unfold pick
          rw [beq_eq_false_iff_ne] at her
          rw [if_neg (fun h => her h.1)]
        rw [her] at ci
        clear her
        go_wp2_with fail
        have r0 := cell_regrown ci
        have r1 := cell_regrown si
        have r2 := cell_regrown so
        refine wp_region_quiet_below (by kernel_rfl) (by kernel_rfl) ?_
        repeat (go_big_quiet_step (fail))
        refine wpQuiet_nil ?_
        intro _ hw'
        obtain ⟨⟨dq, osq⟩, hw''⟩ := hw'
        subst hw''
        have hbq := below_regrown wr dq osq
        generalize Sort.grow (redrawn wr dq) osq = w4 at *
        have H6 := hide (g6.out.below hbq g6.out.lt)
        have H7 := hide (g7.out.below hbq g7.out.lt)
        have HE := hide (hbe.out.trans (hbq.mono hbe.out.size))
        clear hbq r0 r1 r2 ci si so
        go_wp2_with fail
        go_roundw
        case rel => exact ⟨i + 1, by have := HLT.out; omega, by go_num, by rw [HP.out, HO.out], H6.out, H7.out, HE.out⟩
        case measure => have := HLT.out; simp [intOf]; omega
      · rw [her] at ci
        rw [beq_iff_eq] at her
        by_cases h0 : o = 0
        · have HO : Hid (pick (o, Y) i (er, X) = (i, X)) := by
            show _ = _
            unfold pick
            rw [if_pos ⟨her, .inl h0⟩]
          subst h0
          clear her
          go_wp2_with fail
          have r0 := cell_regrown ci
          have r1 := cell_regrown si
          have r2 := cell_regrown so
          refine wp_region_quiet_below (by kernel_rfl) (by kernel_rfl) ?_
          repeat (go_big_quiet_step (fail))
          refine wpQuiet_nil ?_
          intro _ hw'
          obtain ⟨⟨dq, osq⟩, hw''⟩ := hw'
          subst hw''
          have hbq := below_regrown wr dq osq
          generalize Sort.grow (redrawn wr dq) osq = w4 at *
          have H6 := hide (g6.out.below hbq g6.out.lt)
          have H7 := hide (g7.out.below hbq g7.out.lt)
          have HE := hide (hbe.out.trans (hbq.mono hbe.out.size))
          clear hbq r0 r1 r2 ci si so
          go_wp2_with fail
          go_roundw
          case rel => exact ⟨i + 1, by have := HLT.out; omega, by go_num, by rw [HP.out, HO.out], H6.out, H7.out, HE.out⟩
          case measure => have := HLT.out; simp [intOf]; omega
        · have hoz : ((o : Int) == 0) = false := by rw [beq_eq_false_iff_ne]; omega
          by_cases hc : X.length < Y.length
          · have HO : Hid (pick (o, Y) i (er, X) = (i, X)) := by
              show _ = _
              unfold pick
              rw [if_pos ⟨her, .inr hc⟩]
            have hsz : decide ((SX.size : Int) < (SY.size : Int)) = true := by rw [decide_eq_true_eq, HW1.out, HW2.out]; omega
            have hszn : decide (SX.size < SY.size) = true := by rw [decide_eq_true_eq, HW1.out, HW2.out]; omega
            clear her h0 hc
            go_wp2_with fail
            have r0 := cell_regrown ci
            have r1 := cell_regrown si
            have r2 := cell_regrown so
            refine wp_region_quiet_below (by kernel_rfl) (by kernel_rfl) ?_
            repeat (go_big_quiet_step (fail))
            refine wpQuiet_nil ?_
            intro _ hw'
            obtain ⟨⟨dq, osq⟩, hw''⟩ := hw'
            subst hw''
            have hbq := below_regrown wr dq osq
            generalize Sort.grow (redrawn wr dq) osq = w4 at *
            have H6 := hide (g6.out.below hbq g6.out.lt)
            have H7 := hide (g7.out.below hbq g7.out.lt)
            have HE := hide (hbe.out.trans (hbq.mono hbe.out.size))
            clear hbq r0 r1 r2 ci si so
            go_wp2_with fail
            go_roundw
            case rel => exact ⟨i + 1, by have := HLT.out; omega, by go_num, by rw [HP.out, HO.out], H6.out, H7.out, HE.out⟩
            case measure => have := HLT.out; simp [intOf]; omega
          · have HO : Hid (pick (o, Y) i (er, X) = (o, Y)) := by
              show _ = _
              unfold pick
              rw [if_neg]
              rintro ⟨_, h | h⟩
              · exact h0 h
              · exact hc h
            have hsz : decide ((SX.size : Int) < (SY.size : Int)) = false := by rw [decide_eq_false_iff_not, HW1.out, HW2.out]; omega
            have hszn : decide (SX.size < SY.size) = false := by rw [decide_eq_false_iff_not, HW1.out, HW2.out]; omega
            clear her h0 hc
            go_wp2_with fail
            have r0 := cell_regrown ci
            have r1 := cell_regrown si
            have r2 := cell_regrown so
            refine wp_region_quiet_below (by kernel_rfl) (by kernel_rfl) ?_
            repeat (go_big_quiet_step (fail))
            refine wpQuiet_nil ?_
            intro _ hw'
            obtain ⟨⟨dq, osq⟩, hw''⟩ := hw'
            subst hw''
            have hbq := below_regrown wr dq osq
            generalize Sort.grow (redrawn wr dq) osq = w4 at *
            have H6 := hide (g6.out.below hbq g6.out.lt)
            have H7 := hide (g7.out.below hbq g7.out.lt)
            have HE := hide (hbe.out.trans (hbq.mono hbe.out.size))
            clear hbq r0 r1 r2 ci si so
            go_wp2_with fail
            go_roundw
            case rel => exact ⟨i + 1, by have := HLT.out; omega, by go_num, by rw [HP.out, HO.out], H6.out, H7.out, HE.out⟩
            case measure => have := HLT.out; simp [intOf]; omega
    · obtain rfl : i = 5 := by omega
      have hbe5 : bst k l 5 = (o5, Y5) := HB5.out.symm.trans HRES.out
      have so := HS.out 5 (Nat.le_refl _)
      rw [hbe5] at so
      simp only at so
      have ho1 : o5 < 5 := by
        have := (Array.getElem?_eq_some_iff.1 so).1
        simpa using this
      have sc := (g6.out.cell o5).trans so
      rw [hbe5]
      have ho0 : (0 : Int) ≤ (o5 : Int) := by omega
      have ho2 : (o5 : Int) < 5 := by omega
      clear hlt hi so hbe5
      go_wp2_with fail
      go_region
      go_wp2_with fail
      go_ret2
      exact ⟨rfl, hbe.out.drew⟩
end Go.Proofs.YtfkgmodgkifelaaGreatDoor
namespace Go.Proofs.YtfkgmodgkifelaaGreatDoor
open Go.RowKit

/-- The cells that are there. -/
def dens (l : List MC) : List CD := (l.filter (fun c => !c.1)).map (·.2)
theorem dens_take {l : List MC} {i : Nat} {c : MC} (h : l[i]? = some c) : dens (l.take (i + 1)) = dens (l.take i) ++ (if c.1 = true then [] else [c.2]) := by
  unfold dens
  rw [List.take_add_one, h]
  cases hc : c.1 <;> simp [hc]
theorem dens_len (l : List MC) : (dens l).length ≤ l.length := by
  unfold dens
  rw [List.length_map]
  exact List.length_filter_le _ _
set_option maxHeartbeats 2000000 in
set_option maxRecDepth 100000 in
theorem ndense_any (l : List MC) (hlen : l.length ≤ 10000) (v : Value) (w : World) (hv : InM w v l) :
    Calls Tryz.prog 43 #[v] w fun e w' => (∃ V, e = .returned V ∧ InC w' V (dens l)) ∧ Below w.heap.size w w' := by
  obtain ⟨A, ca, rfl, hcell⟩ := hv
  have HC := hide hcell
  obtain ⟨i0, hi, hz0, hz1, hz2⟩ := info_parts info_cC
  clear hcell
  generalize hn : l.length = n at *
  have HN := hide hn
  clear hn
  have hst := fun (w1 : World) (a1 : Addr) (m : Mode) (x y : Nat) => run_store Tryz.prog w1 a1 (.complex .f64 x y) m rfl
  go_enter Tryz.func43, Tryz.ntmps43
  go_wp2_with fail
  go_loopw [3, 8] (fun dv iv wr => ∃ (i m : Nat), i ≤ n ∧ iv = .int .i64 (i : Int) ∧ m ≤ i ∧ Hid ((dens (l.take i)).length = m) ∧ Hid (wr.ownsRow w.heap.size 45 6 dv m ((dens (l.take i)).flatMap cellsC)) ∧ Hid (Below w.heap.size w wr)) (fun _ iv _ => n - (intOf iv).toNat)
  case atStart => exact ⟨0, 0, by omega, rfl, by omega, rfl, World.ownsRow_nil _ _ _ _, Below.refl _ _⟩
  case round =>
    obtain ⟨i, m, hin, rfl, hmi, hml, how, hb⟩ := hrel
    obtain ⟨OA, oc, rfl⟩ := own_form3 how.out
    by_cases hlt : i < n
    · obtain ⟨x, hx⟩ : ∃ x, l[i]? = some x := ⟨l[i]'(by rw [HN.out]; exact hlt), List.getElem?_eq_getElem _⟩
      obtain ⟨g, hA, hg, hat⟩ := HC.out i x hx
      subst hA
      obtain ⟨a0, a1, a2, a3, a4, a5⟩ := hat.below hb.out hg
      have HT := hide (dens_take hx)
      have HLT := hide hlt
      have hi0 : (0 : Int) ≤ (i : Int) := by omega
      have hi1 : (i : Int) < (n : Int) := by omega
      have hbs := hb.out.size
      have HO2 := hide (fun o o' => (how.out.alloc o).alloc o')
      obtain ⟨xn, xb, xx, xu, xt, xp, xq⟩ := x
      simp only at a0 a1 a2 a3 a4 a5 HT
      have hm1 : (m : Int) ≤ 10000 := by omega
      clear hx hat hlt hg
      cases xn
      · go_wp2_with (at_builtin; refine wpList_append_own_at _ rfl _ _ 25 rfl w.heap.size 45 i0 _ 6 56 Tryz.underlying25 hi hz0 hz1 hz2 rfl (by decide) _ _ _ rfl (HO2.out _ _) ⟨wr.heap.size + 1, 0, none⟩ 1 1 [.bool false, .bool xb, .int .i64 xx, .int .u64 xu, .string xt, .complex .f64 xp xq] rfl rfl (World.news_of_block (blk_2 _ _ _ _).out) (by simp [Value.oneCell']) (by simp only [maxLen]; omega) (by omega) (by simpa using Nat.le_succ_of_le (Nat.le_succ_of_le hbs)) ?_; intro v1 w2 hown1 hgrow1 _ hat1)
        have HB2 := hide (((hb.out.alloc hb.out.size _).alloc (by simp; omega) _).grown hgrow1 (by simp; omega) (fun z hz => (how.out.lt z hz).1))
        have HO3 := hide hown1
        clear hown1 hgrow1 hat1
        go_roundw
        case rel =>
          refine ⟨i + 1, m + 1, by have := HLT.out; omega, by go_num, by omega, ?_, ?_, HB2.out⟩
          · show _ = _
            rw [HT.out]; simp; exact hml.out
          · show World.ownsRow _ _ _ _ _ _ _
            rw [HT.out, if_neg (by simp), cellsC_snoc]; exact HO3.out
        case measure => have := HLT.out; simp [intOf]; omega
      · have HB2 := hide (hb.out.alloc hb.out.size (.cells #[.bool true, .bool xb, .int .i64 xx, .int .u64 xu, .string xt, .complex .f64 xp xq] 45))
        have HO3 := hide (how.out.alloc (.cells #[.bool true, .bool xb, .int .i64 xx, .int .u64 xu, .string xt, .complex .f64 xp xq] 45))
        go_wp2_with fail
        go_roundw
        case rel =>
          refine ⟨i + 1, m, by have := HLT.out; omega, by go_num, by omega, ?_, ?_, HB2.out⟩
          · show _ = _
            rw [HT.out]; simp; exact hml.out
          · show World.ownsRow _ _ _ _ _ _ _
            rw [HT.out, if_pos rfl, List.append_nil]; exact HO3.out
        case measure => have := HLT.out; simp [intOf]; omega
    · obtain rfl : n = i := by omega
      have ho := how.out
      have hm := hml.out
      rw [List.take_of_length_le (by rw [HN.out]; exact Nat.le_refl _)] at ho hm
      have HV := hide (inC_own ho hm.symm)
      clear hlt hin ho hm
      go_wp2_with fail
      go_ret
      exact ⟨⟨_, rfl, HV.out⟩, hb.out⟩
end Go.Proofs.YtfkgmodgkifelaaGreatDoor
namespace Go.Proofs.YtfkgmodgkifelaaGreatDoor
open Go.RowKit

theorem info_tab : (Tryz.prog.info? 60).map (·.size) = some 2 := by kernel_rfl
set_option maxHeartbeats 1000000 in
set_option maxRecDepth 100000 in
theorem alone_any (nm : ByteArray) (k : Int) (nl : Bool) (A : Option Addr) (n ca : Nat) (w : World) :
    Calls Tryz.prog 38 #[colV nm k nl, .slice A n ca] w fun e w' => (∃ gc gs, e = .returned (.agg #[.slice (some ⟨gc, 0, none⟩) 1 1, .slice (some ⟨gs, 0, none⟩) 1 1]) ∧ Blk w' gc 23 #[.string nm, .int .i64 k, .bool nl] ∧ Blk w' gs 25 #[.slice A n ca]) ∧ Below w.heap.size w w' := by
  unfold colV
  have HZ := hide (fun o1 o2 o3 o4 => ((((Below.refl w.heap.size w).alloc (Nat.le_refl _) o1).alloc (by simp) o2).alloc (by simp; omega) o3).alloc (by simp; omega) o4)
  go_enter Tryz.func38, Tryz.ntmps38
  go_wp2_with fail
  refine bodyPost_ret (results_cell_row rfl _ _ (w.heap.size + 1) 60 #[.slice (some ⟨w.heap.size + 1 + 1, 0, none⟩) 1 1, .slice (some ⟨w.heap.size + 1 + 1 + 1, 0, none⟩) 1 1] (0, 0) _ rfl (((blk_n2 w _ _ _).alloc _).alloc _).out Tryz.underlying60 rfl info_tab) rfl ?_
  exact ⟨⟨_, _, rfl, (blk_n3 w _ _ _ _).alloc _, blk_m4 w _ _ _ _ _⟩, HZ.out _ _ _ _⟩
/-- A column's stream. -/
def encC (k : Int) (nl : Bool) (l : List MC) : ByteArray :=
  strN (uvar l.length) ++ (if nl = true then strN (packL (l.map (·.1))) else ByteArray.empty) ++ strN [(bestW k (dens l)).1] ++ strN (bestW k (dens l)).2
theorem pick_len {b o : Nat × List Nat} {w M : Nat} (hb : b.1 ≠ 0 → b.2.length ≤ M) (hb0 : b.1 ≠ 0 ∨ (o.1 = 0 ∧ o.2.length ≤ M)) (hw : w ≠ 0) : (pick b w o).1 ≠ 0 ∧ (pick b w o).2.length ≤ M := by
  unfold pick
  split
  · rename_i h
    refine ⟨hw, ?_⟩
    by_cases h0 : b.1 = 0
    · exact (hb0.resolve_left (fun h => h h0)).2
    · have := hb h0
      have := h.2.resolve_left h0
      show o.2.length ≤ M
      omega
  · rename_i h
    by_cases h0 : b.1 = 0
    · exact absurd ⟨(hb0.resolve_left (fun h => h h0)).1, .inl h0⟩ h
    · exact ⟨h0, hb h0⟩
theorem bestW_len (k : Int) (l : List CD) : (bestW k l).1 ≠ 0 ∧ (bestW k l).2.length ≤ (encP k l).length := by
  have h2 : (bst k l 2).1 ≠ 0 ∧ (bst k l 2).2.length ≤ (encP k l).length := by
    refine pick_len (b := bst k l 1) (fun h => absurd (show (bst k l 1).1 = 0 from rfl) h) (.inr ⟨rfl, Nat.le_refl _⟩) (by decide)
  have h3 := pick_len (b := bst k l 2) (o := wayO k l 2) (w := 2) (fun _ => h2.2) (.inl h2.1) (by decide)
  have h4 := pick_len (b := bst k l 3) (o := wayO k l 3) (w := 3) (fun _ => h3.2) (.inl h3.1) (by decide)
  exact pick_len (b := bst k l 4) (o := wayO k l 4) (w := 4) (fun _ => h4.2) (.inl h4.1) (by decide)
theorem bestW_le (k : Int) (l : List CD) : (bestW k l).1 ≤ 5 := bst_lt k l 5
theorem encP_len {k : Int} {l : List CD} (hl : Wok l) : (encP k l).length ≤ 1100000 := by
  unfold encP
  split
  · rw [packL_length, List.length_map]; have := hl.len; omega
  · exact Nat.le_trans (flat_len k l hl.kg) hl.by_
theorem tby_dens : ∀ l : List MC, tby (dens l) ≤ tbm l := by
  intro l
  induction l with
  | nil => exact Nat.le_refl _
  | cons c l ih =>
    have e : tbm (c :: l) = 20 + c.2.t.size + tbm l := by simp [tbm]
    rw [e]
    by_cases h : c.1 = true
    · have : dens (c :: l) = dens l := by unfold dens; simp [h]
      rw [this]; omega
    · have : dens (c :: l) = c.2 :: dens l := by unfold dens; simp [h]
      rw [this, tby_cons]; omega
theorem wok_dens {nl : Bool} {k : Int} {l : List MC} (hl : l.length ≤ 10000) (hok : ∀ c ∈ l, okM nl k c) (ht : tbm l ≤ 1048576) : Wok (dens l) := by
  refine ⟨fun c hc => ?_, Nat.le_trans (dens_len l) hl, Nat.le_trans (tby_dens l) (by omega)⟩
  unfold dens at hc
  obtain ⟨m, hm, rfl⟩ := List.mem_map.1 hc
  obtain ⟨h1, h2⟩ := List.mem_filter.1 hm
  have := hok m h1
  unfold okM at this
  rw [if_neg (by simpa using h2)] at this
  exact this.kg
theorem encC_eq (k : Int) (nl : Bool) (l : List MC) (D : List Nat) (hD : strN D = strN (uvar l.length) ++ (if nl = true then strN (packL (l.map (·.1))) else ByteArray.empty)) : strN ((D ++ [(bestW k (dens l)).1]) ++ bn (strN (bestW k (dens l)).2)) = encC k nl l := by
  rw [strN_app_bn, strN_app, hD]
  rfl
end Go.Proofs.YtfkgmodgkifelaaGreatDoor
