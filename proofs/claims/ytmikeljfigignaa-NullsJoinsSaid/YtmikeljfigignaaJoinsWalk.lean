import Derived.Test.YtmikeljfigignaaNulls5
namespace Go.Proofs.Ytmikeljfigignaa
open Go.RowKit

theorem map_range_bool (l : List Bool) : (List.range l.length).map (fun i => Value.bool (l.getD i false)) = l.map Value.bool := by
  apply List.ext_getElem (by simp)
  intro i h1 h2
  have hi : i < l.length := by simpa using h1
  simp [List.getD, hi]
theorem strN_append (a b : List Nat) : strN (a ++ b) = strN a ++ strN b := by
  unfold strN
  rw [List.map_append]
  apply ByteArray.ext
  apply Array.ext'
  rw [strOfNums_data, List.map_append]
  simp [strOfNums]
set_option maxHeartbeats 1000000 in
theorem nullsJoins_walk (w : World) (va : Value) (w0 : ∃ l : List Bool, InSl w va l.length (fun i => .bool (l.getD i false))) (vb : Value) (w1 : ∃ l : List Bool, InSl w vb l.length (fun i => .bool (l.getD i false))) :
    Calls Try.prog 8 #[va, vb] w fun e w' => e = .returned (.bool true) ∧ Below w.heap.size w w' := by
  have KA := hide (awake07)
  obtain ⟨a, hA⟩ := w0
  obtain ⟨b, hB⟩ := w1
  have HA : SlB w va a := hA
  have HB : SlB w vb b := hB
  obtain ⟨Aa, ca, rfl⟩ : ∃ A c, va = .slice A a.length c := by
    rcases hA.2 with ⟨h0, x, c, rfl, _⟩ | ⟨_, x, o, c, rfl, _⟩
    · exact ⟨x, c, by rw [h0]⟩
    · exact ⟨_, c, rfl⟩
  obtain ⟨Ab, cb, rfl⟩ : ∃ A c, vb = .slice A b.length c := by
    rcases hB.2 with ⟨h0, x, c, rfl, _⟩ | ⟨_, x, o, c, rfl, _⟩
    · exact ⟨x, c, by rw [h0]⟩
    · exact ⟨_, c, rfl⟩
  have hma : a.length ≤ 9223372036854775807 := hA.1
  have hmb : b.length ≤ 9223372036854775807 := hB.1
  clear hA hB
  by_cases h300 : 300 < a.length ∨ 300 < b.length
  · go_enter Try.func8, Try.ntmps8
    go_wp2_with fail
    all_goals
      refine (KA.out _).mono ?_
      rintro e w1 ⟨rfl, hb1⟩
      go_wp2
      go_ret
      exact ⟨rfl, hb1⟩
  have hA300 : a.length ≤ 300 := by omega
  have hB300 : b.length ≤ 300 := by omega
  clear h300
  obtain ⟨i0, hi, hz0, hz1, hz2⟩ := info_parts info_bool
  have HRA := hide (map_range_bool a)
  have HRB := hide (map_range_bool b)
  have hdA : decide (300 < (a.length : Int)) = false := by rw [decide_eq_false_iff_not]; omega
  have hdB : decide (300 < (b.length : Int)) = false := by rw [decide_eq_false_iff_not]; omega
  have hca := cntTo_le a a.length
  have hcb := cntTo_le b b.length
  have hown0 : w.ownsRow w.heap.size 4 1 (.slice none 0 0) 0 [] := World.ownsRow_nil _ _ _ _
  go_enter Try.func8, Try.ntmps8
  go_wp2_with (first | (at_builtin; refine wpList_append_sl rfl (.tmp 15) (.tmp 16) 39 rfl w.heap.size 4 i0 (.bool false) 1 Try.underlying39 hi hz0 hz1 hz2 rfl (.slice none 0 0) 0 [] rfl hown0 _ a.length (fun i => .bool (a.getD i false)) rfl HA (fun _ => rfl) (by simp only [maxLen]; omega) (by omega) (Nat.le_refl _) ?_; intro v1 w1 hown1 hgrow1; have hbw : Below w.heap.size w w1 := (Below.refl _ _).grown hgrow1 (Nat.le_refl _) (fun k hk => by cases hk); have HB1 := InSl.below HB hbw; have HA1 := InSl.below HA hbw; rw [HRA.out] at hown1; simp only [Nat.zero_add, List.nil_append] at hown1) | (at_builtin; refine wpList_append_sl rfl (.tmp 18) (.tmp 19) 39 rfl w.heap.size 4 i0 (.bool false) 1 Try.underlying39 hi hz0 hz1 hz2 rfl v1 a.length _ rfl hown1 _ b.length (fun i => .bool (b.getD i false)) rfl HB1 (fun _ => rfl) (by simp only [maxLen]; omega) (by omega) hbw.size ?_; intro v2 w2 hown2 hgrow2))
  have hbw2 : Below w.heap.size w w2 := hbw.grown hgrow2 hbw.size (fun k hk => (hown1.lt k hk).1)
  have hst : Below w1.heap.size w1 w2 ∨ True := .inr trivial
  clear hst
  have hO : OwnB w2 w.heap.size v2 (a ++ b) := by
    unfold OwnB
    rw [List.length_append, List.map_append, ← HRB.out]
    exact hown2
  have HS2 : SlB w2 v2 (a ++ b) := ownB_slB hO (by rw [List.length_append]; unfold maxLen; omega)
  have HA2 : SlB w2 (.slice Aa a.length ca) a := by
    have hA' := HA
    obtain ⟨h1, h2⟩ := hA'
    refine ⟨h1, h2.imp id ?_⟩
    rintro ⟨h0, x, o, c, hv, hc, hlt, hcell⟩
    exact ⟨h0, x, o, c, hv, hc, Nat.lt_of_lt_of_le hlt hbw2.size, fun i hi => (hbw2.cell (p := ⟨x, o + i, none⟩) hlt).trans (hcell i hi)⟩
  have HB2 : SlB w2 (.slice Ab b.length cb) b := by
    have hB' := HB
    obtain ⟨h1, h2⟩ := hB'
    refine ⟨h1, h2.imp id ?_⟩
    rintro ⟨h0, x, o, c, hv, hc, hlt, hcell⟩
    exact ⟨h0, x, o, c, hv, hc, Nat.lt_of_lt_of_le hlt hbw2.size, fun i hi => (hbw2.cell (p := ⟨x, o + i, none⟩) hlt).trans (hcell i hi)⟩
  have K1 := hide (count_any _ _ w2 HS2)
  have K2 := hide (count_any _ _ w2 HA2)
  have K3 := hide (count_any _ _ w2 HB2)
  have K4 : Hid (∀ w', SlB w' v2 (a ++ b) → Calls Try.prog 19 #[v2] w' fun e w'' => e = .returned (.string (strN (packL (a ++ b)))) ∧ Below w'.heap.size w' w'') := fun w' h => pack_any _ (by rw [List.length_append]; omega) v2 w' h
  have K5 : Hid (∀ w', SlB w' (.slice Aa a.length ca) a → Calls Try.prog 19 #[.slice Aa a.length ca] w' fun e w'' => e = .returned (.string (strN (packL a))) ∧ Below w'.heap.size w' w'') := fun w' h => pack_any _ (by omega) _ w' h
  have K6 : Hid (∀ w', SlB w' (.slice Ab b.length cb) b → Calls Try.prog 19 #[.slice Ab b.length cb] w' fun e w'' => e = .returned (.string (strN (packL b))) ∧ Below w'.heap.size w' w'') := fun w' h => pack_any _ (by omega) _ w' h
  rw [cnt_append] at K1
  have hca' : cnt a ≤ a.length := hca
  have hcb' : cnt b ≤ b.length := hcb
  have hsz : (strN (packL (a ++ b))).size = (a.length + b.length + 7) / 8 := by rw [strN_size, packL_length, List.length_append]
  have HST := hide (fun h => (show strN (packL a) ++ strN (packL b) = strN (packL (a ++ b)) from by rw [packL_append a b h, strN_append]))
  have HSA : (strN (packL a)).size ≤ 1000 := by rw [strN_size, packL_length]; omega
  have HSB : (strN (packL b)).size ≤ 1000 := by rw [strN_size, packL_length]; omega
  generalize strN (packL (a ++ b)) = SA at *
  generalize strN (packL a) = Sa at *
  generalize strN (packL b) = Sb at *
  generalize cnt a = xa at *
  generalize cnt b = xb at *
  have HHS := hide HS2
  have HHA := hide HA2
  have HHB := hide HB2
  clear HS2 HA2 HB2 hO hown1 hown2 HA HB HA1 HB1 hgrow1 hgrow2 hown0 hca hcb hbw HRA HRB
  refine K1.out.mono ?_
  rintro e w' ⟨rfl, rfl⟩
  go_wp2_with fail
  refine K2.out.mono ?_
  rintro e w' ⟨rfl, rfl⟩
  go_wp2_with fail
  refine K3.out.mono ?_
  rintro e w' ⟨rfl, rfl⟩
  go_wp2_with fail
  refine (K4.out _ HHS.out).mono ?_
  rintro e w3 ⟨rfl, hb3⟩
  have hbw3 := hbw2.trans (hb3.mono hbw2.size)
  have G3 := hide (InSl.below HHS.out hb3)
  have GA3 := hide (InSl.below HHA.out hb3)
  have GB3 := hide (InSl.below HHB.out hb3)
  clear hb3 hbw2 K1 K2 K3
  by_cases h8 : a.length % 8 = 0
  · have hst := HST.out h8
    have hr : (((a.length : Int) % 8) != 0) = false := by rw [bne_eq_false_iff_eq]; omega
    go_wp2_with fail
    refine (K4.out _ G3.out).mono ?_
    rintro e w4 ⟨rfl, hb4⟩
    have hbw4 := hbw3.trans (hb4.mono hbw3.size)
    have GA4 := hide (InSl.below GA3.out hb4)
    have GB4 := hide (InSl.below GB3.out hb4)
    clear hb4 hbw3
    go_wp2_with fail
    refine (K5.out _ GA4.out).mono ?_
    rintro e w5 ⟨rfl, hb5⟩
    have hbw5 := hbw4.trans (hb5.mono hbw4.size)
    have GB5 := hide (InSl.below GB4.out hb5)
    clear hb5 hbw4
    go_wp2_with fail
    refine (K6.out _ GB5.out).mono ?_
    rintro e w6 ⟨rfl, hb6⟩
    have hbw6 := hbw5.trans (hb6.mono hbw5.size)
    clear hb6 hbw5
    go_wp2_with fail
    refine (KA.out _).mono ?_
    rintro e w7 ⟨rfl, hb7⟩
    have hbw7 := hbw6.trans (hb7.mono hbw6.size)
    go_wp2
    go_ret
    exact ⟨rfl, hbw7⟩
  · have hr : (((a.length : Int) % 8) != 0) = true := by rw [bne_iff_ne]; omega
    go_wp2_with fail
    refine (KA.out _).mono ?_
    rintro e w7 ⟨rfl, hb7⟩
    have hbw7 := hbw3.trans (hb7.mono hbw3.size)
    go_wp2
    go_ret
    exact ⟨rfl, hbw7⟩
end Go.Proofs.Ytmikeljfigignaa
