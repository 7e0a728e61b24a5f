import Derived.Test.YtmikeljfigignaaNulls
namespace Go.Proofs.Ytmikeljfigignaa
open Go.RowKit

/-- A slice of bytes that the call itself made. -/
def OwnU8 (w : World) (B : Nat) (v : Value) (l : List Nat) : Prop := w.ownsRow B 5 1 v l.length (l.map fun b : Nat => Value.int .u8 (b : Int))
theorem ownU8_nil (w : World) (B : Nat) : OwnU8 w B (.slice none 0 0) [] := World.ownsRow_nil _ _ _ _
theorem map_u8_snoc (l : List Nat) (b : Nat) : (l ++ [b]).map (fun b : Nat => Value.int .u8 (b : Int)) = l.map (fun b : Nat => Value.int .u8 (b : Int)) ++ [Value.int .u8 (b : Int)] := by simp
theorem refp_succ (l : List Bool) (j : Nat) : (List.range (j + 1)).map (fun j => sb l (8 * j) 8) = (List.range j).map (fun j => sb l (8 * j) 8) ++ [sb l (8 * j) 8] := by simp [List.range_succ]
/-- Out of a row of one's own: the text. -/
theorem ownU8_string {w : World} {B : Nat} {v : Value} {l : List Nat} (h : OwnU8 w B v l) : (convert 33 9 v).run Try.prog w = .ok (.string (strN l)) w := by
  unfold OwnU8 at h
  rcases h.2 with ⟨rfl, h0⟩ | ⟨g, cap, cur, rfl, hb, hg, hr⟩
  · have hl : l = [] := List.eq_nil_of_length_eq_zero h0
    subst hl
    have := run_convert_bytes_nil w 33 5 Try.underlying33 Try.underlying5 0 0 9 Try.underlying9
    rw [this]
    unfold strN; rfl
  · refine row8_string (l := l) ⟨(Array.getElem?_eq_some_iff.1 hg).1, fun i hi => ⟨?_, h.frozenAt i⟩⟩ cap
    rw [h.cellAt i (by omega)]
    simp [List.getD, hi]
set_option maxHeartbeats 1000000 in
theorem refpack_any (l : List Bool) (hl : l.length ≤ 1048576) (v : Value) (w : World) (h : SlB w v l) :
    Calls Try.prog 20 #[v] w fun e w' => e = .returned (.string (strN (packL l))) ∧ Below w.heap.size w w' := by
  obtain ⟨hm, hs⟩ := h
  rcases hs with ⟨h0, a, c, rfl, _⟩ | ⟨hpos, b, o, c, rfl, hc, hb, hcell⟩
  · have hl : l = [] := List.eq_nil_of_length_eq_zero h0
    subst hl
    have HS0 : Hid (strN (packL []) = { data := #[] }) := by show _ = _; unfold strN; rfl
    have hcv : ∀ w, Sem.run Try.prog (convert 33 9 (.slice none 0 0)) w = .ok (.string { data := #[] }) w := fun w => by have := ownU8_string (ownU8_nil w 0); rw [this]; unfold strN; rfl
    clear hm h0 hl
    go_enter Try.func20, Try.ntmps20
    go_wp2_with fail
    refine wp_loop_rounds 1 ?_
    rw [rounds_succ]
    go_wp2
    go_ret
    exact ⟨by rw [HS0.out]; rfl, Below.refl _ _⟩
  have HC := hide hcell
  clear hcell hm
  obtain ⟨i0, hi, hz0, hz1, hz2⟩ := info_parts info_u8
  go_enter Try.func20, Try.ntmps20
  go_wp2_with fail
  go_loopw [3, 4] (fun ov i wr => ∃ j J : Nat, Hid (J = 8 * j) ∧ j ≤ (l.length + 7) / 8 ∧ J ≤ l.length + 7 ∧ i = .int .i64 (J : Int) ∧ OwnU8 wr w.heap.size ov ((List.range j).map fun j => sb l (8 * j) 8) ∧ Below w.heap.size w wr) (fun _ i _ => l.length + 8 - (intOf i).toNat)
  case atStart => exact ⟨0, 0, rfl, by omega, by omega, rfl, ownU8_nil _ _, Below.refl _ _⟩
  case round =>
    obtain ⟨j, J, HJ, hj, hJ, rfl, hown, hb1⟩ := hrel
    by_cases hlt : J < l.length
    · have HSU := hide (refp_succ l j)
      rw [← HJ.out] at HSU
      have hjl : j + 1 ≤ 1048576 := by have := HJ.out; omega
      have HJ2 : Hid (J + 8 = 8 * (j + 1)) := by have := HJ.out; show _ = _; omega
      have hj2 : j + 1 ≤ (l.length + 7) / 8 := by have := HJ.out; omega
      have hbm : b < wr.heap.size := Nat.lt_of_lt_of_le hb hb1.size
      have hdj : decide ((J : Int) < (l.length : Int)) = true := by rw [decide_eq_true_eq]; omega
      obtain ⟨wo, rfl⟩ : ∃ wo : World, wo = wr := ⟨_, rfl⟩
      clear HJ
      go_wp2_with fail
      go_loop [5, 6, 7] (fun x u k => ∃ q : Nat, q ≤ 8 ∧ J + q ≤ l.length ∧ k = .int .i64 ((J : Int) + q) ∧ x = .int .i64 ((sb l J q : Nat) : Int) ∧ (∃ U : Nat, u = .int .i64 (U : Int) ∧ U ≤ 256 ∧ Hid (U = 2 ^ q))) (fun _ _ k => l.length - (intOf k).toNat)
      case atStart => exact ⟨0, by omega, by omega, by go_num, by rw [sb_zero]; rfl, 1, rfl, by omega, rfl⟩
      case round =>
        obtain ⟨q, hq, hql, rfl, rfl, U, rfl, hU, HU⟩ := hrel
        have hsb : sb l J q ≤ 2 ^ q := Nat.le_of_lt (sb_lt l _ _)
        have hpq : 2 ^ q ≤ 2 ^ 8 := Nat.pow_le_pow_right (by omega) hq
        have hs256 : sb l J q ≤ 256 := Nat.le_trans hsb hpq
        have HSB := hide (sb_succ l J q)
        clear hsb hpq
        by_cases hq8 : q < 8 ∧ J + q < l.length
        · obtain ⟨hq8, hql8⟩ := hq8
          have hck := (hb1.cell (p := ⟨b, o + (J + q), none⟩) hb).trans (HC.out (J + q) hql8)
          have hU8 : U ≤ 128 := by
            have := HU.out
            have h2 : 2 ^ q ≤ 2 ^ 7 := Nat.pow_le_pow_right (by omega) (by omega)
            omega
          have HU2 : Hid (2 * U = 2 ^ (q + 1)) := by show _ = _; rw [Nat.pow_succ, HU.out]; omega
          cases hbit : l.getD (J + q) false with
          | true =>
            have HB := hide (bit_true hbit)
            have hck' : wo.cell? ⟨b, o + (J + q), none⟩ = some (.bool true) := hck.trans (by rw [hbit])
            clear hck hbit
            go_wp2
            go_round
            case rel => exact ⟨q + 1, by omega, by omega, by go_num, by rw [HSB.out, HB.out, ← HU.out]; go_num, 2 * U, by go_num, by omega, HU2⟩
            case measure => simp [intOf] <;> omega
          | false =>
            have HB := hide (bit_false hbit)
            have hck' : wo.cell? ⟨b, o + (J + q), none⟩ = some (.bool false) := hck.trans (by rw [hbit])
            clear hck hbit
            go_wp2
            go_round
            case rel => exact ⟨q + 1, by omega, by omega, by go_num, by rw [HSB.out, HB.out]; go_num, 2 * U, by go_num, by omega, HU2⟩
            case measure => simp [intOf] <;> omega
        · have HF : Hid (sb l J q = sb l J 8) := by
            show _ = _
            by_cases e8 : q = 8
            · rw [e8]
            · have := sb_stop l J q (8 - q) (by omega)
              rw [show q + (8 - q) = 8 by omega] at this
              exact this.symm
          have hsl := sb_8 l J
          clear HSB HU
          have hs2 : sb l J q < 256 := by rw [HF.out]; exact hsl
          generalize hx : sb l J q = x at *
          clear hx hsl hs256
          have hown1 := hown
          unfold OwnU8 at hown1
          rw [List.length_map, List.length_range] at hown1
          by_cases e8 : q = 8
          all_goals
            first | subst e8 | skip
            go_wp2_with (at_builtin; refine wpList_append_own _ rfl _ _ 33 rfl w.heap.size 5 i0 (.int .u8 0) 1 1 Try.underlying33 hi hz0 hz1 hz2 rfl (by decide) _ _ _ rfl (hown1.alloc _) ⟨wo.heap.size, 0, none⟩ 1 1 [.int .u8 (x : Int)] rfl rfl (cell_one_new _ _ _) (by simp [Value.oneCell']) (by simp only [maxLen]; omega) (by omega) (by simpa using Nat.le_succ_of_le hb1.size) ?_; intro v' w1 hown' hgrow _)
            have HO2 : OwnU8 w1 w.heap.size v' ((List.range (j + 1)).map fun j => sb l (8 * j) 8) := by
              unfold OwnU8
              rw [HSU.out, map_u8_snoc, ← HF.out]
              simpa using hown'
            have HB2 : Below w.heap.size w w1 := (hb1.alloc hb1.size _).grown hgrow (by simpa using Nat.le_succ_of_le hb1.size) (fun k hk => (hown1.lt k hk).1)
            go_roundw
            case rel => exact ⟨j + 1, J + 8, HJ2, hj2, by omega, by go_num, HO2, HB2⟩
            case measure => simp [intOf] <;> omega
    · have HL : Hid ((List.range j).map (fun j => sb l (8 * j) 8) = packL l) := by
        have h1 := HJ.out
        have h2 : j = (l.length + 7) / 8 := by omega
        show _ = _
        rw [h2]; rfl
      rw [HL.out] at hown
      have hcv := ownU8_string hown
      go_wp2
      go_ret
      exact ⟨rfl, hb1⟩
end Go.Proofs.Ytmikeljfigignaa
