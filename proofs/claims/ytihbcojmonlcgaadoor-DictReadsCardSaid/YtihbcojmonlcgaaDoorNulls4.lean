import Derived.Test.YtihbcojmonlcgaaDoorNulls3
namespace Go.Proofs.YtihbcojmonlcgaaDoor
open Go.RowKit

/-- A slice of bools that the call itself made. -/
def OwnB (w : World) (B : Nat) (v : Value) (l : List Bool) : Prop := w.ownsRow B 4 1 v l.length (l.map Value.bool)
theorem ownB_nil (w : World) (B : Nat) : OwnB w B (.slice none 0 0) [] := World.ownsRow_nil _ _ _ _
theorem ownB_slB {w : World} {B : Nat} {v : Value} {l : List Bool} (h : OwnB w B v l) (hm : l.length ≤ maxLen) : SlB w v l := by
  unfold OwnB at h
  refine ⟨hm, ?_⟩
  rcases h.2 with ⟨rfl, h0⟩ | ⟨g, cap, cur, rfl, hb, hg, hr, _⟩
  · exact .inl ⟨h0, none, 0, rfl, fun _ => rfl⟩
  · rcases Nat.eq_zero_or_pos l.length with h0 | h0
    · exact .inl ⟨h0, _, _, by rw [h0], fun h => by cases h⟩
    · refine .inr ⟨h0, g, 0, cap, rfl, hr, (Array.getElem?_eq_some_iff.1 hg).1, fun i hi => ?_⟩
      rw [Nat.zero_add, h.cellAt i (by omega)]
      simp [List.getD, hi]
theorem ubit_num (s : ByteArray) (k : Nat) (hk : k / 8 < s.size) : ((((s[k / 8]'hk).toNat / 2 ^ (k % 8) : Nat) : Int) % 2 == 1) = ubit (bn s) k := by
  have h2 : (bn s).getD (k / 8) 0 = (s[k / 8]'hk).toNat := by
    rw [bn_getD]
    rw [List.getD_eq_getElem?_getD, List.getElem?_eq_getElem (by simpa using hk)]
    rfl
  unfold ubit
  rw [h2]
  generalize (s[k / 8]'hk).toNat / 2 ^ (k % 8) = x
  by_cases hx : x % 2 = 1
  · rw [hx, beq_iff_eq.2 (show ((x : Int) % 2) = 1 by omega)]; rfl
  · rw [beq_eq_false_iff_ne.2 hx, beq_eq_false_iff_ne]; omega
set_option maxHeartbeats 400000 in
theorem refunpack_arg (s : ByteArray) (n : Int) (h : n < 0 ∨ 1048576 < n) (w : World) : Calls Tryd.prog 47 #[.string s, .int .i64 n] w (UnPost s n w) := by
  have HE := hide (unR_arg (bn s) n h)
  rcases h with h | h
  all_goals
    go_enter Tryd.func47, Tryd.ntmps47
    go_wp2
    go_ret2
    exact ⟨.slice none 0 0, by rw [HE.out]; rfl, by rw [HE.out]; exact slB_nil w, Below.refl _ _⟩
set_option maxHeartbeats 400000 in
theorem refunpack_short (s : ByteArray) (n : Nat) (hn : n ≤ 1048576) (hs : s.size < (n + 7) / 8) (w : World) : Calls Tryd.prog 47 #[.string s, .int .i64 n] w (UnPost s n w) := by
  have HE := hide (unR_short (bn s) n hn (by rw [bn_len]; exact hs))
  go_enter Tryd.func47, Tryd.ntmps47
  go_wp2
  go_ret2
  exact ⟨.slice none 0 0, by rw [HE.out]; rfl, by rw [HE.out]; exact slB_nil w, Below.refl _ _⟩
set_option maxHeartbeats 400000 in
set_option maxRecDepth 100000 in
theorem refunpack_long (s : ByteArray) (n : Nat) (hn : n ≤ 1048576) (hs : (n + 7) / 8 < s.size) (hm : s.size ≤ 1048576) (w : World) : Calls Tryd.prog 47 #[.string s, .int .i64 n] w (UnPost s n w) := by
  have HE := hide (unR_long (bn s) n hn (by rw [bn_len]; exact hs))
  go_enter Tryd.func47, Tryd.ntmps47
  go_wp2
  go_ret2
  exact ⟨.slice none 0 0, by rw [HE.out]; rfl, by rw [HE.out]; exact slB_nil w, Below.refl _ _⟩
set_option maxHeartbeats 1000000 in
set_option maxRecDepth 100000 in
theorem refunpack_fit (s : ByteArray) (n : Nat) (hn : n ≤ 1048576) (hs : s.size = (n + 7) / 8) (w : World) : Calls Tryd.prog 47 #[.string s, .int .i64 n] w (UnPost s n w) := by
  have HS := hide hs
  have hs1 : 8 * s.size ≤ n + 7 := by omega
  have hs2 : n ≤ 8 * s.size := by omega
  clear hs
  have hd1 : decide ((n : Int) < 0) = false := by rw [decide_eq_false_iff_not]; omega
  have hd2 : decide (1048576 < (n : Int)) = false := by rw [decide_eq_false_iff_not]; omega
  have hd3 : decide (1048576 < n) = false := by rw [decide_eq_false_iff_not]; omega
  have hlen : s.size ≤ 1048576 := by omega
  have hd4 : decide ((s.size : Int) * 8 < (n : Int)) = false := by rw [decide_eq_false_iff_not]; omega
  have hd5 : decide (((n : Int) + 7) / 8 < (s.size : Int)) = false := by rw [decide_eq_false_iff_not]; omega
  obtain ⟨i0, hi, hz0, hz1, hz2⟩ := info_parts info_bool
  go_enter Tryd.func47, Tryd.ntmps47
  go_wp2_with fail
  go_loopw [6, 7] (fun ov i wr => ∃ k : Nat, k ≤ 8 * s.size ∧ i = .int .i64 k ∧ OwnB wr w.heap.size ov (ubits (bn s) (min k n)) ∧ Hid (cleanTo (bn s) n k = true) ∧ Below w.heap.size w wr) (fun _ i _ => 8 * s.size - (intOf i).toNat)
  case atStart => exact ⟨0, by omega, rfl, by rw [Nat.zero_min]; exact ownB_nil _ _, cleanTo_all _ _ _ (by omega), Below.refl _ _⟩
  case round =>
    obtain ⟨k, hk, rfl, hown, HCl, hb1⟩ := hrel
    by_cases hlt : k < 8 * s.size
    · have hk8 : k / 8 < s.size := by omega
      have HU := hide (ubit_num s k hk8)
      have hx256 : (s[k / 8]'hk8).toNat < 256 := (s[k / 8]'hk8).toNat_lt
      have HN := hide (cleanTo_succ (bn s) n k)
      have hdk : decide ((k : Int) < 8 * (s.size : Int)) = true := by rw [decide_eq_true_eq]; omega
      generalize hX : (s[k / 8]'hk8).toNat = X at *
      have HX := hide hX
      obtain ⟨wo, rfl⟩ : ∃ wo : World, wo = wr := ⟨_, rfl⟩
      go_wp2_with fail
      go_loop [8, 9] (fun y c => ∃ q Y : Nat, q ≤ k % 8 ∧ c = .int .i64 q ∧ y = .int .i64 (Y : Int) ∧ Y < 256 ∧ Hid (Y = X / 2 ^ q)) (fun _ c => k % 8 - (intOf c).toNat)
      case atStart => exact ⟨0, X, by omega, rfl, rfl, hx256, by show _ = _; rw [Nat.pow_zero, Nat.div_one]⟩
      case round =>
        obtain ⟨q, Y, hq, rfl, rfl, hY, HY⟩ := hrel
        by_cases hqk : q < k % 8
        · have HY2 : Hid (Y / 2 = X / 2 ^ (q + 1)) := by show _ = _; rw [HY.out, Nat.div_div_eq_div_mul, Nat.pow_succ]
          go_wp2
          go_round
          case rel => exact ⟨q + 1, Y / 2, by omega, by go_num, by go_num, by omega, HY2⟩
          case measure => simp [intOf] <;> omega
        · have hqe : q = k % 8 := by omega
          have hub : (((Y : Nat) : Int) % 2 == 1) = ubit (bn s) k := by rw [HY.out, hqe]; exact HU.out
          subst hqe
          clear HU HY hX
          by_cases hkn : k < n
          · have hmin : min k n = k := by omega
            rw [hmin] at hown
            have HUS := hide (ubits_succ (bn s) k)
            have HC2 : Hid (cleanTo (bn s) n (k + 1) = true) := by show _ = _; rw [HN.out, HCl.out]; simp [hkn]
            have hown1 := hown
            unfold OwnB at hown1
            rw [ubits_length] at hown1
            generalize ubit (bn s) k = u at *
            go_wp2_with (at_builtin; refine wpList_append_own _ rfl _ _ 79 rfl w.heap.size 4 i0 (.bool false) 1 1 Tryd.underlying79 hi hz0 hz1 hz2 rfl (by decide) _ _ _ rfl (hown1.alloc _) ⟨wo.heap.size, 0, none⟩ 1 1 [.bool u] rfl rfl (cell_one_new _ _ _) (by simp [Value.oneCell']) (by simp only [maxLen]; omega) (by omega) (by simpa using Nat.le_succ_of_le hb1.size) ?_; intro v' w1 hown' hgrow _)
            have HO2 : OwnB w1 w.heap.size v' (ubits (bn s) (min (k + 1) n)) := by
              rw [show min (k + 1) n = k + 1 by omega]
              unfold OwnB
              rw [ubits_length, HUS.out, List.map_append]
              simpa using hown'
            have HB2 : Below w.heap.size w w1 := (hb1.alloc hb1.size _).grown hgrow (by simpa using Nat.le_succ_of_le hb1.size) (fun k hk => (hown1.lt k hk).1)
            go_roundw
            case rel => exact ⟨k + 1, by omega, by go_num, HO2, HC2, HB2⟩
            case measure => simp [intOf] <;> omega
          · cases hu : ubit (bn s) k with
            | true =>
              have HE : Hid (unR (bn s) n = (12, [])) := unR_form _ _ hn (by rw [bn_len]; exact HS.out) (cleanTo_bad _ _ k _ (by rw [bn_len]; exact hlt) (by omega) hu)
              rw [hu] at hub
              go_wp2
              go_ret2
              exact ⟨.slice none 0 0, by rw [HE.out]; rfl, by rw [HE.out]; exact slB_nil wo, hb1⟩
            | false =>
              have HC2 : Hid (cleanTo (bn s) n (k + 1) = true) := by show _ = _; rw [HN.out, HCl.out, hu]; simp
              have HO2 : OwnB wo w.heap.size u6 (ubits (bn s) (min (k + 1) n)) := by
                rw [show min (k + 1) n = min k n by omega]; exact hown
              rw [hu] at hub
              go_wp2
              go_roundw
              case rel => exact ⟨k + 1, by omega, by go_num, HO2, HC2, hb1⟩
              case measure => simp [intOf] <;> omega
    · have hk8 : k = 8 * s.size := by omega
      have HE : Hid (unR (bn s) n = (0, ubits (bn s) n)) := unR_ok _ _ hn (by rw [bn_len]; exact HS.out) (by rw [bn_len, ← hk8]; exact HCl.out)
      have hmin : min k n = n := by omega
      rw [hmin] at hown
      have HSl := ownB_slB hown (by rw [ubits_length]; unfold maxLen; omega)
      clear hown hmin
      subst hk8
      go_wp2
      go_ret2
      exact ⟨_, by rw [HE.out]; rfl, by rw [HE.out]; exact HSl, hb1⟩
theorem refunpack_any (s : ByteArray) (hm : s.size ≤ 1048576) (n : Int) (w : World) : Calls Tryd.prog 47 #[.string s, .int .i64 n] w (UnPost s n w) := by
  by_cases h : n < 0 ∨ 1048576 < n
  · exact refunpack_arg s n h w
  · obtain ⟨m, rfl⟩ : ∃ m : Nat, n = m := ⟨n.toNat, by omega⟩
    rcases Nat.lt_trichotomy s.size ((m + 7) / 8) with h1 | h1 | h1
    · exact refunpack_short s m (by omega) h1 w
    · exact refunpack_fit s m (by omega) h1 w
    · exact refunpack_long s m (by omega) h1 hm w
end Go.Proofs.YtihbcojmonlcgaaDoor
