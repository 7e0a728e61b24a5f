/- Bits as cells: plain.bools, and the document's loop. -/
import Derived.Test.YtfkgmodgkifelaaGreatDoorJ11
namespace Go.Proofs.YtfkgmodgkifelaaGreatDoor
open Go.RowKit
set_option maxRecDepth 100000

theorem and1_u8 (x : Nat) (hx : x < 256) : bits .and .u8 (x : Int) 1 = ((x % 2 : Nat) : Int) := by
  rw [← nat_mask1]
  exact u8_and_nat x 1 hx (by omega)
theorem ubit_byte (s : ByteArray) (k : Nat) (hk : k / 8 < s.size) : (bits .and .u8 (((s[k / 8]'hk).toNat : Int) / 2 ^ (k % 8)) 1 == 1) = ubit (bn s) k := by
  have h0 : (s[k / 8]'hk).toNat < 256 := (s[k / 8]'hk).toNat_lt
  have h1 : (((s[k / 8]'hk).toNat : Int) / 2 ^ (k % 8)) = (((s[k / 8]'hk).toNat / 2 ^ (k % 8) : Nat) : Int) := by rw [Int.natCast_ediv, Int.natCast_pow]; rfl
  rw [h1, and1_u8 _ (Nat.lt_of_le_of_lt (Nat.div_le_self _ _) h0)]
  have h2 : (bn s).getD (k / 8) 0 = (s[k / 8]'hk).toNat := by
    rw [bn_getD]
    rw [List.getD_eq_getElem?_getD, List.getElem?_eq_getElem (by simpa using hk)]
    rfl
  unfold ubit
  rw [h2]
  generalize (s[k / 8]'hk).toNat / 2 ^ (k % 8) % 2 = x
  by_cases hx : x = 1
  · subst hx; rfl
  · rw [beq_eq_false_iff_ne.2 hx, beq_eq_false_iff_ne]; omega
/-- How Unpack ends. -/
def UnPost (s : ByteArray) (n : Int) (w : World) (e : Ending) (w' : World) : Prop :=
  ∃ v, e = .returned (.tuple #[v, .int .i64 ((unR (bn s) n).1 : Nat)]) ∧ SlB w' v (unR (bn s) n).2 ∧ Below w.heap.size w w'
theorem slB_nil (w : World) : SlB w (.slice none 0 0) [] := ⟨by simp [maxLen], .inl ⟨rfl, none, 0, rfl, fun _ => rfl⟩⟩
theorem info_bool : (Tryz.prog.info? 4).map (fun i => (i.zero, i.size, i.bytes)) = some (some (.bool false), 1, 1) := by kernel_rfl
set_option maxHeartbeats 400000 in
theorem unpack_arg (s : ByteArray) (n : Int) (h : n < 0 ∨ 1048576 < n) (w : World) : Calls Tryz.prog 84 #[.string s, .int .i64 n] w (UnPost s n w) := by
  have HE := hide (unR_arg (bn s) n h)
  rcases h with h | h
  all_goals
    go_enter Tryz.func84, Tryz.ntmps84
    go_wp2
    go_step3
    go_wp2
    rw [Exit.noGoto_ret]
    go_ret2
    exact ⟨.slice none 0 0, by rw [HE.out]; rfl, by rw [HE.out]; exact slB_nil w, Below.refl _ _⟩
set_option maxHeartbeats 400000 in
theorem unpack_short (s : ByteArray) (n : Nat) (hn : n ≤ 1048576) (hs : s.size < (n + 7) / 8) (w : World) : Calls Tryz.prog 84 #[.string s, .int .i64 n] w (UnPost s n w) := by
  have HE := hide (unR_short (bn s) n hn (by rw [bn_len]; exact hs))
  have K1 := hide (fun w => size_any n (by omega) w)
  go_enter Tryz.func84, Tryz.ntmps84
  go_wp2
  go_step3
  go_wp2_with fail
  refine (K1.out _).mono ?_
  rintro e w' ⟨rfl, rfl⟩
  go_wp2
  rw [Exit.noGoto_ret]
  go_ret2
  exact ⟨.slice none 0 0, by rw [HE.out]; rfl, by rw [HE.out]; exact slB_nil w, Below.refl _ _⟩
set_option maxHeartbeats 400000 in
theorem unpack_long (s : ByteArray) (n : Nat) (hn : n ≤ 1048576) (hs : (n + 7) / 8 < s.size) (_hm : s.size ≤ maxLen) (w : World) : Calls Tryz.prog 84 #[.string s, .int .i64 n] w (UnPost s n w) := by
  have HE := hide (unR_long (bn s) n hn (by rw [bn_len]; exact hs))
  have K1 := hide (fun w => size_any n (by omega) w)
  unfold maxLen at _hm
  go_enter Tryz.func84, Tryz.ntmps84
  go_wp2
  go_step3
  go_wp2_with fail
  refine (K1.out _).mono ?_
  rintro e w' ⟨rfl, rfl⟩
  go_wp2_with fail
  refine (K1.out _).mono ?_
  rintro e w' ⟨rfl, rfl⟩
  go_wp2
  rw [Exit.noGoto_ret]
  go_ret2
  exact ⟨.slice none 0 0, by rw [HE.out]; rfl, by rw [HE.out]; exact slB_nil w, Below.refl _ _⟩
set_option maxHeartbeats 1000000 in
theorem unpack_fit (s : ByteArray) (n : Nat) (hn : n ≤ 1048576) (hs : s.size = (n + 7) / 8) (w : World) : Calls Tryz.prog 84 #[.string s, .int .i64 n] w (UnPost s n w) := by
  have K1 : Hid (∀ w, Calls Tryz.prog 80 #[.int .i64 n] w fun e w' => e = .returned (.int .i64 (s.size : Int)) ∧ w = w') := fun w => by rw [hs]; exact size_any n (by omega) w
  have hmk := run_make_row' (P := Tryz.prog) 50 4 (.bool false) 1 Tryz.underlying50 info_bool rfl .i64 .i64 n (by omega) (by omega)
  have HS := hide hs
  have hs1 : 8 * s.size ≤ n + 7 := by omega
  have hs2 : n ≤ 8 * s.size := by omega
  clear hs
  have hd1 : decide ((n : Int) < 0) = false := by rw [decide_eq_false_iff_not]; omega
  have hd2 : decide (1048576 < (n : Int)) = false := by rw [decide_eq_false_iff_not]; omega
  have hd3 : decide (1048576 < n) = false := by rw [decide_eq_false_iff_not]; omega
  have hlen : s.size ≤ 1048576 := by omega
  go_enter Tryz.func84, Tryz.ntmps84
  go_wp2
  go_step3
  go_wp2_with fail
  refine (K1.out _).mono ?_
  rintro e w' ⟨rfl, rfl⟩
  go_wp2_with fail
  refine (K1.out _).mono ?_
  rintro e w' ⟨rfl, rfl⟩
  go_wp2_with fail
  go_step3
  go_wp2_with fail
  go_loopw [33] (fun i wr => ∃ k : Nat, k ≤ 8 * s.size ∧ i = .int .i64 k ∧ wr.rowIs w.heap.size 4 n (fun j => .bool (decide (j < k) && ubit (bn s) j)) ∧ Hid (cleanTo (bn s) n k = true) ∧ Below w.heap.size w wr) (fun i _ => 8 * s.size - (intOf i).toNat)
  case atStart => exact ⟨0, by omega, rfl, (World.rowIs_made w (.bool false) n 4).congr (fun i _ => by simp), cleanTo_all _ _ _ (by omega), (Below.refl _ _).alloc (Nat.le_refl _) _⟩
  case round =>
    obtain ⟨k, hk, rfl, hrow, HCl, hb1⟩ := hrel
    by_cases hlt : k < 8 * s.size
    · have hk8 : k / 8 < s.size := by omega
      have hub := ubit_byte s k hk8
      have HN := hide (cleanTo_succ (bn s) n k)
      by_cases hkn : k < n
      · have hc := hrow.cell hkn
        have hf := hrow.frozen k
        have HR2 : (wr.setCell ⟨w.heap.size, k, none⟩ (.bool (ubit (bn s) k))).rowIs w.heap.size 4 n (fun j => .bool (decide (j < k + 1) && ubit (bn s) j)) := by
          refine (hrow.set k (.bool (ubit (bn s) k))).congr (fun j hj => ?_)
          by_cases e : j = k
          · subst e; simp
          · have : decide (j < k + 1) = decide (j < k) := by rw [decide_eq_decide]; omega
            rw [if_neg e, this]
        have HB2 := hb1.setCell (p := ⟨w.heap.size, k, none⟩) (Nat.le_refl _) (.bool (ubit (bn s) k))
        have HC2 : Hid (cleanTo (bn s) n (k + 1) = true) := by show _ = _; rw [HN.out, HCl.out]; simp [hkn]
        clear hrow
        generalize ubit (bn s) k = u at *
        go_wp2
        go_roundw
        case rel => exact ⟨k + 1, by omega, by go_num, HR2, HC2, HB2⟩
        case measure => simp [intOf] <;> omega
      · cases hu : ubit (bn s) k with
        | true =>
          have HE : Hid (unR (bn s) n = (12, [])) := unR_form _ _ hn (by rw [bn_len]; exact HS.out) (cleanTo_bad _ _ k _ (by rw [bn_len]; exact hlt) (by omega) hu)
          rw [hu] at hub
          go_wp2
          rw [Exit.noGoto_ret]
          go_ret2
          exact ⟨.slice none 0 0, by rw [HE.out]; rfl, by rw [HE.out]; exact slB_nil wr, hb1⟩
        | false =>
          have HC2 : Hid (cleanTo (bn s) n (k + 1) = true) := by show _ = _; rw [HN.out, HCl.out, hu]; simp
          have HR2 : wr.rowIs w.heap.size 4 n (fun j => .bool (decide (j < k + 1) && ubit (bn s) j)) :=
            hrow.congr (fun j hj => by
              have : decide (j < k + 1) = decide (j < k) := by rw [decide_eq_decide]; omega
              rw [this])
          rw [hu] at hub
          go_wp2
          go_roundw
          case rel => exact ⟨k + 1, by omega, by go_num, HR2, HC2, hb1⟩
          case measure => simp [intOf] <;> omega
    · have hk8 : k = 8 * s.size := by omega
      have HE : Hid (unR (bn s) n = (0, ubits (bn s) n)) := unR_ok _ _ hn (by rw [bn_len]; exact HS.out) (by rw [bn_len, ← hk8]; exact HCl.out)
      have HSl : SlB wr (.slice (some ⟨w.heap.size, 0, none⟩) n n) (ubits (bn s) n) := by
        unfold SlB
        rw [ubits_length]
        refine ⟨by unfold maxLen; omega, ?_⟩
        rcases Nat.eq_zero_or_pos n with h0 | h0
        · subst h0; exact .inl ⟨rfl, _, _, rfl, fun h => by cases h⟩
        · refine .inr ⟨h0, w.heap.size, 0, n, rfl, Nat.le_refl _, hrow.lt, fun i hi => ?_⟩
          have : decide (i < k) = true := by rw [decide_eq_true_eq]; omega
          rw [Nat.zero_add, hrow.cell hi, this]
          show some (Value.bool (true && ubit (bn s) i)) = some (Value.bool ((ubits (bn s) n).getD i false))
          rw [ubits_getD _ _ _ hi]; rfl
      clear hrow
      subst hk8
      go_wp2
      try rw [Exit.noGoto_ret]
      go_ret2
      exact ⟨_, by rw [HE.out]; rfl, by rw [HE.out]; exact HSl, hb1⟩
theorem unpack_any (s : ByteArray) (hm : s.size ≤ maxLen) (n : Int) (w : World) : Calls Tryz.prog 84 #[.string s, .int .i64 n] w (UnPost s n w) := by
  by_cases h : n < 0 ∨ 1048576 < n
  · exact unpack_arg s n h w
  · obtain ⟨m, rfl⟩ : ∃ m : Nat, n = m := ⟨n.toNat, by omega⟩
    rcases Nat.lt_trichotomy s.size ((m + 7) / 8) with h1 | h1 | h1
    · exact unpack_short s m (by omega) h1 w
    · exact unpack_fit s m (by omega) h1 w
    · exact unpack_long s m (by omega) h1 hm w
end Go.Proofs.YtfkgmodgkifelaaGreatDoor
namespace Go.Proofs.YtfkgmodgkifelaaGreatDoor
open Go.RowKit
set_option maxRecDepth 100000

/-- A slice of bools that the call itself made. -/
def OwnB (w : World) (B : Nat) (v : Value) (l : List Bool) : Prop := w.ownsRow B 4 1 v l.length (l.map Value.bool)
theorem ownB_nil (w : World) (B : Nat) : OwnB w B (.slice none 0 0) [] := World.ownsRow_nil _ _ _ _
theorem ownB_slB {w : World} {B : Nat} {v : Value} {l : List Bool} (h : OwnB w B v l) (hm : l.length ≤ maxLen) : SlB w v l := by
  unfold OwnB at h
  refine ⟨hm, ?_⟩
  rcases h.2 with ⟨rfl, h0⟩ | ⟨g, cap, cur, rfl, hb, hg, hr, _⟩
  · exact .inl ⟨h0, none, 0, rfl, fun _ => rfl⟩
  · rcases Nat.eq_zero_or_pos l.length with h0 | h0
    · exact .inl ⟨h0, _, _, by rw [h0], fun h => by cases h⟩
    · refine .inr ⟨h0, g, 0, cap, rfl, hr, (Array.getElem?_eq_some_iff.1 hg).1, fun i hi => ?_⟩
      rw [Nat.zero_add, h.cellAt i (by omega)]
      simp [List.getD, hi]
theorem ubit_num (s : ByteArray) (k : Nat) (hk : k / 8 < s.size) : ((((s[k / 8]'hk).toNat / 2 ^ (k % 8) : Nat) : Int) % 2 == 1) = ubit (bn s) k := by
  have h2 : (bn s).getD (k / 8) 0 = (s[k / 8]'hk).toNat := by
    rw [bn_getD]
    rw [List.getD_eq_getElem?_getD, List.getElem?_eq_getElem (by simpa using hk)]
    rfl
  unfold ubit
  rw [h2]
  generalize (s[k / 8]'hk).toNat / 2 ^ (k % 8) = x
  by_cases hx : x % 2 = 1
  · rw [hx, beq_iff_eq.2 (show ((x : Int) % 2) = 1 by omega)]; rfl
  · rw [beq_eq_false_iff_ne.2 hx, beq_eq_false_iff_ne]; omega
set_option maxHeartbeats 400000 in
theorem refunpack_arg (s : ByteArray) (n : Int) (h : n < 0 ∨ 1048576 < n) (w : World) : Calls Tryz.prog 18 #[.string s, .int .i64 n] w (UnPost s n w) := by
  have HE := hide (unR_arg (bn s) n h)
  rcases h with h | h
  all_goals
    go_enter Tryz.func18, Tryz.ntmps18
    go_wp2
    go_ret2
    exact ⟨.slice none 0 0, by rw [HE.out]; rfl, by rw [HE.out]; exact slB_nil w, Below.refl _ _⟩
set_option maxHeartbeats 400000 in
theorem refunpack_short (s : ByteArray) (n : Nat) (hn : n ≤ 1048576) (hs : s.size < (n + 7) / 8) (w : World) : Calls Tryz.prog 18 #[.string s, .int .i64 n] w (UnPost s n w) := by
  have HE := hide (unR_short (bn s) n hn (by rw [bn_len]; exact hs))
  go_enter Tryz.func18, Tryz.ntmps18
  go_wp2
  go_ret2
  exact ⟨.slice none 0 0, by rw [HE.out]; rfl, by rw [HE.out]; exact slB_nil w, Below.refl _ _⟩
set_option maxHeartbeats 400000 in
set_option maxRecDepth 100000 in
theorem refunpack_long (s : ByteArray) (n : Nat) (hn : n ≤ 1048576) (hs : (n + 7) / 8 < s.size) (hm : s.size ≤ 1048576) (w : World) : Calls Tryz.prog 18 #[.string s, .int .i64 n] w (UnPost s n w) := by
  have HE := hide (unR_long (bn s) n hn (by rw [bn_len]; exact hs))
  go_enter Tryz.func18, Tryz.ntmps18
  go_wp2
  go_ret2
  exact ⟨.slice none 0 0, by rw [HE.out]; rfl, by rw [HE.out]; exact slB_nil w, Below.refl _ _⟩
set_option maxHeartbeats 1000000 in
set_option maxRecDepth 100000 in
theorem refunpack_fit (s : ByteArray) (n : Nat) (hn : n ≤ 1048576) (hs : s.size = (n + 7) / 8) (w : World) : Calls Tryz.prog 18 #[.string s, .int .i64 n] w (UnPost s n w) := by
  have HS := hide hs
  have hs1 : 8 * s.size ≤ n + 7 := by omega
  have hs2 : n ≤ 8 * s.size := by omega
  clear hs
  have hd1 : decide ((n : Int) < 0) = false := by rw [decide_eq_false_iff_not]; omega
  have hd2 : decide (1048576 < (n : Int)) = false := by rw [decide_eq_false_iff_not]; omega
  have hd3 : decide (1048576 < n) = false := by rw [decide_eq_false_iff_not]; omega
  have hlen : s.size ≤ 1048576 := by omega
  have hd4 : decide ((s.size : Int) * 8 < (n : Int)) = false := by rw [decide_eq_false_iff_not]; omega
  have hd5 : decide (((n : Int) + 7) / 8 < (s.size : Int)) = false := by rw [decide_eq_false_iff_not]; omega
  obtain ⟨i0, hi, hz0, hz1, hz2⟩ := info_parts info_bool
  go_enter Tryz.func18, Tryz.ntmps18
  go_wp2_with fail
  go_loopw [6, 7] (fun ov i wr => ∃ k : Nat, k ≤ 8 * s.size ∧ i = .int .i64 k ∧ OwnB wr w.heap.size ov (ubits (bn s) (min k n)) ∧ Hid (cleanTo (bn s) n k = true) ∧ Below w.heap.size w wr) (fun _ i _ => 8 * s.size - (intOf i).toNat)
  case atStart => exact ⟨0, by omega, rfl, by rw [Nat.zero_min]; exact ownB_nil _ _, cleanTo_all _ _ _ (by omega), Below.refl _ _⟩
  case round =>
    obtain ⟨k, hk, rfl, hown, HCl, hb1⟩ := hrel
    by_cases hlt : k < 8 * s.size
    · have hk8 : k / 8 < s.size := by omega
      have HU := hide (ubit_num s k hk8)
      have hx256 : (s[k / 8]'hk8).toNat < 256 := (s[k / 8]'hk8).toNat_lt
      have HN := hide (cleanTo_succ (bn s) n k)
      have hdk : decide ((k : Int) < 8 * (s.size : Int)) = true := by rw [decide_eq_true_eq]; omega
      generalize hX : (s[k / 8]'hk8).toNat = X at *
      have HX := hide hX
      obtain ⟨wo, rfl⟩ : ∃ wo : World, wo = wr := ⟨_, rfl⟩
      go_wp2_with fail
      go_loop [8, 9] (fun y c => ∃ q Y : Nat, q ≤ k % 8 ∧ c = .int .i64 q ∧ y = .int .i64 (Y : Int) ∧ Y < 256 ∧ Hid (Y = X / 2 ^ q)) (fun _ c => k % 8 - (intOf c).toNat)
      case atStart => exact ⟨0, X, by omega, rfl, rfl, hx256, by show _ = _; rw [Nat.pow_zero, Nat.div_one]⟩
      case round =>
        obtain ⟨q, Y, hq, rfl, rfl, hY, HY⟩ := hrel
        by_cases hqk : q < k % 8
        · have HY2 : Hid (Y / 2 = X / 2 ^ (q + 1)) := by show _ = _; rw [HY.out, Nat.div_div_eq_div_mul, Nat.pow_succ]
          go_wp2
          go_round
          case rel => exact ⟨q + 1, Y / 2, by omega, by go_num, by go_num, by omega, HY2⟩
          case measure => simp [intOf] <;> omega
        · have hqe : q = k % 8 := by omega
          have hub : (((Y : Nat) : Int) % 2 == 1) = ubit (bn s) k := by rw [HY.out, hqe]; exact HU.out
          subst hqe
          clear HU HY hX
          by_cases hkn : k < n
          · have hmin : min k n = k := by omega
            rw [hmin] at hown
            have HUS := hide (ubits_succ (bn s) k)
            have HC2 : Hid (cleanTo (bn s) n (k + 1) = true) := by show _ = _; rw [HN.out, HCl.out]; simp [hkn]
            have hown1 := hown
            unfold OwnB at hown1
            rw [ubits_length] at hown1
            generalize ubit (bn s) k = u at *
            go_wp2_with (at_builtin; refine wpList_append_own _ rfl _ _ 50 rfl w.heap.size 4 i0 (.bool false) 1 1 Tryz.underlying50 hi hz0 hz1 hz2 rfl (by decide) _ _ _ rfl (hown1.alloc _) ⟨wo.heap.size, 0, none⟩ 1 1 [.bool u] rfl rfl (cell_one_new _ _ _) (by simp [Value.oneCell']) (by simp only [maxLen]; omega) (by omega) (by simpa using Nat.le_succ_of_le hb1.size) ?_; intro v' w1 hown' hgrow _)
            have HO2 : OwnB w1 w.heap.size v' (ubits (bn s) (min (k + 1) n)) := by
              rw [show min (k + 1) n = k + 1 by omega]
              unfold OwnB
              rw [ubits_length, HUS.out, List.map_append]
              simpa using hown'
            have HB2 : Below w.heap.size w w1 := (hb1.alloc hb1.size _).grown hgrow (by simpa using Nat.le_succ_of_le hb1.size) (fun k hk => (hown1.lt k hk).1)
            go_roundw
            case rel => exact ⟨k + 1, by omega, by go_num, HO2, HC2, HB2⟩
            case measure => simp [intOf] <;> omega
          · cases hu : ubit (bn s) k with
            | true =>
              have HE : Hid (unR (bn s) n = (12, [])) := unR_form _ _ hn (by rw [bn_len]; exact HS.out) (cleanTo_bad _ _ k _ (by rw [bn_len]; exact hlt) (by omega) hu)
              rw [hu] at hub
              go_wp2
              go_ret2
              exact ⟨.slice none 0 0, by rw [HE.out]; rfl, by rw [HE.out]; exact slB_nil wo, hb1⟩
            | false =>
              have HC2 : Hid (cleanTo (bn s) n (k + 1) = true) := by show _ = _; rw [HN.out, HCl.out, hu]; simp
              have HO2 : OwnB wo w.heap.size u6 (ubits (bn s) (min (k + 1) n)) := by
                rw [show min (k + 1) n = min k n by omega]; exact hown
              rw [hu] at hub
              go_wp2
              go_roundw
              case rel => exact ⟨k + 1, by omega, by go_num, HO2, HC2, hb1⟩
              case measure => simp [intOf] <;> omega
    · have hk8 : k = 8 * s.size := by omega
      have HE : Hid (unR (bn s) n = (0, ubits (bn s) n)) := unR_ok _ _ hn (by rw [bn_len]; exact HS.out) (by rw [bn_len, ← hk8]; exact HCl.out)
      have hmin : min k n = n := by omega
      rw [hmin] at hown
      have HSl := ownB_slB hown (by rw [ubits_length]; unfold maxLen; omega)
      clear hown hmin
      subst hk8
      go_wp2
      go_ret2
      exact ⟨_, by rw [HE.out]; rfl, by rw [HE.out]; exact HSl, hb1⟩
theorem refunpack_any (s : ByteArray) (hm : s.size ≤ 1048576) (n : Int) (w : World) : Calls Tryz.prog 18 #[.string s, .int .i64 n] w (UnPost s n w) := by
  by_cases h : n < 0 ∨ 1048576 < n
  · exact refunpack_arg s n h w
  · obtain ⟨m, rfl⟩ : ∃ m : Nat, n = m := ⟨n.toNat, by omega⟩
    rcases Nat.lt_trichotomy s.size ((m + 7) / 8) with h1 | h1 | h1
    · exact refunpack_short s m (by omega) h1 w
    · exact refunpack_fit s m (by omega) h1 w
    · exact refunpack_long s m (by omega) h1 hm w
end Go.Proofs.YtfkgmodgkifelaaGreatDoor
namespace Go.Proofs.YtfkgmodgkifelaaGreatDoor
open Go.RowKit

/-- A bit's cell. -/
def bc (b : Bool) : CD := ⟨b, 0, 0, ByteArray.empty, 0, 0⟩
/-- The cells of bits, as far as they are laid. -/
def bcell (u : Nat → Bool) (k j : Nat) : Value := if j % 6 = 1 then .bool (decide (j / 6 < k) && u (j / 6)) else clZ.cells[j % 6]!
theorem bcell_set (u : Nat → Bool) (k j : Nat) : (if j = k * 6 + 1 then .bool (u k) else bcell u k j) = bcell u (k + 1) j := by
  unfold bcell
  by_cases h : j = k * 6 + 1
  · subst h
    have e1 : (k * 6 + 1) % 6 = 1 := by omega
    have e2 : (k * 6 + 1) / 6 = k := by omega
    rw [if_pos rfl, e1, e2, if_pos rfl]
    simp
  · rw [if_neg h]
    by_cases h1 : j % 6 = 1
    · rw [if_pos h1, if_pos h1]
      have : decide (j / 6 < k + 1) = decide (j / 6 < k) := by rw [decide_eq_decide]; omega
      rw [this]
    · rw [if_neg h1, if_neg h1]
theorem bcell_at (u : Nat → Bool) (n i : Nat) (hi : i < n) : bcell u n (i * 6) = .bool false ∧ bcell u n (i * 6 + 1) = .bool (u i) ∧ bcell u n (i * 6 + 2) = .int .i64 0 ∧ bcell u n (i * 6 + 3) = .int .u64 0 ∧ bcell u n (i * 6 + 4) = .string ByteArray.empty ∧ bcell u n (i * 6 + 5) = .complex .f64 0 0 := by
  have e : ∀ j, j < 6 → (i * 6 + j) % 6 = j ∧ (i * 6 + j) / 6 = i := fun j hj => by omega
  unfold bcell
  refine ⟨?_, ?_, ?_, ?_, ?_, ?_⟩
  · have := e 0 (by omega); rw [Nat.add_zero] at this; rw [this.1]; rfl
  · rw [(e 1 (by omega)).1, (e 1 (by omega)).2, if_pos rfl]; simp [hi]
  · rw [(e 2 (by omega)).1]; rfl
  · rw [(e 3 (by omega)).1]; rfl
  · rw [(e 4 (by omega)).1]; rfl
  · rw [(e 5 (by omega)).1]; rfl
theorem rowIs_made6 (u : Nat → Bool) (Z : Array Value) (hZ : Z = clZ.cells) (w : World) (n : Nat) (t : TypeId) : (w.alloc (.cells (madeCells Z (n * 6)) t)).rowIs w.heap.size t (n * 6) (bcell u 0) := by
  subst hZ
  have := World.rowIs_alloc w (madeCells clZ.cells (n * 6)) t (bcell u 0) (fun i hi => by
    rw [size_madeCells] at hi
    have h6 : clZ.cells.size = 6 := rfl
    have hm : (madeCells clZ.cells (n * 6))[i]? = some (clZ.cells[i % 6]!) := by simp [madeCells, hi, h6]
    rw [hm]
    unfold bcell
    by_cases h : i % 6 = 1
    · rw [if_pos h, h]; simp; rfl
    · rw [if_neg h])
  rwa [size_madeCells] at this
theorem inC_bits {w : World} {L n : Nat} {t : TypeId} {u : Nat → Bool} (h : w.rowIs L t (n * 6) (bcell u n)) (l : List Bool) (hl : l.length = n) (hu : ∀ i, i < n → u i = l.getD i false) (c : Nat) (hcap : n ≤ c) : InC w (.slice (some ⟨L, 0, none⟩) n c) (l.map bc) := by
  rcases Nat.eq_zero_or_pos n with h0 | h0
  · subst h0
    exact .inl ⟨by rw [List.eq_nil_of_length_eq_zero hl]; rfl, _, c, rfl⟩
  · refine .inr ⟨by simpa [hl] using h0, L, c, by rw [List.length_map, hl], ⟨h.lt, by rw [List.length_map, hl]; exact hcap⟩, fun i x hx => ?_⟩
    have hi : i < n := by
      have := (List.getElem?_eq_some_iff.1 hx).1
      rw [List.length_map, hl] at this; exact this
    have hx2 : x = bc (l.getD i false) := by
      rw [List.getElem?_map, List.getElem?_eq_getElem (by omega)] at hx
      have := Option.some.inj hx
      rw [← this]; simp [List.getD, hl, hi]
    subst hx2
    obtain ⟨e0, e1, e2, e3, e4, e5⟩ := bcell_at u n i hi
    exact ⟨by rw [h.cell (by omega), e0], by rw [h.cell (by omega), e1, hu i hi]; rfl, by rw [h.cell (by omega), e2]; rfl, by rw [h.cell (by omega), e3]; rfl, by rw [h.cell (by omega), e4]; rfl, by rw [h.cell (by omega), e5]; rfl⟩
theorem unR_len (s : List Nat) (n : Nat) (h : (unR s n).1 = 0) : (unR s n).2.length = n := by
  by_cases h1 : (n : Int) < 0 ∨ 1048576 < (n : Int)
  · rw [unR_arg s n h1] at h; cases h
  · by_cases h2 : s.length < (n + 7) / 8
    · rw [unR_short s n (by omega) h2] at h; cases h
    · by_cases h3 : (n + 7) / 8 < s.length
      · rw [unR_long s n (by omega) h3] at h; cases h
      · cases hc : cleanTo s n (8 * s.length)
        · rw [unR_form s n (by omega) (by omega) hc] at h; cases h
        · rw [unR_ok s n (by omega) (by omega) hc]; exact ubits_length _ _
theorem unR_err (s : List Nat) (n : Int) (h : (unR s n).1 ≠ 0) : (unR s n).2 = [] := by
  unfold unR at h ⊢
  repeat' split
  all_goals simp_all
set_option maxHeartbeats 2000000 in
set_option maxRecDepth 100000 in
theorem pbools_any (s : ByteArray) (hm : s.size ≤ maxLen) (n : Nat) (hn : n ≤ 10000) (w : World) :
    Calls Tryz.prog 130 #[.string s, .int .i64 n] w (DPost w ((unR (bn s) n).1, ((unR (bn s) n).2).map bc)) := by
  have K := hide (unpack_any s hm n w)
  obtain ⟨Z, HZ⟩ : ∃ Z, Hid (Z = clZ.cells) := ⟨_, rfl⟩
  have hmk : ∀ w : World, (Instr.makeSlice 25 (.int .i64 (n : Int)) (.int .i64 (n : Int))).run Tryz.prog w = .ok (.slice (some ⟨w.heap.size, 0, none⟩) n n) (w.alloc (.cells (madeCells Z (n * 6)) 45)) := fun w => by
    rw [HZ.out]
    obtain ⟨i0, hi, hz0, hz1, hz2⟩ := info_parts info_cC
    have := run_make (P := Tryz.prog) w 25 45 i0 clZ Tryz.underlying25 hi hz0 .i64 .i64 n n (by omega) (by omega) (by rw [hz2]; omega) (by omega)
    rw [hz1] at this
    simpa using this
  unfold UnPost at K
  have hlen := unR_len (bn s) n
  have herr := unR_err (bn s) n
  rcases hu : unR (bn s) n with ⟨er, l⟩
  rw [hu] at K hlen herr
  simp only at K hlen herr ⊢
  clear hu hm
  by_cases h0 : er = 0
  · have hl := hlen h0
    subst h0
    clear hlen herr
    obtain ⟨u, hU⟩ : ∃ u : Nat → Bool, Hid (∀ i, i < n → u i = l.getD i false) := ⟨fun i => l.getD i false, fun _ _ => rfl⟩
    have HL := hide hl
    go_enter Tryz.func130, Tryz.ntmps130
    go_wp2_with fail
    refine K.out.mono ?_
    rintro e w1 ⟨v, rfl, hsl, hb1⟩
    have HB1 := hide hb1
    obtain ⟨hml, hs⟩ := hsl
    rw [HL.out] at hs
    clear hb1 hml hl
    rcases hs with ⟨hn0, a, c, rfl, _⟩ | ⟨hpos, g, o, c, rfl, hc, hg, hcell⟩
    · have HN0 := hide hn0
      clear hn0
      go_wp2_with fail
      go_loopw [24] (fun iv wr => iv = .int .i64 (0 : Int) ∧ wr = w1.alloc (.cells (madeCells Z (n * 6)) 45)) (fun iv _ => 0)
      case atStart => exact ⟨rfl, rfl⟩
      case round =>
        obtain ⟨rfl, rfl⟩ := hrel
        go_wp2_with fail
        go_ret2
        exact ⟨_, rfl, .inl ⟨by rw [List.eq_nil_of_length_eq_zero (HL.out.trans HN0.out)]; rfl, some ⟨w1.heap.size, 0, none⟩, n, congrArg (fun k => Value.slice (some ⟨w1.heap.size, 0, none⟩) k n) HN0.out⟩, HB1.out.alloc HB1.out.size _⟩
    · have HC := hide hcell
      have HG := hide hg
      clear hcell
      go_wp2_with fail
      go_loopw [24] (fun iv wr => ∃ i : Nat, i ≤ n ∧ iv = .int .i64 (i : Int) ∧ wr.rowIs w1.heap.size 45 (n * 6) (bcell u i) ∧ Below w1.heap.size w1 wr) (fun iv _ => n - (intOf iv).toNat)
      case atStart => exact ⟨0, by omega, rfl, rowIs_made6 u Z HZ.out w1 n _, (Below.refl _ _).alloc (Nat.le_refl _) _⟩
      case round =>
        obtain ⟨i, hin, rfl, hrow, hbe⟩ := hrel
        by_cases hlt : i < n
        · have hc1 := (hbe.cell (p := ⟨g, o + i, none⟩) HG.out).trans (HC.out i hlt)
          rw [← hU.out i hlt] at hc1
          obtain ⟨v1, hv1⟩ : ∃ v1, wr.cell? ⟨w1.heap.size, i * 6 + 1, none⟩ = some v1 := ⟨_, hrow.cell (by omega)⟩
          have hf := hrow.frozen (i * 6 + 1)
          have HR2 : Hid ((wr.setCell ⟨w1.heap.size, i * 6 + 1, none⟩ (.bool (u i))).rowIs w1.heap.size 45 (n * 6) (bcell u (i + 1))) := (hrow.set (i * 6 + 1) (.bool (u i))).congr (fun j _ => bcell_set u i j)
          have HB2 := hide (hbe.setCell (p := ⟨w1.heap.size, i * 6 + 1, none⟩) (Nat.le_refl _) (.bool (u i)))
          have hi0 : (0 : Int) ≤ (i : Int) := by omega
          have hi1 : (i : Int) < (n : Int) := by omega
          clear hrow hbe
          generalize u i = ui at *
          go_wp2_with fail
          go_roundw
          case rel => exact ⟨i + 1, by omega, by go_num, HR2.out, HB2.out⟩
          case measure => simp [intOf] <;> omega
        · obtain rfl : i = n := by omega
          have HR := hide hrow
          have HBE := hide hbe
          clear hrow hbe
          go_wp2_with fail
          go_ret2
          exact ⟨_, rfl, inC_bits HR.out l HL.out hU.out _ (Nat.le_refl _), HB1.out.trans (HBE.out.mono HB1.out.size)⟩
  · have he := herr h0
    subst he
    have hne : ((er : Int) != 0) = true := by rw [bne_iff_ne]; omega
    clear hlen herr h0
    go_enter Tryz.func130, Tryz.ntmps130
    go_wp2_with fail
    refine K.out.mono ?_
    rintro e w1 ⟨v, rfl, hsl, hb1⟩
    have HB1 := hide hb1
    clear hsl hb1
    go_wp2_with fail
    go_ret2
    exact ⟨_, rfl, inC_nil _, HB1.out⟩
end Go.Proofs.YtfkgmodgkifelaaGreatDoor
