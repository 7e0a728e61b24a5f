import Derived.Test.YtihbcojmonlcgaaDoorNulls2
namespace Go.Proofs.YtihbcojmonlcgaaDoor
open Go.RowKit

theorem and1_u8 (x : Nat) (hx : x < 256) : bits .and .u8 (x : Int) 1 = ((x % 2 : Nat) : Int) := by
  rw [← nat_mask1]
  exact u8_and_nat x 1 hx (by omega)
theorem ubit_byte (s : ByteArray) (k : Nat) (hk : k / 8 < s.size) : (bits .and .u8 (((s[k / 8]'hk).toNat : Int) / 2 ^ (k % 8)) 1 == 1) = ubit (bn s) k := by
  have h0 : (s[k / 8]'hk).toNat < 256 := (s[k / 8]'hk).toNat_lt
  have h1 : (((s[k / 8]'hk).toNat : Int) / 2 ^ (k % 8)) = (((s[k / 8]'hk).toNat / 2 ^ (k % 8) : Nat) : Int) := by rw [Int.natCast_ediv, Int.natCast_pow]; rfl
  rw [h1, and1_u8 _ (Nat.lt_of_le_of_lt (Nat.div_le_self _ _) h0)]
  have h2 : (bn s).getD (k / 8) 0 = (s[k / 8]'hk).toNat := by
    rw [bn_getD]
    rw [List.getD_eq_getElem?_getD, List.getElem?_eq_getElem (by simpa using hk)]
    rfl
  unfold ubit
  rw [h2]
  generalize (s[k / 8]'hk).toNat / 2 ^ (k % 8) % 2 = x
  by_cases hx : x = 1
  · subst hx; rfl
  · rw [beq_eq_false_iff_ne.2 hx, beq_eq_false_iff_ne]; omega
/-- How Unpack ends. -/
def UnPost (s : ByteArray) (n : Int) (w : World) (e : Ending) (w' : World) : Prop :=
  ∃ v, e = .returned (.tuple #[v, .int .i64 ((unR (bn s) n).1 : Nat)]) ∧ SlB w' v (unR (bn s) n).2 ∧ Below w.heap.size w w'
theorem slB_nil (w : World) : SlB w (.slice none 0 0) [] := ⟨by simp [maxLen], .inl ⟨rfl, none, 0, rfl, fun _ => rfl⟩⟩
theorem info_bool : (Tryd.prog.info? 4).map (fun i => (i.zero, i.size, i.bytes)) = some (some (.bool false), 1, 1) := by kernel_rfl
set_option maxHeartbeats 400000 in
theorem unpack_arg (s : ByteArray) (n : Int) (h : n < 0 ∨ 1048576 < n) (w : World) : Calls Tryd.prog 92 #[.string s, .int .i64 n] w (UnPost s n w) := by
  have HE := hide (unR_arg (bn s) n h)
  rcases h with h | h
  all_goals
    go_enter Tryd.func92, Tryd.ntmps92
    go_wp2
    go_step3
    go_wp2
    rw [Exit.noGoto_ret]
    go_ret2
    exact ⟨.slice none 0 0, by rw [HE.out]; rfl, by rw [HE.out]; exact slB_nil w, Below.refl _ _⟩
set_option maxHeartbeats 400000 in
theorem unpack_short (s : ByteArray) (n : Nat) (hn : n ≤ 1048576) (hs : s.size < (n + 7) / 8) (w : World) : Calls Tryd.prog 92 #[.string s, .int .i64 n] w (UnPost s n w) := by
  have HE := hide (unR_short (bn s) n hn (by rw [bn_len]; exact hs))
  have K1 := hide (fun w => size_any n (by omega) w)
  go_enter Tryd.func92, Tryd.ntmps92
  go_wp2
  go_step3
  go_wp2_with fail
  refine (K1.out _).mono ?_
  rintro e w' ⟨rfl, rfl⟩
  go_wp2
  rw [Exit.noGoto_ret]
  go_ret2
  exact ⟨.slice none 0 0, by rw [HE.out]; rfl, by rw [HE.out]; exact slB_nil w, Below.refl _ _⟩
set_option maxHeartbeats 400000 in
theorem unpack_long (s : ByteArray) (n : Nat) (hn : n ≤ 1048576) (hs : (n + 7) / 8 < s.size) (hm : s.size ≤ maxLen) (w : World) : Calls Tryd.prog 92 #[.string s, .int .i64 n] w (UnPost s n w) := by
  have HE := hide (unR_long (bn s) n hn (by rw [bn_len]; exact hs))
  have K1 := hide (fun w => size_any n (by omega) w)
  unfold maxLen at hm
  go_enter Tryd.func92, Tryd.ntmps92
  go_wp2
  go_step3
  go_wp2_with fail
  refine (K1.out _).mono ?_
  rintro e w' ⟨rfl, rfl⟩
  go_wp2_with fail
  refine (K1.out _).mono ?_
  rintro e w' ⟨rfl, rfl⟩
  go_wp2
  rw [Exit.noGoto_ret]
  go_ret2
  exact ⟨.slice none 0 0, by rw [HE.out]; rfl, by rw [HE.out]; exact slB_nil w, Below.refl _ _⟩
set_option maxHeartbeats 1000000 in
theorem unpack_fit (s : ByteArray) (n : Nat) (hn : n ≤ 1048576) (hs : s.size = (n + 7) / 8) (w : World) : Calls Tryd.prog 92 #[.string s, .int .i64 n] w (UnPost s n w) := by
  have K1 : Hid (∀ w, Calls Tryd.prog 104 #[.int .i64 n] w fun e w' => e = .returned (.int .i64 (s.size : Int)) ∧ w = w') := fun w => by rw [hs]; exact size_any n (by omega) w
  have hmk := run_make_row' (P := Tryd.prog) 79 4 (.bool false) 1 Tryd.underlying79 info_bool rfl .i64 .i64 n (by omega) (by omega)
  have HS := hide hs
  have hs1 : 8 * s.size ≤ n + 7 := by omega
  have hs2 : n ≤ 8 * s.size := by omega
  clear hs
  have hd1 : decide ((n : Int) < 0) = false := by rw [decide_eq_false_iff_not]; omega
  have hd2 : decide (1048576 < (n : Int)) = false := by rw [decide_eq_false_iff_not]; omega
  have hd3 : decide (1048576 < n) = false := by rw [decide_eq_false_iff_not]; omega
  have hlen : s.size ≤ 1048576 := by omega
  go_enter Tryd.func92, Tryd.ntmps92
  go_wp2
  go_step3
  go_wp2_with fail
  refine (K1.out _).mono ?_
  rintro e w' ⟨rfl, rfl⟩
  go_wp2_with fail
  refine (K1.out _).mono ?_
  rintro e w' ⟨rfl, rfl⟩
  go_wp2_with fail
  go_step3
  go_wp2_with fail
  go_loopw [33] (fun i wr => ∃ k : Nat, k ≤ 8 * s.size ∧ i = .int .i64 k ∧ wr.rowIs w.heap.size 4 n (fun j => .bool (decide (j < k) && ubit (bn s) j)) ∧ Hid (cleanTo (bn s) n k = true) ∧ Below w.heap.size w wr) (fun i _ => 8 * s.size - (intOf i).toNat)
  case atStart => exact ⟨0, by omega, rfl, (World.rowIs_made w (.bool false) n 4).congr (fun i _ => by simp), cleanTo_all _ _ _ (by omega), (Below.refl _ _).alloc (Nat.le_refl _) _⟩
  case round =>
    obtain ⟨k, hk, rfl, hrow, HCl, hb1⟩ := hrel
    by_cases hlt : k < 8 * s.size
    · have hk8 : k / 8 < s.size := by omega
      have hub := ubit_byte s k hk8
      have HN := hide (cleanTo_succ (bn s) n k)
      by_cases hkn : k < n
      · have hc := hrow.cell hkn
        have hf := hrow.frozen k
        have HR2 : (wr.setCell ⟨w.heap.size, k, none⟩ (.bool (ubit (bn s) k))).rowIs w.heap.size 4 n (fun j => .bool (decide (j < k + 1) && ubit (bn s) j)) := by
          refine (hrow.set k (.bool (ubit (bn s) k))).congr (fun j hj => ?_)
          by_cases e : j = k
          · subst e; simp
          · have : decide (j < k + 1) = decide (j < k) := by rw [decide_eq_decide]; omega
            rw [if_neg e, this]
        have HB2 := hb1.setCell (p := ⟨w.heap.size, k, none⟩) (Nat.le_refl _) (.bool (ubit (bn s) k))
        have HC2 : Hid (cleanTo (bn s) n (k + 1) = true) := by show _ = _; rw [HN.out, HCl.out]; simp [hkn]
        clear hrow
        generalize ubit (bn s) k = u at *
        go_wp2
        go_roundw
        case rel => exact ⟨k + 1, by omega, by go_num, HR2, HC2, HB2⟩
        case measure => simp [intOf] <;> omega
      · cases hu : ubit (bn s) k with
        | true =>
          have HE : Hid (unR (bn s) n = (12, [])) := unR_form _ _ hn (by rw [bn_len]; exact HS.out) (cleanTo_bad _ _ k _ (by rw [bn_len]; exact hlt) (by omega) hu)
          rw [hu] at hub
          go_wp2
          rw [Exit.noGoto_ret]
          go_ret2
          exact ⟨.slice none 0 0, by rw [HE.out]; rfl, by rw [HE.out]; exact slB_nil wr, hb1⟩
        | false =>
          have HC2 : Hid (cleanTo (bn s) n (k + 1) = true) := by show _ = _; rw [HN.out, HCl.out, hu]; simp
          have HR2 : wr.rowIs w.heap.size 4 n (fun j => .bool (decide (j < k + 1) && ubit (bn s) j)) :=
            hrow.congr (fun j hj => by
              have : decide (j < k + 1) = decide (j < k) := by rw [decide_eq_decide]; omega
              rw [this])
          rw [hu] at hub
          go_wp2
          go_roundw
          case rel => exact ⟨k + 1, by omega, by go_num, HR2, HC2, hb1⟩
          case measure => simp [intOf] <;> omega
    · have hk8 : k = 8 * s.size := by omega
      have HE : Hid (unR (bn s) n = (0, ubits (bn s) n)) := unR_ok _ _ hn (by rw [bn_len]; exact HS.out) (by rw [bn_len, ← hk8]; exact HCl.out)
      have HSl : SlB wr (.slice (some ⟨w.heap.size, 0, none⟩) n n) (ubits (bn s) n) := by
        unfold SlB
        rw [ubits_length]
        refine ⟨by unfold maxLen; omega, ?_⟩
        rcases Nat.eq_zero_or_pos n with h0 | h0
        · subst h0; exact .inl ⟨rfl, _, _, rfl, fun h => by cases h⟩
        · refine .inr ⟨h0, w.heap.size, 0, n, rfl, Nat.le_refl _, hrow.lt, fun i hi => ?_⟩
          have : decide (i < k) = true := by rw [decide_eq_true_eq]; omega
          rw [Nat.zero_add, hrow.cell hi, this]
          show some (Value.bool (true && ubit (bn s) i)) = some (Value.bool ((ubits (bn s) n).getD i false))
          rw [ubits_getD _ _ _ hi]; rfl
      clear hrow
      subst hk8
      go_wp2
      try rw [Exit.noGoto_ret]
      go_ret2
      exact ⟨_, by rw [HE.out]; rfl, by rw [HE.out]; exact HSl, hb1⟩
theorem unpack_any (s : ByteArray) (hm : s.size ≤ maxLen) (n : Int) (w : World) : Calls Tryd.prog 92 #[.string s, .int .i64 n] w (UnPost s n w) := by
  by_cases h : n < 0 ∨ 1048576 < n
  · exact unpack_arg s n h w
  · obtain ⟨m, rfl⟩ : ∃ m : Nat, n = m := ⟨n.toNat, by omega⟩
    rcases Nat.lt_trichotomy s.size ((m + 7) / 8) with h1 | h1 | h1
    · exact unpack_short s m (by omega) h1 w
    · exact unpack_fit s m (by omega) h1 w
    · exact unpack_long s m (by omega) h1 hm w
end Go.Proofs.YtihbcojmonlcgaaDoor
