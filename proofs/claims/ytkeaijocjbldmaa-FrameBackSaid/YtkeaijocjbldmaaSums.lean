import Derived.Test.YtkeaijocjbldmaaProg
import Derived.Test.YtkeaijocjbldmaaBase
import Derived.Test.YtkeaijocjbldmaaBytes
import Derived.Test.YtkeaijocjbldmaaCrc
import Derived.Laws.BitsAllLaws
import Derived.Deep.WholeRow
namespace Go.Proofs.Ytkeaijocjbldmaa
open Go.RowKit
theorem and1_u32 (x : Nat) (hx : x < 4294967296) : bits .and .u32 (x : Int) 1 = ((x % 2 : Nat) : Int) := by
  rw [← nat_mask1]
  exact u32_and_nat x 1 hx (by omega)
set_option maxHeartbeats 400000 in
theorem halved_any (x : Nat) (hx : x < 4294967296) (w : World) :
    Calls Try.prog 70 #[.int .u32 x] w fun e w' => e = .returned (.int .u32 (hv x)) ∧ w = w' := by
  have hb := and1_u32 x hx
  have h2 : hv x = if x % 2 = 1 then x / 2 ^^^ 0x82f63b78 else x / 2 := rfl
  have H2 := hide h2
  clear h2
  by_cases h : x % 2 = 1
  · have h1 : ((bits BinOp.and IntKind.u32 (x : Int) 1 : Int) == 1) = true := by rw [hb, h]; rfl
    clear hb
    go_enter Try.func70, Try.ntmps70
    go_wp2
    go_ret
    refine ⟨ret_int ?_, rfl⟩
    rw [H2.out, if_pos h]
    have := u32_xor_nat (x / 2) 0x82f63b78 (by omega) (by omega)
    simpa using this
  · have h1 : ((bits BinOp.and IntKind.u32 (x : Int) 1 : Int) == 1) = false := by rw [hb, show x % 2 = 0 by omega]; rfl
    clear hb
    go_enter Try.func70, Try.ntmps70
    go_wp2
    go_ret
    refine ⟨ret_int ?_, rfl⟩
    rw [H2.out, if_neg h]
    simp
set_option maxHeartbeats 400000 in
theorem row_any (b : Nat) (hb : b < 256) (w : World) :
    Calls Try.prog 69 #[.int .u8 b] w fun e w' => e = .returned (.int .u32 (hvN 8 b)) ∧ w = w' := by
  go_enter Try.func69, Try.ntmps69
  go_wp2
  go_loop [3, 6] (fun x i => ∃ k : Nat, k ≤ 8 ∧ i = .int .i64 k ∧ x = .int .u32 (hvN k b)) (fun _ i => 8 - (intOf i).toNat)
  case atStart => exact ⟨0, by omega, rfl, by rw [hvN_0]⟩
  case round =>
    obtain ⟨k, hk, rfl, rfl⟩ := hrel
    have hlt : hvN k b < 4294967296 := hvN_lt (by omega)
    by_cases hlt : k < 8
    · go_wp2_with (go_at_call 70; refine (halved_any _ ‹_› _).mono ?_; rintro e w' ⟨rfl, rfl⟩)
      go_round
      case rel => exact ⟨k + 1, by omega, by go_num, by rw [hvN_add, hvN_succ, hvN_0]⟩
      case measure => simp [intOf]; omega
    · have hk8 : k = 8 := by omega
      subst hk8
      go_wp2
      go_ret
      exact ⟨rfl, rfl⟩

/-- What the table holds. -/
def z32 : Array Value := arr 256 fun _ => .int .u32 0
def tab (k : Nat) : Array Value := arr 256 fun i => .int .u32 (if i < k then ((hvN 8 i : Nat) : Int) else 0)
theorem tab_0 : tab 0 = z32 := arr_congr fun i _ => by simp
theorem tab_size (k : Nat) : (tab k).size = 256 := arr_size _ _
theorem z32_size : z32.size = 256 := arr_size _ _
theorem tab_one (k : Nat) : (tab k).all (·.oneCell') = true := arr_one fun _ _ => rfl
theorem tab_get {k i : Nat} (h : i < 256) : (tab k)[i]? = some (.int .u32 (if i < k then ((hvN 8 i : Nat) : Int) else 0)) := arr_get h
theorem tab_set (k : Nat) : (tab k).setIfInBounds k (.int .u32 ((hvN 8 k : Nat) : Int)) = tab (k + 1) := by
  unfold tab
  rw [arr_set]
  refine arr_congr fun i _ => ?_
  by_cases e : i = k
  · subst e; simp
  · by_cases h : i < k
    · simp [e, h, Nat.lt_succ_of_lt h]
    · rw [if_neg e, if_neg h, if_neg (by omega)]
theorem zero62 (w : World) : (zeroValue 105).run Try.prog w = .ok (.agg z32) w := by kernel_rfl
theorem info62 : (Try.prog.info? 105).map (·.size) = some 256 := by kernel_rfl
set_option maxHeartbeats 400000 in
set_option maxRecDepth 100000 in
theorem table_any (w : World) :
    Calls Try.prog 68 #[] w fun e w' => e = .returned (.agg (tab 256)) ∧ Below w.heap.size w w' := by
  have hz := zero62
  go_enter Try.func68, Try.ntmps68
  go_wp2_with fail
  go_loopw [3] (fun i wr => ∃ k : Nat, k ≤ 256 ∧ i = .int .i64 k ∧ Blk wr (w.heap.size + 1) 105 (tab k) ∧ Blk wr w.heap.size 105 z32 ∧ Below w.heap.size w wr) (fun i _ => 256 - (intOf i).toNat)
  case atStart =>
    refine ⟨0, by omega, rfl, ?_, (Blk.new _ _ _).alloc _, ((Below.refl _ _).alloc (Nat.le_refl _) _).alloc (by simp) _⟩
    rw [tab_0]; have := Blk.new (w.alloc (Obj.cells z32 105)) z32 105; simpa using this
  case round =>
    obtain ⟨k, hk, rfl, H1, H2, hb⟩ := hrel
    by_cases hlt : k < 256
    · have hc := (H1.cell k).trans (tab_get hlt)
      have hf := H1.frozen k
      have HN := hide (tab_set k)
      go_wp2_with (go_at_call 69; refine (row_any _ hlt _).mono ?_; rintro e w' ⟨rfl, rfl⟩)
      go_roundw
      case rel => exact ⟨k + 1, by omega, by go_num, by rw [← HN.out]; exact H1.set _ _, H2.other (by simp) _, hb.setCell (by simp) _⟩
      case measure => simp [intOf]; omega
    · have hk8 : k = 256 := by omega
      subst hk8
      go_wp2_with (first | (with_reducible refine wpList_load_row rfl 105 (.tmp 1) rfl (w.heap.size + 1) rfl 105 _ _ _ H1.out Try.underlying105 rfl (by rw [tab_size]; exact info62) ?_) | (with_reducible refine wpList_store_row rfl 105 (.tmp 0) (.tmp 12) rfl w.heap.size (tab 256) rfl rfl 105 _ H2.out (by rw [tab_size]; exact info62) (by rw [tab_size]; exact z32_size) (tab_one 256) ?_))
      refine bodyPost_ret (results_cell_row rfl _ _ w.heap.size 105 (tab 256) (0, 0) _ rfl (H2.setRow (tab 256)).out Try.underlying105 rfl (by rw [tab_size]; exact info62)) rfl ?_
      exact ⟨rfl, below_setRow hb (Nat.le_refl _) _⟩
set_option maxHeartbeats 400000 in
set_option maxRecDepth 100000 in
theorem more_any (c : Nat) (hc : c < 4294967296) (s : ByteArray) (hs : s.size ≤ maxLen) (w : World) :
    Calls Try.prog 66 #[.int .u32 c, .string s] w fun e w' => e = .returned (.int .u32 (more c (bn s))) ∧ Below w.heap.size w w' := by
  have hz := zero62
  have hst := fun w1 => run_storeCells_new (P := Try.prog) w1 105 z32 (tab 256) (by rw [tab_size]; exact info62) (by rw [tab_size]; exact z32_size) (tab_one 256)
  unfold maxLen at hs
  have x0 : bits .xor .u32 (c : Int) 4294967295 = ((c ^^^ 4294967295 : Nat) : Int) := u32_xor_nat c 4294967295 hc (by omega)
  go_enter Try.func66, Try.ntmps66
  go_wp2_with (first | (go_at_call 68; refine (table_any _).mono ?_; rintro e w1 ⟨rfl, hb1⟩))
  go_loopw [6, 13] (fun x i wr => ∃ k : Nat, k ≤ s.size ∧ i = .int .i64 k ∧ x = .int .u32 (reg (c ^^^ 4294967295) ((bn s).take k)) ∧ Blk wr w1.heap.size 105 (tab 256) ∧ Below w.heap.size w wr) (fun _ i _ => s.size - (intOf i).toNat)
  case atStart => exact ⟨0, Nat.zero_le _, rfl, rfl, Blk.new _ _ _, hb1.alloc hb1.size _⟩
  case round =>
    obtain ⟨k, hk, rfl, rfl, H1, hb⟩ := hrel
    have hr0 : reg (c ^^^ 4294967295) ((bn s).take k) < 4294967296 := reg_lt (Nat.xor_lt_two_pow (n := 32) (by omega) (by omega)) (bn_take_lt s k)
    by_cases hlt : k < s.size
    · have hn := bn_take s k hlt
      have hy : s[k].toNat < 256 := s[k].toNat_lt
      have HR : Hid (reg (c ^^^ 4294967295) ((bn s).take (k + 1)) = reg (c ^^^ 4294967295) ((bn s).take k) / 256 ^^^ hvN 8 (reg (c ^^^ 4294967295) ((bn s).take k) % 256 ^^^ s[k].toNat)) := by
        show _ = _
        rw [tab_step _ _ hy, hn, reg_append]; rfl
      clear hn
      generalize reg (c ^^^ 4294967295) ((bn s).take k) = r at hr0 HR ⊢
      generalize hr' : reg (c ^^^ 4294967295) ((bn s).take (k + 1)) = r' at HR
      have HR' := hide hr'
      clear hr'
      have hq0 : r % 256 ^^^ s[k].toNat < 256 := Nat.xor_lt_two_pow (n := 8) (by omega) (by omega)
      have e1 : bits .xor .u8 ((r : Int) % 256) (s[k].toNat : Int) = ((r % 256 ^^^ s[k].toNat : Nat) : Int) := u8_xor_nat (r % 256) s[k].toNat (by omega) hy
      generalize r % 256 ^^^ s[k].toNat = q at hq0 e1 HR
      have hc1 := (H1.cell q).trans (tab_get hq0)
      rw [if_pos hq0] at hc1
      have e2 : bits .xor .u32 ((r : Int) / 256) ((hvN 8 q : Nat) : Int) = ((r / 256 ^^^ hvN 8 q : Nat) : Int) := u32_xor_nat (r / 256) (hvN 8 q) (by omega) (hvN_lt (by omega))
      go_wp2
      go_roundw
      case rel => exact ⟨k + 1, by omega, by go_num, by rw [HR'.out, HR.out], H1, hb⟩
      case measure => simp [intOf]; omega
    · have hk8 : k = s.size := by omega
      subst hk8
      have hl : (bn s).take s.size = bn s := List.take_of_length_le (by rw [bn_len]; omega)
      rw [hl] at hr0 ⊢
      have e2 : bits .xor .u32 ((reg (c ^^^ 4294967295) (bn s) : Nat) : Int) 4294967295 = ((reg (c ^^^ 4294967295) (bn s) ^^^ 4294967295 : Nat) : Int) := u32_xor_nat _ 4294967295 hr0 (by omega)
      clear hl
      go_wp2
      go_ret
      exact ⟨rfl, hb⟩

set_option maxHeartbeats 400000 in
theorem crc_any (s : ByteArray) (hs : s.size ≤ maxLen) (w : World) :
    Calls Try.prog 60 #[.string s] w fun e w' => e = .returned (.int .u32 (crc (bn s))) ∧ Below w.heap.size w w' := by
  go_enter Try.func60, Try.ntmps60
  go_wp2_with (go_at_call 66; refine (more_any 0 (by omega) s hs _).mono ?_; rintro e w1 ⟨rfl, hb1⟩)
  go_ret
  exact ⟨rfl, hb1⟩

/-- The reference's loop over a byte's bits, then over the bytes. -/
theorem hv_u32 (x : Nat) (hx : x < 4294967296) : bits .xor .u32 ((x : Int) / 2) 2197175160 = ((x / 2 ^^^ 0x82f63b78 : Nat) : Int) := by
  simpa using u32_xor_nat (x / 2) 0x82f63b78 (by omega) (by omega)
set_option maxHeartbeats 400000 in
theorem refcrc_any (s : ByteArray) (hs : s.size ≤ maxLen) (w : World) :
    Calls Try.prog 61 #[.string s] w fun e w' => e = .returned (.int .u32 (crc (bn s))) ∧ w = w' := by
  unfold maxLen at hs
  go_enter Try.func61, Try.ntmps61
  go_wp2
  go_loop [3, 4] (fun x i => ∃ k : Nat, k ≤ s.size ∧ i = .int .i64 k ∧ x = .int .u32 (reg 4294967295 ((bn s).take k))) (fun _ i => s.size - (intOf i).toNat)
  case atStart => exact ⟨0, Nat.zero_le _, rfl, rfl⟩
  case round =>
    obtain ⟨k, hk, rfl, rfl⟩ := hrel
    have hr0 : reg 4294967295 ((bn s).take k) < 4294967296 := reg_lt (by omega) (bn_take_lt s k)
    by_cases hlt : k < s.size
    · have hn := bn_take s k hlt
      have hy : s[k].toNat < 256 := s[k].toNat_lt
      have HR : Hid (reg 4294967295 ((bn s).take (k + 1)) = hvN 8 (reg 4294967295 ((bn s).take k) ^^^ s[k].toNat)) := by
        show _ = _
        rw [hn, reg_append]; rfl
      clear hn
      generalize hrr : reg 4294967295 ((bn s).take k) = r at hr0 HR ⊢
      have HRR := hide hrr
      clear hrr
      have e1 : bits .xor .u32 (r : Int) (s[k].toNat : Int) = ((r ^^^ s[k].toNat : Nat) : Int) := u32_xor_nat r s[k].toNat (by omega) (by omega)
      have hq0 : r ^^^ s[k].toNat < 4294967296 := Nat.xor_lt_two_pow (n := 32) (by omega) (by omega)
      generalize r ^^^ s[k].toNat = q at hq0 e1 HR
      go_wp2
      go_loop [3, 5] (fun x i => ∃ j : Nat, j ≤ 8 ∧ i = .int .i64 j ∧ x = .int .u32 (hvN j q)) (fun _ i => 8 - (intOf i).toNat)
      case atStart => exact ⟨0, by omega, rfl, by rw [hvN_0]⟩
      case round =>
        obtain ⟨j, hj, rfl, rfl⟩ := hrel
        have hs0 : hvN j q < 4294967296 := hvN_lt hq0
        have HS : Hid (hvN (j + 1) q = hv (hvN j q)) := by show _ = _; rw [hvN_add, hvN_succ, hvN_0]
        generalize hrr : hvN j q = y at hs0 HS ⊢
        have HR2 := hide hrr
        clear hrr
        by_cases hj8 : j < 8
        · by_cases h1 : y % 2 = 1
          · have e2 := hv_u32 y hs0
            have ec : (((y : Int) % 2 : Int) == 1) = true := by rw [beq_iff_eq]; omega
            have HV : Hid (hv y = y / 2 ^^^ 0x82f63b78) := by show _ = _; unfold hv; rw [if_pos h1]
            go_wp2
            go_round
            case rel => exact ⟨j + 1, by omega, by go_num, by rw [HS.out, HV.out]⟩
            case measure => simp [intOf]; omega
          · have ec : (((y : Int) % 2 : Int) == 1) = false := by rw [beq_eq_false_iff_ne]; omega
            have HV : Hid (hv y = y / 2) := by show _ = _; unfold hv; rw [if_neg h1]
            go_wp2
            go_round
            case rel => exact ⟨j + 1, by omega, by go_num, by rw [HS.out, HV.out]; simp⟩
            case measure => simp [intOf]; omega
        · have hj9 : j = 8 := by omega
          subst hj9
          go_wp2
          go_round
          case rel => exact ⟨k + 1, by omega, by go_num, by rw [HR.out, HR2.out]⟩
          case measure => simp [intOf]; omega
    · have hk8 : k = s.size := by omega
      subst hk8
      have hl : (bn s).take s.size = bn s := List.take_of_length_le (by rw [bn_len]; omega)
      rw [hl] at hr0 ⊢
      clear hl
      go_wp2
      go_ret
      refine ⟨ret_int ?_, rfl⟩
      have := sub_ones hr0
      unfold crc more
      rw [Nat.zero_xor]
      show _ = ((reg ones (bn s) ^^^ 4294967295 : Nat) : Int)
      unfold ones
      omega
end Go.Proofs.Ytkeaijocjbldmaa
