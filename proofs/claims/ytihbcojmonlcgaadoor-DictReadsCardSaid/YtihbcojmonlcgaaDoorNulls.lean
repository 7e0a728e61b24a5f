import Derived.Test.YtihbcojmonlcgaaDoorProg
import Derived.Test.YtihbcojmonlcgaaDoorBase
import Derived.Test.YtihbcojmonlcgaaDoorOpen
import Derived.Test.YtihbcojmonlcgaaDoorNullsPlain
import Derived.Laws.BitsAllLaws
import Derived.Test.YtihbcojmonlcgaaDoorBytes
namespace Go.Proofs.YtihbcojmonlcgaaDoor
open Go.RowKit

/-- A slice of bools. -/
def SlB (w : World) (v : Value) (l : List Bool) : Prop := InSl w v l.length (fun i => .bool (l.getD i false))
theorem InSl.below {w w' : World} {v : Value} {n : Nat} {V : Nat → Value} (h : InSl w v n V) (hb : Below w.heap.size w w') : InSl w' v n V := by
  obtain ⟨h1, h2⟩ := h
  refine ⟨h1, h2.imp id ?_⟩
  rintro ⟨h0, b, o, c, rfl, hc, hlt, hcell⟩
  exact ⟨h0, b, o, c, rfl, hc, Nat.lt_of_lt_of_le hlt hb.size, fun i hi => (hb.cell (p := ⟨b, o + i, none⟩) hlt).trans (hcell i hi)⟩
theorem bit_true {l : List Bool} {i : Nat} (h : l.getD i false = true) : bit l i = 1 := by unfold bit; rw [if_pos h]
theorem bit_false {l : List Bool} {i : Nat} (h : l.getD i false = false) : bit l i = 0 := by unfold bit; rw [if_neg (by rw [h]; decide)]
set_option maxHeartbeats 400000 in
theorem size_any (n : Nat) (hn : n ≤ 1099511627776) (w : World) :
    Calls Tryd.prog 104 #[.int .i64 n] w fun e w' => e = .returned (.int .i64 (((n + 7) / 8 : Nat) : Int)) ∧ w = w' := by
  go_enter Tryd.func104, Tryd.ntmps104
  go_wp2
  go_ret
  exact ⟨ret_int (by omega), rfl⟩
/-- The bytes after i bits. -/
def pst (l : List Bool) (i : Nat) : List Nat := (List.range ((l.length + 7) / 8)).map (pby l i)
theorem pst_length (l : List Bool) (i : Nat) : (pst l i).length = (l.length + 7) / 8 := by simp [pst]
theorem pst_0 (l : List Bool) : pst l 0 = List.replicate ((l.length + 7) / 8) 0 := by
  apply List.ext_getElem
  · simp [pst]
  · intro j h1 h2; simp [pst, pby_0]
theorem pst_full (l : List Bool) : pst l l.length = packL l := by
  unfold pst packL
  exact List.map_congr_left fun j _ => pby_full l j
theorem pst_getD (l : List Bool) (i j : Nat) (h : j < (l.length + 7) / 8) : (pst l i).getD j 0 = pby l i j := by simp [pst, List.getD, h]
theorem pst_set (l : List Bool) (i : Nat) : (pst l i).set (i / 8) (pby l i (i / 8) + bit l i * 2 ^ (i % 8)) = pst l (i + 1) := by
  apply List.ext_getElem
  · simp [pst]
  · intro j h1 h2
    rw [List.getElem_set]
    simp only [pst, List.getElem_map, List.getElem_range]
    by_cases e : i / 8 = j
    · subst e; rw [if_pos rfl, pby_at]
    · rw [if_neg e, pby_other l i j (fun h => e h.symm)]
theorem or_pow_u8 (x k : Nat) (hk : k < 8) (hx : x < 2 ^ k) : bits .or .u8 (x : Int) (2 ^ k % 256) = ((x + 2 ^ k : Nat) : Int) := by
  have h8 : 2 ^ k ≤ 2 ^ 7 := Nat.pow_le_pow_right (by omega) (by omega)
  have h7 : (2 : Nat) ^ 7 = 128 := rfl
  have e : ((2 : Int) ^ k % 256) = ((2 ^ k : Nat) : Int) := by
    rw [show ((2 : Int) ^ k) = ((2 ^ k : Nat) : Int) from by rw [Int.natCast_pow]; rfl]
    omega
  rw [e, u8_or_nat x (2 ^ k) (by omega) (by omega), or_bit x k hx]
set_option maxHeartbeats 1000000 in
theorem pack_any (l : List Bool) (hl : l.length ≤ 1048576) (v : Value) (w : World) (h : SlB w v l) :
    Calls Tryd.prog 84 #[v] w fun e w' => e = .returned (.string (strN (packL l))) ∧ Below w.heap.size w w' := by
  obtain ⟨hm, hs⟩ := h
  have hmk := run_make_row' (P := Tryd.prog) 23 5 (.int .u8 0) 1 Tryd.underlying23 info_u8 rfl .i64 .i64 ((l.length + 7) / 8) (by omega) (by omega)
  have hsz : ((l.length + 7) / 8 : Nat) ≤ 1048576 := by omega
  rcases hs with ⟨h0, a, c, rfl, _⟩ | ⟨hpos, b, o, c, rfl, hc, hb, hcell⟩
  · have hl : l = [] := List.eq_nil_of_length_eq_zero h0
    subst hl
    have HS0 : Hid (strN (packL []) = { data := #[] }) := by show _ = _; unfold strN; rfl
    have K1 : Hid (∀ w, Calls Tryd.prog 104 #[.int .i64 0] w fun e w' => e = .returned (.int .i64 0) ∧ w = w') := fun w => size_any 0 (by omega) w
    have hmk0 : ∀ w, (Instr.makeSlice 23 (.int .i64 0) (.int .i64 0)).run Tryd.prog w = .ok (.slice (some ⟨w.heap.size, 0, none⟩) 0 0) (w.alloc (.cells (madeCells #[.int .u8 0] 0) 5)) := fun w => hmk w
    have hcv := row8_string (row8_new w 0 5) 0
    have e0 : strN (List.replicate 0 0) = { data := #[] } := by unfold strN; rfl
    rw [e0] at hcv
    have hcv' : Sem.run Tryd.prog (convert 23 9 (.slice (some ⟨w.heap.size, 0, none⟩) 0 0)) (w.alloc (.cells (madeCells #[.int .u8 0] 0) 5)) = .ok (.string { data := #[] }) (w.alloc (.cells (madeCells #[.int .u8 0] 0) 5)) := hcv
    have HBB := (Below.refl w.heap.size w).alloc (Nat.le_refl _) (.cells (madeCells #[.int .u8 0] 0) 5)
    clear hmk hcv hl h0 hm e0 hsz
    generalize madeCells #[Value.int .u8 0] 0 = C0 at *
    go_enter Tryd.func84, Tryd.ntmps84
    go_wp2_with fail
    refine (K1.out _).mono ?_
    rintro e w' ⟨rfl, rfl⟩
    go_wp2_with fail
    refine wp_loop_rounds 1 ?_
    rw [rounds_succ]
    go_wp2
    go_ret
    exact ⟨by rw [HS0.out]; rfl, HBB⟩
  have HC := hide hcell
  clear hcell hm
  generalize hM : (l.length + 7) / 8 = M at hmk hsz
  have HM := hide hM
  have K1 : Hid (∀ w, Calls Tryd.prog 104 #[.int .i64 l.length] w fun e w' => e = .returned (.int .i64 ((M : Nat) : Int)) ∧ w = w') := fun w => by rw [← hM]; exact size_any _ (by omega) w
  clear hM
  go_enter Tryd.func84, Tryd.ntmps84
  go_wp2_with fail
  refine (K1.out _).mono ?_
  rintro e w' ⟨rfl, rfl⟩
  go_wp2_with fail
  go_loopw [12] (fun i wr => ∃ k : Nat, k ≤ l.length ∧ i = .int .i64 k ∧ Row8 wr w.heap.size (pst l k) ∧ Below w.heap.size w wr) (fun i _ => l.length - (intOf i).toNat)
  case atStart => exact ⟨0, by omega, rfl, by rw [pst_0, HM.out]; exact row8_new w M _, (Below.refl _ _).alloc (Nat.le_refl _) _⟩
  case round =>
    obtain ⟨k, hk, rfl, HR, hb1⟩ := hrel
    by_cases hlt : k < l.length
    · have hck := (hb1.cell (p := ⟨b, o + k, none⟩) hb).trans (HC.out k hlt)
      have HN := hide (pst_set l k)
      cases hbit : l.getD k false with
      | true =>
        have HB := hide (bit_true hbit)
        have hck' : wr.cell? ⟨b, o + k, none⟩ = some (.bool true) := hck.trans (by rw [hbit])
        clear hck hbit
        have hkM : k / 8 < M := by have := HM.out; omega
        have hl8 : k / 8 < (pst l k).length := by rw [pst_length, HM.out]; exact hkM
        have hc8 := HR.cell hl8
        have hf8 := HR.frozen hl8
        have hx := pby_at_lt l k
        have hx256 := pby_lt l k (k / 8)
        rw [pst_getD l k _ (by have := HM.out; omega)] at hc8
        generalize pby l k (k / 8) = x at hc8 hx hx256 HN
        have HX := hide (or_pow_u8 x (k % 8) (Nat.mod_lt _ (by decide)) hx)
        have HR2 : Row8 (wr.setCell ⟨w.heap.size, k / 8, none⟩ (.int .u8 (bits BinOp.or IntKind.u8 (x : Int) (2 ^ (k % 8) % 256)))) w.heap.size (pst l (k + 1)) := by
          rw [HX.out, ← HN.out, HB.out, Nat.one_mul]; exact HR.set _ _ hl8
        have HB2 := hb1.setCell (p := ⟨w.heap.size, k / 8, none⟩) (Nat.le_refl _) (.int .u8 (bits BinOp.or IntKind.u8 (x : Int) (2 ^ (k % 8) % 256)))
        go_wp2
        go_roundw
        case rel => exact ⟨k + 1, by omega, by go_num, HR2, HB2⟩
        case measure => simp [intOf] <;> omega
      | false =>
        have HB := hide (bit_false hbit)
        have hck' : wr.cell? ⟨b, o + k, none⟩ = some (.bool false) := hck.trans (by rw [hbit])
        clear hck hbit
        have HR2 : Row8 wr w.heap.size (pst l (k + 1)) := by
          have e : (pst l k).set (k / 8) (pby l k (k / 8)) = pst l k := by
            have hl8 : k / 8 < (pst l k).length := by rw [pst_length]; omega
            apply List.ext_getElem (by simp)
            intro j h1 h2
            rw [List.getElem_set]
            split
            · rename_i e; subst e; simp [pst]
            · rfl
          have := HN.out
          rw [HB.out, Nat.zero_mul, Nat.add_zero, e] at this
          rw [← this]; exact HR
        go_wp2
        go_roundw
        case rel => exact ⟨k + 1, by omega, by go_num, HR2, hb1⟩
        case measure => simp [intOf] <;> omega
    · have hk8 : k = l.length := by omega
      subst hk8
      have hcv := row8_string HR M
      have HL : (pst l l.length).length = M := by rw [pst_length, HM.out]
      rw [HL, pst_full] at hcv
      clear HL
      go_wp2
      go_ret
      exact ⟨rfl, hb1⟩
end Go.Proofs.YtihbcojmonlcgaaDoor
