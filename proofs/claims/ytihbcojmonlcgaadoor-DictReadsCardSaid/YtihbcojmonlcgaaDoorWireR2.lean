/- Readers: numbers of so many bytes. -/
import Derived.Test.YtihbcojmonlcgaaDoorWireR
namespace Go.Proofs.YtihbcojmonlcgaaDoor
open Go.RowKit

theorem or_shift (y b m : Nat) (hy : y < 2 ^ m) (h64 : y < 18446744073709551616) (hb : b * 2 ^ m < 18446744073709551616) : bits .or .u64 (y : Int) (IntKind.u64.wrap ((b : Int) * 2 ^ m)) = ((y + b * 2 ^ m : Nat) : Int) := by
  have h1 : (b : Int) * 2 ^ m = ((b * 2 ^ m : Nat) : Int) := by simp
  have h2 := Nat.two_pow_add_eq_or_of_lt hy b
  rw [h1, IntKind.wrap_u64, show (((b * 2 ^ m : Nat) : Int) % 18446744073709551616) = ((b * 2 ^ m : Nat) : Int) by omega]
  rw [u64_or_nat _ _ h64 hb, Nat.or_comm, Nat.mul_comm b, ← h2, Nat.add_comm]
theorem or_shift8 (y b k : Nat) (hk : k < 8) (hy : y < 256 ^ k) (hb : b < 256) : bits .or .u64 (y : Int) (IntKind.u64.wrap ((b : Int) * 2 ^ (8 * k))) = ((y + b * 256 ^ k : Nat) : Int) ∧ y + b * 256 ^ k < 256 ^ (k + 1) := by
  have e : 256 ^ k = 2 ^ (8 * k) := by rw [Nat.pow_mul]
  have h1 : y + b * 256 ^ k < 256 ^ (k + 1) := by
    have := Nat.mul_le_mul_right (256 ^ k) (show b + 1 ≤ 256 by omega)
    rw [Nat.pow_succ, Nat.mul_comm (256 ^ k)]
    rw [Nat.add_mul] at this
    omega
  have h2 : 256 ^ (k + 1) ≤ 256 ^ 8 := Nat.pow_le_pow_right (by omega) (by omega)
  have h3 : 256 ^ 8 = 18446744073709551616 := by decide
  refine ⟨?_, h1⟩
  rw [e] at hy h1 ⊢
  exact or_shift y b (8 * k) hy (by omega) (by omega)
set_option maxHeartbeats 1000000 in
set_option maxRecDepth 100000 in
theorem rfixed_of (R : Nat) (s : ByteArray) (p' e' n : Nat) (t : ByteArray) (ht : t.size ≤ 8) (w : World)
    (K : Hid (Calls Tryd.prog 109 #[.pointer (some ⟨R, 0, none⟩), .int .i64 (n : Nat)] w (RPost R w s (.string t) p' e'))) :
    Calls Tryd.prog 107 #[.pointer (some ⟨R, 0, none⟩), .int .i64 (n : Nat)] w (RPost R w s (.int .u64 (le (bn t) : Nat)) p' e') := by
  have hcv := fun w => run_bytes_of_string (P := Tryd.prog) w 9 23 5 t Tryd.underlying9 Tryd.underlying23 Tryd.underlying5
  go_enter Tryd.func107, Tryd.ntmps107
  go_wp2_with fail
  refine K.out.mono ?_
  rintro e w1 ⟨rfl, hr1, hf1⟩
  have HR1 := hide hr1
  have HF1 := hide hf1
  clear hr1 hf1
  go_wp2_with fail
  generalize hC : grownCap w1 t.size 0 5 = C
  have HR : Row8 ((w1.alloc (Obj.cells (bytesRow t C) 5 ((bytesRow t C).size, (bytesRow t C).size + 1))).drew) w1.heap.size (bn t) :=
    row8_made w1 t C 5 (bytesRow t C).size ((bytesRow t C).size + 1) (by unfold bytesRow; simp)
  have HB : Below w1.heap.size w1 ((w1.alloc (Obj.cells (bytesRow t C) 5 ((bytesRow t C).size, (bytesRow t C).size + 1))).drew) := ((Below.refl _ _).alloc (Nat.le_refl _) _).drew
  have HB' := hide HB
  clear hC hcv HB
  generalize ((w1.alloc (Obj.cells (bytesRow t C) 5 ((bytesRow t C).size, (bytesRow t C).size + 1))).drew) = W2 at *
  go_loop [5, 13] (fun x i => ∃ k : Nat, k ≤ t.size ∧ i = .int .i64 k ∧ ∃ y : Nat, Hid (y = le ((bn t).take k)) ∧ y < 256 ^ k ∧ x = .int .u64 y) (fun _ i => t.size - (intOf i).toNat)
  case atStart => exact ⟨0, by omega, rfl, 0, rfl, by simp, rfl⟩
  case round =>
    obtain ⟨k, hk, rfl, y, HY, hy, rfl⟩ := hrel
    by_cases hlt : k < t.size
    · have hc := HR.cell (i := k) (by rw [bn_len]; exact hlt)
      have hb : (bn t).getD k 0 < 256 := by
        rw [List.getD_eq_getElem?_getD, List.getElem?_eq_getElem (by rw [bn_len]; exact hlt)]
        exact bn_lt t _ (List.getElem_mem _)
      have HN : Hid (le ((bn t).take (k + 1)) = le ((bn t).take k) + (bn t).getD k 0 * 256 ^ k) := by
        have hkl : k < (bn t).length := by rw [bn_len]; exact hlt
        show _ = _
        rw [List.take_succ_eq_append_getElem hkl, le_snoc, List.length_take, Nat.min_eq_left (by omega), List.getD_eq_getElem?_getD, List.getElem?_eq_getElem hkl]
        rfl
      generalize (bn t).getD k 0 = b at hc hb HN
      obtain ⟨hor, hlt'⟩ := or_shift8 y b k (by omega) hy hb
      have HL := hide hlt'
      clear hlt'
      go_wp2_with fail
      go_round
      case rel => exact ⟨k + 1, by omega, by go_num, y + b * 256 ^ k, by show _ = _; rw [HN.out, ← HY.out], HL.out, rfl⟩
      case measure => simp [intOf] <;> omega
    · have hk8 : k = t.size := by omega
      go_wp2_with fail
      go_ret
      subst hk8
      have hy' : y = le (bn t) := by rw [HY.out, List.take_of_length_le (by rw [bn_len]; omega)]
      exact ⟨by rw [hy']; rfl, Rd.below HR1.out HB'.out, HF1.out.trans (Fr.of_below HB'.out _) (fun _ _ h => h)⟩
theorem bn_extract (s : ByteArray) (a b : Nat) (_h : b ≤ s.size) : bn (s.extract a b) = ((bn s).drop a).take (b - a) := by
  simp only [bn, ByteArray.data_extract, Array.toList_extract, List.extract_eq_take_drop, List.map_take, List.map_drop]
theorem rfixed_err (R : Nat) (s : ByteArray) (p e n : Nat) (he : 0 < e) (w : World) (h : Rd w R s p e) :
    Calls Tryd.prog 107 #[.pointer (some ⟨R, 0, none⟩), .int .i64 (n : Nat)] w (RPost R w s (.int .u64 0) p e) := by
  refine (rfixed_of R s p e n { data := #[] } (by decide) w ((take_err R s p e n he w h).mono ?_)).mono (fun _ _ h => h)
  rintro r w' ⟨rfl, rfl⟩
  exact ⟨rfl, h, Fr.refl _ _⟩
theorem rfixed_short (R : Nat) (s : ByteArray) (p n : Nat) (hp : p ≤ s.size) (hs : s.size ≤ maxLen) (hn : s.size < p + n) (w : World) (h : Rd w R s p 0) :
    Calls Tryd.prog 107 #[.pointer (some ⟨R, 0, none⟩), .int .i64 (n : Nat)] w (RPost R w s (.int .u64 0) p 10) :=
  rfixed_of R s p 10 n { data := #[] } (by decide) w (take_short R s p n hp hs hn w h)
theorem rfixed_ok (R : Nat) (s : ByteArray) (p n : Nat) (h8 : n ≤ 8) (hs : s.size ≤ maxLen) (hn : p + n ≤ s.size) (w : World) (h : Rd w R s p 0) :
    Calls Tryd.prog 107 #[.pointer (some ⟨R, 0, none⟩), .int .i64 (n : Nat)] w (RPost R w s (.int .u64 (le (((bn s).drop p).take n) : Nat)) (p + n) 0) := by
  have := rfixed_of R s (p + n) 0 n (s.extract p (p + n)) (by rw [ByteArray.size_extract]; omega) w (take_ok R s p n hs hn w h)
  rw [bn_extract _ _ _ hn, Nat.add_sub_cancel_left] at this
  exact this
end Go.Proofs.YtihbcojmonlcgaaDoor
