/- Readers: the rest. -/
import Derived.Test.YtihbcojmonlcgaaDoorWireR5
import Derived.Laws.DeepNot64
namespace Go.Proofs.YtihbcojmonlcgaaDoor
open Go.RowKit
theorem xor_m1 (a : Nat) (h : a < 9223372036854775808) : bits .xor .i64 (a : Int) (-1) = -1 - (a : Int) := by
  have h0 : bits .xor .i64 (a : Int) (-1) = bits .xor .i64 (-1) (a : Int) := by
    show IntKind.i64.wrap ((BitVec.ofInt 64 (a : Int) ^^^ BitVec.ofInt 64 (-1)).toNat : Int) = IntKind.i64.wrap ((BitVec.ofInt 64 (-1) ^^^ BitVec.ofInt 64 (a : Int)).toNat : Int)
    rw [BitVec.xor_comm]
  rw [h0, i64_not a h]
theorem xor_z (a : Nat) (h : a < 9223372036854775808) : bits .xor .i64 (a : Int) 0 = (a : Int) := by
  show IntKind.i64.wrap ((BitVec.ofInt 64 (a : Int) ^^^ BitVec.ofInt 64 0).toNat : Int) = _
  have h1 : BitVec.ofInt 64 0 = 0#64 := by decide
  rw [h1, BitVec.xor_zero, ofInt_u64 a (by omega)]
  simp [IntKind.wrap, IntKind.bits, IntKind.signed]
  omega
theorem and_1 (x : Nat) (hx : x < 18446744073709551616) : bits .and .u64 (x : Int) 1 = ((x % 2 : Nat) : Int) := by
  have := u64_and_nat x 1 hx (by omega)
  rw [Nat.and_one_is_mod] at this
  exact this
theorem back_bits (x : Nat) (hx : x < 18446744073709551616) : bits .xor .i64 ((x : Int) / 2) (wrap64 (-wrap64 (bits .and .u64 (x : Int) 1))) = back x := by
  rw [and_1 x hx]
  unfold back
  rcases Nat.mod_two_eq_zero_or_one x with h | h
  · rw [h, if_neg (by omega), show (x : Int) / 2 = ((x / 2 : Nat) : Int) by omega]
    have : wrap64 (-wrap64 ((0 : Nat) : Int)) = 0 := by unfold wrap64; omega
    rw [this]
    exact xor_z (x / 2) (by omega)
  · rw [h, if_pos rfl, show (x : Int) / 2 = ((x / 2 : Nat) : Int) by omega]
    have : wrap64 (-wrap64 ((1 : Nat) : Int)) = -1 := by unfold wrap64; omega
    rw [this]
    exact xor_m1 (x / 2) (by omega)
set_option maxHeartbeats 1000000 in
set_option maxRecDepth 100000 in
theorem rsvar_any (R : Nat) (s : ByteArray) (p e : Nat) (hs : s.size ≤ maxLen) (hp : p ≤ s.size) (w : World) (h : Rd w R s p e) :
    Calls Tryd.prog 89 #[.pointer (some ⟨R, 0, none⟩)] w (RPost R w s (.int .i64 (back (st s p e (fun D => few D 0)).1)) (st s p e (fun D => few D 0)).2.1 (st s p e (fun D => few D 0)).2.2) := by
  have K := hide (ruvar_any R s p e hs hp w h)
  have hx : (st s p e (fun D => few D 0)).1 < 18446744073709551616 := by
    unfold st; split
    · exact few_lt64 _
    · show 0 < _; omega
  generalize st s p e (fun D => few D 0) = T at *
  obtain ⟨x, p', e'⟩ := T
  simp only at *
  go_enter Tryd.func89, Tryd.ntmps89
  go_wp2_with fail
  refine K.out.mono ?_
  rintro e w1 ⟨rfl, hr1, hf1⟩
  have HR1 := hide hr1
  have HF1 := hide hf1
  clear hr1 hf1 h
  have hb := hide (back_bits x hx)
  go_wp2_with fail
  go_ret
  exact ⟨congrArg (fun n => Ending.returned (.int .i64 n)) hb.out, HR1.out, HF1.out⟩
set_option maxHeartbeats 1000000 in
theorem rat_any (R : Nat) (s : ByteArray) (p e : Nat) (w : World) (h : Rd w R s p e) :
    Calls Tryd.prog 16 #[.pointer (some ⟨R, 0, none⟩)] w fun r w' => r = .returned (.int .i64 (p : Nat)) ∧ w = w' := by
  have hc := h.c1
  go_enter Tryd.func16, Tryd.ntmps16
  go_wp2_with fail
  go_ret
  exact ⟨rfl, rfl⟩
set_option maxHeartbeats 1000000 in
theorem rerr_any (R : Nat) (s : ByteArray) (p e : Nat) (w : World) (h : Rd w R s p e) :
    Calls Tryd.prog 38 #[.pointer (some ⟨R, 0, none⟩)] w fun r w' => r = .returned (.int .i64 (e : Nat)) ∧ w = w' := by
  have hc := h.c2
  go_enter Tryd.func38, Tryd.ntmps38
  go_wp2_with fail
  go_ret
  exact ⟨rfl, rfl⟩
set_option maxHeartbeats 1000000 in
theorem rleft_any (R : Nat) (s : ByteArray) (p e : Nat) (hs : s.size ≤ maxLen) (hp : p ≤ s.size) (w : World) (h : Rd w R s p e) :
    Calls Tryd.prog 55 #[.pointer (some ⟨R, 0, none⟩)] w fun r w' => r = .returned (.int .i64 ((s.size - p : Nat) : Int)) ∧ Below w.heap.size w w' := by
  unfold maxLen at hs
  have hc0 := h.c0
  have hc1 := h.c1
  go_enter Tryd.func55, Tryd.ntmps55
  have he : (((s.size - p : Nat)) : Int) = (s.size : Int) - p := by omega
  have HE := hide he
  clear he
  go_wp2_with fail
  go_quiet (fail)
  go_wp2_with fail
  go_ret
  exact ⟨congrArg (fun n => Ending.returned (.int .i64 n)) HE.out.symm, below_drewN (Below.refl _ _) _⟩
set_option maxHeartbeats 1000000 in
theorem rdone_any (R : Nat) (s : ByteArray) (p e : Nat) (hs : s.size ≤ maxLen) (hp : p ≤ s.size) (w : World) (h : Rd w R s p e) :
    Calls Tryd.prog 46 #[.pointer (some ⟨R, 0, none⟩)] w fun r w' => r = .returned (.int .i64 ((if e = 0 then (if p < s.size then 11 else 0) else e : Nat) : Int)) ∧ Below w.heap.size w w' := by
  have hs' := hs
  unfold maxLen at hs
  have K := hide (rerr_any R s p e w h)
  have K2 := hide (rleft_any R s p e hs' hp w h)
  clear h hs'
  by_cases he : e = 0
  · rw [if_pos he]
    subst he
    by_cases hlt : p < s.size
    · rw [if_pos hlt]
      go_enter Tryd.func46, Tryd.ntmps46
      go_wp2_with fail
      refine K.out.mono ?_
      rintro e w1 ⟨rfl, rfl⟩
      go_wp2_with fail
      refine K2.out.mono ?_
      rintro e w1 ⟨rfl, hb1⟩
      go_wp2_with fail
      go_ret
      exact ⟨rfl, hb1⟩
    · rw [if_neg hlt]
      go_enter Tryd.func46, Tryd.ntmps46
      go_wp2_with fail
      refine K.out.mono ?_
      rintro e w1 ⟨rfl, rfl⟩
      go_wp2_with fail
      refine K2.out.mono ?_
      rintro e w1 ⟨rfl, hb1⟩
      go_wp2_with fail
      go_ret
      exact ⟨rfl, hb1⟩
  · rw [if_neg he]
    have hne : ((e : Int) != 0) = true := by rw [bne_iff_ne]; omega
    go_enter Tryd.func46, Tryd.ntmps46
    go_wp2_with fail
    refine K.out.mono ?_
    rintro e w1 ⟨rfl, rfl⟩
    go_wp2_with fail
    go_ret
    exact ⟨rfl, Below.refl _ _⟩
end Go.Proofs.YtihbcojmonlcgaaDoor
