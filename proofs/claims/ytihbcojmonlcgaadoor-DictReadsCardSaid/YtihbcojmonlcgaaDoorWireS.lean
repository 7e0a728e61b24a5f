/- The document's answer for numbers: what each of its functions gives. -/
import Derived.Test.YtihbcojmonlcgaaDoorWireR7
namespace Go.Proofs.YtihbcojmonlcgaaDoor
open Go.RowKit


set_option maxHeartbeats 1000000 in
theorem sback_any (x : Nat) (hx : x < 18446744073709551616) (w : World) :
    Calls Tryd.prog 43 #[.int .u64 x] w fun e w' => e = .returned (.int .i64 (back x)) ∧ w = w' := by
  by_cases h : x % 2 = 1
  · have hz : back x = -1 - (x : Int) / 2 := by unfold back; rw [if_pos h]; omega
    have HZ := hide hz
    clear hz
    have e1 : (((x : Int) % 2 : Int) == 1) = true := by rw [beq_iff_eq]; omega
    go_enter Tryd.func43, Tryd.ntmps43
    go_wp2_with fail
    go_ret
    refine ⟨ret_int ?_, rfl⟩
    rw [HZ.out]
    try omega
  · have hz : back x = (x : Int) / 2 := by unfold back; rw [if_neg h]; omega
    have HZ := hide hz
    clear hz
    have e1 : (((x : Int) % 2 : Int) == 1) = false := by rw [beq_eq_false_iff_ne]; omega
    go_enter Tryd.func43, Tryd.ntmps43
    go_wp2_with fail
    go_ret
    refine ⟨ret_int ?_, rfl⟩
    rw [HZ.out]
    try omega
end Go.Proofs.YtihbcojmonlcgaaDoor
