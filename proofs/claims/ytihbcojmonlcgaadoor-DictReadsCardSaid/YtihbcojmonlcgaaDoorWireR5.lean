/- Readers: the rest. -/
import Derived.Test.YtihbcojmonlcgaaDoorWireR4
namespace Go.Proofs.YtihbcojmonlcgaaDoor
open Go.RowKit
set_option maxHeartbeats 1000000 in
set_option maxRecDepth 100000 in
theorem ruvar_e (R : Nat) (s : ByteArray) (p e : Nat) (he : 0 < e) (w : World) (h : Rd w R s p e) :
    Calls Tryd.prog 98 #[.pointer (some ⟨R, 0, none⟩)] w fun r w' => r = .returned (.int .u64 0) ∧ w = w' := by
  have hc2 := h.c2
  have hne : ((e : Int) != 0) = true := by rw [bne_iff_ne]; omega
  clear h
  go_enter Tryd.func98, Tryd.ntmps98
  go_wp2_with fail
  refine wp_scope_straight ?_
  go_wp2_with fail
  rw [Exit.noGoto_ret]
  go_ret
  exact ⟨rfl, rfl⟩
theorem ruvar_any (R : Nat) (s : ByteArray) (p e : Nat) (hs : s.size ≤ maxLen) (hp : p ≤ s.size) (w : World) (h : Rd w R s p e) :
    Calls Tryd.prog 98 #[.pointer (some ⟨R, 0, none⟩)] w (RPost R w s (.int .u64 ((st s p e (fun D => few D 0)).1 : Nat)) (st s p e (fun D => few D 0)).2.1 (st s p e (fun D => few D 0)).2.2) := by
  by_cases he : e = 0
  · subst he; exact ruvar_0 R s p hs hp w h
  · unfold st
    rw [if_neg he]
    refine (ruvar_e R s p e (by omega) w h).mono ?_
    rintro r w' ⟨rfl, rfl⟩
    exact ⟨rfl, h, Fr.refl _ _⟩
end Go.Proofs.YtihbcojmonlcgaaDoor
