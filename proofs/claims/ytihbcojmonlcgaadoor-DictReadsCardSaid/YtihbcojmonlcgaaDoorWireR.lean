/- Readers: bytes taken, numbers of so many bytes. -/
import Derived.Test.YtihbcojmonlcgaaDoorWireW3
import Derived.RegionTactic
import Derived.BigRegion
namespace Go.Proofs.YtihbcojmonlcgaaDoor
open Go.RowKit

theorem Fr.drewN (w : World) (n : Nat) (P : Nat → Prop) : Fr w (w.drewN n) P := ⟨rfl, rfl, rfl, Nat.le_refl _, fun _ _ _ => rfl⟩
/-- A reader: its text, its place, its error. -/
def Rd (w : World) (R : Nat) (s : ByteArray) (p e : Nat) : Prop := Blk w R 65 #[.string s, .int .i64 (p : Nat), .int .i64 (e : Nat)]
theorem Rd.below {w w' : World} {R : Nat} {s : ByteArray} {p e : Nat} (h : Rd w R s p e) (hb : Below w.heap.size w w') : Rd w' R s p e := Blk.below h hb (Blk.lt h)
theorem Rd.c0 {w : World} {R : Nat} {s : ByteArray} {p e : Nat} (h : Rd w R s p e) : w.cell? ⟨R, 0, none⟩ = some (.string s) := Blk.cell h 0
theorem Rd.c1 {w : World} {R : Nat} {s : ByteArray} {p e : Nat} (h : Rd w R s p e) : w.cell? ⟨R, 1, none⟩ = some (.int .i64 (p : Nat)) := Blk.cell h 1
theorem Rd.c2 {w : World} {R : Nat} {s : ByteArray} {p e : Nat} (h : Rd w R s p e) : w.cell? ⟨R, 2, none⟩ = some (.int .i64 (e : Nat)) := Blk.cell h 2
/-- How a call of a reader ends. -/
def RPost (R : Nat) (w : World) (s : ByteArray) (v : Value) (p' e' : Nat) (e : Ending) (w' : World) : Prop :=
  e = .returned v ∧ Rd w' R s p' e' ∧ Fr w w' (fun k => k = R)
set_option maxHeartbeats 1000000 in
set_option maxRecDepth 100000 in
theorem take_err (R : Nat) (s : ByteArray) (p e : Nat) (n : Int) (he : 0 < e) (w : World) (h : Rd w R s p e) :
    Calls Tryd.prog 109 #[.pointer (some ⟨R, 0, none⟩), .int .i64 n] w fun r w' => r = .returned (.string { data := #[] }) ∧ w = w' := by
  have hc := h.c2
  clear h
  go_enter Tryd.func109, Tryd.ntmps109
  go_wp2_with fail
  go_ret
  exact ⟨rfl, rfl⟩
set_option maxHeartbeats 1000000 in
set_option maxRecDepth 100000 in
theorem take_short (R : Nat) (s : ByteArray) (p n : Nat) (hp : p ≤ s.size) (hs : s.size ≤ maxLen) (hn : s.size < p + n) (w : World) (h : Rd w R s p 0) :
    Calls Tryd.prog 109 #[.pointer (some ⟨R, 0, none⟩), .int .i64 (n : Nat)] w (RPost R w s (.string { data := #[] }) p 10) := by
  unfold maxLen at hs
  have hc0 := h.c0
  have hc1 := h.c1
  have hc2 : w.cell? ⟨R, 2, none⟩ = some (.int .i64 0) := h.c2
  have hf2 := Blk.frozen h 2
  have HR := hide h
  clear h
  go_enter Tryd.func109, Tryd.ntmps109
  go_wp2_with fail
  go_quiet (fail)
  go_wp2_with fail
  go_ret
  exact ⟨rfl, Blk.set HR.out 2 _, (Fr.drewN w _ _).trans (Fr.setCell _ _ _) (fun _ _ h => h)⟩
set_option maxHeartbeats 1000000 in
set_option maxRecDepth 100000 in
theorem take_ok (R : Nat) (s : ByteArray) (p n : Nat) (hs : s.size ≤ maxLen) (hn : p + n ≤ s.size) (w : World) (h : Rd w R s p 0) :
    Calls Tryd.prog 109 #[.pointer (some ⟨R, 0, none⟩), .int .i64 (n : Nat)] w (RPost R w s (.string (s.extract p (p + n))) (p + n) 0) := by
  unfold maxLen at hs
  have hc0 := h.c0
  have hc1 := h.c1
  have hc2 : w.cell? ⟨R, 2, none⟩ = some (.int .i64 0) := h.c2
  have hf1 := Blk.frozen h 1
  have HR := hide h
  clear h
  go_enter Tryd.func109, Tryd.ntmps109
  go_wp2_with fail
  go_quiet (fail)
  go_wp2_with fail
  go_quiet (fail)
  go_wp2_with fail
  go_ret
  exact ⟨rfl, Blk.set HR.out 1 _, (Fr.drewN w _ _).trans (Fr.setCell _ _ _) (fun _ _ h => h)⟩
end Go.Proofs.YtihbcojmonlcgaaDoor
