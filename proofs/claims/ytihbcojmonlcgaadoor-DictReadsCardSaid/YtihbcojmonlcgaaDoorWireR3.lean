/- Readers: the numbers, by what stands at the place. -/
import Derived.Test.YtihbcojmonlcgaaDoorWireR2
namespace Go.Proofs.YtihbcojmonlcgaaDoor
open Go.RowKit

/-- So many bytes as a number. -/
def num (n : Nat) (D : List Nat) : Nat × Nat × Nat := if D.length < n then (0, 0, 10) else (le (D.take n), n, 0)
/-- The answer of a reader, its new place, its new error. -/
def st (s : ByteArray) (p e : Nat) (f : List Nat → Nat × Nat × Nat) : Nat × Nat × Nat :=
  if e = 0 then ((f ((bn s).drop p)).1, p + (f ((bn s).drop p)).2.1, (f ((bn s).drop p)).2.2) else (0, p, e)
theorem rfixed_any (R : Nat) (s : ByteArray) (p e n : Nat) (h8 : n ≤ 8) (hs : s.size ≤ maxLen) (hp : p ≤ s.size) (w : World) (h : Rd w R s p e) :
    Calls Tryd.prog 107 #[.pointer (some ⟨R, 0, none⟩), .int .i64 (n : Nat)] w (RPost R w s (.int .u64 ((st s p e (num n)).1 : Nat)) (st s p e (num n)).2.1 (st s p e (num n)).2.2) := by
  unfold st
  by_cases he : e = 0
  · rw [if_pos he]
    subst he
    unfold num
    rw [List.length_drop, bn_len]
    by_cases hn : s.size - p < n
    · rw [if_pos hn]
      exact rfixed_short R s p n hp hs (by omega) w h
    · rw [if_neg hn]
      exact rfixed_ok R s p n h8 hs (by omega) w h
  · rw [if_neg he]
    exact rfixed_err R s p e n (by omega) w h
theorem num_lt (n : Nat) (D : List Nat) (h : ∀ b ∈ D, b < 256) : (num n D).1 < 256 ^ n := by
  unfold num
  split
  · exact Nat.pow_pos (by omega)
  · have h1 := le_lt (D.take n) (fun b hb => h b (List.mem_of_mem_take hb))
    rwa [List.length_take, Nat.min_eq_left (by omega)] at h1
theorem st_num_lt (s : ByteArray) (p e n : Nat) : (st s p e (num n)).1 < 256 ^ n := by
  unfold st
  split
  · exact num_lt n _ (fun b hb => bn_lt s b (List.mem_of_mem_drop hb))
  · exact Nat.pow_pos (by omega)
set_option maxHeartbeats 1000000 in
set_option maxRecDepth 100000 in
theorem ru8_any (R : Nat) (s : ByteArray) (p e : Nat) (hs : s.size ≤ maxLen) (hp : p ≤ s.size) (w : World) (h : Rd w R s p e) :
    Calls Tryd.prog 86 #[.pointer (some ⟨R, 0, none⟩)] w (RPost R w s (.int .u8 ((st s p e (num 1)).1 : Nat)) (st s p e (num 1)).2.1 (st s p e (num 1)).2.2) := by
  have K := hide (rfixed_any R s p e 1 (by omega) hs hp w h)
  have hl := st_num_lt s p e 1
  clear h
  generalize st s p e (num 1) = T at *
  have hm : (T.1 : Int) % 256 = (T.1 : Int) := by omega
  go_enter Tryd.func86, Tryd.ntmps86
  go_wp2_with fail
  refine K.out.mono ?_
  rintro e w1 ⟨rfl, hr1, hf1⟩
  have HR1 := hide hr1
  have HF1 := hide hf1
  clear hr1 hf1
  go_wp2_with fail
  go_ret
  exact ⟨rfl, HR1.out, HF1.out⟩
set_option maxHeartbeats 1000000 in
set_option maxRecDepth 100000 in
theorem ru64_any (R : Nat) (s : ByteArray) (p e : Nat) (hs : s.size ≤ maxLen) (hp : p ≤ s.size) (w : World) (h : Rd w R s p e) :
    Calls Tryd.prog 87 #[.pointer (some ⟨R, 0, none⟩)] w (RPost R w s (.int .u64 ((st s p e (num 8)).1 : Nat)) (st s p e (num 8)).2.1 (st s p e (num 8)).2.2) := by
  have K := hide (rfixed_any R s p e 8 (by omega) hs hp w h)
  clear h
  generalize st s p e (num 8) = T at *
  go_enter Tryd.func87, Tryd.ntmps87
  go_wp2_with fail
  refine K.out.mono ?_
  rintro e w1 ⟨rfl, hr1, hf1⟩
  have HR1 := hide hr1
  have HF1 := hide hf1
  clear hr1 hf1
  go_wp2_with fail
  go_ret
  exact ⟨rfl, HR1.out, HF1.out⟩
set_option maxHeartbeats 1000000 in
set_option maxRecDepth 100000 in
theorem rfail_any (R : Nat) (s : ByteArray) (p e p' e' : Nat) (w : World) (h : Rd w R s p e) :
    Calls Tryd.prog 108 #[.pointer (some ⟨R, 0, none⟩), .int .i64 (e' : Nat), .int .i64 (p' : Nat)] w (RPost R w s (.tuple #[]) p' e') := by
  have hf1 := Blk.frozen h 1
  have hf2 := Blk.frozen h 2
  have hc1 := h.c1
  have hc2 := h.c2
  have HR := hide h
  clear h
  go_enter Tryd.func108, Tryd.ntmps108
  go_wp2_with fail
  go_end0
  exact ⟨rfl, (Blk.set HR.out 2 _).set 1 _, (Fr.setCell _ _ _).trans (Fr.setCell _ _ _) (fun _ _ h => h)⟩
end Go.Proofs.YtihbcojmonlcgaaDoor
