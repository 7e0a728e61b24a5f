/- Writers: numbers. -/
import Derived.Test.YtihbcojmonlcgaaDoorWireW
import Derived.Test.YtihbcojmonlcgaaDoorWirePlain
namespace Go.Proofs.YtihbcojmonlcgaaDoor
open Go.RowKit

theorem or128 (a : Nat) (h : a < 256) : a ||| 128 = 128 + a % 128 := by
  have h1 := Nat.two_pow_add_eq_or_of_lt (i := 7) (b := a % 128) (by omega) 1
  by_cases h2 : a < 128
  · rw [show a % 128 = a by omega] at h1 ⊢
    rw [Nat.or_comm]; simpa using h1.symm
  · have h3 : a = 128 ||| a % 128 := by have h1' : 128 + a % 128 = 128 ||| a % 128 := by simpa using h1
                                        rw [← h1']; omega
    rw [h3]
    rw [Nat.or_comm, ← Nat.or_assoc, Nat.or_self, ← h3]; omega
theorem xor_ones (a : Nat) (h : a < 18446744073709551616) : a ^^^ 18446744073709551615 = 18446744073709551615 - a := by
  have h1 : BitVec.ofNat 64 a ^^^ BitVec.allOnes 64 = ~~~ BitVec.ofNat 64 a := BitVec.xor_allOnes
  have h2 := congrArg BitVec.toNat h1
  rw [BitVec.toNat_xor, BitVec.toNat_not, BitVec.toNat_ofNat, BitVec.toNat_allOnes] at h2
  rw [Nat.mod_eq_of_lt (by simpa using h)] at h2
  simpa using h2
theorem zz_bits {x : Int} (h1 : -9223372036854775808 ≤ x) (h2 : x ≤ 9223372036854775807) : bits .xor .u64 (IntKind.u64.wrap (IntKind.u64.wrap x * 2)) (IntKind.u64.wrap (x / 9223372036854775808)) = ((zz x : Nat) : Int) := by
  rw [IntKind.wrap_u64, IntKind.wrap_u64, IntKind.wrap_u64]
  unfold zz
  by_cases h : x < 0
  · rw [if_pos h, show x % 18446744073709551616 * 2 % 18446744073709551616 = ((2 * x + 18446744073709551616).toNat : Nat) by omega, show x / 9223372036854775808 % 18446744073709551616 = ((18446744073709551615 : Nat) : Int) by omega]
    rw [u64_xor_nat _ _ (by omega) (by omega), xor_ones _ (by omega)]
    omega
  · rw [if_neg h, show x % 18446744073709551616 * 2 % 18446744073709551616 = ((2 * x).toNat : Nat) by omega, show x / 9223372036854775808 % 18446744073709551616 = ((0 : Nat) : Int) by omega]
    rw [u64_xor_nat _ _ (by omega) (by omega)]
    simp
theorem put_one (W B : Nat) (sv : Value) (l : List Nat) (b : Nat) (w : World) (h : Wr w W B sv l) (hl : l.length ≤ 33554400) (hB : B ≤ w.heap.size) :
    Calls Tryd.prog 102 #[.pointer (some ⟨W, 0, none⟩), .slice (some ⟨w.heap.size, 0, none⟩) 1 1] (w.alloc (.cells #[.int .u8 (b : Nat)] 5)) (WPost W B w sv (l ++ [b])) := by
  have h0 : Below w.heap.size w (w.alloc (.cells #[.int .u8 (b : Nat)] 5)) := (Below.refl _ _).alloc (Nat.le_refl _) _
  refine (put_any W B sv l _ [b] _ (h.below h0) (slU8_one w b _) (by simp; omega) (by simp; omega)).mono ?_
  rintro e w' ⟨he, sv', h1, h2⟩
  exact ⟨he, sv', h1, WS.ahead h0 h2⟩
theorem wpost_trans {W B : Nat} {a b : World} {x y : Value} {l : List Nat} {e : Ending} {w' : World} (h : WS W a x b y) (k : WPost W B b y l e w') : WPost W B a x l e w' := by
  obtain ⟨he, sv', h1, h2⟩ := k
  exact ⟨he, sv', h1, h.trans h2⟩

set_option maxHeartbeats 1000000 in
set_option maxRecDepth 100000 in
theorem wfixed_any (W B : Nat) (sv : Value) (l : List Nat) (x n : Nat) (hx : x < 18446744073709551616) (hn : n ≤ 8) (w : World) (h : Wr w W B sv l) (hl : l.length ≤ 33554300) (hB : B ≤ w.heap.size) :
    Calls Tryd.prog 113 #[.pointer (some ⟨W, 0, none⟩), .int .u64 x, .int .i64 n] w (WPost W B w sv (l ++ fixN x n)) := by
  go_enter Tryd.func113, Tryd.ntmps113
  go_wp2_with fail
  go_loopw [1, 7] (fun xv iv wr => ∃ k : Nat, k ≤ n ∧ iv = .int .i64 k ∧ ∃ y : Nat, y = x / 256 ^ k ∧ y < 18446744073709551616 ∧ xv = .int .u64 y ∧ ∃ sv', Wr wr W B sv' (l ++ fixN x k) ∧ WS W w sv wr sv') (fun _ iv _ => n - (intOf iv).toNat)
  case atStart => exact ⟨0, by omega, rfl, x, by simp, hx, rfl, sv, by simpa [fixN] using h, WS.refl _ _ _⟩
  case round =>
    obtain ⟨k, hk, rfl, y, hy, hy64, rfl, sv', hw, hs⟩ := hrel
    have HY := hide hy
    have HW := hide hw
    have HS := hide hs
    have HL : (l ++ fixN x k).length ≤ 33554400 := by rw [List.length_append, fixN_len]; omega
    have HB : B ≤ wr.heap.size := Nat.le_trans hB hs.fr.size
    have HN : fixN x (k + 1) = fixN x k ++ [y % 256] := by rw [hy]; rfl
    have HN' := hide HN
    clear hy hw hs h HN
    by_cases hlt : k < n
    · have K := hide (put_one W B sv' (l ++ fixN x k) (y % 256) wr HW.out HL HB)
      obtain ⟨wo, rfl⟩ : ∃ wo : World, wo = wr := ⟨_, rfl⟩
      go_wp2_with fail
      refine K.out.mono ?_
      rintro e w1 ⟨rfl, sv1, hw1, hs1⟩
      have HW1 := hide hw1
      have HS1 := hide hs1
      clear hw1 hs1
      go_wp2_with fail
      go_roundw
      case rel =>
        refine ⟨k + 1, by omega, by go_num, y / 256, ?_, by omega, rfl, sv1, ?_, HS.out.trans HS1.out⟩
        · rw [HY.out, Nat.div_div_eq_div_mul, Nat.pow_succ]
        · rw [HN'.out, ← List.append_assoc]; exact HW1.out
      case measure => simp [intOf] <;> omega
    · have hk8 : k = n := by omega
      subst hk8
      go_wp2_with fail
      go_end0
      exact ⟨rfl, sv', HW.out, HS.out⟩

set_option maxHeartbeats 1000000 in
set_option maxRecDepth 100000 in
theorem wu8_any (W B : Nat) (sv : Value) (l : List Nat) (x : Nat) (w : World) (h : Wr w W B sv l) (hl : l.length ≤ 33554300) (hB : B ≤ w.heap.size) :
    Calls Tryd.prog 67 #[.pointer (some ⟨W, 0, none⟩), .int .u8 x] w (WPost W B w sv (l ++ [x])) := by
  have K := hide (put_one W B sv l x w h (by omega) hB)
  clear h
  go_enter Tryd.func67, Tryd.ntmps67
  go_wp2_with fail
  refine K.out.mono ?_
  rintro e w1 ⟨rfl, H⟩
  have HH := hide H
  clear H
  go_wp2_with fail
  go_end0
  exact ⟨rfl, HH.out⟩
set_option maxHeartbeats 1000000 in
set_option maxRecDepth 100000 in
theorem wu64_any (W B : Nat) (sv : Value) (l : List Nat) (x : Nat) (hx : x < 18446744073709551616) (w : World) (h : Wr w W B sv l) (hl : l.length ≤ 33554300) (hB : B ≤ w.heap.size) :
    Calls Tryd.prog 105 #[.pointer (some ⟨W, 0, none⟩), .int .u64 x] w (WPost W B w sv (l ++ fixN x 8)) := by
  have K := hide (wfixed_any W B sv l x 8 hx (by omega) w h hl hB)
  clear h
  go_enter Tryd.func105, Tryd.ntmps105
  go_wp2_with fail
  refine K.out.mono ?_
  rintro e w1 ⟨rfl, H⟩
  have HH := hide H
  clear H
  go_wp2_with fail
  go_end0
  exact ⟨rfl, HH.out⟩
set_option maxHeartbeats 1000000 in
set_option maxRecDepth 100000 in
theorem wuvar_any (W B : Nat) (sv : Value) (l : List Nat) (x : Nat) (hx : x < 18446744073709551616) (w : World) (h : Wr w W B sv l) (hl : l.length ≤ 33554300) (hB : B ≤ w.heap.size) :
    Calls Tryd.prog 65 #[.pointer (some ⟨W, 0, none⟩), .int .u64 x] w (WPost W B w sv (l ++ uvar x)) := by
  have h10 := hide (uvar_len10 hx)
  have h0 := hide h
  clear h
  go_enter Tryd.func65, Tryd.ntmps65
  go_wp2_with fail
  go_loopw [1] (fun xv wr => ∃ y : Nat, y < 18446744073709551616 ∧ xv = .int .u64 y ∧ ∃ sv' m, m ++ uvar y = uvar x ∧ Wr wr W B sv' (l ++ m) ∧ WS W w sv wr sv') (fun xv _ => (intOf xv).toNat)
  case atStart => exact ⟨x, hx, rfl, sv, [], rfl, by simpa using h0.out, WS.refl _ _ _⟩
  case round =>
    obtain ⟨y, hy64, rfl, sv', m, hm, hw, hs⟩ := hrel
    have HW := hide hw
    have HS := hide hs
    have HL : (l ++ m).length ≤ 33554400 := by
      have h1 := congrArg List.length hm
      have h2 := h10.out
      rw [List.length_append] at h1 ⊢
      omega
    have HB : B ≤ wr.heap.size := Nat.le_trans hB hs.fr.size
    have HM := hide hm
    clear hw hs hm
    by_cases hlt : y < 128
    · have K := hide (put_one W B sv' (l ++ m) y wr HW.out HL HB)
      have hy : y % 256 = y := by omega
      go_wp2_with fail
      refine K.out.mono ?_
      rintro e w1 ⟨rfl, sv1, hw1, hs1⟩
      have HW1 := hide hw1
      have HS1 := hide hs1
      clear hw1 hs1
      go_wp2_with fail
      go_end0
      refine ⟨rfl, sv1, ?_, HS.out.trans HS1.out⟩
      have := HM.out
      rw [uvar_small hlt] at this
      rw [← this, ← List.append_assoc]
      exact HW1.out
    · have K := hide (put_one W B sv' (l ++ m) (128 + y % 128) wr HW.out HL HB)
      have e1 : bits .or .u8 ((y : Int) % 256) 128 = ((128 + y % 128 : Nat) : Int) := by
        have := u8_or_nat (y % 256) 128 (by omega) (by omega)
        rw [or128 _ (by omega), show y % 256 % 128 = y % 128 by omega] at this
        exact this
      obtain ⟨wo, rfl⟩ : ∃ wo : World, wo = wr := ⟨_, rfl⟩
      go_wp2_with fail
      refine K.out.mono ?_
      rintro e w1 ⟨rfl, sv1, hw1, hs1⟩
      have HW1 := hide hw1
      have HS1 := hide hs1
      clear hw1 hs1
      go_wp2_with fail
      go_roundw
      case rel =>
        refine ⟨y / 128, by omega, rfl, sv1, m ++ [128 + y % 128], ?_, ?_, HS.out.trans HS1.out⟩
        · rw [← HM.out, uvar_big hlt, List.append_assoc]; rfl
        · rw [← List.append_assoc]; exact HW1.out
      case measure => simp [intOf] <;> omega

set_option maxHeartbeats 1000000 in
set_option maxRecDepth 100000 in
theorem wsvar_any (W B : Nat) (sv : Value) (l : List Nat) (x : Int) (h1 : -9223372036854775808 ≤ x) (h2 : x ≤ 9223372036854775807) (w : World) (h : Wr w W B sv l) (hl : l.length ≤ 33554300) (hB : B ≤ w.heap.size) :
    Calls Tryd.prog 94 #[.pointer (some ⟨W, 0, none⟩), .int .i64 x] w (WPost W B w sv (l ++ uvar (zz x))) := by
  have K := hide (wuvar_any W B sv l (zz x) (zz_lt h1 h2) w h hl hB)
  have hz := zz_bits h1 h2
  clear h
  go_enter Tryd.func94, Tryd.ntmps94
  go_wp2_with fail
  refine K.out.mono ?_
  rintro e w1 ⟨rfl, H⟩
  have HH := hide H
  clear H
  go_wp2_with fail
  go_end0
  exact ⟨rfl, HH.out⟩
end Go.Proofs.YtihbcojmonlcgaaDoor
