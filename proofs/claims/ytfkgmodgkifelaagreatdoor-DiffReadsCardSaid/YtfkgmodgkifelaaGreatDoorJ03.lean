/- Writers: numbers. Writers: texts. Readers: bytes taken, numbers of so many bytes. Readers: numbers of so many bytes. Readers: the numbers, by what stands at the place. A scope with several labels: what holds at a jump to each, and a measure that every pass lowers. -/
import Derived.Test.YtfkgmodgkifelaaGreatDoorJ01
import Derived.Test.YtfkgmodgkifelaaGreatDoorJ02
import Derived.RegionTactic
import Derived.BigRegion
import Derived.ScopeJumps
namespace Go.Proofs.YtfkgmodgkifelaaGreatDoor
open Go.RowKit

theorem or128 (a : Nat) (h : a < 256) : a ||| 128 = 128 + a % 128 := by
  have h1 := Nat.two_pow_add_eq_or_of_lt (i := 7) (b := a % 128) (by omega) 1
  by_cases h2 : a < 128
  · rw [show a % 128 = a by omega] at h1 ⊢
    rw [Nat.or_comm]; simpa using h1.symm
  · have h3 : a = 128 ||| a % 128 := by have h1' : 128 + a % 128 = 128 ||| a % 128 := by simpa using h1
                                        rw [← h1']; omega
    rw [h3]
    rw [Nat.or_comm, ← Nat.or_assoc, Nat.or_self, ← h3]; omega
theorem xor_ones (a : Nat) (h : a < 18446744073709551616) : a ^^^ 18446744073709551615 = 18446744073709551615 - a := by
  have h1 : BitVec.ofNat 64 a ^^^ BitVec.allOnes 64 = ~~~ BitVec.ofNat 64 a := BitVec.xor_allOnes
  have h2 := congrArg BitVec.toNat h1
  rw [BitVec.toNat_xor, BitVec.toNat_not, BitVec.toNat_ofNat, BitVec.toNat_allOnes] at h2
  rw [Nat.mod_eq_of_lt (by simpa using h)] at h2
  simpa using h2
theorem zz_bits {x : Int} (h1 : -9223372036854775808 ≤ x) (h2 : x ≤ 9223372036854775807) : bits .xor .u64 (IntKind.u64.wrap (IntKind.u64.wrap x * 2)) (IntKind.u64.wrap (x / 9223372036854775808)) = ((zz x : Nat) : Int) := by
  rw [IntKind.wrap_u64, IntKind.wrap_u64, IntKind.wrap_u64]
  unfold zz
  by_cases h : x < 0
  · rw [if_pos h, show x % 18446744073709551616 * 2 % 18446744073709551616 = ((2 * x + 18446744073709551616).toNat : Nat) by omega, show x / 9223372036854775808 % 18446744073709551616 = ((18446744073709551615 : Nat) : Int) by omega]
    rw [u64_xor_nat _ _ (by omega) (by omega), xor_ones _ (by omega)]
    omega
  · rw [if_neg h, show x % 18446744073709551616 * 2 % 18446744073709551616 = ((2 * x).toNat : Nat) by omega, show x / 9223372036854775808 % 18446744073709551616 = ((0 : Nat) : Int) by omega]
    rw [u64_xor_nat _ _ (by omega) (by omega)]
    simp
theorem put_one (W B : Nat) (sv : Value) (l : List Nat) (b : Nat) (w : World) (h : Wr w W B sv l) (hl : l.length ≤ 33554400) (hB : B ≤ w.heap.size) :
    Calls Tryz.prog 73 #[.pointer (some ⟨W, 0, none⟩), .slice (some ⟨w.heap.size, 0, none⟩) 1 1] (w.alloc (.cells #[.int .u8 (b : Nat)] 5)) (WPost W B w sv (l ++ [b])) := by
  have h0 : Below w.heap.size w (w.alloc (.cells #[.int .u8 (b : Nat)] 5)) := (Below.refl _ _).alloc (Nat.le_refl _) _
  refine (put_any W B sv l _ [b] _ (h.below h0) (slU8_one w b _) (by simp; omega) (by simp; omega)).mono ?_
  rintro e w' ⟨he, sv', h1, h2⟩
  exact ⟨he, sv', h1, WS.ahead h0 h2⟩
theorem wpost_trans {W B : Nat} {a b : World} {x y : Value} {l : List Nat} {e : Ending} {w' : World} (h : WS W a x b y) (k : WPost W B b y l e w') : WPost W B a x l e w' := by
  obtain ⟨he, sv', h1, h2⟩ := k
  exact ⟨he, sv', h1, h.trans h2⟩

set_option maxHeartbeats 1000000 in
set_option maxRecDepth 100000 in
theorem wfixed_any (W B : Nat) (sv : Value) (l : List Nat) (x n : Nat) (hx : x < 18446744073709551616) (hn : n ≤ 8) (w : World) (h : Wr w W B sv l) (hl : l.length ≤ 33554300) (hB : B ≤ w.heap.size) :
    Calls Tryz.prog 153 #[.pointer (some ⟨W, 0, none⟩), .int .u64 x, .int .i64 n] w (WPost W B w sv (l ++ fixN x n)) := by
  go_enter Tryz.func153, Tryz.ntmps153
  go_wp2_with fail
  go_loopw [1, 7] (fun xv iv wr => ∃ k : Nat, k ≤ n ∧ iv = .int .i64 k ∧ ∃ y : Nat, y = x / 256 ^ k ∧ y < 18446744073709551616 ∧ xv = .int .u64 y ∧ ∃ sv', Wr wr W B sv' (l ++ fixN x k) ∧ WS W w sv wr sv') (fun _ iv _ => n - (intOf iv).toNat)
  case atStart => exact ⟨0, by omega, rfl, x, by simp, hx, rfl, sv, by simpa [fixN] using h, WS.refl _ _ _⟩
  case round =>
    obtain ⟨k, hk, rfl, y, hy, hy64, rfl, sv', hw, hs⟩ := hrel
    have HY := hide hy
    have HW := hide hw
    have HS := hide hs
    have HL : (l ++ fixN x k).length ≤ 33554400 := by rw [List.length_append, fixN_len]; omega
    have HB : B ≤ wr.heap.size := Nat.le_trans hB hs.fr.size
    have HN : fixN x (k + 1) = fixN x k ++ [y % 256] := by rw [hy]; rfl
    have HN' := hide HN
    clear hy hw hs h HN
    by_cases hlt : k < n
    · have K := hide (put_one W B sv' (l ++ fixN x k) (y % 256) wr HW.out HL HB)
      obtain ⟨wo, rfl⟩ : ∃ wo : World, wo = wr := ⟨_, rfl⟩
      go_wp2_with fail
      refine K.out.mono ?_
      rintro e w1 ⟨rfl, sv1, hw1, hs1⟩
      have HW1 := hide hw1
      have HS1 := hide hs1
      clear hw1 hs1
      go_wp2_with fail
      go_roundw
      case rel =>
        refine ⟨k + 1, by omega, by go_num, y / 256, ?_, by omega, rfl, sv1, ?_, HS.out.trans HS1.out⟩
        · rw [HY.out, Nat.div_div_eq_div_mul, Nat.pow_succ]
        · rw [HN'.out, ← List.append_assoc]; exact HW1.out
      case measure => simp [intOf] <;> omega
    · have hk8 : k = n := by omega
      subst hk8
      go_wp2_with fail
      go_end0
      exact ⟨rfl, sv', HW.out, HS.out⟩

set_option maxHeartbeats 1000000 in
set_option maxRecDepth 100000 in
theorem wu8_any (W B : Nat) (sv : Value) (l : List Nat) (x : Nat) (w : World) (h : Wr w W B sv l) (hl : l.length ≤ 33554300) (hB : B ≤ w.heap.size) :
    Calls Tryz.prog 44 #[.pointer (some ⟨W, 0, none⟩), .int .u8 x] w (WPost W B w sv (l ++ [x])) := by
  have K := hide (put_one W B sv l x w h (by omega) hB)
  clear h
  go_enter Tryz.func44, Tryz.ntmps44
  go_wp2_with fail
  refine K.out.mono ?_
  rintro e w1 ⟨rfl, H⟩
  have HH := hide H
  clear H
  go_wp2_with fail
  go_end0
  exact ⟨rfl, HH.out⟩
set_option maxHeartbeats 1000000 in
set_option maxRecDepth 100000 in
theorem wu64_any (W B : Nat) (sv : Value) (l : List Nat) (x : Nat) (hx : x < 18446744073709551616) (w : World) (h : Wr w W B sv l) (hl : l.length ≤ 33554300) (hB : B ≤ w.heap.size) :
    Calls Tryz.prog 111 #[.pointer (some ⟨W, 0, none⟩), .int .u64 x] w (WPost W B w sv (l ++ fixN x 8)) := by
  have K := hide (wfixed_any W B sv l x 8 hx (by omega) w h hl hB)
  clear h
  go_enter Tryz.func111, Tryz.ntmps111
  go_wp2_with fail
  refine K.out.mono ?_
  rintro e w1 ⟨rfl, H⟩
  have HH := hide H
  clear H
  go_wp2_with fail
  go_end0
  exact ⟨rfl, HH.out⟩
set_option maxHeartbeats 1000000 in
set_option maxRecDepth 100000 in
theorem wuvar_any (W B : Nat) (sv : Value) (l : List Nat) (x : Nat) (hx : x < 18446744073709551616) (w : World) (h : Wr w W B sv l) (hl : l.length ≤ 33554300) (hB : B ≤ w.heap.size) :
    Calls Tryz.prog 32 #[.pointer (some ⟨W, 0, none⟩), .int .u64 x] w (WPost W B w sv (l ++ uvar x)) := by
  have h10 := hide (uvar_len10 hx)
  have h0 := hide h
  clear h
  go_enter Tryz.func32, Tryz.ntmps32
  go_wp2_with fail
  go_loopw [1] (fun xv wr => ∃ y : Nat, y < 18446744073709551616 ∧ xv = .int .u64 y ∧ ∃ sv' m, m ++ uvar y = uvar x ∧ Wr wr W B sv' (l ++ m) ∧ WS W w sv wr sv') (fun xv _ => (intOf xv).toNat)
  case atStart => exact ⟨x, hx, rfl, sv, [], rfl, by simpa using h0.out, WS.refl _ _ _⟩
  case round =>
    obtain ⟨y, hy64, rfl, sv', m, hm, hw, hs⟩ := hrel
    have HW := hide hw
    have HS := hide hs
    have HL : (l ++ m).length ≤ 33554400 := by
      have h1 := congrArg List.length hm
      have h2 := h10.out
      rw [List.length_append] at h1 ⊢
      omega
    have HB : B ≤ wr.heap.size := Nat.le_trans hB hs.fr.size
    have HM := hide hm
    clear hw hs hm
    by_cases hlt : y < 128
    · have K := hide (put_one W B sv' (l ++ m) y wr HW.out HL HB)
      have hy : y % 256 = y := by omega
      go_wp2_with fail
      refine K.out.mono ?_
      rintro e w1 ⟨rfl, sv1, hw1, hs1⟩
      have HW1 := hide hw1
      have HS1 := hide hs1
      clear hw1 hs1
      go_wp2_with fail
      go_end0
      refine ⟨rfl, sv1, ?_, HS.out.trans HS1.out⟩
      have := HM.out
      rw [uvar_small hlt] at this
      rw [← this, ← List.append_assoc]
      exact HW1.out
    · have K := hide (put_one W B sv' (l ++ m) (128 + y % 128) wr HW.out HL HB)
      have e1 : bits .or .u8 ((y : Int) % 256) 128 = ((128 + y % 128 : Nat) : Int) := by
        have := u8_or_nat (y % 256) 128 (by omega) (by omega)
        rw [or128 _ (by omega), show y % 256 % 128 = y % 128 by omega] at this
        exact this
      obtain ⟨wo, rfl⟩ : ∃ wo : World, wo = wr := ⟨_, rfl⟩
      go_wp2_with fail
      refine K.out.mono ?_
      rintro e w1 ⟨rfl, sv1, hw1, hs1⟩
      have HW1 := hide hw1
      have HS1 := hide hs1
      clear hw1 hs1
      go_wp2_with fail
      go_roundw
      case rel =>
        refine ⟨y / 128, by omega, rfl, sv1, m ++ [128 + y % 128], ?_, ?_, HS.out.trans HS1.out⟩
        · rw [← HM.out, uvar_big hlt, List.append_assoc]; rfl
        · rw [← List.append_assoc]; exact HW1.out
      case measure => simp [intOf] <;> omega

set_option maxHeartbeats 1000000 in
set_option maxRecDepth 100000 in
theorem wsvar_any (W B : Nat) (sv : Value) (l : List Nat) (x : Int) (h1 : -9223372036854775808 ≤ x) (h2 : x ≤ 9223372036854775807) (w : World) (h : Wr w W B sv l) (hl : l.length ≤ 33554300) (hB : B ≤ w.heap.size) :
    Calls Tryz.prog 137 #[.pointer (some ⟨W, 0, none⟩), .int .i64 x] w (WPost W B w sv (l ++ uvar (zz x))) := by
  have K := hide (wuvar_any W B sv l (zz x) (zz_lt h1 h2) w h hl hB)
  have hz := zz_bits h1 h2
  clear h
  go_enter Tryz.func137, Tryz.ntmps137
  go_wp2_with fail
  refine K.out.mono ?_
  rintro e w1 ⟨rfl, H⟩
  have HH := hide H
  clear H
  go_wp2_with fail
  go_end0
  exact ⟨rfl, HH.out⟩
end Go.Proofs.YtfkgmodgkifelaaGreatDoor
namespace Go.Proofs.YtfkgmodgkifelaaGreatDoor
open Go.RowKit

set_option maxHeartbeats 1000000 in
set_option maxRecDepth 100000 in
theorem wstring_any (W B : Nat) (sv : Value) (l : List Nat) (w : World) (h : Wr w W B sv l) :
    Calls Tryz.prog 34 #[.pointer (some ⟨W, 0, none⟩)] w fun e w' => e = .returned (.string (strN l)) ∧ w = w' := by
  have hc : w.cell? ⟨W, 0, none⟩ = some sv := h.blk.cell 0
  have hs := ownU8_string h.own
  clear h
  go_enter Tryz.func34, Tryz.ntmps34
  go_wp2_with fail
  go_ret
  exact ⟨rfl, rfl⟩
theorem slU8_of_row8 {w : World} {b : Nat} {l : List Nat} (h : Row8 w b l) (c : Nat) (hc : l.length ≤ c) (hl : l.length ≤ maxLen) : SlU8 w (.slice (some ⟨b, 0, none⟩) l.length c) l := by
  refine ⟨hl, ?_⟩
  rcases Nat.eq_zero_or_pos l.length with h0 | h0
  · exact .inl ⟨h0, _, c, by rw [h0], fun h => by cases h⟩
  · exact .inr ⟨h0, b, 0, c, rfl, hc, h.1, fun i hi => by rw [Nat.zero_add]; exact h.cell hi⟩
set_option maxHeartbeats 1000000 in
set_option maxRecDepth 100000 in
theorem wraw_any (W B : Nat) (sv : Value) (l : List Nat) (s : ByteArray) (hs : s.size ≤ 33000000) (w : World) (h : Wr w W B sv l) (hl : l.length ≤ 500000) (hB : B ≤ w.heap.size) :
    Calls Tryz.prog 39 #[.pointer (some ⟨W, 0, none⟩), .string s] w (WPost W B w sv (l ++ bn s)) := by
  have hcv := fun w => run_bytes_of_string (P := Tryz.prog) w 9 75 5 s Tryz.underlying9 Tryz.underlying75 Tryz.underlying5
  have K : Hid (∀ C n m, s.size ≤ C → s.size ≤ n → Calls Tryz.prog 73 #[.pointer (some ⟨W, 0, none⟩), .slice (some ⟨w.heap.size, 0, none⟩) s.size C] ((w.alloc (.cells (bytesRow s C) 5 (n, m))).drew) (WPost W B w sv (l ++ bn s))) := by
    intro C n m hC hn
    have h0 : Below w.heap.size w ((w.alloc (.cells (bytesRow s C) 5 (n, m))).drew) := ((Below.refl _ _).alloc (Nat.le_refl _) _).drew
    have hb := bn_len s
    have h1 := slU8_of_row8 (row8_made w s C 5 n m hn).drew C (by omega) (by unfold maxLen; omega)
    rw [hb] at h1
    refine (put_any W B sv l _ (bn s) _ (h.below h0) h1 (by omega) (by simp [World.drew]; omega)).mono ?_
    rintro e w' ⟨he, sv', h1, h2⟩
    exact ⟨he, sv', h1, WS.ahead h0 h2⟩
  clear h
  have hG := hide (fun w => grownCap_ge w s.size 0 5)
  go_enter Tryz.func39, Tryz.ntmps39
  go_wp2_with fail
  refine (K.out _ _ _ (hG.out _) (by unfold bytesRow; simp)).mono ?_
  rintro e w1 ⟨rfl, H⟩
  have HH := hide H
  clear H
  go_wp2_with fail
  go_end0
  exact ⟨rfl, HH.out⟩
set_option maxHeartbeats 1000000 in
set_option maxRecDepth 100000 in
theorem wtext_any (W B : Nat) (sv : Value) (l : List Nat) (s : ByteArray) (hs : s.size ≤ 33000000) (w : World) (h : Wr w W B sv l) (hl : l.length ≤ 400000) (hB : B ≤ w.heap.size) :
    Calls Tryz.prog 30 #[.pointer (some ⟨W, 0, none⟩), .string s] w (WPost W B w sv (l ++ (uvar s.size ++ bn s))) := by
  have K := hide (wuvar_any W B sv l s.size (by omega) w h (by omega) hB)
  have hu := hide (uvar_len10 (x := s.size) (by omega))
  clear h
  go_enter Tryz.func30, Tryz.ntmps30
  go_wp2_with fail
  refine K.out.mono ?_
  rintro e w1 ⟨rfl, sv1, hw1, hs1⟩
  have K1 := hide (wraw_any W B sv1 (l ++ uvar s.size) s hs w1 hw1 (by rw [List.length_append]; have := hu.out; omega) (Nat.le_trans hB hs1.fr.size))
  have HS1 := hide hs1
  clear hw1 hs1
  go_wp2_with fail
  refine K1.out.mono ?_
  rintro e w2 ⟨rfl, sv2, hw2, hs2⟩
  have HW2 := hide hw2
  have HS2 := hide hs2
  clear hw2 hs2
  go_wp2_with fail
  go_end0
  exact ⟨rfl, sv2, by rw [← List.append_assoc]; exact HW2.out, HS1.out.trans HS2.out⟩
end Go.Proofs.YtfkgmodgkifelaaGreatDoor
namespace Go.Proofs.YtfkgmodgkifelaaGreatDoor
open Go.RowKit

theorem Fr.drewN (w : World) (n : Nat) (P : Nat → Prop) : Fr w (w.drewN n) P := ⟨rfl, rfl, rfl, Nat.le_refl _, fun _ _ _ => rfl⟩
/-- A reader: its text, its place, its error. -/
def Rd (w : World) (R : Nat) (s : ByteArray) (p e : Nat) : Prop := Blk w R 115 #[.string s, .int .i64 (p : Nat), .int .i64 (e : Nat)]
theorem Rd.below {w w' : World} {R : Nat} {s : ByteArray} {p e : Nat} (h : Rd w R s p e) (hb : Below w.heap.size w w') : Rd w' R s p e := Blk.below h hb (Blk.lt h)
theorem Rd.c0 {w : World} {R : Nat} {s : ByteArray} {p e : Nat} (h : Rd w R s p e) : w.cell? ⟨R, 0, none⟩ = some (.string s) := Blk.cell h 0
theorem Rd.c1 {w : World} {R : Nat} {s : ByteArray} {p e : Nat} (h : Rd w R s p e) : w.cell? ⟨R, 1, none⟩ = some (.int .i64 (p : Nat)) := Blk.cell h 1
theorem Rd.c2 {w : World} {R : Nat} {s : ByteArray} {p e : Nat} (h : Rd w R s p e) : w.cell? ⟨R, 2, none⟩ = some (.int .i64 (e : Nat)) := Blk.cell h 2
/-- How a call of a reader ends. -/
def RPost (R : Nat) (w : World) (s : ByteArray) (v : Value) (p' e' : Nat) (e : Ending) (w' : World) : Prop :=
  e = .returned v ∧ Rd w' R s p' e' ∧ Fr w w' (fun k => k = R)
set_option maxHeartbeats 1000000 in
set_option maxRecDepth 100000 in
theorem take_err (R : Nat) (s : ByteArray) (p e : Nat) (n : Int) (he : 0 < e) (w : World) (h : Rd w R s p e) :
    Calls Tryz.prog 95 #[.pointer (some ⟨R, 0, none⟩), .int .i64 n] w fun r w' => r = .returned (.string { data := #[] }) ∧ w = w' := by
  have hc := h.c2
  clear h
  go_enter Tryz.func95, Tryz.ntmps95
  go_wp2_with fail
  go_ret
  exact ⟨rfl, rfl⟩
set_option maxHeartbeats 1000000 in
set_option maxRecDepth 100000 in
theorem take_short (R : Nat) (s : ByteArray) (p n : Nat) (hp : p ≤ s.size) (hs : s.size ≤ maxLen) (hn : s.size < p + n) (w : World) (h : Rd w R s p 0) :
    Calls Tryz.prog 95 #[.pointer (some ⟨R, 0, none⟩), .int .i64 (n : Nat)] w (RPost R w s (.string { data := #[] }) p 10) := by
  unfold maxLen at hs
  have hc0 := h.c0
  have hc1 := h.c1
  have hc2 : w.cell? ⟨R, 2, none⟩ = some (.int .i64 0) := h.c2
  have hf2 := Blk.frozen h 2
  have HR := hide h
  clear h
  go_enter Tryz.func95, Tryz.ntmps95
  go_wp2_with fail
  go_quiet (fail)
  go_wp2_with fail
  go_ret
  exact ⟨rfl, Blk.set HR.out 2 _, (Fr.drewN w _ _).trans (Fr.setCell _ _ _) (fun _ _ h => h)⟩
set_option maxHeartbeats 1000000 in
set_option maxRecDepth 100000 in
theorem take_ok (R : Nat) (s : ByteArray) (p n : Nat) (hs : s.size ≤ maxLen) (hn : p + n ≤ s.size) (w : World) (h : Rd w R s p 0) :
    Calls Tryz.prog 95 #[.pointer (some ⟨R, 0, none⟩), .int .i64 (n : Nat)] w (RPost R w s (.string (s.extract p (p + n))) (p + n) 0) := by
  unfold maxLen at hs
  have hc0 := h.c0
  have hc1 := h.c1
  have hc2 : w.cell? ⟨R, 2, none⟩ = some (.int .i64 0) := h.c2
  have hf1 := Blk.frozen h 1
  have HR := hide h
  clear h
  go_enter Tryz.func95, Tryz.ntmps95
  go_wp2_with fail
  go_quiet (fail)
  go_wp2_with fail
  go_quiet (fail)
  go_wp2_with fail
  go_ret
  exact ⟨rfl, Blk.set HR.out 1 _, (Fr.drewN w _ _).trans (Fr.setCell _ _ _) (fun _ _ h => h)⟩
end Go.Proofs.YtfkgmodgkifelaaGreatDoor
namespace Go.Proofs.YtfkgmodgkifelaaGreatDoor
open Go.RowKit

theorem or_shift (y b m : Nat) (hy : y < 2 ^ m) (h64 : y < 18446744073709551616) (hb : b * 2 ^ m < 18446744073709551616) : bits .or .u64 (y : Int) (IntKind.u64.wrap ((b : Int) * 2 ^ m)) = ((y + b * 2 ^ m : Nat) : Int) := by
  have h1 : (b : Int) * 2 ^ m = ((b * 2 ^ m : Nat) : Int) := by simp
  have h2 := Nat.two_pow_add_eq_or_of_lt hy b
  rw [h1, IntKind.wrap_u64, show (((b * 2 ^ m : Nat) : Int) % 18446744073709551616) = ((b * 2 ^ m : Nat) : Int) by omega]
  rw [u64_or_nat _ _ h64 hb, Nat.or_comm, Nat.mul_comm b, ← h2, Nat.add_comm]
theorem or_shift8 (y b k : Nat) (hk : k < 8) (hy : y < 256 ^ k) (hb : b < 256) : bits .or .u64 (y : Int) (IntKind.u64.wrap ((b : Int) * 2 ^ (8 * k))) = ((y + b * 256 ^ k : Nat) : Int) ∧ y + b * 256 ^ k < 256 ^ (k + 1) := by
  have e : 256 ^ k = 2 ^ (8 * k) := by rw [Nat.pow_mul]
  have h1 : y + b * 256 ^ k < 256 ^ (k + 1) := by
    have := Nat.mul_le_mul_right (256 ^ k) (show b + 1 ≤ 256 by omega)
    rw [Nat.pow_succ, Nat.mul_comm (256 ^ k)]
    rw [Nat.add_mul] at this
    omega
  have h2 : 256 ^ (k + 1) ≤ 256 ^ 8 := Nat.pow_le_pow_right (by omega) (by omega)
  have h3 : 256 ^ 8 = 18446744073709551616 := by decide
  refine ⟨?_, h1⟩
  rw [e] at hy h1 ⊢
  exact or_shift y b (8 * k) hy (by omega) (by omega)
set_option maxHeartbeats 1000000 in
set_option maxRecDepth 100000 in
theorem rfixed_of (R : Nat) (s : ByteArray) (p' e' n : Nat) (t : ByteArray) (ht : t.size ≤ 8) (w : World)
    (K : Hid (Calls Tryz.prog 95 #[.pointer (some ⟨R, 0, none⟩), .int .i64 (n : Nat)] w (RPost R w s (.string t) p' e'))) :
    Calls Tryz.prog 85 #[.pointer (some ⟨R, 0, none⟩), .int .i64 (n : Nat)] w (RPost R w s (.int .u64 (le (bn t) : Nat)) p' e') := by
  have hcv := fun w => run_bytes_of_string (P := Tryz.prog) w 9 75 5 t Tryz.underlying9 Tryz.underlying75 Tryz.underlying5
  go_enter Tryz.func85, Tryz.ntmps85
  go_wp2_with fail
  refine K.out.mono ?_
  rintro e w1 ⟨rfl, hr1, hf1⟩
  have HR1 := hide hr1
  have HF1 := hide hf1
  clear hr1 hf1
  go_wp2_with fail
  generalize hC : grownCap w1 t.size 0 5 = C
  have HR : Row8 ((w1.alloc (Obj.cells (bytesRow t C) 5 ((bytesRow t C).size, (bytesRow t C).size + 1))).drew) w1.heap.size (bn t) :=
    row8_made w1 t C 5 (bytesRow t C).size ((bytesRow t C).size + 1) (by unfold bytesRow; simp)
  have HB : Below w1.heap.size w1 ((w1.alloc (Obj.cells (bytesRow t C) 5 ((bytesRow t C).size, (bytesRow t C).size + 1))).drew) := ((Below.refl _ _).alloc (Nat.le_refl _) _).drew
  have HB' := hide HB
  clear hC hcv HB
  generalize ((w1.alloc (Obj.cells (bytesRow t C) 5 ((bytesRow t C).size, (bytesRow t C).size + 1))).drew) = W2 at *
  go_loop [5, 13] (fun x i => ∃ k : Nat, k ≤ t.size ∧ i = .int .i64 k ∧ ∃ y : Nat, Hid (y = le ((bn t).take k)) ∧ y < 256 ^ k ∧ x = .int .u64 y) (fun _ i => t.size - (intOf i).toNat)
  case atStart => exact ⟨0, by omega, rfl, 0, rfl, by simp, rfl⟩
  case round =>
    obtain ⟨k, hk, rfl, y, HY, hy, rfl⟩ := hrel
    by_cases hlt : k < t.size
    · have hc := HR.cell (i := k) (by rw [bn_len]; exact hlt)
      have hb : (bn t).getD k 0 < 256 := by
        rw [List.getD_eq_getElem?_getD, List.getElem?_eq_getElem (by rw [bn_len]; exact hlt)]
        exact bn_lt t _ (List.getElem_mem _)
      have HN : Hid (le ((bn t).take (k + 1)) = le ((bn t).take k) + (bn t).getD k 0 * 256 ^ k) := by
        have hkl : k < (bn t).length := by rw [bn_len]; exact hlt
        show _ = _
        rw [List.take_succ_eq_append_getElem hkl, le_snoc, List.length_take, Nat.min_eq_left (by omega), List.getD_eq_getElem?_getD, List.getElem?_eq_getElem hkl]
        rfl
      generalize (bn t).getD k 0 = b at hc hb HN
      obtain ⟨hor, hlt'⟩ := or_shift8 y b k (by omega) hy hb
      have HL := hide hlt'
      clear hlt'
      go_wp2_with fail
      go_round
      case rel => exact ⟨k + 1, by omega, by go_num, y + b * 256 ^ k, by show _ = _; rw [HN.out, ← HY.out], HL.out, rfl⟩
      case measure => simp [intOf] <;> omega
    · have hk8 : k = t.size := by omega
      go_wp2_with fail
      go_ret
      subst hk8
      have hy' : y = le (bn t) := by rw [HY.out, List.take_of_length_le (by rw [bn_len]; omega)]
      exact ⟨by rw [hy']; rfl, Rd.below HR1.out HB'.out, HF1.out.trans (Fr.of_below HB'.out _) (fun _ _ h => h)⟩
theorem bn_extract (s : ByteArray) (a b : Nat) (_h : b ≤ s.size) : bn (s.extract a b) = ((bn s).drop a).take (b - a) := by
  simp only [bn, ByteArray.data_extract, Array.toList_extract, List.extract_eq_take_drop, List.map_take, List.map_drop]
theorem rfixed_err (R : Nat) (s : ByteArray) (p e n : Nat) (he : 0 < e) (w : World) (h : Rd w R s p e) :
    Calls Tryz.prog 85 #[.pointer (some ⟨R, 0, none⟩), .int .i64 (n : Nat)] w (RPost R w s (.int .u64 0) p e) := by
  refine (rfixed_of R s p e n { data := #[] } (by decide) w ((take_err R s p e n he w h).mono ?_)).mono (fun _ _ h => h)
  rintro r w' ⟨rfl, rfl⟩
  exact ⟨rfl, h, Fr.refl _ _⟩
theorem rfixed_short (R : Nat) (s : ByteArray) (p n : Nat) (hp : p ≤ s.size) (hs : s.size ≤ maxLen) (hn : s.size < p + n) (w : World) (h : Rd w R s p 0) :
    Calls Tryz.prog 85 #[.pointer (some ⟨R, 0, none⟩), .int .i64 (n : Nat)] w (RPost R w s (.int .u64 0) p 10) :=
  rfixed_of R s p 10 n { data := #[] } (by decide) w (take_short R s p n hp hs hn w h)
theorem rfixed_ok (R : Nat) (s : ByteArray) (p n : Nat) (h8 : n ≤ 8) (hs : s.size ≤ maxLen) (hn : p + n ≤ s.size) (w : World) (h : Rd w R s p 0) :
    Calls Tryz.prog 85 #[.pointer (some ⟨R, 0, none⟩), .int .i64 (n : Nat)] w (RPost R w s (.int .u64 (le (((bn s).drop p).take n) : Nat)) (p + n) 0) := by
  have := rfixed_of R s (p + n) 0 n (s.extract p (p + n)) (by rw [ByteArray.size_extract]; omega) w (take_ok R s p n hs hn w h)
  rw [bn_extract _ _ _ hn, Nat.add_sub_cancel_left] at this
  exact this
end Go.Proofs.YtfkgmodgkifelaaGreatDoor
namespace Go.Proofs.YtfkgmodgkifelaaGreatDoor
open Go.RowKit

/-- So many bytes as a number. -/
def num (n : Nat) (D : List Nat) : Nat × Nat × Nat := if D.length < n then (0, 0, 10) else (le (D.take n), n, 0)
/-- The answer of a reader, its new place, its new error. -/
def st (s : ByteArray) (p e : Nat) (f : List Nat → Nat × Nat × Nat) : Nat × Nat × Nat :=
  if e = 0 then ((f ((bn s).drop p)).1, p + (f ((bn s).drop p)).2.1, (f ((bn s).drop p)).2.2) else (0, p, e)
theorem rfixed_any (R : Nat) (s : ByteArray) (p e n : Nat) (h8 : n ≤ 8) (hs : s.size ≤ maxLen) (hp : p ≤ s.size) (w : World) (h : Rd w R s p e) :
    Calls Tryz.prog 85 #[.pointer (some ⟨R, 0, none⟩), .int .i64 (n : Nat)] w (RPost R w s (.int .u64 ((st s p e (num n)).1 : Nat)) (st s p e (num n)).2.1 (st s p e (num n)).2.2) := by
  unfold st
  by_cases he : e = 0
  · rw [if_pos he]
    subst he
    unfold num
    rw [List.length_drop, bn_len]
    by_cases hn : s.size - p < n
    · rw [if_pos hn]
      exact rfixed_short R s p n hp hs (by omega) w h
    · rw [if_neg hn]
      exact rfixed_ok R s p n h8 hs (by omega) w h
  · rw [if_neg he]
    exact rfixed_err R s p e n (by omega) w h
theorem num_lt (n : Nat) (D : List Nat) (h : ∀ b ∈ D, b < 256) : (num n D).1 < 256 ^ n := by
  unfold num
  split
  · exact Nat.pow_pos (by omega)
  · have h1 := le_lt (D.take n) (fun b hb => h b (List.mem_of_mem_take hb))
    rwa [List.length_take, Nat.min_eq_left (by omega)] at h1
theorem st_num_lt (s : ByteArray) (p e n : Nat) : (st s p e (num n)).1 < 256 ^ n := by
  unfold st
  split
  · exact num_lt n _ (fun b hb => bn_lt s b (List.mem_of_mem_drop hb))
  · exact Nat.pow_pos (by omega)
set_option maxHeartbeats 1000000 in
set_option maxRecDepth 100000 in
theorem ru8_any (R : Nat) (s : ByteArray) (p e : Nat) (hs : s.size ≤ maxLen) (hp : p ≤ s.size) (w : World) (h : Rd w R s p e) :
    Calls Tryz.prog 50 #[.pointer (some ⟨R, 0, none⟩)] w (RPost R w s (.int .u8 ((st s p e (num 1)).1 : Nat)) (st s p e (num 1)).2.1 (st s p e (num 1)).2.2) := by
  have K := hide (rfixed_any R s p e 1 (by omega) hs hp w h)
  have hl := st_num_lt s p e 1
  clear h
  generalize st s p e (num 1) = T at *
  have hm : (T.1 : Int) % 256 = (T.1 : Int) := by omega
  go_enter Tryz.func50, Tryz.ntmps50
  go_wp2_with fail
  refine K.out.mono ?_
  rintro e w1 ⟨rfl, hr1, hf1⟩
  have HR1 := hide hr1
  have HF1 := hide hf1
  clear hr1 hf1
  go_wp2_with fail
  go_ret
  exact ⟨rfl, HR1.out, HF1.out⟩
set_option maxHeartbeats 1000000 in
set_option maxRecDepth 100000 in
theorem ru64_any (R : Nat) (s : ByteArray) (p e : Nat) (hs : s.size ≤ maxLen) (hp : p ≤ s.size) (w : World) (h : Rd w R s p e) :
    Calls Tryz.prog 168 #[.pointer (some ⟨R, 0, none⟩)] w (RPost R w s (.int .u64 ((st s p e (num 8)).1 : Nat)) (st s p e (num 8)).2.1 (st s p e (num 8)).2.2) := by
  have K := hide (rfixed_any R s p e 8 (by omega) hs hp w h)
  clear h
  generalize st s p e (num 8) = T at *
  go_enter Tryz.func168, Tryz.ntmps168
  go_wp2_with fail
  refine K.out.mono ?_
  rintro e w1 ⟨rfl, hr1, hf1⟩
  have HR1 := hide hr1
  have HF1 := hide hf1
  clear hr1 hf1
  go_wp2_with fail
  go_ret
  exact ⟨rfl, HR1.out, HF1.out⟩
set_option maxHeartbeats 1000000 in
set_option maxRecDepth 100000 in
theorem rfail_any (R : Nat) (s : ByteArray) (p e p' e' : Nat) (w : World) (h : Rd w R s p e) :
    Calls Tryz.prog 83 #[.pointer (some ⟨R, 0, none⟩), .int .i64 (e' : Nat), .int .i64 (p' : Nat)] w (RPost R w s (.tuple #[]) p' e') := by
  have hf1 := Blk.frozen h 1
  have hf2 := Blk.frozen h 2
  have hc1 := h.c1
  have hc2 := h.c2
  have HR := hide h
  clear h
  go_enter Tryz.func83, Tryz.ntmps83
  go_wp2_with fail
  go_end0
  exact ⟨rfl, (Blk.set HR.out 2 _).set 1 _, (Fr.setCell _ _ _).trans (Fr.setCell _ _ _) (fun _ _ h => h)⟩
end Go.Proofs.YtfkgmodgkifelaaGreatDoor
namespace Go.Proofs.YtfkgmodgkifelaaGreatDoor
open Go

def toLabels (J : Nat → Act → World → Prop) (Q : Exit → Act → World → Prop) : Exit → Act → World → Prop
  | .goto l, a, w => J l a w
  | e, a, w => Q e a w
theorem wp_scope_labels {P : Program} {a : Act} {w : World} {Q : Exit → Act → World → Prop} {c : Code} (J : Nat → Act → World → Prop) (μ : Nat → Act → World → Nat)
    (first : c.wp P (toLabels J Q) a w)
    (pass : ∀ l a w, J l a w → ∃ rest, findLabel c l = some rest ∧ rest.wp P (toLabels (fun l' a' w' => J l' a' w' ∧ μ l' a' w' < μ l a w) Q) a w) : (Code.scope c).wp P Q a w := by
  intro b k cs
  have key : ∀ n l a w, μ l a w = n → J l a w → ∃ rest, findLabel c l = some rest ∧ ∃ e a' w', Q e a' w' ∧ Arrives P (lone (b.at a (.code rest :: .inScope c :: k)) cs w) b k cs e a' w' := by
    intro n
    induction n using Nat.strongRecOn with
    | _ n ih =>
      intro l a w hn hJ
      obtain ⟨rest, hf, hr⟩ := pass l a w hJ
      refine ⟨rest, hf, ?_⟩
      obtain ⟨e, a₁, w₁, hq, harr⟩ := hr b (.inScope c :: k) cs
      cases e with
      | normal => exact ⟨.normal, a₁, w₁, hq, Steps.trans harr (.one step_inScope)⟩
      | exit id => exact ⟨.exit id, a₁, w₁, hq, fun k' hk => harr k' (by simp [exitTo, hk])⟩
      | goto l' =>
        obtain ⟨hJ', hlt⟩ := hq
        obtain ⟨rest', hf', e₂, a₂, w₂, hq₂, harr₂⟩ := ih _ (by omega) l' a₁ w₁ rfl hJ'
        have hg : gotoIn l' (.inScope c :: k) = some (.code rest' :: .inScope c :: k) := by simp [gotoIn, hf']
        exact ⟨e₂, a₂, w₂, hq₂, .of_steps (harr _ hg) harr₂⟩
      | ret => exact ⟨_, a₁, w₁, hq, harr⟩
      | panic ch => exact ⟨_, a₁, w₁, hq, harr⟩
      | outgrown => exact ⟨_, a₁, w₁, hq, harr⟩
  obtain ⟨e, a₁, w₁, hq, harr⟩ := first b (.inScope c :: k) cs
  cases e with
  | normal => exact ⟨.normal, a₁, w₁, hq, .head step_scope (Steps.trans harr (.one step_inScope))⟩
  | exit id => exact ⟨.exit id, a₁, w₁, hq, fun k' hk => .head step_scope (harr k' (by simp [exitTo, hk]))⟩
  | goto l' =>
    obtain ⟨rest', hf', e₂, a₂, w₂, hq₂, harr₂⟩ := key _ l' a₁ w₁ rfl hq
    have hg : gotoIn l' (.inScope c :: k) = some (.code rest' :: .inScope c :: k) := by simp [gotoIn, hf']
    exact ⟨e₂, a₂, w₂, hq₂, .of_steps (.head step_scope (harr _ hg)) harr₂⟩
  | ret => exact ⟨_, a₁, w₁, hq, .of_steps (.one step_scope) harr⟩
  | panic ch => exact ⟨_, a₁, w₁, hq, .of_steps (.one step_scope) harr⟩
  | outgrown => exact ⟨_, a₁, w₁, hq, .of_steps (.one step_scope) harr⟩
theorem toLabels.mono {J J' : Nat → Act → World → Prop} {Q : Exit → Act → World → Prop} (h : ∀ l a w, J l a w → J' l a w) : ∀ e a w, toLabels J Q e a w → toLabels J' Q e a w := by
  intro e a w hq
  cases e <;> first | exact h _ _ _ hq | exact hq
/-- .. the first run ends at a label, or goes over to what is proved of the jumps. -/
theorem wp_scope_labels2 {P : Program} {a : Act} {w : World} {Q : Exit → Act → World → Prop} {c : Code} (J : Nat → Act → World → Prop) (μ : Nat → Act → World → Nat)
    (pass : ∀ l a w, J l a w → ∃ rest, findLabel c l = some (.seq .skip rest) ∧ rest.wp P (toLabels (fun l' a' w' => J l' a' w' ∧ μ l' a' w' < μ l a w) Q) a w)
    (first : (∀ l a w rest, J l a w → findLabel c l = some (.seq .skip rest) → rest.wp P (toLabels J Q) a w) → c.wp P (toLabels J Q) a w) : (Code.scope c).wp P Q a w :=
  wp_scope_labels J μ (first (fun l a w rest hJ hf => by
    obtain ⟨rest', hf', hr⟩ := pass l a w hJ
    rw [hf] at hf'
    injection hf' with e
    injection e with _ e
    subst e
    exact wp_mono hr (toLabels.mono (fun _ _ _ h => h.1)))) (fun l a w hJ => by
    obtain ⟨rest', hf', hr⟩ := pass l a w hJ
    exact ⟨_, hf', wp_seq (wp_skip hr)⟩)
end Go.Proofs.YtfkgmodgkifelaaGreatDoor
