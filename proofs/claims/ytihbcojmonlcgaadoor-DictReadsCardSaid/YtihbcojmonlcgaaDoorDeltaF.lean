/- A point's parts: what the calls give at whole numbers. -/
import Derived.Test.YtihbcojmonlcgaaDoorDeltaW
namespace Go.Proofs.YtihbcojmonlcgaaDoor
open Go.RowKit

/-- A float that is a whole number that may be. -/
structure Wh (x : Nat) (n : Int) : Prop where
  ge : (FloatKind.f64.format.order x 14069245235905429504 == some .gt || FloatKind.f64.format.order x 14069245235905429504 == some .eq) = true
  le : (FloatKind.f64.format.order x 4845873199050653696 == some .lt || FloatKind.f64.format.order x 4845873199050653696 == some .eq) = true
  lt : (FloatKind.f64.format.order x 14069245235905429504 == some .lt) = false
  gt : (FloatKind.f64.format.order x 4845873199050653696 == some .gt) = false
  ne : (FloatKind.f64.format.order x x != some .eq) = false
  ti : floatToIntVal .f64 x .i64 = some n
  fi : (FloatKind.f64.format.order (floatOfInt .f64 n) x == some .eq) = true
theorem wh0 : Wh 0 0 := ⟨by kernel_rfl, by kernel_rfl, by kernel_rfl, by kernel_rfl, by kernel_rfl, by kernel_rfl, by kernel_rfl⟩
theorem wh1 : Wh 4607182418800017408 1 := ⟨by kernel_rfl, by kernel_rfl, by kernel_rfl, by kernel_rfl, by kernel_rfl, by kernel_rfl, by kernel_rfl⟩
theorem to_m0 : floatToIntVal .f64 9223372036854775808 .i64 = some 0 := by kernel_rfl
theorem to_m1 : floatToIntVal .f64 13830554455654793216 .i64 = some (-1) := by kernel_rfl
theorem step01 : cSumBits .sub .f64 4607182418800017408 0 0 0 = some (4607182418800017408, 0) := by kernel_rfl
theorem step12 : cSumBits .sub .f64 4607182418800017408 4607182418800017408 4607182418800017408 0 = some (0, 4607182418800017408) := by kernel_rfl
set_option maxHeartbeats 1000000 in
set_option maxRecDepth 100000 in
theorem dwhole_any (x : Nat) (n : Int) (h : Wh x n) (w : World) :
    Calls Tryd.prog 110 #[.float .f64 x] w fun e w' => e = .returned (.bool true) ∧ w = w' := by
  have h1 := h.ge
  have h2 := h.le
  have h3 := h.fi
  have h4 := fun w => run_convert_float_int (P := Tryd.prog) w 77 2 .f64 .i64 x n (by kernel_rfl) Tryd.underlying2 h.ti
  clear h
  go_enter Tryd.func110, Tryd.ntmps110
  go_wp2_with fail
  go_ret
  exact ⟨rfl, rfl⟩
set_option maxHeartbeats 1000000 in
set_option maxRecDepth 100000 in
theorem pwhole_any (x : Nat) (n : Int) (h : Wh x n) (w : World) :
    Calls Tryd.prog 114 #[.float .f64 x] w fun e w' => e = .returned (.tuple #[.int .i64 n, .bool true]) ∧ w = w' := by
  have h1 := h.lt
  have h2 := h.gt
  have h5 := h.ne
  have h3 := h.fi
  have h4 := fun w => run_convert_float_int (P := Tryd.prog) w 77 2 .f64 .i64 x n (by kernel_rfl) Tryd.underlying2 h.ti
  clear h
  go_enter Tryd.func114, Tryd.ntmps114
  go_wp2_with fail
  go_ret2
  exact ⟨rfl, rfl⟩
set_option maxHeartbeats 1000000 in
set_option maxRecDepth 100000 in
theorem dsum_any (x y : Nat) (n m : Int) (hx : floatToIntVal .f64 x .i64 = some n) (hy : floatToIntVal .f64 y .i64 = some m) (h1 : -1 ≤ n ∧ n ≤ 1) (h2 : -1 ≤ m ∧ m ≤ 1) (w : World) :
    Calls Tryd.prog 96 #[.float .f64 x, .float .f64 y] w fun e w' => e = .returned (.bool true) ∧ w = w' := by
  have h4 := fun w => run_convert_float_int (P := Tryd.prog) w 77 2 .f64 .i64 x n (by kernel_rfl) Tryd.underlying2 hx
  have h5 := fun w => run_convert_float_int (P := Tryd.prog) w 77 2 .f64 .i64 y m (by kernel_rfl) Tryd.underlying2 hy
  clear hx hy
  have h6 : wrap64 (n + m) = n + m := by unfold wrap64; omega
  have h7 : decide (-9007199254740992 ≤ n + m) = true := by simp; omega
  have h8 : decide (n + m ≤ 9007199254740992) = true := by simp; omega
  go_enter Tryd.func96, Tryd.ntmps96
  go_wp2_with fail
  go_ret
  exact ⟨rfl, rfl⟩
set_option maxHeartbeats 1000000 in
set_option maxRecDepth 100000 in
theorem may_any (x y : Nat) (n m : Int) (hx : Wh x n) (hy : Wh y m) (w : World) :
    Calls Tryd.prog 95 #[.complex .f64 x y] w fun e w' => e = .returned (.bool true) ∧ w = w' := by
  have K1 := hide (dwhole_any x n hx w)
  have K2 := hide (dwhole_any y m hy w)
  clear hx hy
  go_enter Tryd.func95, Tryd.ntmps95
  go_wp2_with fail
  refine K1.out.mono ?_
  rintro e w1 ⟨rfl, rfl⟩
  go_wp2_with fail
  refine K2.out.mono ?_
  rintro e w1 ⟨rfl, rfl⟩
  go_wp2_with fail
  go_ret
  exact ⟨rfl, rfl⟩
set_option maxHeartbeats 1000000 in
set_option maxRecDepth 100000 in
theorem reach_any (x y z t : Nat) (n m k j : Int) (hx : floatToIntVal .f64 x .i64 = some n) (hy : floatToIntVal .f64 y .i64 = some m) (hz : floatToIntVal .f64 z .i64 = some k) (ht : floatToIntVal .f64 t .i64 = some j) (h1 : -1 ≤ n ∧ n ≤ 1) (h2 : -1 ≤ m ∧ m ≤ 1) (h3 : -1 ≤ k ∧ k ≤ 1) (h4 : -1 ≤ j ∧ j ≤ 1) (w : World) :
    Calls Tryd.prog 51 #[.complex .f64 x y, .complex .f64 z t] w fun e w' => e = .returned (.bool true) ∧ w = w' := by
  have K1 := hide (dsum_any x z n k hx hz h1 h3 w)
  have K2 := hide (dsum_any y t m j hy ht h2 h4 w)
  clear hx hy hz ht h1 h2 h3 h4
  go_enter Tryd.func51, Tryd.ntmps51
  go_wp2_with fail
  refine K1.out.mono ?_
  rintro e w1 ⟨rfl, rfl⟩
  go_wp2_with fail
  refine K2.out.mono ?_
  rintro e w1 ⟨rfl, rfl⟩
  go_wp2_with fail
  go_ret
  exact ⟨rfl, rfl⟩
set_option maxHeartbeats 1000000 in
set_option maxRecDepth 100000 in
theorem point_any (W B : Nat) (sv : Value) (l : List Nat) (x y : Nat) (n m : Int) (hx : Wh x n) (hy : Wh y m) (h1 : -9 ≤ n ∧ n ≤ 9) (h2 : -9 ≤ m ∧ m ≤ 9) (w : World) (h : Wr w W B sv l) (hl : l.length ≤ 1000) (hB : B ≤ w.heap.size) :
    Calls Tryd.prog 106 #[.pointer (some ⟨W, 0, none⟩), .complex .f64 x y] w (WPost W B w sv (l ++ (uvar (zz n) ++ uvar (zz m)))) := by
  have K1 := hide (pwhole_any x n hx w)
  have K2 := hide (pwhole_any y m hy w)
  have K3 := hide (wsvar_any W B sv l n (by omega) (by omega) w h (by omega) hB)
  have hL : (l ++ uvar (zz n)).length ≤ 1100 := by
    have := uvar_len10 (zz_lt (x := n) (by omega) (by omega))
    rw [List.length_append]; omega
  have HL := hide hL
  have K4 := hide (fun (w1 : World) (sv1 : Value) (hw : Wr w1 W B sv1 (l ++ uvar (zz n))) (hb : B ≤ w1.heap.size) => wsvar_any W B sv1 (l ++ uvar (zz n)) m (by omega) (by omega) w1 hw (by have := HL.out; omega) hb)
  clear hx hy h hL
  have HB := hide hB
  clear hB h1 h2 hl
  go_enter Tryd.func106, Tryd.ntmps106
  go_wp2_with fail
  refine K1.out.mono ?_
  rintro e w1 ⟨rfl, rfl⟩
  go_wp2_with fail
  refine K2.out.mono ?_
  rintro e w1 ⟨rfl, rfl⟩
  go_wp2_with fail
  refine K3.out.mono ?_
  rintro e w1 ⟨rfl, sv1, hw1, hs1⟩
  have KK := hide (K4.out w1 sv1 hw1 (Nat.le_trans HB.out hs1.fr.size))
  have HS1 := hide hs1
  clear hw1 hs1
  go_wp2_with fail
  refine KK.out.mono ?_
  rintro e w2 ⟨rfl, sv2, hw2, hs2⟩
  have HW2 := hide hw2
  have HS2 := hide hs2
  clear hw2 hs2
  go_wp2_with fail
  go_end0
  exact ⟨rfl, sv2, by rw [← List.append_assoc]; exact HW2.out, HS1.out.trans HS2.out⟩
set_option maxHeartbeats 1000000 in
set_option maxRecDepth 100000 in
theorem pput_any (W B : Nat) (sv : Value) (l : List Nat) (x y : Nat) (n m : Int) (hx : Wh x n) (hy : Wh y m) (h1 : -9 ≤ n ∧ n ≤ 9) (h2 : -9 ≤ m ∧ m ≤ 9) (w : World) (h : Wr w W B sv l) (hl : l.length ≤ 1000) (hB : B ≤ w.heap.size) :
    Calls Tryd.prog 85 #[.pointer (some ⟨W, 0, none⟩), .int .i64 6, cl 0 0 x y] w (WPost W B w sv (l ++ (uvar (zz n) ++ uvar (zz m)))) := by
  have HX := hide hx
  have HY := hide hy
  have HB := hide hB
  have HW := hide h
  have K := hide (fun (o : Obj) => point_any W B sv l x y n m hx hy h1 h2 (w.alloc o) (h.below ((Below.refl _ _).alloc (Nat.le_refl _) _)) hl (by simp; omega))
  clear hx hy h hB h1 h2 hl
  unfold cl
  go_enter Tryd.func85, Tryd.ntmps85
  go_wp2_with fail
  refine (K.out _).mono ?_
  rintro e w1 ⟨rfl, sv1, hw1, hs1⟩
  have HW1 := hide hw1
  have HS1 := hide (WS.ahead ((Below.refl w.heap.size w).alloc (Nat.le_refl _) _) hs1)
  clear hw1 hs1
  go_wp2_with fail
  go_end0
  exact ⟨rfl, sv1, HW1.out, HS1.out⟩
end Go.Proofs.YtihbcojmonlcgaaDoor
