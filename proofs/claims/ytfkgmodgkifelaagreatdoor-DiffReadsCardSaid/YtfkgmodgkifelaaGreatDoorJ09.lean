/- Numbers by their steps, in plain lists. Steps of cells: what each call gives. A point's parts: what the calls give at whole numbers. A region's lexical order, shown by a cheap walk over its list. Two lists of cells that are the same, part by part. Cells one behind the other: plain.Encode's loop, over any contracts of plain.Put; and the chapter's examples. -/
import Derived.Test.YtfkgmodgkifelaaGreatDoorJ02
import Derived.WalkKit
import Derived.Test.YtfkgmodgkifelaaGreatDoorJ03
import Derived.WalkLawsBesides
import Derived.Test.YtfkgmodgkifelaaGreatDoorJ01
import Derived.BigQuiet
import Derived.Test.YtfkgmodgkifelaaGreatDoorProg
import Derived.Test.YtfkgmodgkifelaaGreatDoorJ07
namespace Go.Proofs.YtfkgmodgkifelaaGreatDoor
open Go Go.RowKit
theorem wrap64_range (x : Int) : -9223372036854775808 ≤ wrap64 x ∧ wrap64 x ≤ 9223372036854775807 := by unfold wrap64; omega
/-- Numbers, each told by how far it is from the one ahead. -/
def encD : Int → List Int → List Nat
  | _, [] => []
  | p, x :: l => uvar (zz (wrap64 (x - p))) ++ encD x l
/-- .. the number behind some. -/
def lastD (p : Int) (l : List Int) : Int := (l.getLast?).getD p
theorem lastD_snoc (p : Int) (l : List Int) (x : Int) : lastD p (l ++ [x]) = x := by simp [lastD]
theorem encD_snoc (l : List Int) : ∀ (p x : Int), encD p (l ++ [x]) = encD p l ++ uvar (zz (wrap64 (x - lastD p l))) := by
  induction l with
  | nil => intro p x; simp [encD, lastD]
  | cons y l ih =>
    intro p x
    rw [List.cons_append, encD, ih, encD, List.append_assoc]
    congr 4
    unfold lastD
    cases l with
    | nil => rfl
    | cons z l => simp [List.getLast?_cons]
def mv (d x : Int) : Int := wrap64 (x + d)
theorem mv_step (d x y : Int) : wrap64 (mv d x - mv d y) = wrap64 (x - y) := by unfold mv wrap64; omega
theorem encD_mv (d : Int) (l : List Int) : ∀ p, encD (mv d p) (l.map (mv d)) = encD p l := by
  induction l with
  | nil => intro p; rfl
  | cons x l ih => intro p; rw [List.map_cons, encD, ih, encD, mv_step]
theorem step_len (x : Int) : (uvar (zz (wrap64 x))).length ≤ 10 := uvar_len10 (zz_lt (wrap64_range x).1 (wrap64_range x).2)
theorem encD_len (l : List Int) : ∀ p, (encD p l).length ≤ 10 * l.length := by
  induction l with
  | nil => intro p; simp [encD]
  | cons x l ih =>
    intro p
    have h1 := step_len (x - p)
    have h2 := ih x
    rw [encD, List.length_append, List.length_cons]
    omega
theorem encD_lt (l : List Int) : ∀ p, ∀ b ∈ encD p l, b < 256 := by
  induction l with
  | nil => intro p b hb; simp [encD] at hb
  | cons x l ih =>
    intro p b hb
    rw [encD] at hb
    rcases List.mem_append.1 hb with hb | hb
    · exact uvar_lt _ b hb
    · exact ih x b hb
end Go.Proofs.YtfkgmodgkifelaaGreatDoor
namespace Go.Proofs.YtfkgmodgkifelaaGreatDoor
open Go.RowKit

/-- A cell whose string is empty, nothing missing. -/
def cl (x : Int) (u : Int) (p q : Nat) : Value := .agg #[.bool false, .bool false, .int .i64 x, .int .u64 u, .string ByteArray.empty, .complex .f64 p q]
theorem row3 (w : World) (a b c : Obj) : (((w.alloc a).alloc b).alloc c).heap[w.heap.size + 1 + 1]? = some c := by
  have h := heap_alloc_new ((w.alloc a).alloc b) c
  rwa [show ((w.alloc a).alloc b).heap.size = w.heap.size + 1 + 1 by simp] at h
theorem results_cell_tmp_row {fn : Func} {p u : Tmp} {ty : TypeId} (h : fn.results = #[.cell p ty, .tmp u]) (tmps : Array Value) (P : Program) (w : World) (g : Nat) (t : TypeId) (cs : Array Value) (fr : Nat × Nat) {fs : Array Field}
    (hp : tmps.getD p undef = .pointer (some ⟨g, 0, none⟩)) (hg : w.heap[g]? = some (.cells cs t fr))
    (hu : P.underlying ty = some (.struct fs)) (hi : (P.info? ty).map (·.size) = some cs.size) :
    (results fn tmps).run P w = .ok (.tuple #[.agg cs, tmps.getD u undef]) w := by
  rw [results_cell_tmp h, hp]
  simp [asAddr, run_loadVar_row w g t ty cs fr _ hg hu rfl hi, Result.andThen]
theorem setRow3 (w : World) (a b : Obj) (c c' : Array Value) (t : TypeId) : (((w.alloc a).alloc b).alloc (.cells c t)).setRow (w.heap.size + 1 + 1) c' = ((w.alloc a).alloc b).alloc (.cells c' t) := by
  have h := World.setRow_alloc_new ((w.alloc a).alloc b) c c' t
  simpa using h
theorem info_cell : (Tryz.prog.info? 45).map (·.size) = some 6 := by kernel_rfl
theorem below3 (w : World) (a b c : Obj) : Below w.heap.size w (((w.alloc a).alloc b).alloc c) := (((Below.refl _ _).alloc (Nat.le_refl _) _).alloc (by simp) _).alloc (by simp; omega) _
set_option maxHeartbeats 1000000 in
set_option maxRecDepth 100000 in
theorem step_int (a b u v : Int) (p q p1 q1 : Nat) (w : World) :
    Calls Tryz.prog 136 #[.int .i64 2, cl a u p q, cl b v p1 q1] w fun e w' => e = .returned (.tuple #[cl (wrap64 (b - a)) 0 0 0, .int .i64 0]) ∧ Below w.heap.size w w' := by
  unfold cl
  have H3 := hide (row3 w)
  have HB := hide (below3 w)
  go_enter Tryz.func136, Tryz.ntmps136
  have hst := fun (w1 : World) (a1 : Addr) (m : Mode) (x y : Nat) => run_store Tryz.prog w1 a1 (.complex .f64 x y) m rfl
  go_wp2_with fail
  refine bodyPost_ret (results_cell_tmp_row rfl _ _ _ (w.heap.size + 1 + 1) 45 #[.bool false, .bool false, .int .i64 (wrap64 (b - a)), .int .u64 0, .string ByteArray.empty, .complex .f64 0 0] (0, 0) rfl (H3.out _ _ _) Tryz.underlying45 (by exact info_cell)) rfl ?_
  exact ⟨rfl, HB.out _ _ _⟩
set_option maxHeartbeats 1000000 in
set_option maxRecDepth 100000 in
theorem step_uint (a b u v : Int) (p q p1 q1 : Nat) (w : World) :
    Calls Tryz.prog 136 #[.int .i64 3, cl a u p q, cl b v p1 q1] w fun e w' => e = .returned (.tuple #[cl (wrap64 ((v - u) % 18446744073709551616)) 0 0 0, .int .i64 0]) ∧ Below w.heap.size w w' := by
  unfold cl
  have H3 := hide (row3 w)
  have HB := hide (below3 w)
  go_enter Tryz.func136, Tryz.ntmps136
  have hst := fun (w1 : World) (a1 : Addr) (m : Mode) (x y : Nat) => run_store Tryz.prog w1 a1 (.complex .f64 x y) m rfl
  go_wp2_with fail
  refine bodyPost_ret (results_cell_tmp_row rfl _ _ _ (w.heap.size + 1 + 1) 45 #[.bool false, .bool false, .int .i64 (wrap64 ((v - u) % 18446744073709551616)), .int .u64 0, .string ByteArray.empty, .complex .f64 0 0] (0, 0) rfl (H3.out _ _ _) Tryz.underlying45 (by exact info_cell)) rfl ?_
  exact ⟨rfl, HB.out _ _ _⟩
set_option maxHeartbeats 1000000 in
set_option maxRecDepth 100000 in
theorem step_point (a b u v : Int) (p q p1 q1 re im : Nat) (hc : cSumBits .sub .f64 p1 q1 p q = some (re, im)) (w : World) :
    Calls Tryz.prog 136 #[.int .i64 6, cl a u p q, cl b v p1 q1] w fun e w' => e = .returned (.tuple #[cl 0 0 re im, .int .i64 0]) ∧ Below w.heap.size w w' := by
  unfold cl
  have H3 := hide (row3 w)
  have HB := hide (below3 w)
  have hsub := fun w => run_complex_sum (P := Tryz.prog) (w := w) .sub (.inr rfl) 43 .f64 p1 q1 p q re im hc
  clear hc
  go_enter Tryz.func136, Tryz.ntmps136
  have hst := fun (w1 : World) (a1 : Addr) (m : Mode) (x y : Nat) => run_store Tryz.prog w1 a1 (.complex .f64 x y) m rfl
  go_wp2_with fail
  refine bodyPost_ret (results_cell_tmp_row rfl _ _ _ (w.heap.size + 1 + 1) 45 #[.bool false, .bool false, .int .i64 (0), .int .u64 0, .string ByteArray.empty, .complex .f64 re im] (0, 0) rfl (H3.out _ _ _) Tryz.underlying45 (by exact info_cell)) rfl ?_
  exact ⟨rfl, HB.out _ _ _⟩
set_option maxHeartbeats 1000000 in
set_option maxRecDepth 100000 in
theorem has_any (k : Int) (hk : k = 2 ∨ k = 3 ∨ k = 6) (w : World) :
    Calls Tryz.prog 135 #[.int .i64 k] w fun e w' => e = .returned (.bool true) ∧ w = w' := by
  rcases hk with rfl | rfl | rfl <;>
  · go_enter Tryz.func135, Tryz.ntmps135
    go_wp2_with fail
    go_ret
    exact ⟨rfl, rfl⟩
set_option maxHeartbeats 1000000 in
set_option maxRecDepth 100000 in
theorem dwstring_any (W B : Nat) (sv : Value) (l : List Nat) (w : World) (h : Wr w W B sv l) :
    Calls Tryz.prog 34 #[.pointer (some ⟨W, 0, none⟩)] w fun e w' => e = .returned (.string (strN l)) ∧ w = w' := by
  have hc : w.cell? ⟨W, 0, none⟩ = some sv := h.blk.cell 0
  have hs := ownU8_string h.own
  clear h
  go_enter Tryz.func34, Tryz.ntmps34
  go_wp2_with fail
  go_ret
  exact ⟨rfl, rfl⟩
end Go.Proofs.YtfkgmodgkifelaaGreatDoor
namespace Go.Proofs.YtfkgmodgkifelaaGreatDoor
open Go.RowKit

/-- A float that is a whole number that may be. -/
structure Wh (x : Nat) (n : Int) : Prop where
  ge : (FloatKind.f64.format.order x 14069245235905429504 == some .gt || FloatKind.f64.format.order x 14069245235905429504 == some .eq) = true
  le : (FloatKind.f64.format.order x 4845873199050653696 == some .lt || FloatKind.f64.format.order x 4845873199050653696 == some .eq) = true
  lt : (FloatKind.f64.format.order x 14069245235905429504 == some .lt) = false
  gt : (FloatKind.f64.format.order x 4845873199050653696 == some .gt) = false
  ne : (FloatKind.f64.format.order x x != some .eq) = false
  ti : floatToIntVal .f64 x .i64 = some n
  fi : (FloatKind.f64.format.order (floatOfInt .f64 n) x == some .eq) = true
theorem wh0 : Wh 0 0 := ⟨by kernel_rfl, by kernel_rfl, by kernel_rfl, by kernel_rfl, by kernel_rfl, by kernel_rfl, by kernel_rfl⟩
theorem wh1 : Wh 4607182418800017408 1 := ⟨by kernel_rfl, by kernel_rfl, by kernel_rfl, by kernel_rfl, by kernel_rfl, by kernel_rfl, by kernel_rfl⟩
theorem to_m0 : floatToIntVal .f64 9223372036854775808 .i64 = some 0 := by kernel_rfl
theorem to_m1 : floatToIntVal .f64 13830554455654793216 .i64 = some (-1) := by kernel_rfl
theorem step01 : cSumBits .sub .f64 4607182418800017408 0 0 0 = some (4607182418800017408, 0) := by kernel_rfl
theorem step12 : cSumBits .sub .f64 4607182418800017408 4607182418800017408 4607182418800017408 0 = some (0, 4607182418800017408) := by kernel_rfl
set_option maxHeartbeats 1000000 in
set_option maxRecDepth 100000 in
theorem dwhole_any (x : Nat) (n : Int) (h : Wh x n) (w : World) :
    Calls Tryz.prog 156 #[.float .f64 x] w fun e w' => e = .returned (.bool true) ∧ w = w' := by
  have h1 := h.ge
  have h2 := h.le
  have h3 := h.fi
  have h4 := fun w => run_convert_float_int (P := Tryz.prog) w 153 2 .f64 .i64 x n (by kernel_rfl) Tryz.underlying2 h.ti
  clear h
  go_enter Tryz.func156, Tryz.ntmps156
  go_wp2_with fail
  go_ret
  exact ⟨rfl, rfl⟩
set_option maxHeartbeats 1000000 in
set_option maxRecDepth 100000 in
theorem pwhole_any (x : Nat) (n : Int) (h : Wh x n) (w : World) :
    Calls Tryz.prog 154 #[.float .f64 x] w fun e w' => e = .returned (.tuple #[.int .i64 n, .bool true]) ∧ w = w' := by
  have h1 := h.lt
  have h2 := h.gt
  have h5 := h.ne
  have h3 := h.fi
  have h4 := fun w => run_convert_float_int (P := Tryz.prog) w 153 2 .f64 .i64 x n (by kernel_rfl) Tryz.underlying2 h.ti
  clear h
  go_enter Tryz.func154, Tryz.ntmps154
  go_wp2_with fail
  go_ret2
  exact ⟨rfl, rfl⟩
set_option maxHeartbeats 1000000 in
set_option maxRecDepth 100000 in
theorem dsum_any (x y : Nat) (n m : Int) (hx : floatToIntVal .f64 x .i64 = some n) (hy : floatToIntVal .f64 y .i64 = some m) (h1 : -1 ≤ n ∧ n ≤ 1) (h2 : -1 ≤ m ∧ m ≤ 1) (w : World) :
    Calls Tryz.prog 157 #[.float .f64 x, .float .f64 y] w fun e w' => e = .returned (.bool true) ∧ w = w' := by
  have h4 := fun w => run_convert_float_int (P := Tryz.prog) w 153 2 .f64 .i64 x n (by kernel_rfl) Tryz.underlying2 hx
  have h5 := fun w => run_convert_float_int (P := Tryz.prog) w 153 2 .f64 .i64 y m (by kernel_rfl) Tryz.underlying2 hy
  clear hx hy
  have h6 : wrap64 (n + m) = n + m := by unfold wrap64; omega
  have h7 : decide (-9007199254740992 ≤ n + m) = true := by simp; omega
  have h8 : decide (n + m ≤ 9007199254740992) = true := by simp; omega
  go_enter Tryz.func157, Tryz.ntmps157
  go_wp2_with fail
  go_ret
  exact ⟨rfl, rfl⟩
set_option maxHeartbeats 1000000 in
set_option maxRecDepth 100000 in
theorem may_any (x y : Nat) (n m : Int) (hx : Wh x n) (hy : Wh y m) (w : World) :
    Calls Tryz.prog 138 #[.complex .f64 x y] w fun e w' => e = .returned (.bool true) ∧ w = w' := by
  have K1 := hide (dwhole_any x n hx w)
  have K2 := hide (dwhole_any y m hy w)
  clear hx hy
  go_enter Tryz.func138, Tryz.ntmps138
  go_wp2_with fail
  refine K1.out.mono ?_
  rintro e w1 ⟨rfl, rfl⟩
  go_wp2_with fail
  refine K2.out.mono ?_
  rintro e w1 ⟨rfl, rfl⟩
  go_wp2_with fail
  go_ret
  exact ⟨rfl, rfl⟩
set_option maxHeartbeats 1000000 in
set_option maxRecDepth 100000 in
theorem reach_any (x y z t : Nat) (n m k j : Int) (hx : floatToIntVal .f64 x .i64 = some n) (hy : floatToIntVal .f64 y .i64 = some m) (hz : floatToIntVal .f64 z .i64 = some k) (ht : floatToIntVal .f64 t .i64 = some j) (h1 : -1 ≤ n ∧ n ≤ 1) (h2 : -1 ≤ m ∧ m ≤ 1) (h3 : -1 ≤ k ∧ k ≤ 1) (h4 : -1 ≤ j ∧ j ≤ 1) (w : World) :
    Calls Tryz.prog 139 #[.complex .f64 x y, .complex .f64 z t] w fun e w' => e = .returned (.bool true) ∧ w = w' := by
  have K1 := hide (dsum_any x z n k hx hz h1 h3 w)
  have K2 := hide (dsum_any y t m j hy ht h2 h4 w)
  clear hx hy hz ht h1 h2 h3 h4
  go_enter Tryz.func139, Tryz.ntmps139
  go_wp2_with fail
  refine K1.out.mono ?_
  rintro e w1 ⟨rfl, rfl⟩
  go_wp2_with fail
  refine K2.out.mono ?_
  rintro e w1 ⟨rfl, rfl⟩
  go_wp2_with fail
  go_ret
  exact ⟨rfl, rfl⟩
set_option maxHeartbeats 1000000 in
set_option maxRecDepth 100000 in
theorem point_any (W B : Nat) (sv : Value) (l : List Nat) (x y : Nat) (n m : Int) (hx : Wh x n) (hy : Wh y m) (h1 : -9 ≤ n ∧ n ≤ 9) (h2 : -9 ≤ m ∧ m ≤ 9) (w : World) (h : Wr w W B sv l) (hl : l.length ≤ 1000) (hB : B ≤ w.heap.size) :
    Calls Tryz.prog 112 #[.pointer (some ⟨W, 0, none⟩), .complex .f64 x y] w (WPost W B w sv (l ++ (uvar (zz n) ++ uvar (zz m)))) := by
  have K1 := hide (pwhole_any x n hx w)
  have K2 := hide (pwhole_any y m hy w)
  have K3 := hide (wsvar_any W B sv l n (by omega) (by omega) w h (by omega) hB)
  have hL : (l ++ uvar (zz n)).length ≤ 1100 := by
    have := uvar_len10 (zz_lt (x := n) (by omega) (by omega))
    rw [List.length_append]; omega
  have HL := hide hL
  have K4 := hide (fun (w1 : World) (sv1 : Value) (hw : Wr w1 W B sv1 (l ++ uvar (zz n))) (hb : B ≤ w1.heap.size) => wsvar_any W B sv1 (l ++ uvar (zz n)) m (by omega) (by omega) w1 hw (by have := HL.out; omega) hb)
  clear hx hy h hL
  have HB := hide hB
  clear hB h1 h2 hl
  go_enter Tryz.func112, Tryz.ntmps112
  go_wp2_with fail
  refine K1.out.mono ?_
  rintro e w1 ⟨rfl, rfl⟩
  go_wp2_with fail
  refine K2.out.mono ?_
  rintro e w1 ⟨rfl, rfl⟩
  go_wp2_with fail
  refine K3.out.mono ?_
  rintro e w1 ⟨rfl, sv1, hw1, hs1⟩
  have KK := hide (K4.out w1 sv1 hw1 (Nat.le_trans HB.out hs1.fr.size))
  have HS1 := hide hs1
  clear hw1 hs1
  go_wp2_with fail
  refine KK.out.mono ?_
  rintro e w2 ⟨rfl, sv2, hw2, hs2⟩
  have HW2 := hide hw2
  have HS2 := hide hs2
  clear hw2 hs2
  go_wp2_with fail
  go_end0
  exact ⟨rfl, sv2, by rw [← List.append_assoc]; exact HW2.out, HS1.out.trans HS2.out⟩
set_option maxHeartbeats 1000000 in
set_option maxRecDepth 100000 in
theorem pput_any (W B : Nat) (sv : Value) (l : List Nat) (x y : Nat) (n m : Int) (hx : Wh x n) (hy : Wh y m) (h1 : -9 ≤ n ∧ n ≤ 9) (h2 : -9 ≤ m ∧ m ≤ 9) (w : World) (h : Wr w W B sv l) (hl : l.length ≤ 1000) (hB : B ≤ w.heap.size) :
    Calls Tryz.prog 74 #[.pointer (some ⟨W, 0, none⟩), .int .i64 6, cl 0 0 x y] w (WPost W B w sv (l ++ (uvar (zz n) ++ uvar (zz m)))) := by
  have HX := hide hx
  have HY := hide hy
  have HB := hide hB
  have HW := hide h
  have K := hide (fun (o : Obj) => point_any W B sv l x y n m hx hy h1 h2 (w.alloc o) (h.below ((Below.refl _ _).alloc (Nat.le_refl _) _)) hl (by simp; omega))
  clear hx hy h hB h1 h2 hl
  unfold cl
  go_enter Tryz.func74, Tryz.ntmps74
  go_wp2_with fail
  refine (K.out _).mono ?_
  rintro e w1 ⟨rfl, sv1, hw1, hs1⟩
  have HW1 := hide hw1
  have HS1 := hide (WS.ahead ((Below.refl w.heap.size w).alloc (Nat.le_refl _) _) hs1)
  clear hw1 hs1
  go_wp2_with fail
  go_end0
  exact ⟨rfl, sv1, HW1.out, HS1.out⟩
end Go.Proofs.YtfkgmodgkifelaaGreatDoor
namespace Go.Proofs.YtfkgmodgkifelaaGreatDoor
open Go.RowKit

def lexTail (ops : Array Oper) (oi : Oper) (k : Nat) : List Oper → Bool
  | [] => true
  | oj :: l => (oj.after.toList.any (fun e => Region.binds .any e && e.on == k) || oi.apart ops oj) && lexTail ops oi k l
def lexGo (ops : Array Oper) : List Oper → Nat → Bool
  | [], _ => true
  | o :: l, k => (o.after.toList.all fun e => !Region.binds .any e || decide (e.on < k)) && lexTail ops o k l && lexGo ops l (k + 1)
def selGo : List Oper → Bool
  | [] => true
  | o :: l => (match o.op with | .select .. => false | _ => true) && selGo l
theorem selGo_all (l : List Oper) (h : selGo l = true) : Region.noSelect l.toArray = true := by
  unfold Region.noSelect
  rw [Array.all_eq_true_iff_forall_mem]
  intro o ho
  have ho' : o ∈ l := by simpa using ho
  induction l with
  | nil => cases ho'
  | cons x l ih =>
    unfold selGo at h
    rw [Bool.and_eq_true] at h
    rcases List.mem_cons.1 ho' with rfl | hm
    · exact h.1
    · exact ih h.2 (by simpa using hm) hm
theorem lexTail_get {ops : Array Oper} {oi : Oper} {k : Nat} : ∀ {l : List Oper}, lexTail ops oi k l = true → ∀ (j : Nat) (oj : Oper), l[j]? = some oj → (oj.after.any (fun e => Region.binds .any e && e.on == k) || oi.apart ops oj) = true
  | [], _, _, _, h => by simp at h
  | x :: l, h, 0, oj, hj => by
    unfold lexTail at h
    rw [Bool.and_eq_true] at h
    have : x = oj := by simpa using hj
    subst this
    simpa using h.1
  | x :: l, h, j + 1, oj, hj => by
    unfold lexTail at h
    rw [Bool.and_eq_true] at h
    exact lexTail_get h.2 j oj (by simpa using hj)
theorem lexFrom_of (ops : Array Oper) : ∀ (l : List Oper) (k : Nat) (listed : Array Bool), lexGo ops l k = true → ops.size = k + l.length → (∀ j : Nat, l[j]? = ops[k + j]?) →
    listed.size = ops.size → (∀ j : Nat, j < ops.size → listed[j]? = some (decide (j < k))) → Region.lexFrom .any ops l.length k listed = true
  | [], k, listed, _, hn, _, hs, hl => by
    have hn' : ops.size = k := by simpa using hn
    simp only [List.length_nil, Region.lexFrom]
    rw [List.isEmpty_iff, List.eq_nil_iff_forall_not_mem]
    intro j hj
    obtain ⟨h0, o, ho, _⟩ := mem_ready.1 hj
    have hlt : j < ops.size := (Array.getElem?_eq_some_iff.1 ho).1
    have := hl j hlt
    rw [Array.getD_eq_getD_getElem?, this] at h0
    simp at h0
    omega
  | o :: l, k, listed, hg, hn, hl, hs, hb => by
    unfold lexGo at hg
    rw [Bool.and_eq_true, Bool.and_eq_true] at hg
    obtain ⟨⟨h1, h2⟩, h3⟩ := hg
    have hn' : ops.size = k + (l.length + 1) := by simpa using hn
    have hk : k < ops.size := by omega
    have ho : ops[k]? = some o := by simpa using (hl 0).symm
    simp only [List.length_cons, Region.lexFrom, Bool.and_eq_true]
    refine ⟨⟨?_, ?_⟩, ?_⟩
    · rw [List.contains_iff_mem]
      refine mem_ready.2 ⟨?_, o, ho, fun e he hbe => ?_⟩
      · rw [Array.getD_eq_getD_getElem?, hb k hk]
        simp
      · have := List.all_eq_true.1 h1 e (by simpa using he)
        rw [hbe] at this
        have hlt : e.on < k := by simpa using this
        rw [Array.getD_eq_getD_getElem?, hb e.on (by omega)]
        simpa using hlt
    · unfold Region.free
      rw [ho]
      simp only [List.all_eq_true, List.mem_range]
      intro j hj
      by_cases hjk : j < k
      · rw [Array.getD_eq_getD_getElem?, hb j hj]
        simp [hjk]
      · by_cases hje : j = k
        · simp [hje]
        · obtain ⟨i, rfl⟩ : ∃ i, j = k + (i + 1) := ⟨j - k - 1, by omega⟩
          have hi := hl (i + 1)
          rw [List.getElem?_cons_succ] at hi
          cases hoj : ops[k + (i + 1)]? with
          | none => simp
          | some oj =>
            have := lexTail_get h2 i oj (by rw [hi]; exact hoj)
            simp only [this, Bool.or_true]
    · refine lexFrom_of ops l (k + 1) _ h3 (by omega) (fun j => ?_) (by simp [hs]) (fun j hj => ?_)
      · have := hl (j + 1)
        rw [List.getElem?_cons_succ] at this
        rw [this]
        congr 1
        omega
      · rw [Array.getElem?_setIfInBounds]
        by_cases e : k = j
        · subst e
          simp [hs, hj]
        · rw [if_neg e, hb j hj]
          congr 1
          rw [decide_eq_decide]
          omega
theorem lexB_of (l : List Oper) (h1 : selGo l = true) (h2 : lexGo l.toArray l 0 = true) : Region.lexB .any l.toArray = true := by
  unfold Region.lexB
  rw [Bool.and_eq_true]
  refine ⟨selGo_all l h1, ?_⟩
  have := lexFrom_of l.toArray l 0 (Array.replicate l.toArray.size false) h2 (by simp) (fun j => by simp) (by simp) (fun j hj => by
    rw [Array.getElem?_replicate]; simp at hj; simp [hj])
  simpa using this
/-- A region that only reads, however large. -/
theorem wp_region_quiet_big {P : Program} {id : Nat} {Q : Exit → Act → World → Prop} {a : Act} {w : World} {l : List Oper} (hm : P.follows .mixedOrders = true) (h1 : selGo l = true) (h2 : lexGo l.toArray l 0 = true)
    (h : wpQuiet P l.toArray (fun w' => ∃ n, w' = w.drewN n) (fun a' => ∀ w', (∃ n, w' = w.drewN n) → Q .normal a' w') l a) : (Code.region id l.toArray true).wp P Q a w :=
  wp_region_quiet_lit hm (lexB_of l h1 h2) h
end Go.Proofs.YtfkgmodgkifelaaGreatDoor
namespace Go.Proofs.YtfkgmodgkifelaaGreatDoor
open Go.RowKit

/-- A cell's places. -/
structure AtC (w : World) (g o : Nat) (b : Bool) (x u : Int) (t : ByteArray) (p q : Nat) : Prop where
  c0 : w.cell? ⟨g, o, none⟩ = some (.bool false)
  c1 : w.cell? ⟨g, o + 1, none⟩ = some (.bool b)
  c2 : w.cell? ⟨g, o + 2, none⟩ = some (.int .i64 x)
  c3 : w.cell? ⟨g, o + 3, none⟩ = some (.int .u64 u)
  c4 : w.cell? ⟨g, o + 4, none⟩ = some (.string t)
  c5 : w.cell? ⟨g, o + 5, none⟩ = some (.complex .f64 p q)
set_option maxHeartbeats 4000000 in
set_option maxRecDepth 100000 in
theorem cells_same (n : Nat) (hn : n ≤ 100000) (g1 g2 c1 c2 : Nat) (b : Nat → Bool) (x u : Nat → Int) (t : Nat → ByteArray) (p q : Nat → Nat) (w : World)
    (H1 : Hid (∀ i, i < n → AtC w g1 (i * 6) (b i) (x i) (u i) (t i) (p i) (q i))) (H2 : Hid (∀ i, i < n → AtC w g2 (i * 6) (b i) (x i) (u i) (t i) (p i) (q i)))
    (H3 : Hid (∀ i, i < n → FloatKind.f64.format.order (p i) (p i) = some .eq ∧ FloatKind.f64.format.order (q i) (q i) = some .eq)) :
    Calls Tryz.prog 8 #[.slice (some ⟨g1, 0, none⟩) n c1, .slice (some ⟨g2, 0, none⟩) n c2] w fun e w' => e = .returned (.bool true) ∧ ∃ m, w' = w.drewN m := by
  go_enter Tryz.func8, Tryz.ntmps8
  go_wp2_with fail
  go_loopw [5] (fun iv wr => ∃ i m : Nat, i ≤ n ∧ iv = .int .i64 (i : Int) ∧ wr = w.drewN m) (fun iv _ => n - (intOf iv).toNat)
  case atStart => exact ⟨0, 0, by omega, rfl, rfl⟩
  case round =>
    obtain ⟨i, m, hi, rfl, rfl⟩ := hrel
    by_cases hlt : i < n
    · obtain ⟨a0, a1, a2, a3, a4, a5⟩ := H1.out i hlt
      obtain ⟨d0, d1, d2, d3, d4, d5⟩ := H2.out i hlt
      obtain ⟨r1, r2⟩ := H3.out i hlt
      generalize b i = B at *
      generalize x i = X at *
      generalize u i = U at *
      generalize t i = T at *
      generalize p i = P at *
      generalize q i = Q at *
      have hi0 : (0 : Int) ≤ (i : Int) := by omega
      have hi1 : (i : Int) < (n : Int) := by omega
      have hB : (B != B) = false := by simp
      have hT : (T.toList != T.toList) = false := by simp
      go_wp2_with fail
      refine wp_region_quiet_big (by kernel_rfl) (by kernel_rfl) (by kernel_rfl) ?_
      dsimp only [List.append]
      as_aux_lemma =>
      iterate 10 (try go_big_quiet_step (fail))
      as_aux_lemma =>
      iterate 10 (try go_big_quiet_step (fail))
      as_aux_lemma =>
      iterate 10 (try go_big_quiet_step (fail))
      as_aux_lemma =>
      iterate 10 (try go_big_quiet_step (fail))
      as_aux_lemma =>
      iterate 10 (try go_big_quiet_step (fail))
      as_aux_lemma =>
      iterate 10 (try go_big_quiet_step (fail))
      as_aux_lemma =>
      iterate 10 (try go_big_quiet_step (fail))
      as_aux_lemma =>
      iterate 10 (try go_big_quiet_step (fail))
      as_aux_lemma =>
      iterate 10 (try go_big_quiet_step (fail))
      as_aux_lemma =>
      iterate 10 (try go_big_quiet_step (fail))
      as_aux_lemma =>
      iterate 10 (try go_big_quiet_step (fail))
      as_aux_lemma =>
      refine wpQuiet_nil ?_
      intro _ hw'
      obtain ⟨nq, hw''⟩ := hw'
      subst hw''
      clear a0 a1 a2 a3 a4 a5 d0 d1 d2 d3 d4 d5
      go_wp2_with fail
      go_roundw
      case rel => exact ⟨i + 1, m + nq, by omega, by go_num, rfl⟩
      case measure => simp [intOf] <;> omega
    · go_wp2_with fail
      go_ret
      exact ⟨rfl, m, rfl⟩
end Go.Proofs.YtfkgmodgkifelaaGreatDoor
namespace Go.Proofs.YtfkgmodgkifelaaGreatDoor
open Go.RowKit

theorem cell_lt6 {w : World} {g o : Nat} {v : Value} (h : w.cell? ⟨g, o, none⟩ = some v) : g < w.heap.size := by
  unfold World.cell? at h
  split at h
  · rename_i heq; exact (Array.getElem?_eq_some_iff.1 heq).1
  · cases h
theorem AtC.below {w w' : World} {g o : Nat} {b : Bool} {x u : Int} {t : ByteArray} {p q : Nat} (h : AtC w g o b x u t p q) {B : Nat} (hb : Below B w w') (hg : g < B) : AtC w' g o b x u t p q :=
  ⟨(hb.cell (p := ⟨g, _, none⟩) hg).trans h.c0, (hb.cell (p := ⟨g, _, none⟩) hg).trans h.c1, (hb.cell (p := ⟨g, _, none⟩) hg).trans h.c2, (hb.cell (p := ⟨g, _, none⟩) hg).trans h.c3, (hb.cell (p := ⟨g, _, none⟩) hg).trans h.c4, (hb.cell (p := ⟨g, _, none⟩) hg).trans h.c5⟩
/-- What a round puts. -/
def PRnd (kind : Int) (C : Nat → CD) (F : Nat → List Nat) (i : Nat) : Prop :=
  ∀ (w : World) (W B : Nat) (sv : Value), Wr w W B sv (F i) → B ≤ w.heap.size →
    Calls Tryz.prog 74 #[.pointer (some ⟨W, 0, none⟩), .int .i64 kind, (C i).v] w (WPost W B w sv (F (i + 1)))
set_option maxHeartbeats 2000000 in
set_option maxRecDepth 100000 in
theorem pencode_any (kind : Int) (hk : ((kind : Int) == 1) = false) (n : Nat) (hn0 : 0 < n) (hn : n ≤ 100) (C : Nat → CD) (F : Nat → List Nat) (hz : F 0 = [])
    (hr : ∀ i, i < n → PRnd kind C F i) (g c : Nat) (w : World) (hcell : ∀ i, i < n → AtC w g (i * 6) (C i).b (C i).x (C i).u (C i).t (C i).p (C i).q) :
    Calls Tryz.prog 87 #[.int .i64 kind, .slice (some ⟨g, 0, none⟩) n c] w fun e w' => e = .returned (.string (strN (F n))) ∧ Below w.heap.size w w' := by
  have hg := hide (cell_lt6 (hcell 0 hn0).c0)
  have Z5 := hide hz
  have HC := hide hcell
  have HR := hide hr
  clear hcell hr hz
  have hst := fun (w1 : World) (a1 : Addr) (m : Mode) (x y : Nat) => run_store Tryz.prog w1 a1 (.complex .f64 x y) m rfl
  go_enter Tryz.func87, Tryz.ntmps87
  go_wp2_with fail
  go_loopw [33] (fun iv wr => ∃ i : Nat, i ≤ n ∧ iv = .int .i64 (i : Int) ∧ ∃ sv', Wr wr w.heap.size w.heap.size sv' (F i) ∧ Below w.heap.size w wr) (fun iv _ => n - (intOf iv).toNat)
  case atStart =>
    refine ⟨0, by omega, rfl, .slice none 0 0, ⟨Blk.new _ _ _, ?_, Nat.le_refl _⟩, (Below.refl _ _).alloc (Nat.le_refl _) _⟩
    rw [Z5.out]; exact ownU8_nil _ _
  case round =>
    obtain ⟨i, hi, rfl, sv', hw, hb⟩ := hrel
    by_cases hlt : i < n
    · have HA := (HC.out i hlt).below hb hg.out
      have hgr : g < wr.heap.size := Nat.lt_of_lt_of_le hg.out hb.size
      have HW := hide hw
      have HB := hide hb
      have KP := hide (fun o => HR.out i hlt (wr.alloc o) _ _ _ (HW.out.below ((Below.refl _ _).alloc (Nat.le_refl _) _)) (by simp; exact Nat.le_succ_of_le HB.out.size))
      obtain ⟨a0, a1, a2, a3, a4, a5⟩ := HA
      clear hw hb
      unfold CD.v clV clA at KP
      generalize (C i).b = xb at *
      generalize (C i).x = xx at *
      generalize (C i).u = xu at *
      generalize (C i).t = xt at *
      generalize (C i).p = xp at *
      generalize (C i).q = xq at *
      have hi0 : (0 : Int) ≤ (i : Int) := by omega
      have hi1 : (i : Int) < (n : Int) := by omega
      go_wp2_with fail
      refine (KP.out _).mono ?_
      rintro e w2 ⟨rfl, sv2, hw2, hs2⟩
      have HW2 := hide hw2
      have HB2 := hide ((HB.out.alloc HB.out.size _).trans (hs2.below (HW.out.below ((Below.refl wr.heap.size wr).alloc (Nat.le_refl _) _)) (by simp; exact Nat.le_succ_of_le HB.out.size)))
      clear hw2 hs2 a0 a1 a2 a3 a4 a5 KP
      go_wp2_with fail
      go_roundw
      case rel => exact ⟨i + 1, by omega, by go_num, sv2, HW2.out, HB2.out⟩
      case measure => simp [intOf] <;> omega
    · have hin : i = n := by omega
      subst hin
      have K := hide (wstring_any _ _ _ _ _ hw)
      have HB := hide hb
      clear hw hb
      go_wp2_with fail
      refine K.out.mono ?_
      rintro e w2 ⟨rfl, rfl⟩
      go_wp2_with fail
      go_ret
      exact ⟨rfl, HB.out⟩
end Go.Proofs.YtfkgmodgkifelaaGreatDoor
