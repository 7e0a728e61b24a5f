/- A point's parts: what the calls give at whole numbers. A region's lexical order, shown by a cheap walk over its list. Two lists of cells that are the same, part by part. Cells one behind the other: plain.Encode's loop, over any contracts of plain.Put; and the chapter's examples. The chapter's examples (layer 8): three cells, told as bytes. The walk of the law PlainGets. -/
import Derived.Test.YtfkgmodgkifelaaGreatDoorJ09
import Derived.Test.YtfkgmodgkifelaaGreatDoorJ01
import Derived.BigQuiet
import Derived.Test.YtfkgmodgkifelaaGreatDoorProg
import Derived.Test.YtfkgmodgkifelaaGreatDoorJ07
import Derived.RegionTactic
namespace Go.Proofs.YtfkgmodgkifelaaGreatDoor
open Go.RowKit

/-- A float that is a whole number that may be. -/
structure Wh (x : Nat) (n : Int) : Prop where
  ge : (FloatKind.f64.format.order x 14069245235905429504 == some .gt || FloatKind.f64.format.order x 14069245235905429504 == some .eq) = true
  le : (FloatKind.f64.format.order x 4845873199050653696 == some .lt || FloatKind.f64.format.order x 4845873199050653696 == some .eq) = true
  lt : (FloatKind.f64.format.order x 14069245235905429504 == some .lt) = false
  gt : (FloatKind.f64.format.order x 4845873199050653696 == some .gt) = false
  ne : (FloatKind.f64.format.order x x != some .eq) = false
  ti : floatToIntVal .f64 x .i64 = some n
  fi : (FloatKind.f64.format.order (floatOfInt .f64 n) x == some .eq) = true
theorem wh0 : Wh 0 0 := ⟨by kernel_rfl, by kernel_rfl, by kernel_rfl, by kernel_rfl, by kernel_rfl, by kernel_rfl, by kernel_rfl⟩
theorem wh1 : Wh 4607182418800017408 1 := ⟨by kernel_rfl, by kernel_rfl, by kernel_rfl, by kernel_rfl, by kernel_rfl, by kernel_rfl, by kernel_rfl⟩
theorem to_m0 : floatToIntVal .f64 9223372036854775808 .i64 = some 0 := by kernel_rfl
theorem to_m1 : floatToIntVal .f64 13830554455654793216 .i64 = some (-1) := by kernel_rfl
theorem step01 : cSumBits .sub .f64 4607182418800017408 0 0 0 = some (4607182418800017408, 0) := by kernel_rfl
theorem step12 : cSumBits .sub .f64 4607182418800017408 4607182418800017408 4607182418800017408 0 = some (0, 4607182418800017408) := by kernel_rfl
set_option maxHeartbeats 1000000 in
set_option maxRecDepth 100000 in
theorem dwhole_any (x : Nat) (n : Int) (h : Wh x n) (w : World) :
    Calls Tryz.prog 156 #[.float .f64 x] w fun e w' => e = .returned (.bool true) ∧ w = w' := by
  have h1 := h.ge
  have h2 := h.le
  have h3 := h.fi
  have h4 := fun w => run_convert_float_int (P := Tryz.prog) w 153 2 .f64 .i64 x n (by kernel_rfl) Tryz.underlying2 h.ti
  clear h
  go_enter Tryz.func156, Tryz.ntmps156
  go_wp2_with fail
  go_ret
  exact ⟨rfl, rfl⟩
set_option maxHeartbeats 1000000 in
set_option maxRecDepth 100000 in
theorem pwhole_any (x : Nat) (n : Int) (h : Wh x n) (w : World) :
    Calls Tryz.prog 154 #[.float .f64 x] w fun e w' => e = .returned (.tuple #[.int .i64 n, .bool true]) ∧ w = w' := by
  have h1 := h.lt
  have h2 := h.gt
  have h5 := h.ne
  have h3 := h.fi
  have h4 := fun w => run_convert_float_int (P := Tryz.prog) w 153 2 .f64 .i64 x n (by kernel_rfl) Tryz.underlying2 h.ti
  clear h
  go_enter Tryz.func154, Tryz.ntmps154
  go_wp2_with fail
  go_ret2
  exact ⟨rfl, rfl⟩
set_option maxHeartbeats 1000000 in
set_option maxRecDepth 100000 in
theorem dsum_any (x y : Nat) (n m : Int) (hx : floatToIntVal .f64 x .i64 = some n) (hy : floatToIntVal .f64 y .i64 = some m) (h1 : -1 ≤ n ∧ n ≤ 1) (h2 : -1 ≤ m ∧ m ≤ 1) (w : World) :
    Calls Tryz.prog 157 #[.float .f64 x, .float .f64 y] w fun e w' => e = .returned (.bool true) ∧ w = w' := by
  have h4 := fun w => run_convert_float_int (P := Tryz.prog) w 153 2 .f64 .i64 x n (by kernel_rfl) Tryz.underlying2 hx
  have h5 := fun w => run_convert_float_int (P := Tryz.prog) w 153 2 .f64 .i64 y m (by kernel_rfl) Tryz.underlying2 hy
  clear hx hy
  have h6 : wrap64 (n + m) = n + m := by unfold wrap64; omega
  have h7 : decide (-9007199254740992 ≤ n + m) = true := by simp; omega
  have h8 : decide (n + m ≤ 9007199254740992) = true := by simp; omega
  go_enter Tryz.func157, Tryz.ntmps157
  go_wp2_with fail
  go_ret
  exact ⟨rfl, rfl⟩
set_option maxHeartbeats 1000000 in
set_option maxRecDepth 100000 in
theorem may_any (x y : Nat) (n m : Int) (hx : Wh x n) (hy : Wh y m) (w : World) :
    Calls Tryz.prog 138 #[.complex .f64 x y] w fun e w' => e = .returned (.bool true) ∧ w = w' := by
  have K1 := hide (dwhole_any x n hx w)
  have K2 := hide (dwhole_any y m hy w)
  clear hx hy
  go_enter Tryz.func138, Tryz.ntmps138
  go_wp2_with fail
  refine K1.out.mono ?_
  rintro e w1 ⟨rfl, rfl⟩
  go_wp2_with fail
  refine K2.out.mono ?_
  rintro e w1 ⟨rfl, rfl⟩
  go_wp2_with fail
  go_ret
  exact ⟨rfl, rfl⟩
set_option maxHeartbeats 1000000 in
set_option maxRecDepth 100000 in
theorem reach_any (x y z t : Nat) (n m k j : Int) (hx : floatToIntVal .f64 x .i64 = some n) (hy : floatToIntVal .f64 y .i64 = some m) (hz : floatToIntVal .f64 z .i64 = some k) (ht : floatToIntVal .f64 t .i64 = some j) (h1 : -1 ≤ n ∧ n ≤ 1) (h2 : -1 ≤ m ∧ m ≤ 1) (h3 : -1 ≤ k ∧ k ≤ 1) (h4 : -1 ≤ j ∧ j ≤ 1) (w : World) :
    Calls Tryz.prog 139 #[.complex .f64 x y, .complex .f64 z t] w fun e w' => e = .returned (.bool true) ∧ w = w' := by
  have K1 := hide (dsum_any x z n k hx hz h1 h3 w)
  have K2 := hide (dsum_any y t m j hy ht h2 h4 w)
  clear hx hy hz ht h1 h2 h3 h4
  go_enter Tryz.func139, Tryz.ntmps139
  go_wp2_with fail
  refine K1.out.mono ?_
  rintro e w1 ⟨rfl, rfl⟩
  go_wp2_with fail
  refine K2.out.mono ?_
  rintro e w1 ⟨rfl, rfl⟩
  go_wp2_with fail
  go_ret
  exact ⟨rfl, rfl⟩
set_option maxHeartbeats 1000000 in
set_option maxRecDepth 100000 in
theorem point_any (W B : Nat) (sv : Value) (l : List Nat) (x y : Nat) (n m : Int) (hx : Wh x n) (hy : Wh y m) (h1 : -9 ≤ n ∧ n ≤ 9) (h2 : -9 ≤ m ∧ m ≤ 9) (w : World) (h : Wr w W B sv l) (hl : l.length ≤ 1000) (hB : B ≤ w.heap.size) :
    Calls Tryz.prog 112 #[.pointer (some ⟨W, 0, none⟩), .complex .f64 x y] w (WPost W B w sv (l ++ (uvar (zz n) ++ uvar (zz m)))) := by
  have K1 := hide (pwhole_any x n hx w)
  have K2 := hide (pwhole_any y m hy w)
  have K3 := hide (wsvar_any W B sv l n (by omega) (by omega) w h (by omega) hB)
  have hL : (l ++ uvar (zz n)).length ≤ 1100 := by
    have := uvar_len10 (zz_lt (x := n) (by omega) (by omega))
    rw [List.length_append]; omega
  have HL := hide hL
  have K4 := hide (fun (w1 : World) (sv1 : Value) (hw : Wr w1 W B sv1 (l ++ uvar (zz n))) (hb : B ≤ w1.heap.size) => wsvar_any W B sv1 (l ++ uvar (zz n)) m (by omega) (by omega) w1 hw (by have := HL.out; omega) hb)
  clear hx hy h hL
  have HB := hide hB
  clear hB h1 h2 hl
  go_enter Tryz.func112, Tryz.ntmps112
  go_wp2_with fail
  refine K1.out.mono ?_
  rintro e w1 ⟨rfl, rfl⟩
  go_wp2_with fail
  refine K2.out.mono ?_
  rintro e w1 ⟨rfl, rfl⟩
  go_wp2_with fail
  refine K3.out.mono ?_
  rintro e w1 ⟨rfl, sv1, hw1, hs1⟩
  have KK := hide (K4.out w1 sv1 hw1 (Nat.le_trans HB.out hs1.fr.size))
  have HS1 := hide hs1
  clear hw1 hs1
  go_wp2_with fail
  refine KK.out.mono ?_
  rintro e w2 ⟨rfl, sv2, hw2, hs2⟩
  have HW2 := hide hw2
  have HS2 := hide hs2
  clear hw2 hs2
  go_wp2_with fail
  go_end0
  exact ⟨rfl, sv2, by rw [← List.append_assoc]; exact HW2.out, HS1.out.trans HS2.out⟩
set_option maxHeartbeats 1000000 in
set_option maxRecDepth 100000 in
theorem pput_any (W B : Nat) (sv : Value) (l : List Nat) (x y : Nat) (n m : Int) (hx : Wh x n) (hy : Wh y m) (h1 : -9 ≤ n ∧ n ≤ 9) (h2 : -9 ≤ m ∧ m ≤ 9) (w : World) (h : Wr w W B sv l) (hl : l.length ≤ 1000) (hB : B ≤ w.heap.size) :
    Calls Tryz.prog 74 #[.pointer (some ⟨W, 0, none⟩), .int .i64 6, cl 0 0 x y] w (WPost W B w sv (l ++ (uvar (zz n) ++ uvar (zz m)))) := by
  have HX := hide hx
  have HY := hide hy
  have HB := hide hB
  have HW := hide h
  have K := hide (fun (o : Obj) => point_any W B sv l x y n m hx hy h1 h2 (w.alloc o) (h.below ((Below.refl _ _).alloc (Nat.le_refl _) _)) hl (by simp; omega))
  clear hx hy h hB h1 h2 hl
  unfold cl
  go_enter Tryz.func74, Tryz.ntmps74
  go_wp2_with fail
  refine (K.out _).mono ?_
  rintro e w1 ⟨rfl, sv1, hw1, hs1⟩
  have HW1 := hide hw1
  have HS1 := hide (WS.ahead ((Below.refl w.heap.size w).alloc (Nat.le_refl _) _) hs1)
  clear hw1 hs1
  go_wp2_with fail
  go_end0
  exact ⟨rfl, sv1, HW1.out, HS1.out⟩
end Go.Proofs.YtfkgmodgkifelaaGreatDoor
namespace Go.Proofs.YtfkgmodgkifelaaGreatDoor
open Go.RowKit

def lexTail (ops : Array Oper) (oi : Oper) (k : Nat) : List Oper → Bool
  | [] => true
  | oj :: l => (oj.after.toList.any (fun e => Region.binds .any e && e.on == k) || oi.apart ops oj) && lexTail ops oi k l
def lexGo (ops : Array Oper) : List Oper → Nat → Bool
  | [], _ => true
  | o :: l, k => (o.after.toList.all fun e => !Region.binds .any e || decide (e.on < k)) && lexTail ops o k l && lexGo ops l (k + 1)
def selGo : List Oper → Bool
  | [] => true
  | o :: l => (match o.op with | .select .. => false | _ => true) && selGo l
theorem selGo_all (l : List Oper) (h : selGo l = true) : Region.noSelect l.toArray = true := by
  unfold Region.noSelect
  rw [Array.all_eq_true_iff_forall_mem]
  intro o ho
  have ho' : o ∈ l := by simpa using ho
  induction l with
  | nil => cases ho'
  | cons x l ih =>
    unfold selGo at h
    rw [Bool.and_eq_true] at h
    rcases List.mem_cons.1 ho' with rfl | hm
    · exact h.1
    · exact ih h.2 (by simpa using hm) hm
theorem lexTail_get {ops : Array Oper} {oi : Oper} {k : Nat} : ∀ {l : List Oper}, lexTail ops oi k l = true → ∀ (j : Nat) (oj : Oper), l[j]? = some oj → (oj.after.any (fun e => Region.binds .any e && e.on == k) || oi.apart ops oj) = true
  | [], _, _, _, h => by simp at h
  | x :: l, h, 0, oj, hj => by
    unfold lexTail at h
    rw [Bool.and_eq_true] at h
    have : x = oj := by simpa using hj
    subst this
    simpa using h.1
  | x :: l, h, j + 1, oj, hj => by
    unfold lexTail at h
    rw [Bool.and_eq_true] at h
    exact lexTail_get h.2 j oj (by simpa using hj)
theorem lexFrom_of (ops : Array Oper) : ∀ (l : List Oper) (k : Nat) (listed : Array Bool), lexGo ops l k = true → ops.size = k + l.length → (∀ j : Nat, l[j]? = ops[k + j]?) →
    listed.size = ops.size → (∀ j : Nat, j < ops.size → listed[j]? = some (decide (j < k))) → Region.lexFrom .any ops l.length k listed = true
  | [], k, listed, _, hn, _, hs, hl => by
    have hn' : ops.size = k := by simpa using hn
    simp only [List.length_nil, Region.lexFrom]
    rw [List.isEmpty_iff, List.eq_nil_iff_forall_not_mem]
    intro j hj
    obtain ⟨h0, o, ho, _⟩ := mem_ready.1 hj
    have hlt : j < ops.size := (Array.getElem?_eq_some_iff.1 ho).1
    have := hl j hlt
    rw [Array.getD_eq_getD_getElem?, this] at h0
    simp at h0
    omega
  | o :: l, k, listed, hg, hn, hl, hs, hb => by
    unfold lexGo at hg
    rw [Bool.and_eq_true, Bool.and_eq_true] at hg
    obtain ⟨⟨h1, h2⟩, h3⟩ := hg
    have hn' : ops.size = k + (l.length + 1) := by simpa using hn
    have hk : k < ops.size := by omega
    have ho : ops[k]? = some o := by simpa using (hl 0).symm
    simp only [List.length_cons, Region.lexFrom, Bool.and_eq_true]
    refine ⟨⟨?_, ?_⟩, ?_⟩
    · rw [List.contains_iff_mem]
      refine mem_ready.2 ⟨?_, o, ho, fun e he hbe => ?_⟩
      · rw [Array.getD_eq_getD_getElem?, hb k hk]
        simp
      · have := List.all_eq_true.1 h1 e (by simpa using he)
        rw [hbe] at this
        have hlt : e.on < k := by simpa using this
        rw [Array.getD_eq_getD_getElem?, hb e.on (by omega)]
        simpa using hlt
    · unfold Region.free
      rw [ho]
      simp only [List.all_eq_true, List.mem_range]
      intro j hj
      by_cases hjk : j < k
      · rw [Array.getD_eq_getD_getElem?, hb j hj]
        simp [hjk]
      · by_cases hje : j = k
        · simp [hje]
        · obtain ⟨i, rfl⟩ : ∃ i, j = k + (i + 1) := ⟨j - k - 1, by omega⟩
          have hi := hl (i + 1)
          rw [List.getElem?_cons_succ] at hi
          cases hoj : ops[k + (i + 1)]? with
          | none => simp
          | some oj =>
            have := lexTail_get h2 i oj (by rw [hi]; exact hoj)
            simp only [this, Bool.or_true]
    · refine lexFrom_of ops l (k + 1) _ h3 (by omega) (fun j => ?_) (by simp [hs]) (fun j hj => ?_)
      · have := hl (j + 1)
        rw [List.getElem?_cons_succ] at this
        rw [this]
        congr 1
        omega
      · rw [Array.getElem?_setIfInBounds]
        by_cases e : k = j
        · subst e
          simp [hs, hj]
        · rw [if_neg e, hb j hj]
          congr 1
          rw [decide_eq_decide]
          omega
theorem lexB_of (l : List Oper) (h1 : selGo l = true) (h2 : lexGo l.toArray l 0 = true) : Region.lexB .any l.toArray = true := by
  unfold Region.lexB
  rw [Bool.and_eq_true]
  refine ⟨selGo_all l h1, ?_⟩
  have := lexFrom_of l.toArray l 0 (Array.replicate l.toArray.size false) h2 (by simp) (fun j => by simp) (by simp) (fun j hj => by
    rw [Array.getElem?_replicate]; simp at hj; simp [hj])
  simpa using this
/-- A region that only reads, however large. -/
theorem wp_region_quiet_big {P : Program} {id : Nat} {Q : Exit → Act → World → Prop} {a : Act} {w : World} {l : List Oper} (hm : P.follows .mixedOrders = true) (h1 : selGo l = true) (h2 : lexGo l.toArray l 0 = true)
    (h : wpQuiet P l.toArray (fun w' => ∃ n, w' = w.drewN n) (fun a' => ∀ w', (∃ n, w' = w.drewN n) → Q .normal a' w') l a) : (Code.region id l.toArray true).wp P Q a w :=
  wp_region_quiet_lit hm (lexB_of l h1 h2) h
end Go.Proofs.YtfkgmodgkifelaaGreatDoor
namespace Go.Proofs.YtfkgmodgkifelaaGreatDoor
open Go.RowKit

/-- A cell's places. -/
structure AtC (w : World) (g o : Nat) (b : Bool) (x u : Int) (t : ByteArray) (p q : Nat) : Prop where
  c0 : w.cell? ⟨g, o, none⟩ = some (.bool false)
  c1 : w.cell? ⟨g, o + 1, none⟩ = some (.bool b)
  c2 : w.cell? ⟨g, o + 2, none⟩ = some (.int .i64 x)
  c3 : w.cell? ⟨g, o + 3, none⟩ = some (.int .u64 u)
  c4 : w.cell? ⟨g, o + 4, none⟩ = some (.string t)
  c5 : w.cell? ⟨g, o + 5, none⟩ = some (.complex .f64 p q)
set_option maxHeartbeats 4000000 in
set_option maxRecDepth 100000 in
theorem cells_same (n : Nat) (hn : n ≤ 100000) (g1 g2 c1 c2 : Nat) (b : Nat → Bool) (x u : Nat → Int) (t : Nat → ByteArray) (p q : Nat → Nat) (w : World)
    (H1 : Hid (∀ i, i < n → AtC w g1 (i * 6) (b i) (x i) (u i) (t i) (p i) (q i))) (H2 : Hid (∀ i, i < n → AtC w g2 (i * 6) (b i) (x i) (u i) (t i) (p i) (q i)))
    (H3 : Hid (∀ i, i < n → FloatKind.f64.format.order (p i) (p i) = some .eq ∧ FloatKind.f64.format.order (q i) (q i) = some .eq)) :
    Calls Tryz.prog 8 #[.slice (some ⟨g1, 0, none⟩) n c1, .slice (some ⟨g2, 0, none⟩) n c2] w fun e w' => e = .returned (.bool true) ∧ ∃ m, w' = w.drewN m := by
  go_enter Tryz.func8, Tryz.ntmps8
  go_wp2_with fail
  go_loopw [5] (fun iv wr => ∃ i m : Nat, i ≤ n ∧ iv = .int .i64 (i : Int) ∧ wr = w.drewN m) (fun iv _ => n - (intOf iv).toNat)
  case atStart => exact ⟨0, 0, by omega, rfl, rfl⟩
  case round =>
    obtain ⟨i, m, hi, rfl, rfl⟩ := hrel
    by_cases hlt : i < n
    · obtain ⟨a0, a1, a2, a3, a4, a5⟩ := H1.out i hlt
      obtain ⟨d0, d1, d2, d3, d4, d5⟩ := H2.out i hlt
      obtain ⟨r1, r2⟩ := H3.out i hlt
      generalize b i = B at *
      generalize x i = X at *
      generalize u i = U at *
      generalize t i = T at *
      generalize p i = P at *
      generalize q i = Q at *
      have hi0 : (0 : Int) ≤ (i : Int) := by omega
      have hi1 : (i : Int) < (n : Int) := by omega
      have hB : (B != B) = false := by simp
      have hT : (T.toList != T.toList) = false := by simp
      go_wp2_with fail
      refine wp_region_quiet_big (by kernel_rfl) (by kernel_rfl) (by kernel_rfl) ?_
      dsimp only [List.append]
      as_aux_lemma =>
      iterate 10 (try go_big_quiet_step (fail))
      as_aux_lemma =>
      iterate 10 (try go_big_quiet_step (fail))
      as_aux_lemma =>
      iterate 10 (try go_big_quiet_step (fail))
      as_aux_lemma =>
      iterate 10 (try go_big_quiet_step (fail))
      as_aux_lemma =>
      iterate 10 (try go_big_quiet_step (fail))
      as_aux_lemma =>
      iterate 10 (try go_big_quiet_step (fail))
      as_aux_lemma =>
      iterate 10 (try go_big_quiet_step (fail))
      as_aux_lemma =>
      iterate 10 (try go_big_quiet_step (fail))
      as_aux_lemma =>
      iterate 10 (try go_big_quiet_step (fail))
      as_aux_lemma =>
      iterate 10 (try go_big_quiet_step (fail))
      as_aux_lemma =>
      iterate 10 (try go_big_quiet_step (fail))
      as_aux_lemma =>
      refine wpQuiet_nil ?_
      intro _ hw'
      obtain ⟨nq, hw''⟩ := hw'
      subst hw''
      clear a0 a1 a2 a3 a4 a5 d0 d1 d2 d3 d4 d5
      go_wp2_with fail
      go_roundw
      case rel => exact ⟨i + 1, m + nq, by omega, by go_num, rfl⟩
      case measure => simp [intOf] <;> omega
    · go_wp2_with fail
      go_ret
      exact ⟨rfl, m, rfl⟩
end Go.Proofs.YtfkgmodgkifelaaGreatDoor
namespace Go.Proofs.YtfkgmodgkifelaaGreatDoor
open Go.RowKit

theorem cell_lt6 {w : World} {g o : Nat} {v : Value} (h : w.cell? ⟨g, o, none⟩ = some v) : g < w.heap.size := by
  unfold World.cell? at h
  split at h
  · rename_i heq; exact (Array.getElem?_eq_some_iff.1 heq).1
  · cases h
theorem AtC.below {w w' : World} {g o : Nat} {b : Bool} {x u : Int} {t : ByteArray} {p q : Nat} (h : AtC w g o b x u t p q) {B : Nat} (hb : Below B w w') (hg : g < B) : AtC w' g o b x u t p q :=
  ⟨(hb.cell (p := ⟨g, _, none⟩) hg).trans h.c0, (hb.cell (p := ⟨g, _, none⟩) hg).trans h.c1, (hb.cell (p := ⟨g, _, none⟩) hg).trans h.c2, (hb.cell (p := ⟨g, _, none⟩) hg).trans h.c3, (hb.cell (p := ⟨g, _, none⟩) hg).trans h.c4, (hb.cell (p := ⟨g, _, none⟩) hg).trans h.c5⟩
/-- What a round puts. -/
def PRnd (kind : Int) (C : Nat → CD) (F : Nat → List Nat) (i : Nat) : Prop :=
  ∀ (w : World) (W B : Nat) (sv : Value), Wr w W B sv (F i) → B ≤ w.heap.size →
    Calls Tryz.prog 74 #[.pointer (some ⟨W, 0, none⟩), .int .i64 kind, (C i).v] w (WPost W B w sv (F (i + 1)))
set_option maxHeartbeats 2000000 in
set_option maxRecDepth 100000 in
theorem pencode_any (kind : Int) (hk : ((kind : Int) == 1) = false) (n : Nat) (hn0 : 0 < n) (hn : n ≤ 100) (C : Nat → CD) (F : Nat → List Nat) (hz : F 0 = [])
    (hr : ∀ i, i < n → PRnd kind C F i) (g c : Nat) (w : World) (hcell : ∀ i, i < n → AtC w g (i * 6) (C i).b (C i).x (C i).u (C i).t (C i).p (C i).q) :
    Calls Tryz.prog 87 #[.int .i64 kind, .slice (some ⟨g, 0, none⟩) n c] w fun e w' => e = .returned (.string (strN (F n))) ∧ Below w.heap.size w w' := by
  have hg := hide (cell_lt6 (hcell 0 hn0).c0)
  have Z5 := hide hz
  have HC := hide hcell
  have HR := hide hr
  clear hcell hr hz
  have hst := fun (w1 : World) (a1 : Addr) (m : Mode) (x y : Nat) => run_store Tryz.prog w1 a1 (.complex .f64 x y) m rfl
  go_enter Tryz.func87, Tryz.ntmps87
  go_wp2_with fail
  go_loopw [33] (fun iv wr => ∃ i : Nat, i ≤ n ∧ iv = .int .i64 (i : Int) ∧ ∃ sv', Wr wr w.heap.size w.heap.size sv' (F i) ∧ Below w.heap.size w wr) (fun iv _ => n - (intOf iv).toNat)
  case atStart =>
    refine ⟨0, by omega, rfl, .slice none 0 0, ⟨Blk.new _ _ _, ?_, Nat.le_refl _⟩, (Below.refl _ _).alloc (Nat.le_refl _) _⟩
    rw [Z5.out]; exact ownU8_nil _ _
  case round =>
    obtain ⟨i, hi, rfl, sv', hw, hb⟩ := hrel
    by_cases hlt : i < n
    · have HA := (HC.out i hlt).below hb hg.out
      have hgr : g < wr.heap.size := Nat.lt_of_lt_of_le hg.out hb.size
      have HW := hide hw
      have HB := hide hb
      have KP := hide (fun o => HR.out i hlt (wr.alloc o) _ _ _ (HW.out.below ((Below.refl _ _).alloc (Nat.le_refl _) _)) (by simp; exact Nat.le_succ_of_le HB.out.size))
      obtain ⟨a0, a1, a2, a3, a4, a5⟩ := HA
      clear hw hb
      unfold CD.v clV clA at KP
      generalize (C i).b = xb at *
      generalize (C i).x = xx at *
      generalize (C i).u = xu at *
      generalize (C i).t = xt at *
      generalize (C i).p = xp at *
      generalize (C i).q = xq at *
      have hi0 : (0 : Int) ≤ (i : Int) := by omega
      have hi1 : (i : Int) < (n : Int) := by omega
      go_wp2_with fail
      refine (KP.out _).mono ?_
      rintro e w2 ⟨rfl, sv2, hw2, hs2⟩
      have HW2 := hide hw2
      have HB2 := hide ((HB.out.alloc HB.out.size _).trans (hs2.below (HW.out.below ((Below.refl wr.heap.size wr).alloc (Nat.le_refl _) _)) (by simp; exact Nat.le_succ_of_le HB.out.size)))
      clear hw2 hs2 a0 a1 a2 a3 a4 a5 KP
      go_wp2_with fail
      go_roundw
      case rel => exact ⟨i + 1, by omega, by go_num, sv2, HW2.out, HB2.out⟩
      case measure => simp [intOf] <;> omega
    · have hin : i = n := by omega
      subst hin
      have K := hide (wstring_any _ _ _ _ _ hw)
      have HB := hide hb
      clear hw hb
      go_wp2_with fail
      refine K.out.mono ?_
      rintro e w2 ⟨rfl, rfl⟩
      go_wp2_with fail
      go_ret
      exact ⟨rfl, HB.out⟩
end Go.Proofs.YtfkgmodgkifelaaGreatDoor
namespace Go.Proofs.YtfkgmodgkifelaaGreatDoor
open Go.RowKit

theorem whm2 : Wh 13835058055282163712 (-2) := ⟨by kernel_rfl, by kernel_rfl, by kernel_rfl, by kernel_rfl, by kernel_rfl, by kernel_rfl, by kernel_rfl⟩
set_option maxHeartbeats 1000000 in
set_option maxRecDepth 100000 in
theorem pput_int (W B : Nat) (sv : Value) (l : List Nat) (x : Nat) (hx : x < 9223372036854775808) (c : CD) (hc : c.x = x) (w : World) (h : Wr w W B sv l) (hl : l.length ≤ 1000) (hB : B ≤ w.heap.size) :
    Calls Tryz.prog 74 #[.pointer (some ⟨W, 0, none⟩), .int .i64 2, c.v] w (WPost W B w sv (l ++ fixN x 8)) := by
  have K := hide (fun (o : Obj) => wu64_any W B sv l x (by omega) (w.alloc o) (h.below ((Below.refl _ _).alloc (Nat.le_refl _) _)) (by omega) (by simp; omega))
  have HB := hide hB
  clear hB hl h
  obtain ⟨cb, cx, cu, ct, cp, cq⟩ := c
  obtain rfl : cx = (x : Int) := hc
  unfold CD.v clV clA
  go_enter Tryz.func74, Tryz.ntmps74
  go_wp2_with fail
  refine (K.out _).mono ?_
  rintro e w1 ⟨rfl, sv1, hw1, hs1⟩
  have HW1 := hide hw1
  have HS1 := hide (WS.ahead ((Below.refl w.heap.size w).alloc (Nat.le_refl _) _) hs1)
  clear hw1 hs1
  go_wp2_with fail
  go_end0
  exact ⟨rfl, sv1, HW1.out, HS1.out⟩
set_option maxHeartbeats 1000000 in
set_option maxRecDepth 100000 in
theorem pput_text (W B : Nat) (sv : Value) (l : List Nat) (c : CD) (hs : c.t.size ≤ 1000) (w : World) (h : Wr w W B sv l) (hl : l.length ≤ 1000) (hB : B ≤ w.heap.size) :
    Calls Tryz.prog 74 #[.pointer (some ⟨W, 0, none⟩), .int .i64 5, c.v] w (WPost W B w sv (l ++ (uvar c.t.size ++ bn c.t))) := by
  have K := hide (fun (o : Obj) => wtext_any W B sv l c.t (by omega) (w.alloc o) (h.below ((Below.refl _ _).alloc (Nat.le_refl _) _)) (by omega) (by simp; omega))
  have HB := hide hB
  clear hB hl h hs
  obtain ⟨cb, cx, cu, ct, cp, cq⟩ := c
  unfold CD.v clV clA
  simp only at K ⊢
  go_enter Tryz.func74, Tryz.ntmps74
  go_wp2_with fail
  refine (K.out _).mono ?_
  rintro e w1 ⟨rfl, sv1, hw1, hs1⟩
  have HW1 := hide hw1
  have HS1 := hide (WS.ahead ((Below.refl w.heap.size w).alloc (Nat.le_refl _) _) hs1)
  clear hw1 hs1
  go_wp2_with fail
  go_end0
  exact ⟨rfl, sv1, HW1.out, HS1.out⟩
theorem atC_blk {w : World} {g : Nat} {t : TypeId} {c : CD} (h : Blk w g t (clA c.b c.x c.u c.t c.p c.q)) : AtC w g (0 * 6) c.b c.x c.u c.t c.p c.q :=
  ⟨h.cell 0, h.cell 1, h.cell 2, h.cell 3, h.cell 4, h.cell 5⟩
theorem enc_one (kind : Int) (hk : ((kind : Int) == 1) = false) (c : CD) (l : List Nat)
    (hr : ∀ (w : World) (W B : Nat) (sv : Value), Wr w W B sv [] → B ≤ w.heap.size → Calls Tryz.prog 74 #[.pointer (some ⟨W, 0, none⟩), .int .i64 kind, c.v] w (WPost W B w sv l))
    (w : World) (g : Nat) (t : TypeId) (h : Blk w g t (clA c.b c.x c.u c.t c.p c.q)) :
    Calls Tryz.prog 87 #[.int .i64 kind, .slice (some ⟨g, 0, none⟩) 1 1] w fun e w' => e = .returned (.string (strN l)) ∧ Below w.heap.size w w' :=
  pencode_any kind hk 1 (by omega) (by omega) (fun _ => c) (fun i => if i = 0 then [] else l) rfl (fun i hi => by
    obtain rfl : i = 0 := by omega
    exact hr) g 1 w (fun i hi => by
    obtain rfl : i = 0 := by omega
    exact atC_blk h)
theorem bl1 : strN [1, 0, 0, 0, 0, 0, 0, 0] = ⟨#[1, 0, 0, 0, 0, 0, 0, 0]⟩ := strN_bn ⟨#[1, 0, 0, 0, 0, 0, 0, 0]⟩
theorem bl23 : strN [2, 3] = ⟨#[2, 3]⟩ := strN_bn ⟨#[2, 3]⟩
theorem bl2e : strN [2, 195, 169] = ⟨#[2, 195, 169]⟩ := strN_bn ⟨#[2, 195, 169]⟩
theorem uvp2 : uvar (zz 1) ++ uvar (zz (-2)) = [2, 3] := by
  rw [show zz 1 = 2 by decide, show zz (-2) = 3 by decide, uvar_small (by omega), uvar_small (by omega)]; rfl
theorem uvte : uvar 2 ++ bn ⟨#[195, 169]⟩ = [2, 195, 169] := by
  rw [uvar_small (by omega)]; rfl
theorem pe_int (w : World) (g : Nat) (t : TypeId) (h : Blk w g t (clA false 1 0 ByteArray.empty 0 0)) :
    Calls Tryz.prog 87 #[.int .i64 2, .slice (some ⟨g, 0, none⟩) 1 1] w fun e w' => e = .returned (.string ⟨#[1, 0, 0, 0, 0, 0, 0, 0]⟩) ∧ Below w.heap.size w w' := by
  rw [← bl1]
  exact enc_one 2 (by decide) ⟨false, 1, 0, ByteArray.empty, 0, 0⟩ _ (fun w W B sv hw hB => pput_int W B sv [] 1 (by omega) _ rfl w hw (by simp) hB) w g t h
theorem pe_point (w : World) (g : Nat) (t : TypeId) (h : Blk w g t (clA false 0 0 ByteArray.empty 4607182418800017408 13835058055282163712)) :
    Calls Tryz.prog 87 #[.int .i64 6, .slice (some ⟨g, 0, none⟩) 1 1] w fun e w' => e = .returned (.string ⟨#[2, 3]⟩) ∧ Below w.heap.size w w' := by
  rw [← bl23, ← uvp2]
  exact enc_one 6 (by decide) ⟨false, 0, 0, ByteArray.empty, 4607182418800017408, 13835058055282163712⟩ _ (fun w W B sv hw hB => pput_any W B sv [] 4607182418800017408 13835058055282163712 1 (-2) wh1 whm2 (by omega) (by omega) w hw (by simp) hB) w g t h
theorem pe_text (w : World) (g : Nat) (t : TypeId) (h : Blk w g t (clA false 0 0 ⟨#[195, 169]⟩ 0 0)) :
    Calls Tryz.prog 87 #[.int .i64 5, .slice (some ⟨g, 0, none⟩) 1 1] w fun e w' => e = .returned (.string ⟨#[2, 195, 169]⟩) ∧ Below w.heap.size w w' := by
  rw [← bl2e, ← uvte]
  exact enc_one 5 (by decide) ⟨false, 0, 0, ⟨#[195, 169]⟩, 0, 0⟩ _ (fun w W B sv hw hB => pput_text W B sv [] ⟨false, 0, 0, ⟨#[195, 169]⟩, 0, 0⟩ (by decide) w hw (by simp) hB) w g t h
end Go.Proofs.YtfkgmodgkifelaaGreatDoor
namespace Go.Proofs.YtfkgmodgkifelaaGreatDoor
open Go.RowKit

def NewRd (w : World) (s : ByteArray) (e : Ending) (w' : World) : Prop := ∃ R, e = .returned (.pointer (some ⟨R, 0, none⟩)) ∧ Rd w' R s 0 0 ∧ w.heap.size ≤ R ∧ Below w.heap.size w w'
theorem rd_new (s : ByteArray) (w : World) : Calls Tryz.prog 25 #[.string s] w (NewRd w s) := by
  go_enter Tryz.func25, Tryz.ntmps25
  go_wp2_with fail
  go_ret
  exact ⟨w.heap.size, rfl, Blk.new _ _ _, Nat.le_refl _, (Below.refl _ _).alloc (Nat.le_refl _) _⟩
set_option maxHeartbeats 2000000 in
set_option maxRecDepth 100000 in
theorem gget_nil (k : Int) (w : World) : Calls Tryz.prog 109 #[.pointer none, .int .i64 k] w fun e w' => e = .returned (.tuple #[clZ, .int .i64 2]) ∧ Below w.heap.size w w' := by
  have hst := fun (w1 : World) (a1 : Addr) (m : Mode) (x y : Nat) => run_store Tryz.prog w1 a1 (.complex .f64 x y) m rfl
  go_enter Tryz.func109, Tryz.ntmps109
  go_wp2_with fail
  refine bodyPost_ret (results_cell_tmp_row' rfl _ _ _ w.heap.size 45 #[.bool false, .bool false, .int .i64 0, .int .u64 0, .string { data := #[] }, .complex .f64 0 0] (0, 0) rfl (blk_new1 _ _ _) Tryz.underlying45 (by exact info_c)) rfl ?_
  exact ⟨rfl, (Below.refl _ _).alloc (Nat.le_refl _) _⟩
set_option maxHeartbeats 2000000 in
set_option maxRecDepth 100000 in
theorem gget_kind (k : Int) (hk : k < 1 ∨ 6 < k) (R : Nat) (w : World) : Calls Tryz.prog 109 #[.pointer (some ⟨R, 0, none⟩), .int .i64 k] w fun e w' => e = .returned (.tuple #[clZ, .int .i64 14]) ∧ Below w.heap.size w w' := by
  have KI := hide (is_no k hk)
  clear hk
  have hst := fun (w1 : World) (a1 : Addr) (m : Mode) (x y : Nat) => run_store Tryz.prog w1 a1 (.complex .f64 x y) m rfl
  go_enter Tryz.func109, Tryz.ntmps109
  go_wp2_with fail
  refine (KI.out _).mono ?_
  rintro e w0 ⟨rfl, rfl⟩
  go_wp2_with fail
  refine bodyPost_ret (results_cell_tmp_row' rfl _ _ _ w.heap.size 45 #[.bool false, .bool false, .int .i64 0, .int .u64 0, .string { data := #[] }, .complex .f64 0 0] (0, 0) rfl (blk_new1 _ _ _) Tryz.underlying45 (by exact info_c)) rfl ?_
  exact ⟨rfl, (Below.refl _ _).alloc (Nat.le_refl _) _⟩
set_option maxHeartbeats 1000000 in
set_option maxRecDepth 100000 in
theorem skind_any (k : Int) (b : Bool) (hb : Hid (b = decide (1 ≤ k ∧ k ≤ 6))) (w : World) : Calls Tryz.prog 96 #[.int .i64 k] w fun e w' => e = .returned (.bool b) ∧ w = w' := by
  by_cases h1 : 1 ≤ k
  · by_cases h6 : k ≤ 6
    · obtain rfl : b = true := by rw [hb.out]; simp [h1, h6]
      clear hb
      go_enter Tryz.func96, Tryz.ntmps96
      go_wp2_with fail
      go_ret
      exact ⟨rfl, rfl⟩
    · obtain rfl : b = false := by rw [hb.out]; simp [h6]
      clear hb
      have h6' : decide (k ≤ 6) = false := by simpa using h6
      go_enter Tryz.func96, Tryz.ntmps96
      go_wp2_with fail
      go_ret
      exact ⟨rfl, rfl⟩
  · obtain rfl : b = false := by rw [hb.out]; simp [h1]
    clear hb
    have h1' : decide (1 ≤ k) = false := by simpa using h1
    go_enter Tryz.func96, Tryz.ntmps96
    go_wp2_with fail
    go_ret
    exact ⟨rfl, rfl⟩
/-- One cell against itself. -/
theorem cells_one (c : CD) (hc : c.num) (w : World) (g1 g2 : Nat) (t1 t2 : TypeId) (h1 : Blk w g1 t1 (clA c.b c.x c.u c.t c.p c.q)) (h2 : Blk w g2 t2 (clA c.b c.x c.u c.t c.p c.q)) :
    Calls Tryz.prog 8 #[.slice (some ⟨g1, 0, none⟩) 1 1, .slice (some ⟨g2, 0, none⟩) 1 1] w fun e w' => e = .returned (.bool true) ∧ ∃ m, w' = w.drewN m :=
  cells_same 1 (by omega) g1 g2 1 1 (fun _ => c.b) (fun _ => c.x) (fun _ => c.u) (fun _ => c.t) (fun _ => c.p) (fun _ => c.q) w
    (fun i hi => by obtain rfl : i = 0 := by omega
                    exact atC_blk h1) (fun i hi => by obtain rfl : i = 0 := by omega
                                                      exact atC_blk h2) (fun i _ => hc)
theorem blk_s1 (w : World) (a d : Obj) (cs : Array Value) (t : TypeId) : Blk (((w.alloc a).alloc (.cells cs t)).alloc d) (w.heap.size + 1) t cs := by
  have := (Blk.new (w.alloc a) cs t).alloc d
  rwa [show (w.alloc a).heap.size = w.heap.size + 1 by simp] at this
theorem blk_s2 (w : World) (a d : Obj) (cs : Array Value) (t : TypeId) : Blk (((w.alloc a).alloc d).alloc (.cells cs t)) (w.heap.size + 1 + 1) t cs := by
  have := Blk.new ((w.alloc a).alloc d) cs t
  rwa [show ((w.alloc a).alloc d).heap.size = w.heap.size + 1 + 1 by simp] at this
end Go.Proofs.YtfkgmodgkifelaaGreatDoor
