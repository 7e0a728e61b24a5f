/- A cell by itself: what it is (plain Lean), and the document's answer by kinds. -/
import Derived.Test.YtihbcojmonlcgaaDoorPlainG
import Derived.Test.YtihbcojmonlcgaaDoorPlainR3
namespace Go.Proofs.YtihbcojmonlcgaaDoor
open Go.RowKit

/-- What counts of a cell that is not missing. -/
structure CD where
  b : Bool
  x : Int
  u : Int
  t : ByteArray
  p : Nat
  q : Nat
def CD.v (c : CD) : Value := clV c.b c.x c.u c.t c.p c.q
def CD.z : CD := ⟨false, 0, 0, ByteArray.empty, 0, 0⟩
theorem results_cell_two {fn : Func} {p u u2 : Tmp} {ty : TypeId} (h : fn.results = #[.cell p ty, .tmp u, .tmp u2]) (tmps : Array Value) (P : Program) (w : World) (g : Nat) (t : TypeId) (cs : Array Value) (fr : Nat × Nat) {fs : Array Field}
    (hp : tmps.getD p undef = .pointer (some ⟨g, 0, none⟩)) (hg : w.heap[g]? = some (.cells cs t fr))
    (hu : P.underlying ty = some (.struct fs)) (hi : (P.info? ty).map (·.size) = some cs.size) :
    (results fn tmps).run P w = .ok (.tuple #[.agg cs, tmps.getD u undef, tmps.getD u2 undef]) w := by
  have hp' : tmps[p]?.getD undef = .pointer (some ⟨g, 0, none⟩) := by simpa using hp
  have hl := run_loadVar_row w g t ty cs fr _ hg hu rfl hi
  simp only [results, h]
  simp [Sem.run_bind, hp', asAddr, hl]
/-- The answer of one read: a cell, how many bytes it has, what is wrong. -/
def SPost (w : World) (c : Value) (n er : Nat) (e : Ending) (w' : World) : Prop :=
  e = .returned (.tuple #[c, .int .i64 (n : Nat), .int .i64 (er : Nat)]) ∧ Below w.heap.size w w'
theorem blk_new1 (w : World) (cs : Array Value) (t : TypeId) : (w.alloc (.cells cs t)).heap[w.heap.size]? = some (.cells cs t (0, 0)) := Blk.new w cs t
set_option maxHeartbeats 2000000 in
set_option maxRecDepth 100000 in
theorem sread_bool (s : ByteArray) (hs : s.size ≤ maxLen) (x n er : Nat) (hn : Hid (num 1 (bn s) = (x, n, er))) (c : Value) (e' : Nat)
    (hcase : Hid ((er = 0 ∧ x ≤ 1 ∧ c = clV ((x : Int) == 1) 0 0 ByteArray.empty 0 0 ∧ e' = 0) ∨ (er = 0 ∧ 1 < x ∧ c = clZ ∧ e' = 12) ∨ (0 < er ∧ x = 0 ∧ c = clZ ∧ e' = er))) (w : World) :
    Calls Tryd.prog 17 #[.int .i64 1, .string s] w (SPost w c n e') := by
  have K := hide (fun (o : Obj) => snum_any s 1 (by omega) (by omega) hs (w.alloc o))
  rw [hn.out] at K
  simp only at K
  clear hn
  have hst := fun (w1 : World) (a1 : Addr) (m : Mode) (x y : Nat) => run_store Tryd.prog w1 a1 (.complex .f64 x y) m rfl
  go_enter Tryd.func17, Tryd.ntmps17
  go_wp2_with fail
  refine (K.out _).mono ?_
  rintro e w1 ⟨rfl, rfl⟩
  rcases hcase.out with ⟨rfl, hx, rfl, rfl⟩ | ⟨rfl, hx, rfl, rfl⟩ | ⟨hpos, rfl, rfl, rfl⟩
  · have hx' : (x : Int) ≤ 1 := by omega
    clear hcase
    go_wp2_with fail
    refine bodyPost_ret (results_cell_two rfl _ _ _ w.heap.size 34 #[.bool false, .bool ((x : Int) == 1), .int .i64 0, .int .u64 0, .string { data := #[] }, .complex .f64 0 0] (0, 0) rfl (blk_new1 _ _ _) Tryd.underlying34 (by exact info_c)) rfl ?_
    exact ⟨rfl, (Below.refl _ _).alloc (Nat.le_refl _) _⟩
  · have hx' : (1 : Int) < (x : Int) := by omega
    clear hcase
    go_wp2_with fail
    refine bodyPost_ret (results_cell_two rfl _ _ _ w.heap.size 34 #[.bool false, .bool false, .int .i64 0, .int .u64 0, .string { data := #[] }, .complex .f64 0 0] (0, 0) rfl (blk_new1 _ _ _) Tryd.underlying34 (by exact info_c)) rfl ?_
    exact ⟨rfl, (Below.refl _ _).alloc (Nat.le_refl _) _⟩
  · have hne : ((e' : Int) == 0) = false := by rw [beq_eq_false_iff_ne]; omega
    clear hcase
    go_wp2_with fail
    refine bodyPost_ret (results_cell_two rfl _ _ _ w.heap.size 34 #[.bool false, .bool false, .int .i64 0, .int .u64 0, .string { data := #[] }, .complex .f64 0 0] (0, 0) rfl (blk_new1 _ _ _) Tryd.underlying34 (by exact info_c)) rfl ?_
    exact ⟨rfl, (Below.refl _ _).alloc (Nat.le_refl _) _⟩
set_option maxHeartbeats 2000000 in
set_option maxRecDepth 100000 in
theorem sread_int (s : ByteArray) (hs : s.size ≤ maxLen) (x n er : Nat) (hn : Hid (num 8 (bn s) = (x, n, er))) (w : World) :
    Calls Tryd.prog 17 #[.int .i64 2, .string s] w (SPost w (clV false (wrap64 (x : Nat)) 0 ByteArray.empty 0 0) n er) := by
  have K := hide (fun (o : Obj) => snum_any s 8 (by omega) (by omega) hs (w.alloc o))
  rw [hn.out] at K
  simp only at K
  clear hn
  have hst := fun (w1 : World) (a1 : Addr) (m : Mode) (x y : Nat) => run_store Tryd.prog w1 a1 (.complex .f64 x y) m rfl
  go_enter Tryd.func17, Tryd.ntmps17
  go_wp2_with fail
  refine (K.out _).mono ?_
  rintro e w1 ⟨rfl, rfl⟩
  go_wp2_with fail
  refine bodyPost_ret (results_cell_two rfl _ _ _ w.heap.size 34 #[.bool false, .bool false, .int .i64 (wrap64 (x : Int)), .int .u64 0, .string { data := #[] }, .complex .f64 0 0] (0, 0) rfl (blk_new1 _ _ _) Tryd.underlying34 (by exact info_c)) rfl ?_
  exact ⟨rfl, (Below.refl _ _).alloc (Nat.le_refl _) _⟩
set_option maxHeartbeats 2000000 in
set_option maxRecDepth 100000 in
theorem sread_uint (s : ByteArray) (hs : s.size ≤ maxLen) (x n er : Nat) (hn : Hid (num 8 (bn s) = (x, n, er))) (w : World) :
    Calls Tryd.prog 17 #[.int .i64 3, .string s] w (SPost w (clV false 0 (x : Nat) ByteArray.empty 0 0) n er) := by
  have K := hide (fun (o : Obj) => snum_any s 8 (by omega) (by omega) hs (w.alloc o))
  rw [hn.out] at K
  simp only at K
  clear hn
  have hst := fun (w1 : World) (a1 : Addr) (m : Mode) (x y : Nat) => run_store Tryd.prog w1 a1 (.complex .f64 x y) m rfl
  go_enter Tryd.func17, Tryd.ntmps17
  go_wp2_with fail
  refine (K.out _).mono ?_
  rintro e w1 ⟨rfl, rfl⟩
  go_wp2_with fail
  refine bodyPost_ret (results_cell_two rfl _ _ _ w.heap.size 34 #[.bool false, .bool false, .int .i64 0, .int .u64 (x : Int), .string { data := #[] }, .complex .f64 0 0] (0, 0) rfl (blk_new1 _ _ _) Tryd.underlying34 (by exact info_c)) rfl ?_
  exact ⟨rfl, (Below.refl _ _).alloc (Nat.le_refl _) _⟩
set_option maxHeartbeats 2000000 in
set_option maxRecDepth 100000 in
theorem sread_bytes (s : ByteArray) (hs : s.size ≤ maxLen) (x : List Nat) (n er : Nat) (hn : Hid (textS 1048576 (bn s) = (x, n, er))) (w : World) :
    Calls Tryd.prog 17 #[.int .i64 4, .string s] w (SPost w (clV false 0 0 (strN x) 0 0) n er) := by
  have K := hide (fun (o : Obj) => stext_any s 1048576 (by omega) (by omega) hs (w.alloc o))
  rw [hn.out] at K
  simp only at K
  clear hn
  generalize strN x = t at *
  have hst := fun (w1 : World) (a1 : Addr) (m : Mode) (x y : Nat) => run_store Tryd.prog w1 a1 (.complex .f64 x y) m rfl
  go_enter Tryd.func17, Tryd.ntmps17
  go_wp2_with fail
  refine (K.out _).mono ?_
  rintro e w1 ⟨rfl, rfl⟩
  cases her : ((er : Int) == 0)
  · go_wp2_with fail
    refine bodyPost_ret (results_cell_two rfl _ _ _ w.heap.size 34 #[.bool false, .bool false, .int .i64 0, .int .u64 0, .string t, .complex .f64 0 0] (0, 0) rfl (blk_new1 _ _ _) Tryd.underlying34 (by exact info_c)) rfl ?_
    exact ⟨rfl, (Below.refl _ _).alloc (Nat.le_refl _) _⟩
  · go_wp2_with fail
    refine bodyPost_ret (results_cell_two rfl _ _ _ w.heap.size 34 #[.bool false, .bool false, .int .i64 0, .int .u64 0, .string t, .complex .f64 0 0] (0, 0) rfl (blk_new1 _ _ _) Tryd.underlying34 (by exact info_c)) rfl ?_
    exact ⟨rfl, (Below.refl _ _).alloc (Nat.le_refl _) _⟩
set_option maxHeartbeats 2000000 in
set_option maxRecDepth 100000 in
theorem sfar_no (x : Int) (h : farB x = false) (w : World) : Calls Tryd.prog 44 #[.int .i64 x] w fun e w' => e = .returned (.bool false) ∧ w = w' := by
  unfold farB at h
  rw [decide_eq_false_iff_not] at h
  have h1 : decide (x < -9007199254740992) = false := by rw [decide_eq_false_iff_not]; omega
  have h2 : decide (9007199254740992 < x) = false := by rw [decide_eq_false_iff_not]; omega
  clear h
  go_enter Tryd.func44, Tryd.ntmps44
  go_wp2_with fail
  go_ret
  exact ⟨rfl, rfl⟩
set_option maxHeartbeats 2000000 in
set_option maxRecDepth 100000 in
theorem sfar_yes (x : Int) (h : farB x = true) (w : World) : Calls Tryd.prog 44 #[.int .i64 x] w fun e w' => e = .returned (.bool true) ∧ w = w' := by
  unfold farB at h
  rw [decide_eq_true_eq] at h
  by_cases hx : x < -9007199254740992
  · have h1 : decide (x < -9007199254740992) = true := by rw [decide_eq_true_eq]; omega
    clear h
    go_enter Tryd.func44, Tryd.ntmps44
    go_wp2_with fail
    go_ret
    exact ⟨rfl, rfl⟩
  · have h1 : decide (x < -9007199254740992) = false := by rw [decide_eq_false_iff_not]; omega
    have h2 : decide (9007199254740992 < x) = true := by rw [decide_eq_true_eq]; omega
    clear h
    go_enter Tryd.func44, Tryd.ntmps44
    go_wp2_with fail
    go_ret
    exact ⟨rfl, rfl⟩
set_option maxHeartbeats 2000000 in
set_option maxRecDepth 100000 in
theorem sread_point (s : ByteArray) (hs : s.size ≤ maxLen) (x n er y m fr : Nat) (h1 : Hid (few (bn s) 0 = (x, n, er))) (h2 : Hid (few ((bn s).drop n) 0 = (y, m, fr))) (c : Value) (k e' : Nat)
    (hcase : Hid ((0 < er ∧ c = clZ ∧ k = 0 ∧ e' = er) ∨ (er = 0 ∧ 0 < fr ∧ c = clZ ∧ k = n ∧ e' = fr) ∨ (er = 0 ∧ fr = 0 ∧ farB (back x) = false ∧ farB (back y) = false ∧ c = clV false 0 0 ByteArray.empty (floatOfInt .f64 (back x)) (floatOfInt .f64 (back y)) ∧ k = n + m ∧ e' = 0) ∨
      (er = 0 ∧ fr = 0 ∧ (farB (back x) = true ∨ farB (back x) = false ∧ farB (back y) = true) ∧ c = clZ ∧ k = n + m ∧ e' = 12))) (w : World) :
    Calls Tryd.prog 17 #[.int .i64 6, .string s] w (SPost w c k e') := by
  have K := hide (fun (o : Obj) => sfew_any s hs (w.alloc o))
  have hns : n ≤ s.size := by
    have h0 := few_err (bn s) 0
    have h3 := few_le (bn s) 0
    rw [h1.out] at h0 h3
    simp only [Prod.mk.injEq] at h0 h3
    rw [bn_len] at h3
    rcases h0 with h | ⟨_, h, _⟩ | ⟨_, h, _⟩
    · exact (h3 h).1
    · omega
    · omega
  have hms : m ≤ s.size - n := by
    have h0 := few_err ((bn s).drop n) 0
    have h3 := few_le ((bn s).drop n) 0
    rw [h2.out] at h0 h3
    simp only [Prod.mk.injEq] at h0 h3
    rw [List.length_drop, bn_len] at h3
    rcases h0 with h | ⟨_, h, _⟩ | ⟨_, h, _⟩
    · exact (h3 h).1
    · omega
    · omega
  have hx := few_lt64 (bn s)
  have hy := few_lt64 ((bn s).drop n)
  have hsz : (s.extract n s.size).size = s.size - n := by simp
  have K2 := hide (fun (w : World) => sfew_any (s.extract n s.size) (by unfold maxLen at *; omega) w)
  rw [bn_drop] at K2
  rw [h1.out] at K hx
  rw [h2.out] at K2 hy
  simp only at K K2 hx hy
  have B1 := hide (fun (w : World) => sback_any x hx w)
  have B2 := hide (fun (w : World) => sback_any y hy w)
  unfold maxLen at hs
  clear h1 h2 hsz hx hy
  have hst := fun (w1 : World) (a1 : Addr) (m : Mode) (x y : Nat) => run_store Tryd.prog w1 a1 (.complex .f64 x y) m rfl
  go_enter Tryd.func17, Tryd.ntmps17
  go_wp2_with fail
  refine (K.out _).mono ?_
  rintro e w1 ⟨rfl, rfl⟩
  rcases hcase.out with ⟨hpos, rfl, rfl, rfl⟩ | ⟨rfl, hpos, rfl, rfl, rfl⟩ | ⟨rfl, rfl, ha, hb, rfl, rfl, rfl⟩ | ⟨rfl, rfl, hab, rfl, rfl, rfl⟩
  · have hne : ((e' : Int) != 0) = true := by rw [bne_iff_ne]; omega
    clear hcase
    go_wp2_with fail
    refine bodyPost_ret (results_cell_two rfl _ _ _ w.heap.size 34 #[.bool false, .bool false, .int .i64 0, .int .u64 0, .string { data := #[] }, .complex .f64 0 0] (0, 0) rfl (blk_new1 _ _ _) Tryd.underlying34 (by exact info_c)) rfl ?_
    exact ⟨rfl, (Below.refl _ _).alloc (Nat.le_refl _) _⟩
  · have hne : ((e' : Int) != 0) = true := by rw [bne_iff_ne]; omega
    clear hcase
    go_wp2_with fail
    refine (K2.out _).mono ?_
    rintro e w1 ⟨rfl, rfl⟩
    go_wp2_with fail
    refine bodyPost_ret (results_cell_two rfl _ _ _ w.heap.size 34 #[.bool false, .bool false, .int .i64 0, .int .u64 0, .string { data := #[] }, .complex .f64 0 0] (0, 0) rfl (blk_new1 _ _ _) Tryd.underlying34 (by exact info_c)) rfl ?_
    exact ⟨rfl, (Below.refl _ _).alloc (Nat.le_refl _) _⟩
  · have F1 := hide (fun (w : World) => sfar_no (back x) ha w)
    have F2 := hide (fun (w : World) => sfar_no (back y) hb w)
    clear hcase ha hb
    go_wp2_with fail
    refine (K2.out _).mono ?_
    rintro e w1 ⟨rfl, rfl⟩
    go_wp2_with fail
    refine (B1.out _).mono ?_
    rintro e w1 ⟨rfl, rfl⟩
    go_wp2_with fail
    refine (B2.out _).mono ?_
    rintro e w1 ⟨rfl, rfl⟩
    generalize back x = a at *
    generalize back y = b at *
    go_wp2_with fail
    refine (F1.out _).mono ?_
    rintro e w1 ⟨rfl, rfl⟩
    go_wp2_with fail
    refine (F2.out _).mono ?_
    rintro e w1 ⟨rfl, rfl⟩
    go_wp2_with fail
    refine bodyPost_ret (results_cell_two rfl _ _ _ w.heap.size 34 #[.bool false, .bool false, .int .i64 0, .int .u64 0, .string { data := #[] }, .complex .f64 (floatOfInt .f64 a) (floatOfInt .f64 b)] (0, 0) rfl (blk_new1 _ _ _) Tryd.underlying34 (by exact info_c)) rfl ?_
    exact ⟨rfl, (Below.refl _ _).alloc (Nat.le_refl _) _⟩
  · rcases hab with ha | ⟨ha, hb⟩
    · have F1 := hide (fun (w : World) => sfar_yes (back x) ha w)
      clear hcase ha
      go_wp2_with fail
      refine (K2.out _).mono ?_
      rintro e w1 ⟨rfl, rfl⟩
      go_wp2_with fail
      refine (B1.out _).mono ?_
      rintro e w1 ⟨rfl, rfl⟩
      go_wp2_with fail
      refine (B2.out _).mono ?_
      rintro e w1 ⟨rfl, rfl⟩
      generalize back x = a at *
      generalize back y = b at *
      go_wp2_with fail
      refine (F1.out _).mono ?_
      rintro e w1 ⟨rfl, rfl⟩
      go_wp2_with fail
      refine bodyPost_ret (results_cell_two rfl _ _ _ w.heap.size 34 #[.bool false, .bool false, .int .i64 0, .int .u64 0, .string { data := #[] }, .complex .f64 0 0] (0, 0) rfl (blk_new1 _ _ _) Tryd.underlying34 (by exact info_c)) rfl ?_
      exact ⟨rfl, (Below.refl _ _).alloc (Nat.le_refl _) _⟩
    · have F1 := hide (fun (w : World) => sfar_no (back x) ha w)
      have F2 := hide (fun (w : World) => sfar_yes (back y) hb w)
      clear hcase ha hb
      go_wp2_with fail
      refine (K2.out _).mono ?_
      rintro e w1 ⟨rfl, rfl⟩
      go_wp2_with fail
      refine (B1.out _).mono ?_
      rintro e w1 ⟨rfl, rfl⟩
      go_wp2_with fail
      refine (B2.out _).mono ?_
      rintro e w1 ⟨rfl, rfl⟩
      generalize back x = a at *
      generalize back y = b at *
      go_wp2_with fail
      refine (F1.out _).mono ?_
      rintro e w1 ⟨rfl, rfl⟩
      go_wp2_with fail
      refine (F2.out _).mono ?_
      rintro e w1 ⟨rfl, rfl⟩
      go_wp2_with fail
      refine bodyPost_ret (results_cell_two rfl _ _ _ w.heap.size 34 #[.bool false, .bool false, .int .i64 0, .int .u64 0, .string { data := #[] }, .complex .f64 0 0] (0, 0) rfl (blk_new1 _ _ _) Tryd.underlying34 (by exact info_c)) rfl ?_
      exact ⟨rfl, (Below.refl _ _).alloc (Nat.le_refl _) _⟩
end Go.Proofs.YtihbcojmonlcgaaDoor
