/- A cell by itself: what it is (plain Lean), and the document's answer by kinds. A text that is UTF-8: plain.read and the document's answer at the kind Text. -/
import Derived.Test.YtfkgmodgkifelaaGreatDoorJ06
import Derived.Test.YtfkgmodgkifelaaGreatDoorUtf
import Derived.Deep.RegionHeld3
namespace Go.Proofs.YtfkgmodgkifelaaGreatDoor
open Go.RowKit

/-- What counts of a cell that is not missing. -/
structure CD where
  b : Bool
  x : Int
  u : Int
  t : ByteArray
  p : Nat
  q : Nat
def CD.v (c : CD) : Value := clV c.b c.x c.u c.t c.p c.q
def CD.z : CD := ⟨false, 0, 0, ByteArray.empty, 0, 0⟩
theorem results_cell_two {fn : Func} {p u u2 : Tmp} {ty : TypeId} (h : fn.results = #[.cell p ty, .tmp u, .tmp u2]) (tmps : Array Value) (P : Program) (w : World) (g : Nat) (t : TypeId) (cs : Array Value) (fr : Nat × Nat) {fs : Array Field}
    (hp : tmps.getD p undef = .pointer (some ⟨g, 0, none⟩)) (hg : w.heap[g]? = some (.cells cs t fr))
    (hu : P.underlying ty = some (.struct fs)) (hi : (P.info? ty).map (·.size) = some cs.size) :
    (results fn tmps).run P w = .ok (.tuple #[.agg cs, tmps.getD u undef, tmps.getD u2 undef]) w := by
  have hp' : tmps[p]?.getD undef = .pointer (some ⟨g, 0, none⟩) := by simpa using hp
  have hl := run_loadVar_row w g t ty cs fr _ hg hu rfl hi
  simp only [results, h]
  simp [hp', asAddr, hl]
/-- The answer of one read: a cell, how many bytes it has, what is wrong. -/
def SPost (w : World) (c : Value) (n er : Nat) (e : Ending) (w' : World) : Prop :=
  e = .returned (.tuple #[c, .int .i64 (n : Nat), .int .i64 (er : Nat)]) ∧ Below w.heap.size w w'
theorem blk_new1 (w : World) (cs : Array Value) (t : TypeId) : (w.alloc (.cells cs t)).heap[w.heap.size]? = some (.cells cs t (0, 0)) := Blk.new w cs t
set_option maxHeartbeats 2000000 in
set_option maxRecDepth 100000 in
theorem sread_bool (s : ByteArray) (hs : s.size ≤ maxLen) (x n er : Nat) (hn : Hid (num 1 (bn s) = (x, n, er))) (c : Value) (e' : Nat)
    (hcase : Hid ((er = 0 ∧ x ≤ 1 ∧ c = clV ((x : Int) == 1) 0 0 ByteArray.empty 0 0 ∧ e' = 0) ∨ (er = 0 ∧ 1 < x ∧ c = clZ ∧ e' = 12) ∨ (0 < er ∧ x = 0 ∧ c = clZ ∧ e' = er))) (w : World) :
    Calls Tryz.prog 97 #[.int .i64 1, .string s] w (SPost w c n e') := by
  have K := hide (fun (o : Obj) => snum_any s 1 (by omega) (by omega) hs (w.alloc o))
  rw [hn.out] at K
  simp only at K
  clear hn
  have hst := fun (w1 : World) (a1 : Addr) (m : Mode) (x y : Nat) => run_store Tryz.prog w1 a1 (.complex .f64 x y) m rfl
  go_enter Tryz.func97, Tryz.ntmps97
  go_wp2_with fail
  refine (K.out _).mono ?_
  rintro e w1 ⟨rfl, rfl⟩
  rcases hcase.out with ⟨rfl, hx, rfl, rfl⟩ | ⟨rfl, hx, rfl, rfl⟩ | ⟨hpos, rfl, rfl, rfl⟩
  · have hx' : (x : Int) ≤ 1 := by omega
    clear hcase
    go_wp2_with fail
    refine bodyPost_ret (results_cell_two rfl _ _ _ w.heap.size 45 #[.bool false, .bool ((x : Int) == 1), .int .i64 0, .int .u64 0, .string { data := #[] }, .complex .f64 0 0] (0, 0) rfl (blk_new1 _ _ _) Tryz.underlying45 (by exact info_c)) rfl ?_
    exact ⟨rfl, (Below.refl _ _).alloc (Nat.le_refl _) _⟩
  · have hx' : (1 : Int) < (x : Int) := by omega
    clear hcase
    go_wp2_with fail
    refine bodyPost_ret (results_cell_two rfl _ _ _ w.heap.size 45 #[.bool false, .bool false, .int .i64 0, .int .u64 0, .string { data := #[] }, .complex .f64 0 0] (0, 0) rfl (blk_new1 _ _ _) Tryz.underlying45 (by exact info_c)) rfl ?_
    exact ⟨rfl, (Below.refl _ _).alloc (Nat.le_refl _) _⟩
  · have hne : ((e' : Int) == 0) = false := by rw [beq_eq_false_iff_ne]; omega
    clear hcase
    go_wp2_with fail
    refine bodyPost_ret (results_cell_two rfl _ _ _ w.heap.size 45 #[.bool false, .bool false, .int .i64 0, .int .u64 0, .string { data := #[] }, .complex .f64 0 0] (0, 0) rfl (blk_new1 _ _ _) Tryz.underlying45 (by exact info_c)) rfl ?_
    exact ⟨rfl, (Below.refl _ _).alloc (Nat.le_refl _) _⟩
set_option maxHeartbeats 2000000 in
set_option maxRecDepth 100000 in
theorem sread_int (s : ByteArray) (hs : s.size ≤ maxLen) (x n er : Nat) (hn : Hid (num 8 (bn s) = (x, n, er))) (w : World) :
    Calls Tryz.prog 97 #[.int .i64 2, .string s] w (SPost w (clV false (wrap64 (x : Nat)) 0 ByteArray.empty 0 0) n er) := by
  have K := hide (fun (o : Obj) => snum_any s 8 (by omega) (by omega) hs (w.alloc o))
  rw [hn.out] at K
  simp only at K
  clear hn
  have hst := fun (w1 : World) (a1 : Addr) (m : Mode) (x y : Nat) => run_store Tryz.prog w1 a1 (.complex .f64 x y) m rfl
  go_enter Tryz.func97, Tryz.ntmps97
  go_wp2_with fail
  refine (K.out _).mono ?_
  rintro e w1 ⟨rfl, rfl⟩
  go_wp2_with fail
  refine bodyPost_ret (results_cell_two rfl _ _ _ w.heap.size 45 #[.bool false, .bool false, .int .i64 (wrap64 (x : Int)), .int .u64 0, .string { data := #[] }, .complex .f64 0 0] (0, 0) rfl (blk_new1 _ _ _) Tryz.underlying45 (by exact info_c)) rfl ?_
  exact ⟨rfl, (Below.refl _ _).alloc (Nat.le_refl _) _⟩
set_option maxHeartbeats 2000000 in
set_option maxRecDepth 100000 in
theorem sread_uint (s : ByteArray) (hs : s.size ≤ maxLen) (x n er : Nat) (hn : Hid (num 8 (bn s) = (x, n, er))) (w : World) :
    Calls Tryz.prog 97 #[.int .i64 3, .string s] w (SPost w (clV false 0 (x : Nat) ByteArray.empty 0 0) n er) := by
  have K := hide (fun (o : Obj) => snum_any s 8 (by omega) (by omega) hs (w.alloc o))
  rw [hn.out] at K
  simp only at K
  clear hn
  have hst := fun (w1 : World) (a1 : Addr) (m : Mode) (x y : Nat) => run_store Tryz.prog w1 a1 (.complex .f64 x y) m rfl
  go_enter Tryz.func97, Tryz.ntmps97
  go_wp2_with fail
  refine (K.out _).mono ?_
  rintro e w1 ⟨rfl, rfl⟩
  go_wp2_with fail
  refine bodyPost_ret (results_cell_two rfl _ _ _ w.heap.size 45 #[.bool false, .bool false, .int .i64 0, .int .u64 (x : Int), .string { data := #[] }, .complex .f64 0 0] (0, 0) rfl (blk_new1 _ _ _) Tryz.underlying45 (by exact info_c)) rfl ?_
  exact ⟨rfl, (Below.refl _ _).alloc (Nat.le_refl _) _⟩
set_option maxHeartbeats 2000000 in
set_option maxRecDepth 100000 in
theorem sread_bytes (s : ByteArray) (hs : s.size ≤ maxLen) (x : List Nat) (n er : Nat) (hn : Hid (textS 1048576 (bn s) = (x, n, er))) (w : World) :
    Calls Tryz.prog 97 #[.int .i64 4, .string s] w (SPost w (clV false 0 0 (strN x) 0 0) n er) := by
  have K := hide (fun (o : Obj) => stext_any s 1048576 (by omega) (by omega) hs (w.alloc o))
  rw [hn.out] at K
  simp only at K
  clear hn
  generalize strN x = t at *
  have hst := fun (w1 : World) (a1 : Addr) (m : Mode) (x y : Nat) => run_store Tryz.prog w1 a1 (.complex .f64 x y) m rfl
  go_enter Tryz.func97, Tryz.ntmps97
  go_wp2_with fail
  refine (K.out _).mono ?_
  rintro e w1 ⟨rfl, rfl⟩
  cases her : ((er : Int) == 0)
  · go_wp2_with fail
    refine bodyPost_ret (results_cell_two rfl _ _ _ w.heap.size 45 #[.bool false, .bool false, .int .i64 0, .int .u64 0, .string t, .complex .f64 0 0] (0, 0) rfl (blk_new1 _ _ _) Tryz.underlying45 (by exact info_c)) rfl ?_
    exact ⟨rfl, (Below.refl _ _).alloc (Nat.le_refl _) _⟩
  · go_wp2_with fail
    refine bodyPost_ret (results_cell_two rfl _ _ _ w.heap.size 45 #[.bool false, .bool false, .int .i64 0, .int .u64 0, .string t, .complex .f64 0 0] (0, 0) rfl (blk_new1 _ _ _) Tryz.underlying45 (by exact info_c)) rfl ?_
    exact ⟨rfl, (Below.refl _ _).alloc (Nat.le_refl _) _⟩
set_option maxHeartbeats 2000000 in
set_option maxRecDepth 100000 in
theorem sfar_no (x : Int) (h : farB x = false) (w : World) : Calls Tryz.prog 100 #[.int .i64 x] w fun e w' => e = .returned (.bool false) ∧ w = w' := by
  unfold farB at h
  rw [decide_eq_false_iff_not] at h
  have h1 : decide (x < -9007199254740992) = false := by rw [decide_eq_false_iff_not]; omega
  have h2 : decide (9007199254740992 < x) = false := by rw [decide_eq_false_iff_not]; omega
  clear h
  go_enter Tryz.func100, Tryz.ntmps100
  go_wp2_with fail
  go_ret
  exact ⟨rfl, rfl⟩
set_option maxHeartbeats 2000000 in
set_option maxRecDepth 100000 in
theorem sfar_yes (x : Int) (h : farB x = true) (w : World) : Calls Tryz.prog 100 #[.int .i64 x] w fun e w' => e = .returned (.bool true) ∧ w = w' := by
  unfold farB at h
  rw [decide_eq_true_eq] at h
  by_cases hx : x < -9007199254740992
  · have h1 : decide (x < -9007199254740992) = true := by rw [decide_eq_true_eq]; omega
    clear h
    go_enter Tryz.func100, Tryz.ntmps100
    go_wp2_with fail
    go_ret
    exact ⟨rfl, rfl⟩
  · have h1 : decide (x < -9007199254740992) = false := by rw [decide_eq_false_iff_not]; omega
    have h2 : decide (9007199254740992 < x) = true := by rw [decide_eq_true_eq]; omega
    clear h
    go_enter Tryz.func100, Tryz.ntmps100
    go_wp2_with fail
    go_ret
    exact ⟨rfl, rfl⟩
set_option maxHeartbeats 2000000 in
set_option maxRecDepth 100000 in
theorem sread_point (s : ByteArray) (hs : s.size ≤ maxLen) (x n er y m fr : Nat) (h1 : Hid (few (bn s) 0 = (x, n, er))) (h2 : Hid (few ((bn s).drop n) 0 = (y, m, fr))) (c : Value) (k e' : Nat)
    (hcase : Hid ((0 < er ∧ c = clZ ∧ k = 0 ∧ e' = er) ∨ (er = 0 ∧ 0 < fr ∧ c = clZ ∧ k = n ∧ e' = fr) ∨ (er = 0 ∧ fr = 0 ∧ farB (back x) = false ∧ farB (back y) = false ∧ c = clV false 0 0 ByteArray.empty (floatOfInt .f64 (back x)) (floatOfInt .f64 (back y)) ∧ k = n + m ∧ e' = 0) ∨
      (er = 0 ∧ fr = 0 ∧ (farB (back x) = true ∨ farB (back x) = false ∧ farB (back y) = true) ∧ c = clZ ∧ k = n + m ∧ e' = 12))) (w : World) :
    Calls Tryz.prog 97 #[.int .i64 6, .string s] w (SPost w c k e') := by
  have K := hide (fun (o : Obj) => sfew_any s hs (w.alloc o))
  have hns : n ≤ s.size := by
    have h0 := few_err (bn s) 0
    have h3 := few_le (bn s) 0
    rw [h1.out] at h0 h3
    simp only [Prod.mk.injEq] at h0 h3
    rw [bn_len] at h3
    rcases h0 with h | ⟨_, h, _⟩ | ⟨_, h, _⟩
    · exact (h3 h).1
    · omega
    · omega
  have hms : m ≤ s.size - n := by
    have h0 := few_err ((bn s).drop n) 0
    have h3 := few_le ((bn s).drop n) 0
    rw [h2.out] at h0 h3
    simp only [Prod.mk.injEq] at h0 h3
    rw [List.length_drop, bn_len] at h3
    rcases h0 with h | ⟨_, h, _⟩ | ⟨_, h, _⟩
    · exact (h3 h).1
    · omega
    · omega
  have hx := few_lt64 (bn s)
  have hy := few_lt64 ((bn s).drop n)
  have hsz : (s.extract n s.size).size = s.size - n := by simp
  have K2 := hide (fun (w : World) => sfew_any (s.extract n s.size) (by unfold maxLen at *; omega) w)
  rw [bn_drop] at K2
  rw [h1.out] at K hx
  rw [h2.out] at K2 hy
  simp only at K K2 hx hy
  have B1 := hide (fun (w : World) => sback_any x hx w)
  have B2 := hide (fun (w : World) => sback_any y hy w)
  unfold maxLen at hs
  clear h1 h2 hsz hx hy
  have hst := fun (w1 : World) (a1 : Addr) (m : Mode) (x y : Nat) => run_store Tryz.prog w1 a1 (.complex .f64 x y) m rfl
  go_enter Tryz.func97, Tryz.ntmps97
  go_wp2_with fail
  refine (K.out _).mono ?_
  rintro e w1 ⟨rfl, rfl⟩
  rcases hcase.out with ⟨hpos, rfl, rfl, rfl⟩ | ⟨rfl, hpos, rfl, rfl, rfl⟩ | ⟨rfl, rfl, ha, hb, rfl, rfl, rfl⟩ | ⟨rfl, rfl, hab, rfl, rfl, rfl⟩
  · have hne : ((e' : Int) != 0) = true := by rw [bne_iff_ne]; omega
    clear hcase
    go_wp2_with fail
    refine bodyPost_ret (results_cell_two rfl _ _ _ w.heap.size 45 #[.bool false, .bool false, .int .i64 0, .int .u64 0, .string { data := #[] }, .complex .f64 0 0] (0, 0) rfl (blk_new1 _ _ _) Tryz.underlying45 (by exact info_c)) rfl ?_
    exact ⟨rfl, (Below.refl _ _).alloc (Nat.le_refl _) _⟩
  · have hne : ((e' : Int) != 0) = true := by rw [bne_iff_ne]; omega
    clear hcase
    go_wp2_with fail
    refine (K2.out _).mono ?_
    rintro e w1 ⟨rfl, rfl⟩
    go_wp2_with fail
    refine bodyPost_ret (results_cell_two rfl _ _ _ w.heap.size 45 #[.bool false, .bool false, .int .i64 0, .int .u64 0, .string { data := #[] }, .complex .f64 0 0] (0, 0) rfl (blk_new1 _ _ _) Tryz.underlying45 (by exact info_c)) rfl ?_
    exact ⟨rfl, (Below.refl _ _).alloc (Nat.le_refl _) _⟩
  · have F1 := hide (fun (w : World) => sfar_no (back x) ha w)
    have F2 := hide (fun (w : World) => sfar_no (back y) hb w)
    clear hcase ha hb
    go_wp2_with fail
    refine (K2.out _).mono ?_
    rintro e w1 ⟨rfl, rfl⟩
    go_wp2_with fail
    refine (B1.out _).mono ?_
    rintro e w1 ⟨rfl, rfl⟩
    go_wp2_with fail
    refine (B2.out _).mono ?_
    rintro e w1 ⟨rfl, rfl⟩
    generalize back x = a at *
    generalize back y = b at *
    go_wp2_with fail
    refine (F1.out _).mono ?_
    rintro e w1 ⟨rfl, rfl⟩
    go_wp2_with fail
    refine (F2.out _).mono ?_
    rintro e w1 ⟨rfl, rfl⟩
    go_wp2_with fail
    refine bodyPost_ret (results_cell_two rfl _ _ _ w.heap.size 45 #[.bool false, .bool false, .int .i64 0, .int .u64 0, .string { data := #[] }, .complex .f64 (floatOfInt .f64 a) (floatOfInt .f64 b)] (0, 0) rfl (blk_new1 _ _ _) Tryz.underlying45 (by exact info_c)) rfl ?_
    exact ⟨rfl, (Below.refl _ _).alloc (Nat.le_refl _) _⟩
  · rcases hab with ha | ⟨ha, hb⟩
    · have F1 := hide (fun (w : World) => sfar_yes (back x) ha w)
      clear hcase ha
      go_wp2_with fail
      refine (K2.out _).mono ?_
      rintro e w1 ⟨rfl, rfl⟩
      go_wp2_with fail
      refine (B1.out _).mono ?_
      rintro e w1 ⟨rfl, rfl⟩
      go_wp2_with fail
      refine (B2.out _).mono ?_
      rintro e w1 ⟨rfl, rfl⟩
      generalize back x = a at *
      generalize back y = b at *
      go_wp2_with fail
      refine (F1.out _).mono ?_
      rintro e w1 ⟨rfl, rfl⟩
      go_wp2_with fail
      refine bodyPost_ret (results_cell_two rfl _ _ _ w.heap.size 45 #[.bool false, .bool false, .int .i64 0, .int .u64 0, .string { data := #[] }, .complex .f64 0 0] (0, 0) rfl (blk_new1 _ _ _) Tryz.underlying45 (by exact info_c)) rfl ?_
      exact ⟨rfl, (Below.refl _ _).alloc (Nat.le_refl _) _⟩
    · have F1 := hide (fun (w : World) => sfar_no (back x) ha w)
      have F2 := hide (fun (w : World) => sfar_yes (back y) hb w)
      clear hcase ha hb
      go_wp2_with fail
      refine (K2.out _).mono ?_
      rintro e w1 ⟨rfl, rfl⟩
      go_wp2_with fail
      refine (B1.out _).mono ?_
      rintro e w1 ⟨rfl, rfl⟩
      go_wp2_with fail
      refine (B2.out _).mono ?_
      rintro e w1 ⟨rfl, rfl⟩
      generalize back x = a at *
      generalize back y = b at *
      go_wp2_with fail
      refine (F1.out _).mono ?_
      rintro e w1 ⟨rfl, rfl⟩
      go_wp2_with fail
      refine (F2.out _).mono ?_
      rintro e w1 ⟨rfl, rfl⟩
      go_wp2_with fail
      refine bodyPost_ret (results_cell_two rfl _ _ _ w.heap.size 45 #[.bool false, .bool false, .int .i64 0, .int .u64 0, .string { data := #[] }, .complex .f64 0 0] (0, 0) rfl (blk_new1 _ _ _) Tryz.underlying45 (by exact info_c)) rfl ?_
      exact ⟨rfl, (Below.refl _ _).alloc (Nat.le_refl _) _⟩
end Go.Proofs.YtfkgmodgkifelaaGreatDoor
namespace Go.Proofs.YtfkgmodgkifelaaGreatDoor
open Go.RowKit

/-- utf8's tables hold what their initialisers lay. -/
def Tabs (w : World) : Prop := Lib.Utf8Tabs (utfLays_ren.g 3) (utfLays_ren.g 4) w
theorem Tabs.below {w w' : World} (h : Tabs w) (hb : Below w.heap.size w w') : Tabs w' := Utf8Tabs_below h hb
theorem cell_in {w : World} {a : Addr} {v : Value} (hc : w.cell? a = some v) : a.block < w.heap.size := by
  rcases Nat.lt_or_ge a.block w.heap.size with h' | h'
  · exact h'
  · simp [World.cell?, Array.getElem?_eq_none h'] at hc
theorem Tabs.fr {w w' : World} {R : Nat} {s : ByteArray} {p e : Nat} (h : Tabs w) (hr : Rd w R s p e) (hf : Fr w w' (fun k => k = R)) : Tabs w' := by
  have h3 : utfLays_ren.g 3 ≠ R := fun he => by
    have := h.1 0 (by omega)
    rw [he, hr.c0] at this
    cases this
  have h4 : utfLays_ren.g 4 ≠ R := fun he => by
    have := (h.2 0 (by omega)).1
    rw [he] at this
    simp only [Nat.mul_zero] at this
    rw [hr.c0] at this
    cases this
  have hc : ∀ (b o : Nat) (v : Value), b ≠ R → w.cell? ⟨b, o, none⟩ = some v → w'.cell? ⟨b, o, none⟩ = some v := fun b o v hb hv => by
    have hk := hf.block b (cell_in hv) hb
    rw [← hv]
    unfold World.cell?
    simp only [hk]
  exact ⟨fun c hcc => hc _ _ _ h3 (h.1 c hcc), fun i hi => ⟨hc _ _ _ h4 (h.2 i hi).1, hc _ _ _ h4 (h.2 i hi).2⟩⟩
theorem Tabs.drew {w : World} (h : Tabs w) : Tabs w.drew := h
theorem valid_any (s : ByteArray) (w : World) (hs : s.size ≤ maxLen) (hT : Tabs w) :
    Calls Tryz.prog 45 #[.string s] w fun e w' => e = .returned (.bool (Lib.validD s.data.toList)) ∧ Below w.heap.size w w' :=
  Any.utf8_ValidString utfLays s w (by unfold maxLen at hs; omega) hT
set_option maxHeartbeats 2000000 in
set_option maxRecDepth 100000 in
theorem sread_text (s : ByteArray) (hs : s.size ≤ maxLen) (x : List Nat) (hx : x.length ≤ s.size) (n er : Nat) (hn : Hid (textS 1048576 (bn s) = (x, n, er))) (c : Value) (e' : Nat)
    (hcase : Hid ((er = 0 ∧ Lib.validD (strN x).data.toList = true ∧ c = clV false 0 0 (strN x) 0 0 ∧ e' = 0) ∨ (er = 0 ∧ Lib.validD (strN x).data.toList = false ∧ c = clZ ∧ e' = 12) ∨ (0 < er ∧ x = [] ∧ c = clZ ∧ e' = er))) (w : World) (hT : Tabs w) :
    Calls Tryz.prog 97 #[.int .i64 5, .string s] w (SPost w c n e') := by
  have K := hide (fun (o : Obj) => stext_any s 1048576 (by omega) (by omega) hs (w.alloc o))
  have KV := hide (fun (o : Obj) => valid_any (strN x) (w.alloc o) (by rw [strN_size]; omega) (hT.below ((Below.refl _ _).alloc (Nat.le_refl _) _)))
  rw [hn.out] at K
  simp only at K
  clear hn hT
  have hst := fun (w1 : World) (a1 : Addr) (m : Mode) (x y : Nat) => run_store Tryz.prog w1 a1 (.complex .f64 x y) m rfl
  have hz : Hid (strN x = { data := #[] } ∨ 0 < x.length) := by
    cases x with
    | nil => exact .inl strN_nil
    | cons a l => exact .inr (by simp)
  rcases hcase.out with ⟨rfl, hv, rfl, rfl⟩ | ⟨rfl, hv, rfl, rfl⟩ | ⟨hpos, rfl, rfl, rfl⟩
  · rw [hv] at KV
    clear hcase hv hz
    generalize strN x = t at *
    go_enter Tryz.func97, Tryz.ntmps97
    go_wp2_with fail
    refine (K.out _).mono ?_
    rintro e w1 ⟨rfl, rfl⟩
    go_wp2_with fail
    refine (KV.out _).mono ?_
    rintro e w1 ⟨rfl, hb1⟩
    have hB := Blk.below (Blk.new w (clA false 0 0 ByteArray.empty 0 0) 45) hb1 (Blk.new _ _ _).lt
    have HB := hide hB
    obtain ⟨c0, c1, c2, c3, c4, c5, f0, f1, f2, f3, f4, f5⟩ := Blk.six hB
    have HB1 := hide hb1
    clear hB hb1
    go_wp2_with fail
    refine bodyPost_ret (results_cell_two rfl _ _ _ w.heap.size 45 #[.bool false, .bool false, .int .i64 0, .int .u64 0, .string t, .complex .f64 0 0] (0, 0) rfl (st6_blk (by exact HB.out) _ _ _ _ _ _) Tryz.underlying45 (by exact info_c)) rfl ?_
    exact ⟨rfl, (((Below.refl _ _).alloc (Nat.le_refl _) _).trans (HB1.out.mono (by simp))).trans ((st6_fr _ _ _ _ _ _ _ _).below (Nat.le_trans (by simp) HB1.out.size) (fun k hk => by omega))⟩
  · rw [hv] at KV
    clear hcase hv hz
    generalize strN x = t at *
    go_enter Tryz.func97, Tryz.ntmps97
    go_wp2_with fail
    refine (K.out _).mono ?_
    rintro e w1 ⟨rfl, rfl⟩
    go_wp2_with fail
    refine (KV.out _).mono ?_
    rintro e w1 ⟨rfl, hb1⟩
    have hB := Blk.below (Blk.new w (clA false 0 0 ByteArray.empty 0 0) 45) hb1 (Blk.new _ _ _).lt
    have HB := hide hB
    obtain ⟨c0, c1, c2, c3, c4, c5, f0, f1, f2, f3, f4, f5⟩ := Blk.six hB
    have HB1 := hide hb1
    clear hB hb1
    go_wp2_with fail
    refine bodyPost_ret (results_cell_two rfl _ _ _ w.heap.size 45 #[.bool false, .bool false, .int .i64 0, .int .u64 0, .string { data := #[] }, .complex .f64 0 0] (0, 0) rfl (st6_blk (by exact HB.out) _ _ _ _ _ _) Tryz.underlying45 (by exact info_c)) rfl ?_
    exact ⟨rfl, (((Below.refl _ _).alloc (Nat.le_refl _) _).trans (HB1.out.mono (by simp))).trans ((st6_fr _ _ _ _ _ _ _ _).below (Nat.le_trans (by simp) HB1.out.size) (fun k hk => by omega))⟩
  · have hne : ((e' : Int) == 0) = false := by rw [beq_eq_false_iff_ne]; omega
    have hz0 : strN [] = { data := #[] } := strN_nil
    rw [hz0] at K
    clear hcase hz KV hz0
    go_enter Tryz.func97, Tryz.ntmps97
    go_wp2_with fail
    refine (K.out _).mono ?_
    rintro e w1 ⟨rfl, rfl⟩
    go_wp2_with fail
    refine bodyPost_ret (results_cell_two rfl _ _ _ w.heap.size 45 #[.bool false, .bool false, .int .i64 0, .int .u64 0, .string { data := #[] }, .complex .f64 0 0] (0, 0) rfl (blk_new1 _ _ _) Tryz.underlying45 (by exact info_c)) rfl ?_
    exact ⟨rfl, (Below.refl _ _).alloc (Nat.le_refl _) _⟩
theorem keep6 {w2 w3 : World} {g : Nat} {a0 a1 a2 a3 a4 a5 : Value} (hb : Below w2.heap.size w2.drew w3) (hl : g < w2.heap.size)
    (h : w2.cell? ⟨g, 0, none⟩ = some a0 ∧ w2.cell? ⟨g, 1, none⟩ = some a1 ∧ w2.cell? ⟨g, 2, none⟩ = some a2 ∧ w2.cell? ⟨g, 3, none⟩ = some a3 ∧ w2.cell? ⟨g, 4, none⟩ = some a4 ∧ w2.cell? ⟨g, 5, none⟩ = some a5) :
    w3.cell? ⟨g, 0, none⟩ = some a0 ∧ w3.cell? ⟨g, 1, none⟩ = some a1 ∧ w3.cell? ⟨g, 2, none⟩ = some a2 ∧ w3.cell? ⟨g, 3, none⟩ = some a3 ∧ w3.cell? ⟨g, 4, none⟩ = some a4 ∧ w3.cell? ⟨g, 5, none⟩ = some a5 :=
  ⟨(hb.cell (p := ⟨g, _, none⟩) hl).trans h.1, (hb.cell (p := ⟨g, _, none⟩) hl).trans h.2.1, (hb.cell (p := ⟨g, _, none⟩) hl).trans h.2.2.1, (hb.cell (p := ⟨g, _, none⟩) hl).trans h.2.2.2.1, (hb.cell (p := ⟨g, _, none⟩) hl).trans h.2.2.2.2.1, (hb.cell (p := ⟨g, _, none⟩) hl).trans h.2.2.2.2.2⟩
set_option maxHeartbeats 2000000 in
set_option maxRecDepth 100000 in
theorem pread_text (R : Nat) (s : ByteArray) (p : Nat) (hs : s.size ≤ maxLen) (hp : p ≤ s.size) (w : World) (h : Rd w R s p 0) (hT : Tabs w) (X : List Nat) (hX : X.length ≤ s.size) (p' e' : Nat) (ht : Hid (stT s p 0 (textS 1048576) = (X, p', e'))) :
    Calls Tryz.prog 152 #[.pointer (some ⟨R, 0, none⟩), .int .i64 5] w (CPost R w s (clV false 0 0 (strN X) 0 0) (Lib.validD (strN X).data.toList) p' e') := by
  have hRw := Blk.lt h
  have K := hide (fun a b => rtext_any R s p 0 1048576 (by omega) (by omega) hs hp ((w.alloc a).alloc b) (h.below (((Below.refl _ _).alloc (Nat.le_refl _) _).alloc (by simp) _)))
  rw [ht.out] at K
  simp only at K ⊢
  have KV := hide (fun w (hT : Tabs w) => valid_any (strN X) w (by rw [strN_size]; omega) hT)
  have HT := hide hT
  have HR := hide h
  generalize strN X = x at *
  clear h ht hT
  have hst := fun (w1 : World) (a1 : Addr) (m : Mode) (x y : Nat) => run_store Tryz.prog w1 a1 (.complex .f64 x y) m rfl
  go_enter Tryz.func152, Tryz.ntmps152
  go_wp2_with fail
  refine (K.out _ _).mono ?_
  rintro e w1 ⟨rfl, hr1, hf1⟩
  have hb1 : Blk w1 (w.heap.size + 1) 45 (clA false 0 0 ByteArray.empty 0 0) := by
    refine Blk.fr ?_ hf1 (by omega)
    have := Blk.new (w.alloc (.cells (clA false 0 0 ByteArray.empty 0 0) 45)) (clA false 0 0 ByteArray.empty 0 0) 45
    rwa [show (w.alloc (.cells (clA false 0 0 ByteArray.empty 0 0) 45)).heap.size = w.heap.size + 1 by simp] at this
  have hb0 : Blk w1 w.heap.size 45 (clA false 0 0 ByteArray.empty 0 0) := Blk.fr ((Blk.new _ _ _).alloc _) hf1 (by omega)
  have HB0 := hide hb0
  have HB1 := hide hb1
  have HR1 := hide hr1
  have hF : Fr w w1 (fun k => k = R) := (((Fr.alloc w _ _).trans (Fr.alloc _ _ _) (fun _ _ h => h)).trans hf1 (fun _ _ h => h))
  have HF := hide hF
  have hz1 := hf1.size
  simp at hz1
  obtain ⟨d0, d1, d2, d3, d4, d5, g0, g1, g2, g3, g4, g5⟩ := Blk.six hb1
  clear hb0 hb1 hr1 hf1 hF
  go_wp2_with fail
  have hC := Fr.setCell w1 ⟨w.heap.size + 1, 4, none⟩ (.string x)
  have hF2 := Fr.newset (L := w.heap.size + 1) HF.out (by omega) hC
  have HT2 := hide (HT.out.fr HR.out hF2)
  have h0 := HB0.out.fr hC (by show ¬ w.heap.size = w.heap.size + 1; omega)
  have h1 : Blk (w1.setCell ⟨w.heap.size + 1, 4, none⟩ (.string x)) (w.heap.size + 1) 45 (clA false 0 0 x 0 0) := HB1.out.set 4 (.string x)
  have hR2 := HR1.out.fr hC (by show ¬ R = w.heap.size + 1; omega)
  have hz2 := hF2.size
  have H0 := hide h0
  have HR2 := hide hR2
  have HF2 := hide hF2
  clear hC hF2 h0 hR2 d0 d1 d2 d3 d4 d5 g0 g1 g2 g3 g4 g5
  obtain ⟨d0, d1, d2, d3, d4, d5, g0, g1, g2, g3, g4, g5⟩ := Blk.six h1
  clear h1 HB0 HB1 HR1 HF
  have hlt2 : w.heap.size + 1 < (w1.setCell ⟨w.heap.size + 1, 4, none⟩ (.string x)).heap.size := cell_in d0
  generalize w1.setCell ⟨w.heap.size + 1, 4, none⟩ (.string x) = w2 at *
  have KK := hide (fun w3 (hb3 : Below w2.drew.heap.size w2.drew w3) => And.intro (keep6 hb3 hlt2 ⟨d0, d1, d2, d3, d4, d5⟩) (Blk.six (H0.out.drew.below hb3 H0.out.lt)))
  go_region_with (first | (go_at_call 45; refine (KV.out _ HT2.out.drew).mono ?_; rintro e w3 ⟨rfl, hb3⟩; obtain ⟨⟨q0, q1, q2, q3, q4, q5⟩, e0, e1, e2, e3, e4, e5, f0, f1, f2, f3, f4, f5⟩ := KK.out w3 hb3))
  all_goals go_wp2_with fail
  all_goals
    refine bodyPost_ret (results_cell_tmp_row' rfl _ _ _ w.heap.size 45 #[.bool false, .bool false, .int .i64 0, .int .u64 0, .string x, .complex .f64 0 0] (0, 0) rfl (st6_blk (H0.out.drew.below hb3 H0.out.lt) _ _ _ _ _ _) Tryz.underlying45 (by exact info_c)) rfl ?_
    have hf3 : Fr w2 w3 (fun k => k = R) := ⟨hb3.os, hb3.tape, hb3.output, hb3.size, fun k hk _ => hb3.block k hk⟩
    exact ⟨rfl, Blk.fr (HR2.out.drew.below hb3 HR2.out.lt) (st6_fr _ _ _ _ _ _ _ _) (by omega), (HF2.out.trans hf3 (fun _ _ h => h)).newset (Nat.le_refl _) (st6_fr _ _ _ _ _ _ _ _)⟩
end Go.Proofs.YtfkgmodgkifelaaGreatDoor
