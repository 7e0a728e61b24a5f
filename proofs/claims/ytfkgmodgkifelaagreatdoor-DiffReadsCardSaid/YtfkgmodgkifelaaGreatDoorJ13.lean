/- Cells one behind the other, read: at any kind and any number. How cells of a kind are checked and compared. Schema: one column. -/
import Derived.Test.YtfkgmodgkifelaaGreatDoorJ12
import Derived.Laws.EntriesVeiled
import Derived.RegionTactic
import Derived.Shelf.Abstract
import Derived.WideMake
import Derived.MapKept
import Derived.LoopN
import Derived.Lib.QuietBelow
namespace Go.Proofs.YtfkgmodgkifelaaGreatDoor
open Go.RowKit

theorem take_snocD {α : Type} {l : List α} {i : Nat} (hi : i < l.length) (d : α) : l.take (i + 1) = l.take i ++ [l.getD i d] := by
  rw [List.take_succ_eq_append_getElem hi]
  simp [List.getD, hi]
set_option maxHeartbeats 4000000 in
set_option maxRecDepth 100000 in
theorem sdecode_bool (s : ByteArray) (hm : s.size ≤ 1048576) (n : Nat) (hn : n ≤ 10000) (w : World) :
    Calls Tryz.prog 56 #[.int .i64 1, .string s, .int .i64 n] w (DPost w ((unR (bn s) n).1, ((unR (bn s) n).2).map bc)) := by
  have KK := hide (skind_any 1 true (by show _ = _; decide))
  have K := hide (fun w => refunpack_any s hm n w)
  have hn0 : (0 : Int) ≤ (n : Int) := by omega
  have hn1 : (n : Int) ≤ 10000 := by omega
  obtain ⟨i0, hi, hz0, hz1, hz2⟩ := info_parts info_cC
  unfold UnPost at K
  have hlen := unR_len (bn s) n
  have herr := unR_err (bn s) n
  rcases hu : unR (bn s) n with ⟨er, l⟩
  rw [hu] at K hlen herr
  simp only at K hlen herr ⊢
  clear hu hm
  have hl : l.length ≤ 10000 := by
    by_cases h0 : er = 0
    · rw [hlen h0]; exact hn
    · rw [herr h0]; simp
  clear hlen herr
  have hst := fun (w1 : World) (a1 : Addr) (m : Mode) (x y : Nat) => run_store Tryz.prog w1 a1 (.complex .f64 x y) m rfl
  go_enter Tryz.func56, Tryz.ntmps56
  go_wp2_with fail
  refine (KK.out _).mono ?_
  rintro e w0 ⟨rfl, rfl⟩
  go_wp2_with fail
  refine (K.out _).mono ?_
  rintro e w1 ⟨v, rfl, hsl, hb1⟩
  have HB1 := hide hb1
  obtain ⟨hml, hs⟩ := hsl
  clear hb1 hml
  rcases hs with ⟨hn0, a, c, rfl, _⟩ | ⟨hpos, g, o, c, rfl, hc, hg, hcell⟩
  · obtain rfl : l = [] := List.eq_nil_of_length_eq_zero hn0
    clear hn0
    have hl0 : ([] : List Bool).length = 0 := rfl
    go_wp2_with fail
    go_loopw [8, 11] (fun ov iv wr => iv = .int .i64 (0 : Int) ∧ ov = .slice none 0 0 ∧ wr = w1) (fun _ iv _ => 0)
    case atStart => exact ⟨rfl, rfl, rfl⟩
    case round =>
      obtain ⟨rfl, rfl, rfl⟩ := hrel
      go_wp2_with fail
      go_ret2
      exact ⟨_, rfl, inC_nil _, HB1.out⟩
  · have HC := hide hcell
    have HG := hide hg
    clear hcell
    generalize hL : l.length = m at *
    have HL := hide hL
    clear hL
    go_wp2_with fail
    go_loopw [8, 11] (fun ov iv wr => ∃ i : Nat, i ≤ m ∧ iv = .int .i64 (i : Int) ∧ wr.ownsRow w1.heap.size 45 6 ov i (((l.take i).map bc).flatMap cellsC) ∧ Below w1.heap.size w1 wr) (fun _ iv _ => m - (intOf iv).toNat)
    case atStart => exact ⟨0, by omega, rfl, World.ownsRow_nil _ _ _ _, Below.refl _ _⟩
    case round =>
      obtain ⟨i, him, rfl, ha, hbe⟩ := hrel
      obtain ⟨Aa, ca, rfl⟩ := own_form3 ha
      by_cases hlt : i < m
      · have hc1 := (hbe.cell (p := ⟨g, o + i, none⟩) HG.out).trans (HC.out i hlt)
        have HT := hide (take_snocD (l := l) (i := i) (by rw [HL.out]; exact hlt) false)
        have HA := hide ha
        have HBE := hide hbe
        have hi0 : (0 : Int) ≤ (i : Int) := by omega
        have hi1 : (i : Int) < (m : Int) := by omega
        clear ha hbe
        generalize l.getD i false = ui at *
        go_wp2_with (at_builtin; refine wpList_append_own_at _ rfl _ _ 25 rfl w1.heap.size 45 i0 _ 6 56 Tryz.underlying25 hi hz0 hz1 hz2 rfl (by decide) _ _ _ rfl (HA.out.alloc _) ⟨wr.heap.size, 0, none⟩ 1 1 [.bool false, .bool ui, .int .i64 0, .int .u64 0, .string { data := #[] }, .complex .f64 0 0] rfl rfl (World.news_of_block (Blk.new _ _ _).out) (by simp [Value.oneCell']) (by simp only [maxLen]; omega) (by omega) (by simpa using Nat.le_succ_of_le HBE.out.size) ?_; intro v1 w2 hown1 hgrow1 _ hat1)
        have HB3 := hide ((HBE.out.alloc HBE.out.size _).grown hgrow1 (by simpa using Nat.le_succ_of_le HBE.out.size) (fun j hj => (HA.out.lt j hj).1))
        have HA3 : Hid (w2.ownsRow w1.heap.size 45 6 v1 (i + 1) (((l.take (i + 1)).map bc).flatMap cellsC)) := by
          show World.ownsRow _ _ _ _ _ _ _
          rw [HT.out, List.map_append, List.map_singleton, cellsC_snoc]; exact hown1
        clear hown1 hgrow1 hat1 hc1
        go_roundw
        case rel => exact ⟨i + 1, by omega, by go_num, HA3.out, HB3.out⟩
        case measure => simp [intOf] <;> omega
      · obtain rfl : i = m := by omega
        have HA := hide ha
        have HBE := hide hbe
        clear ha hbe
        go_wp2_with fail
        go_ret2
        have hA := HA.out
        rw [List.take_of_length_le (by rw [HL.out]; exact Nat.le_refl _)] at hA
        exact ⟨_, rfl, inC_own hA (by rw [List.length_map, HL.out]), HB1.out.trans (HBE.out.mono HB1.out.size)⟩
/-- So many cells of any kind. -/
def dspec (k : Int) (D : List Nat) (n : Int) : Nat × List CD :=
  if k < 1 ∨ 6 < k then (14, []) else if n < 0 ∨ 10000 < n then (1, []) else if k = 1 then ((unR D n).1, ((unR D n).2).map bc) else decR k D n.toNat
theorem bc_num (b : Bool) : (bc b).num := ⟨order_zero, order_zero⟩
theorem dspec_num (k : Int) (D : List Nat) (n : Int) : ∀ c ∈ (dspec k D n).2, c.num := by
  unfold dspec
  intro c hc
  split at hc
  · cases hc
  · split at hc
    · cases hc
    · split at hc
      · obtain ⟨b, _, rfl⟩ := List.mem_map.1 hc
        exact bc_num b
      · unfold decR at hc
        split at hc
        · split at hc
          · cases hc
          · exact cellsN_num _ _ _ c hc
        · cases hc
theorem dspec_len (k : Int) (D : List Nat) (n : Int) : (dspec k D n).2.length ≤ 10000 := by
  unfold dspec
  split
  · simp
  · split
    · simp
    · obtain ⟨m, rfl⟩ : ∃ m : Nat, n = m := ⟨n.toNat, by omega⟩
      split
      · rw [List.length_map]
        by_cases h0 : (unR D m).1 = 0
        · rw [unR_len D m h0]; omega
        · rw [unR_err D m h0]; simp
      · unfold decR
        split
        · split
          · simp
          · rw [cellsN_len]; omega
        · simp
set_option maxHeartbeats 2000000 in
set_option maxRecDepth 100000 in
theorem pdecode_arg (k : Int) (h1 : 1 ≤ k) (h6 : k ≤ 6) (s : ByteArray) (n : Int) (h : n < 0 ∨ 10000 < n) (w : World) :
    Calls Tryz.prog 88 #[.int .i64 k, .string s, .int .i64 n] w (DPost w (1, [])) := by
  have KI := hide (is_yes k h1 h6)
  clear h1 h6
  rcases h with h | h
  · go_enter Tryz.func88, Tryz.ntmps88
    go_wp2_with fail
    refine (KI.out _).mono ?_
    rintro e w0 ⟨rfl, rfl⟩
    go_wp2_with fail
    go_ret2
    exact ⟨_, rfl, inC_nil _, Below.refl _ _⟩
  · have h0 : ¬ n < 0 := by omega
    have hd : decide (n < 0) = false := by simp; omega
    go_enter Tryz.func88, Tryz.ntmps88
    go_wp2_with fail
    refine (KI.out _).mono ?_
    rintro e w0 ⟨rfl, rfl⟩
    go_wp2_with fail
    go_ret2
    exact ⟨_, rfl, inC_nil _, Below.refl _ _⟩
set_option maxHeartbeats 2000000 in
set_option maxRecDepth 100000 in
theorem pdecode_kind (k : Int) (hk : k < 1 ∨ 6 < k) (s : ByteArray) (n : Int) (w : World) :
    Calls Tryz.prog 88 #[.int .i64 k, .string s, .int .i64 n] w (DPost w (14, [])) := by
  have KI := hide (is_no k hk)
  clear hk
  go_enter Tryz.func88, Tryz.ntmps88
  go_wp2_with fail
  refine (KI.out _).mono ?_
  rintro e w0 ⟨rfl, rfl⟩
  go_wp2_with fail
  go_ret2
  exact ⟨_, rfl, inC_nil _, Below.refl _ _⟩
set_option maxHeartbeats 2000000 in
set_option maxRecDepth 100000 in
theorem pdecode_bool (s : ByteArray) (hm : s.size ≤ maxLen) (n : Nat) (hn : n ≤ 10000) (w : World) :
    Calls Tryz.prog 88 #[.int .i64 1, .string s, .int .i64 n] w (DPost w ((unR (bn s) n).1, ((unR (bn s) n).2).map bc)) := by
  have KI := hide (is_yes 1 (by omega) (by omega))
  have KB := hide (fun w => pbools_any s hm n hn w)
  have hn0 : (0 : Int) ≤ (n : Int) := by omega
  have hn1 : (n : Int) ≤ 10000 := by omega
  unfold DPost at KB
  generalize (unR (bn s) n).1 = er at *
  generalize ((unR (bn s) n).2).map bc = l at *
  go_enter Tryz.func88, Tryz.ntmps88
  go_wp2_with fail
  refine (KI.out _).mono ?_
  rintro e w0 ⟨rfl, rfl⟩
  go_wp2_with fail
  refine (KB.out _).mono ?_
  rintro e w1 ⟨v, rfl, hv, hb⟩
  have HV := hide hv
  have HB := hide hb
  clear hv hb
  go_wp2_with fail
  go_ret2
  exact ⟨_, rfl, HV.out, HB.out⟩
set_option maxHeartbeats 2000000 in
set_option maxRecDepth 100000 in
theorem sdecode_arg (k : Int) (h1 : 1 ≤ k) (h6 : k ≤ 6) (s : ByteArray) (n : Int) (h : n < 0 ∨ 10000 < n) (w : World) :
    Calls Tryz.prog 56 #[.int .i64 k, .string s, .int .i64 n] w (DPost w (1, [])) := by
  have KK := hide (skind_any k true (by show _ = _; rw [eq_comm, decide_eq_true_eq]; exact ⟨h1, h6⟩))
  clear h1 h6
  rcases h with h | h
  · go_enter Tryz.func56, Tryz.ntmps56
    go_wp2_with fail
    refine (KK.out _).mono ?_
    rintro e w0 ⟨rfl, rfl⟩
    go_wp2_with fail
    go_ret2
    exact ⟨_, rfl, inC_nil _, Below.refl _ _⟩
  · have hd : decide (n < 0) = false := by simp; omega
    go_enter Tryz.func56, Tryz.ntmps56
    go_wp2_with fail
    refine (KK.out _).mono ?_
    rintro e w0 ⟨rfl, rfl⟩
    go_wp2_with fail
    go_ret2
    exact ⟨_, rfl, inC_nil _, Below.refl _ _⟩
set_option maxHeartbeats 2000000 in
set_option maxRecDepth 100000 in
theorem sdecode_kind (k : Int) (hk : k < 1 ∨ 6 < k) (s : ByteArray) (n : Int) (w : World) :
    Calls Tryz.prog 56 #[.int .i64 k, .string s, .int .i64 n] w (DPost w (14, [])) := by
  have KK := hide (skind_any k false (by show _ = _; rw [eq_comm, decide_eq_false_iff_not]; omega))
  clear hk
  go_enter Tryz.func56, Tryz.ntmps56
  go_wp2_with fail
  refine (KK.out _).mono ?_
  rintro e w0 ⟨rfl, rfl⟩
  go_wp2_with fail
  go_ret2
  exact ⟨_, rfl, inC_nil _, Below.refl _ _⟩
theorem pdecode_any (k : Int) (s : ByteArray) (hs : s.size ≤ maxLen) (n : Int) (w : World) (hT : Tabs w) :
    Calls Tryz.prog 88 #[.int .i64 k, .string s, .int .i64 n] w (DPost w (dspec k (bn s) n)) := by
  unfold dspec
  by_cases hk : k < 1 ∨ 6 < k
  · rw [if_pos hk]; exact pdecode_kind k hk s n w
  · rw [if_neg hk]
    by_cases hn : n < 0 ∨ 10000 < n
    · rw [if_pos hn]; exact pdecode_arg k (by omega) (by omega) s n hn w
    · rw [if_neg hn]
      obtain ⟨m, rfl⟩ : ∃ m : Nat, n = m := ⟨n.toNat, by omega⟩
      by_cases h1 : k = 1
      · rw [if_pos h1]; subst h1; exact pdecode_bool s hs m (by omega) w
      · rw [if_neg h1]; exact pdecode_loop k (by omega) (by omega) s hs m (by omega) w hT
theorem sdecode_any (k : Int) (s : ByteArray) (hs : s.size ≤ 1048576) (n : Int) (w : World) (hT : Tabs w) :
    Calls Tryz.prog 56 #[.int .i64 k, .string s, .int .i64 n] w (DPost w (dspec k (bn s) n)) := by
  unfold dspec
  by_cases hk : k < 1 ∨ 6 < k
  · rw [if_pos hk]; exact sdecode_kind k hk s n w
  · rw [if_neg hk]
    by_cases hn : n < 0 ∨ 10000 < n
    · rw [if_pos hn]; exact sdecode_arg k (by omega) (by omega) s n hn w
    · rw [if_neg hn]
      obtain ⟨m, rfl⟩ : ∃ m : Nat, n = m := ⟨n.toNat, by omega⟩
      by_cases h1 : k = 1
      · rw [if_pos h1]; subst h1; exact sdecode_bool s hs m (by omega) w
      · rw [if_neg h1]; exact sdecode_loop k (by omega) (by omega) s (by unfold maxLen; omega) m (by omega) w hT
end Go.Proofs.YtfkgmodgkifelaaGreatDoor
namespace Go.Proofs.YtfkgmodgkifelaaGreatDoor
open Go.RowKit

/-- What all kinds have, one behind the other. -/
def ka : Array Value := #[.nilFunc, .nilFunc, .nilFunc, .func (.func 114) #[] #[], .func (.func 115) #[] #[], .func (.func 116) #[] #[], .func (.func 114) #[] #[], .func (.func 117) #[] #[], .func (.func 118) #[] #[], .func (.func 114) #[] #[], .func (.func 119) #[] #[], .func (.func 120) #[] #[], .func (.func 114) #[] #[], .func (.func 121) #[] #[], .func (.func 122) #[] #[], .func (.func 123) #[] #[], .func (.func 121) #[] #[], .func (.func 122) #[] #[], .func (.func 124) #[] #[], .func (.func 126) #[] #[], .func (.func 127) #[] #[]]
theorem info_ka : (Tryz.prog.info? 132).map (·.size) = some ka.size := by kernel_rfl
theorem ka_one : ka.all (·.oneCell') = true := by simp [ka, Value.oneCell']
set_option maxHeartbeats 2000000 in
set_option maxRecDepth 100000 in
theorem kinds_any (w : World) : Calls Tryz.prog 77 #[] w fun e w' => e = .returned (.agg ka) ∧ Below w.heap.size w w' := by
  have H1 := hide (fun o => blk_2 w o ka 132)
  have H0 := hide (fun cs o => show Blk ((w.alloc (.cells cs 132)).alloc o) w.heap.size 132 cs from (Blk.new w cs _).alloc o)
  go_enter Tryz.func77, Tryz.ntmps77
  go_wp2_with (first
    | (refine wpList_load_row rfl 132 (.tmp 1) rfl (w.heap.size + 1) rfl 132 ka (0, 0) _ (H1.out _).out Tryz.underlying132 rfl info_ka ?_)
    | (refine wpList_store_row rfl 132 (.tmp 0) (.tmp 14) rfl w.heap.size ka rfl rfl 132 _ (H0.out _ _).out info_ka rfl ka_one ?_))
  refine bodyPost_ret (results_cell_row rfl _ _ w.heap.size 132 ka (0, 0) _ rfl ((H0.out _ _).setRow ka).out Tryz.underlying132 rfl info_ka) rfl ?_
  exact ⟨rfl, below_setRow (((Below.refl _ _).alloc (Nat.le_refl _) _).alloc (by simp) _) (Nat.le_refl _) _⟩
/-- Are two cells of a kind equal? -/
def ceq (k : Int) (a b : CD) : Bool :=
  if k = 1 then a.b == b.b else if k = 2 then a.x == b.x else if k = 3 then a.u == b.u else if k = 4 ∨ k = 5 then a.t.toList == b.t.toList else FloatKind.f64.format.order a.p b.p == some .eq && FloatKind.f64.format.order a.q b.q == some .eq
set_option maxHeartbeats 2000000 in
set_option maxRecDepth 100000 in
theorem requal_any (k : Int) (h1 : 1 ≤ k) (h6 : k ≤ 6) (a b : CD) (w : World) : Calls Tryz.prog 98 #[.int .i64 k, a.v, b.v] w fun e w' => e = .returned (.bool (ceq k a b)) ∧ Below w.heap.size w w' := by
  obtain ⟨ab, ax, au, at', ap, aq⟩ := a
  obtain ⟨bb, bx, bu, bt, bp, bq⟩ := b
  unfold CD.v clV clA
  simp only
  have hk : k = 1 ∨ k = 2 ∨ k = 3 ∨ k = 4 ∨ k = 5 ∨ k = 6 := by omega
  rcases hk with rfl | rfl | rfl | rfl | rfl | rfl
  all_goals
    go_enter Tryz.func98, Tryz.ntmps98
    go_wp2_with fail
    go_ret
    exact ⟨rfl, ((Below.refl _ _).alloc (Nat.le_refl _) _).alloc (by simp) _⟩
set_option maxHeartbeats 2000000 in
set_option maxRecDepth 100000 in
theorem keq_1 (a b : CD) (w : World) : Calls Tryz.prog 116 #[a.v, b.v] w fun e w' => e = .returned (.bool (ceq 1 a b)) ∧ Below w.heap.size w w' := by
  obtain ⟨ab, ax, au, at', ap, aq⟩ := a
  obtain ⟨bb, bx, bu, bt, bp, bq⟩ := b
  unfold CD.v clV clA
  simp only
  go_enter Tryz.func116, Tryz.ntmps116
  go_wp2_with fail
  go_ret
  exact ⟨rfl, ((Below.refl _ _).alloc (Nat.le_refl _) _).alloc (by simp) _⟩
set_option maxHeartbeats 2000000 in
set_option maxRecDepth 100000 in
theorem keq_2 (a b : CD) (w : World) : Calls Tryz.prog 118 #[a.v, b.v] w fun e w' => e = .returned (.bool (ceq 2 a b)) ∧ Below w.heap.size w w' := by
  obtain ⟨ab, ax, au, at', ap, aq⟩ := a
  obtain ⟨bb, bx, bu, bt, bp, bq⟩ := b
  unfold CD.v clV clA
  simp only
  go_enter Tryz.func118, Tryz.ntmps118
  go_wp2_with fail
  go_ret
  exact ⟨rfl, ((Below.refl _ _).alloc (Nat.le_refl _) _).alloc (by simp) _⟩
set_option maxHeartbeats 2000000 in
set_option maxRecDepth 100000 in
theorem keq_3 (a b : CD) (w : World) : Calls Tryz.prog 120 #[a.v, b.v] w fun e w' => e = .returned (.bool (ceq 3 a b)) ∧ Below w.heap.size w w' := by
  obtain ⟨ab, ax, au, at', ap, aq⟩ := a
  obtain ⟨bb, bx, bu, bt, bp, bq⟩ := b
  unfold CD.v clV clA
  simp only
  go_enter Tryz.func120, Tryz.ntmps120
  go_wp2_with fail
  go_ret
  exact ⟨rfl, ((Below.refl _ _).alloc (Nat.le_refl _) _).alloc (by simp) _⟩
set_option maxHeartbeats 2000000 in
set_option maxRecDepth 100000 in
theorem keq_4 (a b : CD) (w : World) : Calls Tryz.prog 122 #[a.v, b.v] w fun e w' => e = .returned (.bool (ceq 4 a b)) ∧ Below w.heap.size w w' := by
  obtain ⟨ab, ax, au, at', ap, aq⟩ := a
  obtain ⟨bb, bx, bu, bt, bp, bq⟩ := b
  unfold CD.v clV clA
  simp only
  go_enter Tryz.func122, Tryz.ntmps122
  go_wp2_with fail
  go_ret
  exact ⟨rfl, ((Below.refl _ _).alloc (Nat.le_refl _) _).alloc (by simp) _⟩
set_option maxHeartbeats 2000000 in
set_option maxRecDepth 100000 in
theorem keq_6 (a b : CD) (w : World) : Calls Tryz.prog 127 #[a.v, b.v] w fun e w' => e = .returned (.bool (ceq 6 a b)) ∧ Below w.heap.size w w' := by
  obtain ⟨ab, ax, au, at', ap, aq⟩ := a
  obtain ⟨bb, bx, bu, bt, bp, bq⟩ := b
  unfold CD.v clV clA
  simp only
  go_enter Tryz.func127, Tryz.ntmps127
  go_wp2_with fail
  go_ret
  exact ⟨rfl, ((Below.refl _ _).alloc (Nat.le_refl _) _).alloc (by simp) _⟩
set_option maxHeartbeats 1000000 in
set_option maxRecDepth 100000 in
theorem sis_yes (k : Int) (h1 : 1 ≤ k) (h2 : k ≤ 6) (w : World) :
    Calls Tryz.prog 46 #[.int .i64 k] w fun e w' => e = .returned (.bool true) ∧ w = w' := by
  go_enter Tryz.func46, Tryz.ntmps46
  go_wp2_with fail
  go_ret
  exact ⟨rfl, rfl⟩
end Go.Proofs.YtfkgmodgkifelaaGreatDoor
namespace Go.Proofs.YtfkgmodgkifelaaGreatDoor
open Go.RowKit

theorem map_und : Tryz.prog.underlying 95 = some (.map 9 3) := by kernel_rfl
theorem str_und : Tryz.prog.underlying 9 = some .string := by kernel_rfl
theorem look_none (w : World) (r clock : Nat) (s : ByteArray) (hb : w.heap[r]? = some (.map #[] clock)) :
    (Instr.lookup 95 (.map (some r)) (.string s) false).run Tryz.prog w = .ok (.int .i64 0) w := by
  have hf : Instr.findNow .string (.string s) ([] : List MapEntry) 0 = some none := rfl
  have hc : ∀ b : Bool, (Instr.checkKey b 10000 9 (.string s)).run Tryz.prog w = .ok () w := fun b => MapKept.run_checkKey (k := .string s) str_und (by simp [MapKept.IsKey]) b 9999
  simp [Instr.lookup, run_underlying map_und, MapKept.run_getObj_map hb, hc, MapKept.run_findKey str_und hf, Result.andThen]
theorem look_one (w : World) (r clock b : Nat) (s : ByteArray) (v : Value) (hb : w.heap[r]? = some (.map #[{ key := .string s, val := v, born := b }] clock)) :
    (Instr.lookup 95 (.map (some r)) (.string s) false).run Tryz.prog w = .ok v w := by
  have hf : Instr.findNow .string (.string s) [({ key := .string s, val := v, born := b } : MapEntry)] 0 = some (some (0, v)) := by simp [Instr.findNow, Instr.sameNow, (MapKept.bytes_beq s s).2 rfl]
  have hc : ∀ b : Bool, (Instr.checkKey b 10000 9 (.string s)).run Tryz.prog w = .ok () w := fun b => MapKept.run_checkKey (k := .string s) str_und (by simp [MapKept.IsKey]) b 9999
  simp [Instr.lookup, run_underlying map_und, MapKept.run_getObj_map hb, hc, MapKept.run_findKey str_und hf, Result.andThen]
set_option maxHeartbeats 2000000 in
set_option maxRecDepth 100000 in
theorem columns_one (k : Int) (hk : 1 ≤ k ∧ k ≤ 6) (g : Nat) (w : World) (hT : Tabs w) (c0 : w.cell? ⟨g, 0, none⟩ = some (.string ⟨#[97]⟩)) (c1 : w.cell? ⟨g, 1, none⟩ = some (.int .i64 k)) (c2 : w.cell? ⟨g, 2, none⟩ = some (.bool false)) :
    Calls Tryz.prog 14 #[.slice (some ⟨g, 0, none⟩) 1 1] w fun e w' => e = .returned (.int .i64 0) ∧ Below w.heap.size w w' := by
  have hg := cell_in c0
  have HT := hide hT
  clear hT
  have hmm := fun w1 : World => run_makeMap_plain (P := Tryz.prog) w1 95
  go_enter Tryz.func14, Tryz.ntmps14
  go_wp2_with fail
  refine wp_loop_rounds 2 ?_
  rw [rounds_succ]
  obtain ⟨w1, hw1⟩ : ∃ w1, w.alloc (.map #[] 0) = w1 := ⟨_, rfl⟩
  have hb1 : Below w.heap.size w w1 := by rw [← hw1]; exact (Below.refl _ _).alloc (Nat.le_refl _) _
  have hm1 : w1.heap[w.heap.size]? = some (.map #[] 0) := by rw [← hw1]; exact Array.getElem?_push_size
  rw [hw1]
  have d0 := (hb1.cell hg).trans c0
  have d1 := (hb1.cell hg).trans c1
  have d2 := (hb1.cell hg).trans c2
  have hs1 : w.heap.size < w1.heap.size := by rw [← hw1]; simp
  clear hw1 hmm c0 c1 c2
  go_wp2_with fail
  obtain ⟨w2, hw2⟩ : ∃ w2, w1.alloc (.cells #[.string ⟨#[97]⟩, .int .i64 k, .bool false] 23) = w2 := ⟨_, rfl⟩
  have hb2 : Below w.heap.size w w2 := by rw [← hw2]; exact hb1.alloc hb1.size _
  have hm2 : w2.heap[w.heap.size]? = some (.map #[] 0) := by rw [← hw2]; exact (Below.heap_alloc _ _ _ hs1).trans hm1
  have hk2 : Blk w2 w1.heap.size 23 #[.string ⟨#[97]⟩, .int .i64 k, .bool false] := by rw [← hw2]; exact Blk.new _ _ _
  have hl2 := look_none w2 _ _ ⟨#[97]⟩ hm2
  have hu2 := run_mapUpdate_first w2 95 9 3 w.heap.size 0 ⟨#[97]⟩ (.int .i64 1) map_und str_und hm2
  obtain ⟨w3, hw3⟩ : ∃ w3, { w2 with heap := w2.heap.setIfInBounds w.heap.size (.map #[{ key := .string ⟨#[97]⟩, val := .int .i64 1, born := 0 }] (0 + 1)) } = w3 := ⟨_, rfl⟩
  have hz2 : w.heap.size < w2.heap.size := hk2.lt |> fun h => by omega
  have hb3 : Below w.heap.size w w3 := by
    rw [← hw3]
    exact ⟨hb2.os, hb2.tape, hb2.output, by simpa using hb2.size, fun j hj => by
      rw [Array.getElem?_setIfInBounds, if_neg (by omega)]; exact hb2.block j hj⟩
  have hm3 : w3.heap[w.heap.size]? = some (.map #[{ key := .string ⟨#[97]⟩, val := .int .i64 1, born := 0 }] 1) := by
    rw [← hw3]; exact (MapKept.heap_set hm2).1
  have hk3 : Blk w3 w1.heap.size 23 #[.string ⟨#[97]⟩, .int .i64 k, .bool false] := by
    unfold Blk at hk2 ⊢
    rw [← hw3]; exact ((MapKept.heap_set hm2).2 _ (by omega)).trans hk2
  rw [hw3] at hu2
  rw [hw2]
  have k0 := hk3.cell 0
  have k1 := hk3.cell 1
  simp at k0 k1
  clear hw2 hw3 hb1 hb2 hm1 d0 d1 d2
  have HM3 := hide hm3
  have HB3 := hide hb3
  have HT3 := hide (HT.out.below hb3)
  have HK3 := hide hk3
  clear hm3 hb3
  have hk1 := hk.1
  have hk6 := hk.2
  rw [hl2]
  go_wp2_with fail
  have KV := hide (valid_any ⟨#[97]⟩ w3 (by decide) HT3.out)
  rw [show Lib.validD (⟨#[97]⟩ : ByteArray).data.toList = true by kernel_rfl] at KV
  refine KV.out.mono ?_
  rintro e w4 ⟨rfl, hb4⟩
  have hk4 := HK3.out.below hb4 HK3.out.lt
  have hm4 : w4.heap[w.heap.size]? = some (.map #[{ key := .string ⟨#[97]⟩, val := .int .i64 1, born := 0 }] 1) := (hb4.block _ (Array.getElem?_eq_some_iff.1 HM3.out).1).trans HM3.out
  have HB4 := hide (HB3.out.trans (hb4.mono HB3.out.size))
  have j0 := hk4.cell 0
  have j1 := hk4.cell 1
  simp at j0 j1
  have hl4 := look_one w4 _ _ _ ⟨#[97]⟩ _ hm4
  have KI := hide (sis_yes k hk1 hk6 w4)
  clear hl2 hu2 KV hb4 hm4 k0 k1 hk1 hk6
  go_wp2_with fail
  refine KI.out.mono ?_
  rintro e w5 ⟨rfl, rfl⟩
  clear KI
  go_wp2_with fail
  rw [rounds_succ]
  go_wp2_with fail
  go_ret
  exact ⟨rfl, HB4.out⟩
end Go.Proofs.YtfkgmodgkifelaaGreatDoor
