/- Cells one behind the other, read: at any kind and any number. -/
import Derived.Test.YtihbcojmonlcgaaDoorPlainB
namespace Go.Proofs.YtihbcojmonlcgaaDoor
open Go.RowKit

theorem take_snocD {α : Type} {l : List α} {i : Nat} (hi : i < l.length) (d : α) : l.take (i + 1) = l.take i ++ [l.getD i d] := by
  rw [List.take_succ_eq_append_getElem hi]
  simp [List.getD, hi]
set_option maxHeartbeats 4000000 in
set_option maxRecDepth 100000 in
theorem sdecode_bool (s : ByteArray) (hm : s.size ≤ 1048576) (n : Nat) (hn : n ≤ 10000) (w : World) :
    Calls Tryd.prog 20 #[.int .i64 1, .string s, .int .i64 n] w (DPost w ((unR (bn s) n).1, ((unR (bn s) n).2).map bc)) := by
  have KK := hide (skind_any 1 true (by show _ = _; decide))
  have K := hide (fun w => refunpack_any s hm n w)
  have hn0 : (0 : Int) ≤ (n : Int) := by omega
  have hn1 : (n : Int) ≤ 10000 := by omega
  obtain ⟨i0, hi, hz0, hz1, hz2⟩ := info_parts info_cC
  unfold UnPost at K
  have hlen := unR_len (bn s) n
  have herr := unR_err (bn s) n
  rcases hu : unR (bn s) n with ⟨er, l⟩
  rw [hu] at K hlen herr
  simp only at K hlen herr ⊢
  clear hu hm
  have hl : l.length ≤ 10000 := by
    by_cases h0 : er = 0
    · rw [hlen h0]; exact hn
    · rw [herr h0]; simp
  clear hlen herr
  have hst := fun (w1 : World) (a1 : Addr) (m : Mode) (x y : Nat) => run_store Tryd.prog w1 a1 (.complex .f64 x y) m rfl
  go_enter Tryd.func20, Tryd.ntmps20
  go_wp2_with fail
  refine (KK.out _).mono ?_
  rintro e w0 ⟨rfl, rfl⟩
  go_wp2_with fail
  refine (K.out _).mono ?_
  rintro e w1 ⟨v, rfl, hsl, hb1⟩
  have HB1 := hide hb1
  obtain ⟨hml, hs⟩ := hsl
  clear hb1 hml
  rcases hs with ⟨hn0, a, c, rfl, _⟩ | ⟨hpos, g, o, c, rfl, hc, hg, hcell⟩
  · obtain rfl : l = [] := List.eq_nil_of_length_eq_zero hn0
    clear hn0
    have hl0 : ([] : List Bool).length = 0 := rfl
    go_wp2_with fail
    go_loopw [8, 11] (fun ov iv wr => iv = .int .i64 (0 : Int) ∧ ov = .slice none 0 0 ∧ wr = w1) (fun _ iv _ => 0)
    case atStart => exact ⟨rfl, rfl, rfl⟩
    case round =>
      obtain ⟨rfl, rfl, rfl⟩ := hrel
      go_wp2_with fail
      go_ret2
      exact ⟨_, rfl, inC_nil _, HB1.out⟩
  · have HC := hide hcell
    have HG := hide hg
    clear hcell
    generalize hL : l.length = m at *
    have HL := hide hL
    clear hL
    go_wp2_with fail
    go_loopw [8, 11] (fun ov iv wr => ∃ i : Nat, i ≤ m ∧ iv = .int .i64 (i : Int) ∧ wr.ownsRow w1.heap.size 34 6 ov i (((l.take i).map bc).flatMap cellsC) ∧ Below w1.heap.size w1 wr) (fun _ iv _ => m - (intOf iv).toNat)
    case atStart => exact ⟨0, by omega, rfl, World.ownsRow_nil _ _ _ _, Below.refl _ _⟩
    case round =>
      obtain ⟨i, him, rfl, ha, hbe⟩ := hrel
      obtain ⟨Aa, ca, rfl⟩ := own_form3 ha
      by_cases hlt : i < m
      · have hc1 := (hbe.cell (p := ⟨g, o + i, none⟩) HG.out).trans (HC.out i hlt)
        have HT := hide (take_snocD (l := l) (i := i) (by rw [HL.out]; exact hlt) false)
        have HA := hide ha
        have HBE := hide hbe
        have hi0 : (0 : Int) ≤ (i : Int) := by omega
        have hi1 : (i : Int) < (m : Int) := by omega
        clear ha hbe
        generalize l.getD i false = ui at *
        go_wp2_with (at_builtin; refine wpList_append_own_at _ rfl _ _ 30 rfl w1.heap.size 34 i0 _ 6 56 Tryd.underlying30 hi hz0 hz1 hz2 rfl (by decide) _ _ _ rfl (HA.out.alloc _) ⟨wr.heap.size, 0, none⟩ 1 1 [.bool false, .bool ui, .int .i64 0, .int .u64 0, .string { data := #[] }, .complex .f64 0 0] rfl rfl (World.news_of_block (Blk.new _ _ _).out) (by simp [Value.oneCell']) (by simp only [maxLen]; omega) (by omega) (by simpa using Nat.le_succ_of_le HBE.out.size) ?_; intro v1 w2 hown1 hgrow1 _ hat1)
        have HB3 := hide ((HBE.out.alloc HBE.out.size _).grown hgrow1 (by simpa using Nat.le_succ_of_le HBE.out.size) (fun j hj => (HA.out.lt j hj).1))
        have HA3 : Hid (w2.ownsRow w1.heap.size 34 6 v1 (i + 1) (((l.take (i + 1)).map bc).flatMap cellsC)) := by
          show World.ownsRow _ _ _ _ _ _ _
          rw [HT.out, List.map_append, List.map_singleton, cellsC_snoc]; exact hown1
        clear hown1 hgrow1 hat1 hc1
        go_roundw
        case rel => exact ⟨i + 1, by omega, by go_num, HA3.out, HB3.out⟩
        case measure => simp [intOf] <;> omega
      · obtain rfl : i = m := by omega
        have HA := hide ha
        have HBE := hide hbe
        clear ha hbe
        go_wp2_with fail
        go_ret2
        have hA := HA.out
        rw [List.take_of_length_le (by rw [HL.out]; exact Nat.le_refl _)] at hA
        exact ⟨_, rfl, inC_own hA (by rw [List.length_map, HL.out]), HB1.out.trans (HBE.out.mono HB1.out.size)⟩
/-- So many cells of any kind. -/
def dspec (k : Int) (D : List Nat) (n : Int) : Nat × List CD :=
  if k < 1 ∨ 6 < k then (14, []) else if n < 0 ∨ 10000 < n then (1, []) else if k = 1 then ((unR D n).1, ((unR D n).2).map bc) else decR k D n.toNat
theorem bc_num (b : Bool) : (bc b).num := ⟨order_zero, order_zero⟩
theorem dspec_num (k : Int) (D : List Nat) (n : Int) : ∀ c ∈ (dspec k D n).2, c.num := by
  unfold dspec
  intro c hc
  split at hc
  · cases hc
  · split at hc
    · cases hc
    · split at hc
      · obtain ⟨b, _, rfl⟩ := List.mem_map.1 hc
        exact bc_num b
      · unfold decR at hc
        split at hc
        · split at hc
          · cases hc
          · exact cellsN_num _ _ _ c hc
        · cases hc
theorem dspec_len (k : Int) (D : List Nat) (n : Int) : (dspec k D n).2.length ≤ 10000 := by
  unfold dspec
  split
  · simp
  · split
    · simp
    · obtain ⟨m, rfl⟩ : ∃ m : Nat, n = m := ⟨n.toNat, by omega⟩
      split
      · rw [List.length_map]
        by_cases h0 : (unR D m).1 = 0
        · rw [unR_len D m h0]; omega
        · rw [unR_err D m h0]; simp
      · unfold decR
        split
        · split
          · simp
          · rw [cellsN_len]; omega
        · simp
set_option maxHeartbeats 2000000 in
set_option maxRecDepth 100000 in
theorem pdecode_arg (k : Int) (h1 : 1 ≤ k) (h6 : k ≤ 6) (s : ByteArray) (n : Int) (h : n < 0 ∨ 10000 < n) (w : World) :
    Calls Tryd.prog 19 #[.int .i64 k, .string s, .int .i64 n] w (DPost w (1, [])) := by
  have KI := hide (is_yes k h1 h6)
  clear h1 h6
  rcases h with h | h
  · go_enter Tryd.func19, Tryd.ntmps19
    go_wp2_with fail
    refine (KI.out _).mono ?_
    rintro e w0 ⟨rfl, rfl⟩
    go_wp2_with fail
    go_ret2
    exact ⟨_, rfl, inC_nil _, Below.refl _ _⟩
  · have h0 : ¬ n < 0 := by omega
    have hd : decide (n < 0) = false := by simp; omega
    go_enter Tryd.func19, Tryd.ntmps19
    go_wp2_with fail
    refine (KI.out _).mono ?_
    rintro e w0 ⟨rfl, rfl⟩
    go_wp2_with fail
    go_ret2
    exact ⟨_, rfl, inC_nil _, Below.refl _ _⟩
set_option maxHeartbeats 2000000 in
set_option maxRecDepth 100000 in
theorem pdecode_kind (k : Int) (hk : k < 1 ∨ 6 < k) (s : ByteArray) (n : Int) (w : World) :
    Calls Tryd.prog 19 #[.int .i64 k, .string s, .int .i64 n] w (DPost w (14, [])) := by
  have KI := hide (is_no k hk)
  clear hk
  go_enter Tryd.func19, Tryd.ntmps19
  go_wp2_with fail
  refine (KI.out _).mono ?_
  rintro e w0 ⟨rfl, rfl⟩
  go_wp2_with fail
  go_ret2
  exact ⟨_, rfl, inC_nil _, Below.refl _ _⟩
set_option maxHeartbeats 2000000 in
set_option maxRecDepth 100000 in
theorem pdecode_bool (s : ByteArray) (hm : s.size ≤ maxLen) (n : Nat) (hn : n ≤ 10000) (w : World) :
    Calls Tryd.prog 19 #[.int .i64 1, .string s, .int .i64 n] w (DPost w ((unR (bn s) n).1, ((unR (bn s) n).2).map bc)) := by
  have KI := hide (is_yes 1 (by omega) (by omega))
  have KB := hide (fun w => pbools_any s hm n hn w)
  have hn0 : (0 : Int) ≤ (n : Int) := by omega
  have hn1 : (n : Int) ≤ 10000 := by omega
  unfold DPost at KB
  generalize (unR (bn s) n).1 = er at *
  generalize ((unR (bn s) n).2).map bc = l at *
  go_enter Tryd.func19, Tryd.ntmps19
  go_wp2_with fail
  refine (KI.out _).mono ?_
  rintro e w0 ⟨rfl, rfl⟩
  go_wp2_with fail
  refine (KB.out _).mono ?_
  rintro e w1 ⟨v, rfl, hv, hb⟩
  have HV := hide hv
  have HB := hide hb
  clear hv hb
  go_wp2_with fail
  go_ret2
  exact ⟨_, rfl, HV.out, HB.out⟩
set_option maxHeartbeats 2000000 in
set_option maxRecDepth 100000 in
theorem sdecode_arg (k : Int) (h1 : 1 ≤ k) (h6 : k ≤ 6) (s : ByteArray) (n : Int) (h : n < 0 ∨ 10000 < n) (w : World) :
    Calls Tryd.prog 20 #[.int .i64 k, .string s, .int .i64 n] w (DPost w (1, [])) := by
  have KK := hide (skind_any k true (by show _ = _; rw [eq_comm, decide_eq_true_eq]; exact ⟨h1, h6⟩))
  clear h1 h6
  rcases h with h | h
  · go_enter Tryd.func20, Tryd.ntmps20
    go_wp2_with fail
    refine (KK.out _).mono ?_
    rintro e w0 ⟨rfl, rfl⟩
    go_wp2_with fail
    go_ret2
    exact ⟨_, rfl, inC_nil _, Below.refl _ _⟩
  · have hd : decide (n < 0) = false := by simp; omega
    go_enter Tryd.func20, Tryd.ntmps20
    go_wp2_with fail
    refine (KK.out _).mono ?_
    rintro e w0 ⟨rfl, rfl⟩
    go_wp2_with fail
    go_ret2
    exact ⟨_, rfl, inC_nil _, Below.refl _ _⟩
set_option maxHeartbeats 2000000 in
set_option maxRecDepth 100000 in
theorem sdecode_kind (k : Int) (hk : k < 1 ∨ 6 < k) (s : ByteArray) (n : Int) (w : World) :
    Calls Tryd.prog 20 #[.int .i64 k, .string s, .int .i64 n] w (DPost w (14, [])) := by
  have KK := hide (skind_any k false (by show _ = _; rw [eq_comm, decide_eq_false_iff_not]; omega))
  clear hk
  go_enter Tryd.func20, Tryd.ntmps20
  go_wp2_with fail
  refine (KK.out _).mono ?_
  rintro e w0 ⟨rfl, rfl⟩
  go_wp2_with fail
  go_ret2
  exact ⟨_, rfl, inC_nil _, Below.refl _ _⟩
theorem pdecode_any (k : Int) (s : ByteArray) (hs : s.size ≤ maxLen) (n : Int) (w : World) (hT : Tabs w) :
    Calls Tryd.prog 19 #[.int .i64 k, .string s, .int .i64 n] w (DPost w (dspec k (bn s) n)) := by
  unfold dspec
  by_cases hk : k < 1 ∨ 6 < k
  · rw [if_pos hk]; exact pdecode_kind k hk s n w
  · rw [if_neg hk]
    by_cases hn : n < 0 ∨ 10000 < n
    · rw [if_pos hn]; exact pdecode_arg k (by omega) (by omega) s n hn w
    · rw [if_neg hn]
      obtain ⟨m, rfl⟩ : ∃ m : Nat, n = m := ⟨n.toNat, by omega⟩
      by_cases h1 : k = 1
      · rw [if_pos h1]; subst h1; exact pdecode_bool s hs m (by omega) w
      · rw [if_neg h1]; exact pdecode_loop k (by omega) (by omega) s hs m (by omega) w hT
theorem sdecode_any (k : Int) (s : ByteArray) (hs : s.size ≤ 1048576) (n : Int) (w : World) (hT : Tabs w) :
    Calls Tryd.prog 20 #[.int .i64 k, .string s, .int .i64 n] w (DPost w (dspec k (bn s) n)) := by
  unfold dspec
  by_cases hk : k < 1 ∨ 6 < k
  · rw [if_pos hk]; exact sdecode_kind k hk s n w
  · rw [if_neg hk]
    by_cases hn : n < 0 ∨ 10000 < n
    · rw [if_pos hn]; exact sdecode_arg k (by omega) (by omega) s n hn w
    · rw [if_neg hn]
      obtain ⟨m, rfl⟩ : ∃ m : Nat, n = m := ⟨n.toNat, by omega⟩
      by_cases h1 : k = 1
      · rw [if_pos h1]; subst h1; exact sdecode_bool s hs m (by omega) w
      · rw [if_neg h1]; exact sdecode_loop k (by omega) (by omega) s (by unfold maxLen; omega) m (by omega) w hT
set_option maxHeartbeats 2000000 in
set_option maxRecDepth 100000 in
theorem plainReads_walk (k : Int) (_hw : (Lit.int .i64 k).wf = true) (s : ByteArray) (hs : s.size ≤ maxLen) (n : Int) (_hn : (Lit.int .i64 n).wf = true) (w : World) (hT : Tabs w) :
    Calls Tryd.prog 5 #[.int .i64 k, .string s, .int .i64 n] w fun e w' => e = .returned (.bool true) ∧ Below w.heap.size w w' := by
  have KA := hide awake8
  by_cases hl : 600 < s.size
  · unfold maxLen at hs
    go_enter Tryd.func5, Tryd.ntmps5
    go_wp2_with fail
    refine (KA.out _).mono ?_
    rintro e w1 ⟨rfl, hb1⟩
    have HB1 := hide hb1
    clear hb1
    go_wp2_with fail
    go_ret
    exact ⟨rfl, HB1.out⟩
  · have K1 := hide (pdecode_any k s hs n w hT)
    have K2 := hide (fun w (hT : Tabs w) => sdecode_any k s (by omega) n w hT)
    have KC := hide (cells_list (dspec k (bn s) n).2 (by have := dspec_len k (bn s) n; omega) (dspec_num k (bn s) n))
    unfold DPost at K1 K2
    have HT := hide hT
    clear hs hT
    generalize (dspec k (bn s) n).1 = er at *
    generalize (dspec k (bn s) n).2 = l at *
    have hee : ((er : Int) == (er : Int)) = true := by simp
    go_enter Tryd.func5, Tryd.ntmps5
    go_wp2_with fail
    refine K1.out.mono ?_
    rintro e w1 ⟨va, rfl, hva, hb1⟩
    have HVA := hide hva
    have HB1 := hide hb1
    have K3 := hide (K2.out w1 (HT.out.below hb1))
    clear hva hb1
    go_wp2_with fail
    refine K3.out.mono ?_
    rintro e w2 ⟨vb, rfl, hvb, hb2⟩
    have K4 := hide (KC.out w2 va vb (HVA.out.below hb2) hvb)
    have HB2 := hide (HB1.out.trans (hb2.mono HB1.out.size))
    clear hvb hb2 K3
    go_wp2_with fail
    refine K4.out.mono ?_
    rintro e w3 ⟨rfl, m, rfl⟩
    have HB3 := hide (below_drewN HB2.out m)
    go_wp2_with fail
    refine (KA.out _).mono ?_
    rintro e w4 ⟨rfl, hb4⟩
    have HB4 := hide (HB3.out.trans (hb4.mono HB3.out.size))
    clear hb4
    go_wp2_with fail
    go_ret
    exact ⟨rfl, HB4.out⟩
end Go.Proofs.YtihbcojmonlcgaaDoor
