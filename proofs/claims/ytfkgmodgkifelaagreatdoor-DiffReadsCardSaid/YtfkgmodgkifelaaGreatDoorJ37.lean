/- Columns: how many are missing, and the cells that are there. Columns: a column's cells as a stream, the program. Columns: cells spread, missing ones between; the document's cells that are there, and spread. -/
import Derived.Test.YtfkgmodgkifelaaGreatDoorJ20
import Derived.Maps.AppendAt
import Derived.Test.YtfkgmodgkifelaaGreatDoorJ36
import Derived.Test.YtfkgmodgkifelaaGreatDoorJ32
import Derived.Test.YtfkgmodgkifelaaGreatDoorJ12
namespace Go.Proofs.YtfkgmodgkifelaaGreatDoor
open Go.RowKit

/-- The cells that are there. -/
def dens (l : List MC) : List CD := (l.filter (fun c => !c.1)).map (·.2)
theorem dens_take {l : List MC} {i : Nat} {c : MC} (h : l[i]? = some c) : dens (l.take (i + 1)) = dens (l.take i) ++ (if c.1 = true then [] else [c.2]) := by
  unfold dens
  rw [List.take_add_one, h]
  cases hc : c.1 <;> simp [hc]
theorem dens_len (l : List MC) : (dens l).length ≤ l.length := by
  unfold dens
  rw [List.length_map]
  exact List.length_filter_le _ _
set_option maxHeartbeats 2000000 in
set_option maxRecDepth 100000 in
theorem ndense_any (l : List MC) (hlen : l.length ≤ 10000) (v : Value) (w : World) (hv : InM w v l) :
    Calls Tryz.prog 43 #[v] w fun e w' => (∃ V, e = .returned V ∧ InC w' V (dens l)) ∧ Below w.heap.size w w' := by
  obtain ⟨A, ca, rfl, hcell⟩ := hv
  have HC := hide hcell
  obtain ⟨i0, hi, hz0, hz1, hz2⟩ := info_parts info_cC
  clear hcell
  generalize hn : l.length = n at *
  have HN := hide hn
  clear hn
  have hst := fun (w1 : World) (a1 : Addr) (m : Mode) (x y : Nat) => run_store Tryz.prog w1 a1 (.complex .f64 x y) m rfl
  go_enter Tryz.func43, Tryz.ntmps43
  go_wp2_with fail
  go_loopw [3, 8] (fun dv iv wr => ∃ (i m : Nat), i ≤ n ∧ iv = .int .i64 (i : Int) ∧ m ≤ i ∧ Hid ((dens (l.take i)).length = m) ∧ Hid (wr.ownsRow w.heap.size 45 6 dv m ((dens (l.take i)).flatMap cellsC)) ∧ Hid (Below w.heap.size w wr)) (fun _ iv _ => n - (intOf iv).toNat)
  case atStart => exact ⟨0, 0, by omega, rfl, by omega, rfl, World.ownsRow_nil _ _ _ _, Below.refl _ _⟩
  case round =>
    obtain ⟨i, m, hin, rfl, hmi, hml, how, hb⟩ := hrel
    obtain ⟨OA, oc, rfl⟩ := own_form3 how.out
    by_cases hlt : i < n
    · obtain ⟨x, hx⟩ : ∃ x, l[i]? = some x := ⟨l[i]'(by rw [HN.out]; exact hlt), List.getElem?_eq_getElem _⟩
      obtain ⟨g, hA, hg, hat⟩ := HC.out i x hx
      subst hA
      obtain ⟨a0, a1, a2, a3, a4, a5⟩ := hat.below hb.out hg
      have HT := hide (dens_take hx)
      have HLT := hide hlt
      have hi0 : (0 : Int) ≤ (i : Int) := by omega
      have hi1 : (i : Int) < (n : Int) := by omega
      have hbs := hb.out.size
      have HO2 := hide (fun o o' => (how.out.alloc o).alloc o')
      obtain ⟨xn, xb, xx, xu, xt, xp, xq⟩ := x
      simp only at a0 a1 a2 a3 a4 a5 HT
      have hm1 : (m : Int) ≤ 10000 := by omega
      clear hx hat hlt hg
      cases xn
      · go_wp2_with (at_builtin; refine wpList_append_own_at _ rfl _ _ 25 rfl w.heap.size 45 i0 _ 6 56 Tryz.underlying25 hi hz0 hz1 hz2 rfl (by decide) _ _ _ rfl (HO2.out _ _) ⟨wr.heap.size + 1, 0, none⟩ 1 1 [.bool false, .bool xb, .int .i64 xx, .int .u64 xu, .string xt, .complex .f64 xp xq] rfl rfl (World.news_of_block (blk_2 _ _ _ _).out) (by simp [Value.oneCell']) (by simp only [maxLen]; omega) (by omega) (by simpa using Nat.le_succ_of_le (Nat.le_succ_of_le hbs)) ?_; intro v1 w2 hown1 hgrow1 _ hat1)
        have HB2 := hide (((hb.out.alloc hb.out.size _).alloc (by simp; omega) _).grown hgrow1 (by simp; omega) (fun z hz => (how.out.lt z hz).1))
        have HO3 := hide hown1
        clear hown1 hgrow1 hat1
        go_roundw
        case rel =>
          refine ⟨i + 1, m + 1, by have := HLT.out; omega, by go_num, by omega, ?_, ?_, HB2.out⟩
          · show _ = _
            rw [HT.out]; simp; exact hml.out
          · show World.ownsRow _ _ _ _ _ _ _
            rw [HT.out, if_neg (by simp), cellsC_snoc]; exact HO3.out
        case measure => have := HLT.out; simp [intOf]; omega
      · have HB2 := hide (hb.out.alloc hb.out.size (.cells #[.bool true, .bool xb, .int .i64 xx, .int .u64 xu, .string xt, .complex .f64 xp xq] 45))
        have HO3 := hide (how.out.alloc (.cells #[.bool true, .bool xb, .int .i64 xx, .int .u64 xu, .string xt, .complex .f64 xp xq] 45))
        go_wp2_with fail
        go_roundw
        case rel =>
          refine ⟨i + 1, m, by have := HLT.out; omega, by go_num, by omega, ?_, ?_, HB2.out⟩
          · show _ = _
            rw [HT.out]; simp; exact hml.out
          · show World.ownsRow _ _ _ _ _ _ _
            rw [HT.out, if_pos rfl, List.append_nil]; exact HO3.out
        case measure => have := HLT.out; simp [intOf]; omega
    · obtain rfl : n = i := by omega
      have ho := how.out
      have hm := hml.out
      rw [List.take_of_length_le (by rw [HN.out]; exact Nat.le_refl _)] at ho hm
      have HV := hide (inC_own ho hm.symm)
      clear hlt hin ho hm
      go_wp2_with fail
      go_ret
      exact ⟨⟨_, rfl, HV.out⟩, hb.out⟩
end Go.Proofs.YtfkgmodgkifelaaGreatDoor
namespace Go.Proofs.YtfkgmodgkifelaaGreatDoor
open Go.RowKit

theorem info_tab : (Tryz.prog.info? 60).map (·.size) = some 2 := by kernel_rfl
set_option maxHeartbeats 1000000 in
set_option maxRecDepth 100000 in
theorem alone_any (nm : ByteArray) (k : Int) (nl : Bool) (A : Option Addr) (n ca : Nat) (w : World) :
    Calls Tryz.prog 38 #[colV nm k nl, .slice A n ca] w fun e w' => (∃ gc gs, e = .returned (.agg #[.slice (some ⟨gc, 0, none⟩) 1 1, .slice (some ⟨gs, 0, none⟩) 1 1]) ∧ Blk w' gc 23 #[.string nm, .int .i64 k, .bool nl] ∧ Blk w' gs 25 #[.slice A n ca]) ∧ Below w.heap.size w w' := by
  unfold colV
  have HZ := hide (fun o1 o2 o3 o4 => ((((Below.refl w.heap.size w).alloc (Nat.le_refl _) o1).alloc (by simp) o2).alloc (by simp; omega) o3).alloc (by simp; omega) o4)
  go_enter Tryz.func38, Tryz.ntmps38
  go_wp2_with fail
  refine bodyPost_ret (results_cell_row rfl _ _ (w.heap.size + 1) 60 #[.slice (some ⟨w.heap.size + 1 + 1, 0, none⟩) 1 1, .slice (some ⟨w.heap.size + 1 + 1 + 1, 0, none⟩) 1 1] (0, 0) _ rfl (((blk_n2 w _ _ _).alloc _).alloc _).out Tryz.underlying60 rfl info_tab) rfl ?_
  exact ⟨⟨_, _, rfl, (blk_n3 w _ _ _ _).alloc _, blk_m4 w _ _ _ _ _⟩, HZ.out _ _ _ _⟩
/-- A column's stream. -/
def encC (k : Int) (nl : Bool) (l : List MC) : ByteArray :=
  strN (uvar l.length) ++ (if nl = true then strN (packL (l.map (·.1))) else ByteArray.empty) ++ strN [(bestW k (dens l)).1] ++ strN (bestW k (dens l)).2
theorem pick_len {b o : Nat × List Nat} {w M : Nat} (hb : b.1 ≠ 0 → b.2.length ≤ M) (hb0 : b.1 ≠ 0 ∨ (o.1 = 0 ∧ o.2.length ≤ M)) (hw : w ≠ 0) : (pick b w o).1 ≠ 0 ∧ (pick b w o).2.length ≤ M := by
  unfold pick
  split
  · rename_i h
    refine ⟨hw, ?_⟩
    by_cases h0 : b.1 = 0
    · exact (hb0.resolve_left (fun h => h h0)).2
    · have := hb h0
      have := h.2.resolve_left h0
      show o.2.length ≤ M
      omega
  · rename_i h
    by_cases h0 : b.1 = 0
    · exact absurd ⟨(hb0.resolve_left (fun h => h h0)).1, .inl h0⟩ h
    · exact ⟨h0, hb h0⟩
theorem bestW_len (k : Int) (l : List CD) : (bestW k l).1 ≠ 0 ∧ (bestW k l).2.length ≤ (encP k l).length := by
  have h2 : (bst k l 2).1 ≠ 0 ∧ (bst k l 2).2.length ≤ (encP k l).length := by
    refine pick_len (b := bst k l 1) (fun h => absurd (show (bst k l 1).1 = 0 from rfl) h) (.inr ⟨rfl, Nat.le_refl _⟩) (by decide)
  have h3 := pick_len (b := bst k l 2) (o := wayO k l 2) (w := 2) (fun _ => h2.2) (.inl h2.1) (by decide)
  have h4 := pick_len (b := bst k l 3) (o := wayO k l 3) (w := 3) (fun _ => h3.2) (.inl h3.1) (by decide)
  exact pick_len (b := bst k l 4) (o := wayO k l 4) (w := 4) (fun _ => h4.2) (.inl h4.1) (by decide)
theorem bestW_le (k : Int) (l : List CD) : (bestW k l).1 ≤ 5 := bst_lt k l 5
theorem encP_len {k : Int} {l : List CD} (hl : Wok l) : (encP k l).length ≤ 1100000 := by
  unfold encP
  split
  · rw [packL_length, List.length_map]; have := hl.len; omega
  · exact Nat.le_trans (flat_len k l hl.kg) hl.by_
theorem tby_dens : ∀ l : List MC, tby (dens l) ≤ tbm l := by
  intro l
  induction l with
  | nil => exact Nat.le_refl _
  | cons c l ih =>
    have e : tbm (c :: l) = 20 + c.2.t.size + tbm l := by simp [tbm]
    rw [e]
    by_cases h : c.1 = true
    · have : dens (c :: l) = dens l := by unfold dens; simp [h]
      rw [this]; omega
    · have : dens (c :: l) = c.2 :: dens l := by unfold dens; simp [h]
      rw [this, tby_cons]; omega
theorem wok_dens {nl : Bool} {k : Int} {l : List MC} (hl : l.length ≤ 10000) (hok : ∀ c ∈ l, okM nl k c) (ht : tbm l ≤ 1048576) : Wok (dens l) := by
  refine ⟨fun c hc => ?_, Nat.le_trans (dens_len l) hl, Nat.le_trans (tby_dens l) (by omega)⟩
  unfold dens at hc
  obtain ⟨m, hm, rfl⟩ := List.mem_map.1 hc
  obtain ⟨h1, h2⟩ := List.mem_filter.1 hm
  have := hok m h1
  unfold okM at this
  rw [if_neg (by simpa using h2)] at this
  exact this.kg
theorem encC_eq (k : Int) (nl : Bool) (l : List MC) (D : List Nat) (hD : strN D = strN (uvar l.length) ++ (if nl = true then strN (packL (l.map (·.1))) else ByteArray.empty)) : strN ((D ++ [(bestW k (dens l)).1]) ++ bn (strN (bestW k (dens l)).2)) = encC k nl l := by
  rw [strN_app_bn, strN_app, hD]
  rfl
end Go.Proofs.YtfkgmodgkifelaaGreatDoor
namespace Go.Proofs.YtfkgmodgkifelaaGreatDoor
open Go.RowKit

theorem cellsM_get : ∀ (l : List MC) (i : Nat) (x : MC) (j : Nat), l[i]? = some x → j < 6 → (l.flatMap cellsM)[i * 6 + j]? = (cellsM x)[j]? := by
  intro l
  induction l with
  | nil => intro i x j h; simp at h
  | cons a l ih =>
    intro i x j h hj
    rw [List.flatMap_cons]
    have hl : (cellsM a).length = 6 := rfl
    cases i with
    | zero =>
      obtain rfl : a = x := by simpa using h
      rw [List.getElem?_append_left (by omega), Nat.zero_mul, Nat.zero_add]
    | succ i =>
      rw [List.getElem?_append_right (by rw [hl]; omega), hl, show (i + 1) * 6 + j - 6 = i * 6 + j by omega]
      exact ih i x j (by simpa using h) hj
theorem cellsM_snoc (l : List MC) (x : MC) : (l ++ [x]).flatMap cellsM = l.flatMap cellsM ++ cellsM x := by simp
theorem own_atM {w : World} {B g n c : Nat} {e : TypeId} {l : List MC} (h : w.ownsRow B e 6 (.slice (some ⟨g, 0, none⟩) n c) n (l.flatMap cellsM)) (hn : n = l.length) {i : Nat} {x : MC} (hx : l[i]? = some x) : AtM w g (i * 6) x.1 x.2.b x.2.x x.2.u x.2.t x.2.p x.2.q := by
  have hi : i < l.length := (List.getElem?_eq_some_iff.1 hx).1
  have hc := fun j (hj : j < 6) => (h.cellAt (i * 6 + j) (by omega)).trans (cellsM_get l i x j hx hj)
  exact ⟨hc 0 (by omega), hc 1 (by omega), hc 2 (by omega), hc 3 (by omega), hc 4 (by omega), hc 5 (by omega)⟩
theorem inM_own {w : World} {B n : Nat} {v : Value} {l : List MC} (h : w.ownsRow B 45 6 v n (l.flatMap cellsM)) (hn : n = l.length) : InM w v l := by
  subst hn
  rcases Nat.eq_zero_or_pos l.length with h0 | h0
  · obtain ⟨A, c, rfl⟩ := own_form3 h
    exact ⟨A, c, rfl, fun i x hx => by have := (List.getElem?_eq_some_iff.1 hx).1; omega⟩
  · obtain ⟨g, c, rfl⟩ := own_addr h h0
    exact ⟨_, c, rfl, fun i x hx => ⟨g, rfl, (h.lt g rfl).2, own_atM h rfl hx⟩⟩
/-- A slice of bools, whatever its length. -/
theorem SlB.form {w : World} {v : Value} {l : List Bool} (h : SlB w v l) : ∃ A c, v = .slice A l.length c ∧ ∀ i, i < l.length → ∃ b o, A = some ⟨b, o, none⟩ ∧ b < w.heap.size ∧ w.cell? ⟨b, o + i, none⟩ = some (.bool (l.getD i false)) := by
  obtain ⟨_, h | h⟩ := h
  · obtain ⟨h0, a, c, rfl, _⟩ := h
    exact ⟨a, c, by rw [h0], fun i hi => by omega⟩
  · obtain ⟨_, b, o, c, rfl, _, hb, hc⟩ := h
    exact ⟨_, c, rfl, fun i hi => ⟨b, o, rfl, hb, hc i hi⟩⟩
/-- Cells spread: which one stands where. -/
def spc (bits : List Bool) (l : List CD) (i : Nat) : MC := if bits.getD i false = true then (true, CD.z) else (false, l.getD (i - cntTo bits i) CD.z)
def spr (bits : List Bool) (l : List CD) : List MC := (List.range bits.length).map (spc bits l)
theorem spr_len (bits : List Bool) (l : List CD) : (spr bits l).length = bits.length := by simp [spr]
def sprT (bits : List Bool) (l : List CD) (i : Nat) : List MC := (List.range i).map (spc bits l)
theorem sprT_succ (bits : List Bool) (l : List CD) (i : Nat) : sprT bits l (i + 1) = sprT bits l i ++ [spc bits l i] := by simp [sprT, List.range_succ]
theorem sprT_len (bits : List Bool) (l : List CD) (i : Nat) : (sprT bits l i).length = i := by simp [sprT]
/-- How many are there ahead of a place. -/
theorem there_le (bits : List Bool) : ∀ i, cntTo bits i + (bits.length - i) ≥ cnt bits ∧ True := by
  intro i
  refine ⟨?_, trivial⟩
  by_cases hi : i ≤ bits.length
  · obtain ⟨d, hd⟩ : ∃ d, bits.length = i + d := ⟨bits.length - i, by omega⟩
    unfold cnt
    rw [hd]
    clear hd hi
    have : ∀ d, cntTo bits (i + d) ≤ cntTo bits i + d := by
      intro d
      induction d with
      | zero => exact Nat.le_refl _
      | succ d ih => rw [Nat.add_succ, cntTo_succ]; have := bit_le bits (i + d); omega
    have := this d
    omega
  · have : ∀ d, cnt bits ≤ cntTo bits (bits.length + d) := by
      intro d
      induction d with
      | zero => exact Nat.le_refl _
      | succ d ih => rw [Nat.add_succ, cntTo_succ]; omega
    have h := this (i - bits.length)
    rw [show bits.length + (i - bits.length) = i by omega] at h
    omega
theorem there_lt {bits : List Bool} {l : List CD} (hl : l.length + cnt bits = bits.length) {i : Nat} (hi : i < bits.length) (hb : bits.getD i false = false) : i - cntTo bits i < l.length := by
  have h := (there_le bits (i + 1)).1
  rw [cntTo_succ, bit_false hb] at h
  have := cntTo_le bits i
  omega
set_option maxHeartbeats 2000000 in
set_option maxRecDepth 100000 in
theorem sdense_any (l : List MC) (hlen : l.length ≤ 10000) (v : Value) (w : World) (hv : InM w v l) :
    Calls Tryz.prog 64 #[v] w fun e w' => (∃ V, e = .returned V ∧ InC w' V (dens l)) ∧ Below w.heap.size w w' := by
  obtain ⟨A, ca, rfl, hcell⟩ := hv
  have HC := hide hcell
  obtain ⟨i0, hi, hz0, hz1, hz2⟩ := info_parts info_cC
  clear hcell
  generalize hn : l.length = n at *
  have HN := hide hn
  clear hn
  have hst := fun (w1 : World) (a1 : Addr) (m : Mode) (x y : Nat) => run_store Tryz.prog w1 a1 (.complex .f64 x y) m rfl
  go_enter Tryz.func64, Tryz.ntmps64
  go_wp2_with fail
  go_loopw [3, 4] (fun dv iv wr => ∃ (i m : Nat), i ≤ n ∧ iv = .int .i64 (i : Int) ∧ m ≤ i ∧ Hid ((dens (l.take i)).length = m) ∧ Hid (wr.ownsRow w.heap.size 45 6 dv m ((dens (l.take i)).flatMap cellsC)) ∧ Hid (Below w.heap.size w wr)) (fun _ iv _ => n - (intOf iv).toNat)
  case atStart => exact ⟨0, 0, by omega, rfl, by omega, rfl, World.ownsRow_nil _ _ _ _, Below.refl _ _⟩
  case round =>
    obtain ⟨i, m, hin, rfl, hmi, hml, how, hb⟩ := hrel
    obtain ⟨OA, oc, rfl⟩ := own_form3 how.out
    by_cases hlt : i < n
    · obtain ⟨x, hx⟩ : ∃ x, l[i]? = some x := ⟨l[i]'(by rw [HN.out]; exact hlt), List.getElem?_eq_getElem _⟩
      obtain ⟨g, hA, hg, hat⟩ := HC.out i x hx
      subst hA
      obtain ⟨a0, a1, a2, a3, a4, a5⟩ := hat.below hb.out hg
      have HT := hide (dens_take hx)
      have HLT := hide hlt
      have hi0 : (0 : Int) ≤ (i : Int) := by omega
      have hi1 : (i : Int) < (n : Int) := by omega
      have hbs := hb.out.size
      have HO2 := hide (fun o => how.out.alloc o)
      obtain ⟨xn, xb, xx, xu, xt, xp, xq⟩ := x
      simp only at a0 a1 a2 a3 a4 a5 HT
      have hm1 : (m : Int) ≤ 10000 := by omega
      clear hx hat hlt hg
      cases xn
      · go_wp2_with (at_builtin; refine wpList_append_own_at _ rfl _ _ 25 rfl w.heap.size 45 i0 _ 6 56 Tryz.underlying25 hi hz0 hz1 hz2 rfl (by decide) _ _ _ rfl (HO2.out _) ⟨wr.heap.size, 0, none⟩ 1 1 [.bool false, .bool xb, .int .i64 xx, .int .u64 xu, .string xt, .complex .f64 xp xq] rfl rfl (World.news_of_block (Blk.new _ _ _).out) (by simp [Value.oneCell']) (by simp only [maxLen]; omega) (by omega) (by simpa using Nat.le_succ_of_le hbs) ?_; intro v1 w2 hown1 hgrow1 _ hat1)
        have HB2 := hide ((hb.out.alloc hb.out.size _).grown hgrow1 (by simp; omega) (fun z hz => (how.out.lt z hz).1))
        have HO3 := hide hown1
        clear hown1 hgrow1 hat1
        go_roundw
        case rel =>
          refine ⟨i + 1, m + 1, by have := HLT.out; omega, by go_num, by omega, ?_, ?_, HB2.out⟩
          · show _ = _
            rw [HT.out]; simp; exact hml.out
          · show World.ownsRow _ _ _ _ _ _ _
            rw [HT.out, if_neg (by simp), cellsC_snoc]; exact HO3.out
        case measure => have := HLT.out; simp [intOf]; omega
      · have HB2 := hide hb.out
        have HO3 := hide how.out
        go_wp2_with fail
        go_roundw
        case rel =>
          refine ⟨i + 1, m, by have := HLT.out; omega, by go_num, by omega, ?_, ?_, HB2.out⟩
          · show _ = _
            rw [HT.out]; simp; exact hml.out
          · show World.ownsRow _ _ _ _ _ _ _
            rw [HT.out, if_pos rfl, List.append_nil]; exact HO3.out
        case measure => have := HLT.out; simp [intOf]; omega
    · obtain rfl : n = i := by omega
      have ho := how.out
      have hm := hml.out
      rw [List.take_of_length_le (by rw [HN.out]; exact Nat.le_refl _)] at ho hm
      have HV := hide (inC_own ho hm.symm)
      clear hlt hin ho hm
      go_wp2_with fail
      go_ret
      exact ⟨⟨_, rfl, HV.out⟩, hb.out⟩
set_option maxHeartbeats 2000000 in
set_option maxRecDepth 100000 in
theorem sspread_any (bits : List Bool) (l : List CD) (hlen : bits.length ≤ 10000) (hl : l.length + cnt bits = bits.length) (vb v : Value) (w : World) (hvb : SlB w vb bits) (hv : InC w v l) :
    Calls Tryz.prog 20 #[vb, v] w fun e w' => (∃ V, e = .returned (.tuple #[V, .int .i64 0]) ∧ InM w' V (spr bits l)) ∧ Below w.heap.size w w' := by
  obtain ⟨A, ca, rfl, hcell⟩ := hv.form
  obtain ⟨Ab, cb, rfl, hbit⟩ := hvb.form
  have HC := hide hcell
  have HBT := hide hbit
  have HTL := hide (fun i hi hb => there_lt hl (i := i) hi hb)
  have HSP : Hid (spr bits l = sprT bits l bits.length) := rfl
  have HCN := hide hl
  have HSL := hide (fun i => sprT_len bits l i)
  obtain ⟨i0, hi, hz0, hz1, hz2⟩ := info_parts info_cC
  clear hcell hbit hv hvb
  have hm : l.length ≤ 10000 := by omega
  clear hl
  generalize hn : bits.length = n at *
  have HN := hide hn
  generalize hm' : l.length = m at *
  have HM := hide hm'
  clear hn hm'
  have hst := fun (w1 : World) (a1 : Addr) (m : Mode) (x y : Nat) => run_store Tryz.prog w1 a1 (.complex .f64 x y) m rfl
  go_enter Tryz.func20, Tryz.ntmps20
  go_wp2_with fail
  go_loopw [6, 7, 8] (fun dv av iv wr => ∃ (i a : Nat), i ≤ n ∧ iv = .int .i64 (i : Int) ∧ av = .int .i64 (a : Int) ∧ Hid (a + cntTo bits i = i) ∧ a ≤ 10000 ∧ Hid (wr.ownsRow w.heap.size 45 6 dv i ((sprT bits l i).flatMap cellsM)) ∧ Hid (Below w.heap.size w wr)) (fun _ _ iv _ => n - (intOf iv).toNat)
  case atStart => exact ⟨0, 0, by omega, rfl, rfl, (by show 0 + cntTo bits 0 = 0; unfold cntTo; rfl), by omega, World.ownsRow_nil _ _ _ _, Below.refl _ _⟩
  case round =>
    obtain ⟨i, a, hin, rfl, rfl, hac, ham, how, hb⟩ := hrel
    obtain ⟨OA, oc, rfl⟩ := own_form3 how.out
    by_cases hlt : i < n
    · obtain ⟨gb, ob, hA, hgb, hbt⟩ := HBT.out i hlt
      subst hA
      have b0 := (hb.out.cell (p := ⟨gb, ob + i, none⟩) hgb).trans hbt
      have HT := hide (sprT_succ bits l i)
      have HLT := hide hlt
      have hi0 : (0 : Int) ≤ (i : Int) := by omega
      have hi1 : (i : Int) < (n : Int) := by omega
      have hbs := hb.out.size
      have hi2 : (i : Int) ≤ 10000 := by omega
      have HO1 := hide (fun o => how.out.alloc o)
      have HO2 := hide (fun o o' => (how.out.alloc o).alloc o')
      cases hbi : bits.getD i false
      · have hlm := HTL.out i hlt hbi
        have hae : i - cntTo bits i = a := by have := hac.out; omega
        rw [hae] at hlm
        obtain ⟨x, hx⟩ : ∃ x, l[a]? = some x := ⟨l[a]'(by rw [HM.out]; exact hlm), List.getElem?_eq_getElem _⟩
        obtain ⟨g, hA, hg, hat⟩ := HC.out a x hx
        subst hA
        obtain ⟨a0, a1, a2, a3, a4, a5⟩ := hat.below hb.out hg
        have HSC : Hid (spc bits l i = (false, x)) := by
          show _ = _
          unfold spc
          rw [if_neg (by rw [hbi]; simp), hae, List.getD_eq_getElem?_getD, hx]
          rfl
        have HBC : Hid (cntTo bits (i + 1) = cntTo bits i) := by show _ = _; rw [cntTo_succ, bit_false hbi]; rfl
        rw [hbi] at b0
        obtain ⟨xb, xx, xu, xt, xp, xq⟩ := x
        simp only at a0 a1 a2 a3 a4 a5
        have ha0 : (0 : Int) ≤ (a : Int) := by omega
        have ha1 : (a : Int) < (m : Int) := by omega
        have ha2 : (a : Int) ≤ 10000 := by omega
        have hd : decide ((m : Int) ≤ (a : Int)) = false := by rw [decide_eq_false_iff_not]; omega
        have hd2 : decide (m ≤ a) = false := by rw [decide_eq_false_iff_not]; omega
        clear hx hat hlt hg hbi hae hgb hbt
        go_wp2_with (at_builtin; refine wpList_append_own_at _ rfl _ _ 25 rfl w.heap.size 45 i0 _ 6 56 Tryz.underlying25 hi hz0 hz1 hz2 rfl (by decide) _ _ _ rfl (HO1.out _) ⟨wr.heap.size, 0, none⟩ 1 1 [.bool false, .bool xb, .int .i64 xx, .int .u64 xu, .string xt, .complex .f64 xp xq] rfl rfl (World.news_of_block (Blk.new _ _ _).out) (by simp [Value.oneCell']) (by simp only [maxLen]; omega) (by omega) (by simpa using Nat.le_succ_of_le hbs) ?_; intro v1 w2 hown1 hgrow1 _ hat1)
        have HB2 := hide ((hb.out.alloc hb.out.size _).grown hgrow1 (by simpa using Nat.le_succ_of_le hbs) (fun z hz => (how.out.lt z hz).1))
        have HO3 := hide hown1
        clear hown1 hgrow1 hat1
        go_wp2_with fail
        go_roundw
        case rel =>
          refine ⟨i + 1, a + 1, by have := HLT.out; omega, by go_num, by go_num, ?_, by omega, ?_, HB2.out⟩
          · show _ = _; rw [HBC.out]; have := hac.out; omega
          · show World.ownsRow _ _ _ _ _ _ _
            rw [HT.out, cellsM_snoc, HSC.out]; exact HO3.out
        case measure => have := HLT.out; simp [intOf]; omega
      · have HSC : Hid (spc bits l i = (true, CD.z)) := by
          show _ = _
          unfold spc
          rw [if_pos hbi]
        have HBC : Hid (cntTo bits (i + 1) = cntTo bits i + 1) := by show _ = _; rw [cntTo_succ, bit_true hbi]
        rw [hbi] at b0
        clear hlt hbi hgb hbt
        go_wp2_with (at_builtin; refine wpList_append_own_at _ rfl _ _ 25 rfl w.heap.size 45 i0 _ 6 56 Tryz.underlying25 hi hz0 hz1 hz2 rfl (by decide) _ _ _ rfl (HO1.out _) ⟨wr.heap.size, 0, none⟩ 1 1 [.bool true, .bool false, .int .i64 0, .int .u64 0, .string { data := #[] }, .complex .f64 0 0] rfl rfl (World.news_of_block (Blk.new _ _ _).out) (by simp [Value.oneCell']) (by simp only [maxLen]; omega) (by omega) (by simpa using Nat.le_succ_of_le hbs) ?_; intro v1 w2 hown1 hgrow1 _ hat1)
        have HB2 := hide ((hb.out.alloc hb.out.size _).grown hgrow1 (by simpa using Nat.le_succ_of_le hbs) (fun z hz => (how.out.lt z hz).1))
        have HO3 := hide hown1
        clear hown1 hgrow1 hat1
        go_wp2_with fail
        go_roundw
        case rel =>
          refine ⟨i + 1, a, by have := HLT.out; omega, by go_num, rfl, ?_, by omega, ?_, HB2.out⟩
          · show _ = _; rw [HBC.out]; have := hac.out; omega
          · show World.ownsRow _ _ _ _ _ _ _
            rw [HT.out, cellsM_snoc, HSC.out]; exact HO3.out
        case measure => have := HLT.out; simp [intOf]; omega
    · obtain rfl : n = i := by omega
      have ho := how.out
      have HV := hide (inM_own ho (by rw [HSL.out]))
      have hae : a = m := by
        have h1 := hac.out
        have h2 := HCN.out
        unfold cnt at h2
        rw [HN.out] at h2
        omega
      subst hae
      clear hlt hin ho
      go_wp2_with fail
      go_ret2
      exact ⟨⟨_, rfl, by rw [HSP.out]; exact HV.out⟩, hb.out⟩
end Go.Proofs.YtfkgmodgkifelaaGreatDoor
