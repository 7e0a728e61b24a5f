/- Columns: cells spread, missing ones between; the document's cells that are there, and spread. Columns: a column's cells as a stream, the document. -/
import Derived.Test.YtfkgmodgkifelaaGreatDoorJ37
import Derived.Test.YtfkgmodgkifelaaGreatDoorJ13
import Derived.Test.YtfkgmodgkifelaaGreatDoorJ32
import Derived.Test.YtfkgmodgkifelaaGreatDoorJ27
import Derived.Test.YtfkgmodgkifelaaGreatDoorJ33
import Derived.Test.YtfkgmodgkifelaaGreatDoorJ28
namespace Go.Proofs.YtfkgmodgkifelaaGreatDoor
open Go.RowKit

theorem cellsM_get : ∀ (l : List MC) (i : Nat) (x : MC) (j : Nat), l[i]? = some x → j < 6 → (l.flatMap cellsM)[i * 6 + j]? = (cellsM x)[j]? := by
  intro l
  induction l with
  | nil => intro i x j h; simp at h
  | cons a l ih =>
    intro i x j h hj
    rw [List.flatMap_cons]
    have hl : (cellsM a).length = 6 := rfl
    cases i with
    | zero =>
      obtain rfl : a = x := by simpa using h
      rw [List.getElem?_append_left (by omega), Nat.zero_mul, Nat.zero_add]
    | succ i =>
      rw [List.getElem?_append_right (by rw [hl]; omega), hl, show (i + 1) * 6 + j - 6 = i * 6 + j by omega]
      exact ih i x j (by simpa using h) hj
theorem cellsM_snoc (l : List MC) (x : MC) : (l ++ [x]).flatMap cellsM = l.flatMap cellsM ++ cellsM x := by simp
theorem own_atM {w : World} {B g n c : Nat} {e : TypeId} {l : List MC} (h : w.ownsRow B e 6 (.slice (some ⟨g, 0, none⟩) n c) n (l.flatMap cellsM)) (hn : n = l.length) {i : Nat} {x : MC} (hx : l[i]? = some x) : AtM w g (i * 6) x.1 x.2.b x.2.x x.2.u x.2.t x.2.p x.2.q := by
  have hi : i < l.length := (List.getElem?_eq_some_iff.1 hx).1
  have hc := fun j (hj : j < 6) => (h.cellAt (i * 6 + j) (by omega)).trans (cellsM_get l i x j hx hj)
  exact ⟨hc 0 (by omega), hc 1 (by omega), hc 2 (by omega), hc 3 (by omega), hc 4 (by omega), hc 5 (by omega)⟩
theorem inM_own {w : World} {B n : Nat} {v : Value} {l : List MC} (h : w.ownsRow B 45 6 v n (l.flatMap cellsM)) (hn : n = l.length) : InM w v l := by
  subst hn
  rcases Nat.eq_zero_or_pos l.length with h0 | h0
  · obtain ⟨A, c, rfl⟩ := own_form3 h
    exact ⟨A, c, rfl, fun i x hx => by have := (List.getElem?_eq_some_iff.1 hx).1; omega⟩
  · obtain ⟨g, c, rfl⟩ := own_addr h h0
    exact ⟨_, c, rfl, fun i x hx => ⟨g, rfl, (h.lt g rfl).2, own_atM h rfl hx⟩⟩
/-- A slice of bools, whatever its length. -/
theorem SlB.form {w : World} {v : Value} {l : List Bool} (h : SlB w v l) : ∃ A c, v = .slice A l.length c ∧ ∀ i, i < l.length → ∃ b o, A = some ⟨b, o, none⟩ ∧ b < w.heap.size ∧ w.cell? ⟨b, o + i, none⟩ = some (.bool (l.getD i false)) := by
  obtain ⟨_, h | h⟩ := h
  · obtain ⟨h0, a, c, rfl, _⟩ := h
    exact ⟨a, c, by rw [h0], fun i hi => by omega⟩
  · obtain ⟨_, b, o, c, rfl, _, hb, hc⟩ := h
    exact ⟨_, c, rfl, fun i hi => ⟨b, o, rfl, hb, hc i hi⟩⟩
/-- Cells spread: which one stands where. -/
def spc (bits : List Bool) (l : List CD) (i : Nat) : MC := if bits.getD i false = true then (true, CD.z) else (false, l.getD (i - cntTo bits i) CD.z)
def spr (bits : List Bool) (l : List CD) : List MC := (List.range bits.length).map (spc bits l)
theorem spr_len (bits : List Bool) (l : List CD) : (spr bits l).length = bits.length := by simp [spr]
def sprT (bits : List Bool) (l : List CD) (i : Nat) : List MC := (List.range i).map (spc bits l)
theorem sprT_succ (bits : List Bool) (l : List CD) (i : Nat) : sprT bits l (i + 1) = sprT bits l i ++ [spc bits l i] := by simp [sprT, List.range_succ]
theorem sprT_len (bits : List Bool) (l : List CD) (i : Nat) : (sprT bits l i).length = i := by simp [sprT]
/-- How many are there ahead of a place. -/
theorem there_le (bits : List Bool) : ∀ i, cntTo bits i + (bits.length - i) ≥ cnt bits ∧ True := by
  intro i
  refine ⟨?_, trivial⟩
  by_cases hi : i ≤ bits.length
  · obtain ⟨d, hd⟩ : ∃ d, bits.length = i + d := ⟨bits.length - i, by omega⟩
    unfold cnt
    rw [hd]
    clear hd hi
    have : ∀ d, cntTo bits (i + d) ≤ cntTo bits i + d := by
      intro d
      induction d with
      | zero => exact Nat.le_refl _
      | succ d ih => rw [Nat.add_succ, cntTo_succ]; have := bit_le bits (i + d); omega
    have := this d
    omega
  · have : ∀ d, cnt bits ≤ cntTo bits (bits.length + d) := by
      intro d
      induction d with
      | zero => exact Nat.le_refl _
      | succ d ih => rw [Nat.add_succ, cntTo_succ]; omega
    have h := this (i - bits.length)
    rw [show bits.length + (i - bits.length) = i by omega] at h
    omega
theorem there_lt {bits : List Bool} {l : List CD} (hl : l.length + cnt bits = bits.length) {i : Nat} (hi : i < bits.length) (hb : bits.getD i false = false) : i - cntTo bits i < l.length := by
  have h := (there_le bits (i + 1)).1
  rw [cntTo_succ, bit_false hb] at h
  have := cntTo_le bits i
  omega
set_option maxHeartbeats 2000000 in
set_option maxRecDepth 100000 in
theorem sdense_any (l : List MC) (hlen : l.length ≤ 10000) (v : Value) (w : World) (hv : InM w v l) :
    Calls Tryz.prog 64 #[v] w fun e w' => (∃ V, e = .returned V ∧ InC w' V (dens l)) ∧ Below w.heap.size w w' := by
  obtain ⟨A, ca, rfl, hcell⟩ := hv
  have HC := hide hcell
  obtain ⟨i0, hi, hz0, hz1, hz2⟩ := info_parts info_cC
  clear hcell
  generalize hn : l.length = n at *
  have HN := hide hn
  clear hn
  have hst := fun (w1 : World) (a1 : Addr) (m : Mode) (x y : Nat) => run_store Tryz.prog w1 a1 (.complex .f64 x y) m rfl
  go_enter Tryz.func64, Tryz.ntmps64
  go_wp2_with fail
  go_loopw [3, 4] (fun dv iv wr => ∃ (i m : Nat), i ≤ n ∧ iv = .int .i64 (i : Int) ∧ m ≤ i ∧ Hid ((dens (l.take i)).length = m) ∧ Hid (wr.ownsRow w.heap.size 45 6 dv m ((dens (l.take i)).flatMap cellsC)) ∧ Hid (Below w.heap.size w wr)) (fun _ iv _ => n - (intOf iv).toNat)
  case atStart => exact ⟨0, 0, by omega, rfl, by omega, rfl, World.ownsRow_nil _ _ _ _, Below.refl _ _⟩
  case round =>
    obtain ⟨i, m, hin, rfl, hmi, hml, how, hb⟩ := hrel
    obtain ⟨OA, oc, rfl⟩ := own_form3 how.out
    by_cases hlt : i < n
    · obtain ⟨x, hx⟩ : ∃ x, l[i]? = some x := ⟨l[i]'(by rw [HN.out]; exact hlt), List.getElem?_eq_getElem _⟩
      obtain ⟨g, hA, hg, hat⟩ := HC.out i x hx
      subst hA
      obtain ⟨a0, a1, a2, a3, a4, a5⟩ := hat.below hb.out hg
      have HT := hide (dens_take hx)
      have HLT := hide hlt
      have hi0 : (0 : Int) ≤ (i : Int) := by omega
      have hi1 : (i : Int) < (n : Int) := by omega
      have hbs := hb.out.size
      have HO2 := hide (fun o => how.out.alloc o)
      obtain ⟨xn, xb, xx, xu, xt, xp, xq⟩ := x
      simp only at a0 a1 a2 a3 a4 a5 HT
      have hm1 : (m : Int) ≤ 10000 := by omega
      clear hx hat hlt hg
      cases xn
      · go_wp2_with (at_builtin; refine wpList_append_own_at _ rfl _ _ 25 rfl w.heap.size 45 i0 _ 6 56 Tryz.underlying25 hi hz0 hz1 hz2 rfl (by decide) _ _ _ rfl (HO2.out _) ⟨wr.heap.size, 0, none⟩ 1 1 [.bool false, .bool xb, .int .i64 xx, .int .u64 xu, .string xt, .complex .f64 xp xq] rfl rfl (World.news_of_block (Blk.new _ _ _).out) (by simp [Value.oneCell']) (by simp only [maxLen]; omega) (by omega) (by simpa using Nat.le_succ_of_le hbs) ?_; intro v1 w2 hown1 hgrow1 _ hat1)
        have HB2 := hide ((hb.out.alloc hb.out.size _).grown hgrow1 (by simp; omega) (fun z hz => (how.out.lt z hz).1))
        have HO3 := hide hown1
        clear hown1 hgrow1 hat1
        go_roundw
        case rel =>
          refine ⟨i + 1, m + 1, by have := HLT.out; omega, by go_num, by omega, ?_, ?_, HB2.out⟩
          · show _ = _
            rw [HT.out]; simp; exact hml.out
          · show World.ownsRow _ _ _ _ _ _ _
            rw [HT.out, if_neg (by simp), cellsC_snoc]; exact HO3.out
        case measure => have := HLT.out; simp [intOf]; omega
      · have HB2 := hide hb.out
        have HO3 := hide how.out
        go_wp2_with fail
        go_roundw
        case rel =>
          refine ⟨i + 1, m, by have := HLT.out; omega, by go_num, by omega, ?_, ?_, HB2.out⟩
          · show _ = _
            rw [HT.out]; simp; exact hml.out
          · show World.ownsRow _ _ _ _ _ _ _
            rw [HT.out, if_pos rfl, List.append_nil]; exact HO3.out
        case measure => have := HLT.out; simp [intOf]; omega
    · obtain rfl : n = i := by omega
      have ho := how.out
      have hm := hml.out
      rw [List.take_of_length_le (by rw [HN.out]; exact Nat.le_refl _)] at ho hm
      have HV := hide (inC_own ho hm.symm)
      clear hlt hin ho hm
      go_wp2_with fail
      go_ret
      exact ⟨⟨_, rfl, HV.out⟩, hb.out⟩
set_option maxHeartbeats 2000000 in
set_option maxRecDepth 100000 in
theorem sspread_any (bits : List Bool) (l : List CD) (hlen : bits.length ≤ 10000) (hl : l.length + cnt bits = bits.length) (vb v : Value) (w : World) (hvb : SlB w vb bits) (hv : InC w v l) :
    Calls Tryz.prog 20 #[vb, v] w fun e w' => (∃ V, e = .returned (.tuple #[V, .int .i64 0]) ∧ InM w' V (spr bits l)) ∧ Below w.heap.size w w' := by
  obtain ⟨A, ca, rfl, hcell⟩ := hv.form
  obtain ⟨Ab, cb, rfl, hbit⟩ := hvb.form
  have HC := hide hcell
  have HBT := hide hbit
  have HTL := hide (fun i hi hb => there_lt hl (i := i) hi hb)
  have HSP : Hid (spr bits l = sprT bits l bits.length) := rfl
  have HCN := hide hl
  have HSL := hide (fun i => sprT_len bits l i)
  obtain ⟨i0, hi, hz0, hz1, hz2⟩ := info_parts info_cC
  clear hcell hbit hv hvb
  have hm : l.length ≤ 10000 := by omega
  clear hl
  generalize hn : bits.length = n at *
  have HN := hide hn
  generalize hm' : l.length = m at *
  have HM := hide hm'
  clear hn hm'
  have hst := fun (w1 : World) (a1 : Addr) (m : Mode) (x y : Nat) => run_store Tryz.prog w1 a1 (.complex .f64 x y) m rfl
  go_enter Tryz.func20, Tryz.ntmps20
  go_wp2_with fail
  go_loopw [6, 7, 8] (fun dv av iv wr => ∃ (i a : Nat), i ≤ n ∧ iv = .int .i64 (i : Int) ∧ av = .int .i64 (a : Int) ∧ Hid (a + cntTo bits i = i) ∧ a ≤ 10000 ∧ Hid (wr.ownsRow w.heap.size 45 6 dv i ((sprT bits l i).flatMap cellsM)) ∧ Hid (Below w.heap.size w wr)) (fun _ _ iv _ => n - (intOf iv).toNat)
  case atStart => exact ⟨0, 0, by omega, rfl, rfl, (by show 0 + cntTo bits 0 = 0; unfold cntTo; rfl), by omega, World.ownsRow_nil _ _ _ _, Below.refl _ _⟩
  case round =>
    obtain ⟨i, a, hin, rfl, rfl, hac, ham, how, hb⟩ := hrel
    obtain ⟨OA, oc, rfl⟩ := own_form3 how.out
    by_cases hlt : i < n
    · obtain ⟨gb, ob, hA, hgb, hbt⟩ := HBT.out i hlt
      subst hA
      have b0 := (hb.out.cell (p := ⟨gb, ob + i, none⟩) hgb).trans hbt
      have HT := hide (sprT_succ bits l i)
      have HLT := hide hlt
      have hi0 : (0 : Int) ≤ (i : Int) := by omega
      have hi1 : (i : Int) < (n : Int) := by omega
      have hbs := hb.out.size
      have hi2 : (i : Int) ≤ 10000 := by omega
      have HO1 := hide (fun o => how.out.alloc o)
      have HO2 := hide (fun o o' => (how.out.alloc o).alloc o')
      cases hbi : bits.getD i false
      · have hlm := HTL.out i hlt hbi
        have hae : i - cntTo bits i = a := by have := hac.out; omega
        rw [hae] at hlm
        obtain ⟨x, hx⟩ : ∃ x, l[a]? = some x := ⟨l[a]'(by rw [HM.out]; exact hlm), List.getElem?_eq_getElem _⟩
        obtain ⟨g, hA, hg, hat⟩ := HC.out a x hx
        subst hA
        obtain ⟨a0, a1, a2, a3, a4, a5⟩ := hat.below hb.out hg
        have HSC : Hid (spc bits l i = (false, x)) := by
          show _ = _
          unfold spc
          rw [if_neg (by rw [hbi]; simp), hae, List.getD_eq_getElem?_getD, hx]
          rfl
        have HBC : Hid (cntTo bits (i + 1) = cntTo bits i) := by show _ = _; rw [cntTo_succ, bit_false hbi]; rfl
        rw [hbi] at b0
        obtain ⟨xb, xx, xu, xt, xp, xq⟩ := x
        simp only at a0 a1 a2 a3 a4 a5
        have ha0 : (0 : Int) ≤ (a : Int) := by omega
        have ha1 : (a : Int) < (m : Int) := by omega
        have ha2 : (a : Int) ≤ 10000 := by omega
        have hd : decide ((m : Int) ≤ (a : Int)) = false := by rw [decide_eq_false_iff_not]; omega
        have hd2 : decide (m ≤ a) = false := by rw [decide_eq_false_iff_not]; omega
        clear hx hat hlt hg hbi hae hgb hbt
        go_wp2_with (at_builtin; refine wpList_append_own_at _ rfl _ _ 25 rfl w.heap.size 45 i0 _ 6 56 Tryz.underlying25 hi hz0 hz1 hz2 rfl (by decide) _ _ _ rfl (HO1.out _) ⟨wr.heap.size, 0, none⟩ 1 1 [.bool false, .bool xb, .int .i64 xx, .int .u64 xu, .string xt, .complex .f64 xp xq] rfl rfl (World.news_of_block (Blk.new _ _ _).out) (by simp [Value.oneCell']) (by simp only [maxLen]; omega) (by omega) (by simpa using Nat.le_succ_of_le hbs) ?_; intro v1 w2 hown1 hgrow1 _ hat1)
        have HB2 := hide ((hb.out.alloc hb.out.size _).grown hgrow1 (by simpa using Nat.le_succ_of_le hbs) (fun z hz => (how.out.lt z hz).1))
        have HO3 := hide hown1
        clear hown1 hgrow1 hat1
        go_wp2_with fail
        go_roundw
        case rel =>
          refine ⟨i + 1, a + 1, by have := HLT.out; omega, by go_num, by go_num, ?_, by omega, ?_, HB2.out⟩
          · show _ = _; rw [HBC.out]; have := hac.out; omega
          · show World.ownsRow _ _ _ _ _ _ _
            rw [HT.out, cellsM_snoc, HSC.out]; exact HO3.out
        case measure => have := HLT.out; simp [intOf]; omega
      · have HSC : Hid (spc bits l i = (true, CD.z)) := by
          show _ = _
          unfold spc
          rw [if_pos hbi]
        have HBC : Hid (cntTo bits (i + 1) = cntTo bits i + 1) := by show _ = _; rw [cntTo_succ, bit_true hbi]
        rw [hbi] at b0
        clear hlt hbi hgb hbt
        go_wp2_with (at_builtin; refine wpList_append_own_at _ rfl _ _ 25 rfl w.heap.size 45 i0 _ 6 56 Tryz.underlying25 hi hz0 hz1 hz2 rfl (by decide) _ _ _ rfl (HO1.out _) ⟨wr.heap.size, 0, none⟩ 1 1 [.bool true, .bool false, .int .i64 0, .int .u64 0, .string { data := #[] }, .complex .f64 0 0] rfl rfl (World.news_of_block (Blk.new _ _ _).out) (by simp [Value.oneCell']) (by simp only [maxLen]; omega) (by omega) (by simpa using Nat.le_succ_of_le hbs) ?_; intro v1 w2 hown1 hgrow1 _ hat1)
        have HB2 := hide ((hb.out.alloc hb.out.size _).grown hgrow1 (by simpa using Nat.le_succ_of_le hbs) (fun z hz => (how.out.lt z hz).1))
        have HO3 := hide hown1
        clear hown1 hgrow1 hat1
        go_wp2_with fail
        go_roundw
        case rel =>
          refine ⟨i + 1, a, by have := HLT.out; omega, by go_num, rfl, ?_, by omega, ?_, HB2.out⟩
          · show _ = _; rw [HBC.out]; have := hac.out; omega
          · show World.ownsRow _ _ _ _ _ _ _
            rw [HT.out, cellsM_snoc, HSC.out]; exact HO3.out
        case measure => have := HLT.out; simp [intOf]; omega
    · obtain rfl : n = i := by omega
      have ho := how.out
      have HV := hide (inM_own ho (by rw [HSL.out]))
      have hae : a = m := by
        have h1 := hac.out
        have h2 := HCN.out
        unfold cnt at h2
        rw [HN.out] at h2
        omega
      subst hae
      clear hlt hin ho
      go_wp2_with fail
      go_ret2
      exact ⟨⟨_, rfl, by rw [HSP.out]; exact HV.out⟩, hb.out⟩
end Go.Proofs.YtfkgmodgkifelaaGreatDoor
namespace Go.Proofs.YtfkgmodgkifelaaGreatDoor
open Go.RowKit

theorem sdencode_all (k : Int) (hk : k = 2 ∨ k = 3 ∨ k = 6) (l : List CD) (hl : Wok l) (v : Value) (w : World) (hv : InC w v l) :
    Calls Tryz.prog 150 #[.int .i64 k, v] w fun e w' => e = .returned (.tuple #[.string (strN (encL k l).2), .int .i64 ((encL k l).1 : Nat)]) ∧ Below w.heap.size w w' := by
  unfold encL
  by_cases h : k = 2 ∨ k = 3
  · rw [if_pos h]; exact sdencodeN k h l hl v w hv
  · rw [if_neg h]
    have h6 : k = 6 := by rcases hk with h1 | h1 | h1 <;> simp_all
    subst h6; rw [if_pos rfl]; exact sdencodeP l hl v w hv
set_option maxHeartbeats 2000000 in
set_option maxRecDepth 100000 in
theorem sby_any (i : Nat) (hi1 : 1 ≤ i) (hi4 : i ≤ 4) (k : Int) (h1 : 1 ≤ k) (h6 : k ≤ 6) (l : List CD) (hl : Wok l) (v : Value) (w : World) (hv : InC w v l) :
    Calls Tryz.prog 103 #[.int .i64 (i : Int), .int .i64 k, v] w fun e w' => e = .returned (.tuple #[.string (strN (wayO k l i).2), .bool ((wayO k l i).1 == 0)]) ∧ Below w.heap.size w w' := by
  have hi : i = 1 ∨ i = 2 ∨ i = 3 ∨ i = 4 := by omega
  rcases hi with rfl | rfl | rfl | rfl
  · have K := hide (sencode_all k h1 h6 l hl v w hv)
    rw [show wayO k l 1 = (0, encP k l) from rfl]
    simp only
    generalize strN (encP k l) = S at *
    clear hl hv h1 h6
    go_enter Tryz.func103, Tryz.ntmps103
    go_wp2_with fail
    refine K.out.mono ?_
    rintro e w1 ⟨rfl, hb⟩
    go_wp2_with fail
    go_ret2
    exact ⟨rfl, hb⟩
  · have K := hide (srencode_any k h1 h6 l hl v w hv)
    rw [show wayO k l 2 = (0, encR k l) from rfl]
    simp only
    generalize strN (encR k l) = S at *
    clear hl hv h1 h6
    go_enter Tryz.func103, Tryz.ntmps103
    go_wp2_with fail
    refine K.out.mono ?_
    rintro e w1 ⟨rfl, hb⟩
    go_wp2_with fail
    go_ret2
    exact ⟨rfl, hb⟩
  · rw [show wayO k l 3 = encL k l from rfl]
    by_cases hk : k = 2 ∨ k = 3 ∨ k = 6
    · have K := hide (sdencode_all k hk l hl v w hv)
      have KK := hide (fun w => skind10_yes k hk w)
      have hd : (((encL k l).1 : Int) == 0) = ((encL k l).1 == 0) := by
        cases he : ((encL k l).1 == 0)
        · rw [beq_eq_false_iff_ne] at he ⊢; omega
        · rw [beq_iff_eq] at he ⊢; omega
      generalize strN (encL k l).2 = S at *
      generalize ((encL k l).1 == 0) = b at *
      generalize (encL k l).1 = er at *
      clear hl hv h1 h6 hk
      go_enter Tryz.func103, Tryz.ntmps103
      go_wp2_with fail
      refine (KK.out _).mono ?_
      rintro e w1 ⟨rfl, rfl⟩
      go_wp2_with fail
      refine K.out.mono ?_
      rintro e w1 ⟨rfl, hb⟩
      go_wp2_with fail
      go_ret2
      exact ⟨rfl, hb⟩
    · have KK := hide (fun w => skind10_no k hk w)
      have he : encL k l = (14, []) := by
        unfold encL
        rw [if_neg (by rintro (h | h) <;> simp_all), if_neg (by simp_all)]
      rw [he]
      simp only
      rw [strN_nil]
      clear hl hv h1 h6 hk he
      go_enter Tryz.func103, Tryz.ntmps103
      go_wp2_with fail
      refine (KK.out _).mono ?_
      rintro e w1 ⟨rfl, rfl⟩
      go_wp2_with fail
      go_ret2
      exact ⟨rfl, Below.refl _ _⟩
  · have K := hide (sxencode_any k h1 h6 l hl v w hv)
    rw [show wayO k l 4 = (0, encX k l) from rfl]
    simp only
    generalize strN (encX k l) = S at *
    clear hl hv h1 h6
    go_enter Tryz.func103, Tryz.ntmps103
    go_wp2_with fail
    refine K.out.mono ?_
    rintro e w1 ⟨rfl, hb⟩
    go_wp2_with fail
    go_ret2
    exact ⟨rfl, hb⟩
set_option maxHeartbeats 4000000 in
set_option maxRecDepth 100000 in
theorem sbest_any (k : Int) (h1 : 1 ≤ k) (h6 : k ≤ 6) (l : List CD) (hl : Wok l) (v : Value) (w : World) (hv : InC w v l) :
    Calls Tryz.prog 63 #[.int .i64 k, v] w fun e w' => e = .returned (.tuple #[.int .i64 ((bestW k l).1 : Nat), .string (strN (bestW k l).2)]) ∧ Below w.heap.size w w' := by
  have KB := hide (fun (i : Nat) (hi1 : 1 ≤ i) (hi4 : i ≤ 4) (W : World) (hb : Below w.heap.size w W) => sby_any i hi1 hi4 k h1 h6 l hl v W (hv.below hb))
  obtain ⟨⟨o5, Y5⟩, hRES⟩ : ∃ R, bestW k l = R := ⟨_, rfl⟩
  rw [hRES]
  simp only
  have HRES := hide hRES
  have HST : Hid (∀ i, bst k l (i + 1) = pick (bst k l i) i (wayO k l i)) := fun _ => rfl
  have HL := hide (bst_lt k l)
  clear hRES hl hv
  go_enter Tryz.func63, Tryz.ntmps63
  go_wp2_with fail
  go_loopw [6, 7, 8] (fun ov sv iv wr => ∃ (i : Nat), 1 ≤ i ∧ i ≤ 5 ∧ iv = .int .i64 (i : Int) ∧ ov = .int .i64 ((bst k l i).1 : Nat) ∧ sv = .string (strN (bst k l i).2) ∧ Hid (Below w.heap.size w wr)) (fun _ _ iv _ => 5 - (intOf iv).toNat)
  case atStart => exact ⟨1, by omega, by omega, rfl, rfl, by rw [show (bst k l 1).2 = [] from rfl, strN_nil], Below.refl _ _⟩
  case round =>
    obtain ⟨i, hi1, hi, rfl, rfl, rfl, hbe⟩ := hrel
    by_cases hlt : i < 5
    · have hol := HL.out i
      have HLT := hide hlt
      have hi0 : (1 : Int) ≤ (i : Int) := by omega
      have hi4 : (i : Int) ≤ 4 := by omega
      have KB1 := hide (KB.out i hi1 (by omega) wr hbe.out)
      have HW1 := hide (strN_size (wayO k l i).2)
      have HW2 := hide (strN_size (bst k l i).2)
      have HP := hide (HST.out i)
      rcases hbs : bst k l i with ⟨o, Y⟩
      rcases hwo : wayO k l i with ⟨er, X⟩
      rw [hbs] at hol HW2 HP
      rw [hwo] at KB1 HW1 HP
      simp only at KB1 hol HW1 HW2
      clear hbs hwo hlt
      generalize hSX : strN X = SX at *
      generalize hSY : strN Y = SY at *
      have HSX := hide hSX
      have HSY := hide hSY
      clear hSX hSY
      have ho0 : (0 : Int) ≤ (o : Int) := by omega
      have ho1 : (o : Int) < 5 := by omega
      cases her : (er == 0)
      · have HO : Hid (pick (o, Y) i (er, X) = (o, Y)) := by
          show _ = _
          unfold pick
          rw [beq_eq_false_iff_ne] at her
          rw [if_neg (fun h => her h.1)]
        rw [her] at KB1
        clear her
        go_wp2_with fail
        refine KB1.out.mono ?_
        rintro e w4 ⟨rfl, hb4⟩
        have HE := hide (hbe.out.trans (hb4.mono hbe.out.size))
        clear hb4
        go_wp2_with fail
        go_roundw
        case rel => exact ⟨i + 1, by omega, by have := HLT.out; omega, by go_num, by rw [HP.out, HO.out], by rw [HP.out, HO.out]; first | rw [HSX.out] | rw [HSY.out], HE.out⟩
        case measure => have := HLT.out; simp [intOf]; omega
      · rw [her] at KB1
        rw [beq_iff_eq] at her
        by_cases h0 : o = 0
        · have HO : Hid (pick (o, Y) i (er, X) = (i, X)) := by
            show _ = _
            unfold pick
            rw [if_pos ⟨her, .inl h0⟩]
          subst h0
          clear her
          go_wp2_with fail
          refine KB1.out.mono ?_
          rintro e w4 ⟨rfl, hb4⟩
          have HE := hide (hbe.out.trans (hb4.mono hbe.out.size))
          clear hb4
          go_wp2_with fail
          go_roundw
          case rel => exact ⟨i + 1, by omega, by have := HLT.out; omega, by go_num, by rw [HP.out, HO.out], by rw [HP.out, HO.out]; first | rw [HSX.out] | rw [HSY.out], HE.out⟩
          case measure => have := HLT.out; simp [intOf]; omega
        · have hoz : ((o : Int) == 0) = false := by rw [beq_eq_false_iff_ne]; omega
          by_cases hc : X.length < Y.length
          · have HO : Hid (pick (o, Y) i (er, X) = (i, X)) := by
              show _ = _
              unfold pick
              rw [if_pos ⟨her, .inr hc⟩]
            have hsz : decide ((SX.size : Int) < (SY.size : Int)) = true := by rw [decide_eq_true_eq, HW1.out, HW2.out]; omega
            have hszn : decide (SX.size < SY.size) = true := by rw [decide_eq_true_eq, HW1.out, HW2.out]; omega
            clear her h0 hc
            go_wp2_with fail
            refine KB1.out.mono ?_
            rintro e w4 ⟨rfl, hb4⟩
            have HE := hide (hbe.out.trans (hb4.mono hbe.out.size))
            clear hb4
            go_wp2_with fail
            go_roundw
            case rel => exact ⟨i + 1, by omega, by have := HLT.out; omega, by go_num, by rw [HP.out, HO.out], by rw [HP.out, HO.out]; first | rw [HSX.out] | rw [HSY.out], HE.out⟩
            case measure => have := HLT.out; simp [intOf]; omega
          · have HO : Hid (pick (o, Y) i (er, X) = (o, Y)) := by
              show _ = _
              unfold pick
              rw [if_neg]
              rintro ⟨_, h | h⟩
              · exact h0 h
              · exact hc h
            have hsz : decide ((SX.size : Int) < (SY.size : Int)) = false := by rw [decide_eq_false_iff_not, HW1.out, HW2.out]; omega
            have hszn : decide (SX.size < SY.size) = false := by rw [decide_eq_false_iff_not, HW1.out, HW2.out]; omega
            clear her h0 hc
            go_wp2_with fail
            refine KB1.out.mono ?_
            rintro e w4 ⟨rfl, hb4⟩
            have HE := hide (hbe.out.trans (hb4.mono hbe.out.size))
            clear hb4
            go_wp2_with fail
            go_roundw
            case rel => exact ⟨i + 1, by omega, by have := HLT.out; omega, by go_num, by rw [HP.out, HO.out], by rw [HP.out, HO.out]; first | rw [HSX.out] | rw [HSY.out], HE.out⟩
            case measure => have := HLT.out; simp [intOf]; omega
    · obtain rfl : i = 5 := by omega
      have hbe5 : bst k l 5 = (o5, Y5) := HRES.out
      rw [hbe5]
      simp only
      clear hlt hi hi1 hbe5
      go_wp2_with fail
      go_ret2
      exact ⟨rfl, hbe.out⟩
end Go.Proofs.YtfkgmodgkifelaaGreatDoor
