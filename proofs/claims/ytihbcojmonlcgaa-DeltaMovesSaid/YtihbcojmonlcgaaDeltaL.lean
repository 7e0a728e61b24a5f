/- The walk of DeltaMoves. -/
import Derived.Test.YtihbcojmonlcgaaDeltaA
import Derived.Deep.AppendLies
import Derived.Deep.RegionHeld3
namespace Go.Proofs.Ytihbcojmonlcgaa
open Go.RowKit Go.ChangeShapes Go.WideShapes Go.Deep

theorem open_t22 {H : Type} {enc : TypeId × Value → H} {w : World} {base : Nat} {spare : Nat → Bool} {held : Bool} {r : Reach} {b0 : Nat} {v : Value} {d : DataW H} {p : List MemPlace}
    (hv : Value.okWide Try.prog w r b0 22 v) (h : DataW.Trod enc Try.prog w base spare held 22 v d p) : ∃ l : List Int, InSl w v l.length (fun i => .int .i64 (l.getD i 0)) := by
  obtain ⟨n, m, V, D, hs, hx⟩ := open_sl Try.underlying22 (by kernel_rfl) hv h
  obtain ⟨f, hf⟩ := choose_lt (α := Int) (n := n) (p := fun i k => V i = .int .i64 k) (fun i hi => by
    obtain ⟨k, hk, _⟩ := DataW.trod_int Try.underlying2 (hx i hi)
    simp at hk
    exact ⟨k, hk⟩)
  refine ⟨(List.range n).map f, ?_⟩
  rw [List.length_map, List.length_range]
  obtain ⟨h1, h2⟩ := hs
  refine ⟨h1, h2.imp id ?_⟩
  rintro ⟨h0, b, o, c, rfl, hc, hb, hcell⟩
  refine ⟨h0, b, o, c, rfl, hc, hb, fun i hi => ?_⟩
  rw [hcell i hi, hf i hi]
  simp [List.getD, hi]
def cells6 (x : Int) : List Go.Value := [.bool false, .bool false, .int .i64 x, .int .u64 0, .string ByteArray.empty, .complex .f64 0 0]
theorem cells6_snoc (l : List Int) (x : Int) : (l ++ [x]).flatMap cells6 = l.flatMap cells6 ++ cells6 x := by simp
theorem cells6_get : ∀ (l : List Int) (i : Nat) (x : Int) (j : Nat), l[i]? = some x → j < 6 → (l.flatMap cells6)[i * 6 + j]? = (cells6 x)[j]? := by
  intro l
  induction l with
  | nil => intro i x j h; simp at h
  | cons a l ih =>
    intro i x j h hj
    rw [List.flatMap_cons]
    have hl : (cells6 a).length = 6 := rfl
    cases i with
    | zero =>
      obtain rfl : a = x := by simpa using h
      rw [List.getElem?_append_left (by omega), Nat.zero_mul, Nat.zero_add]
    | succ i =>
      rw [List.getElem?_append_right (by rw [hl]; omega), hl, show (i + 1) * 6 + j - 6 = i * 6 + j by omega]
      exact ih i x j (by simpa using h) hj
theorem own_at6 {w : World} {B g n c : Nat} {e : TypeId} {l : List Int} (h : w.ownsRow B e 6 (.slice (some ⟨g, 0, none⟩) n c) n (l.flatMap cells6)) (hn : n = l.length) {i : Nat} {x : Int} (hx : l[i]? = some x) : At6 w g (i * 6) x 0 0 0 := by
  have hi : i < l.length := (List.getElem?_eq_some_iff.1 hx).1
  have hc := fun j (hj : j < 6) => (h.cellAt (i * 6 + j) (by omega)).trans (cells6_get l i x j hx hj)
  exact ⟨hc 0 (by omega), hc 1 (by omega), hc 2 (by omega), hc 3 (by omega), hc 4 (by omega), hc 5 (by omega)⟩
theorem own_cap {w : World} {B g n c sz : Nat} {e : TypeId} {xs : List Value} (h : w.ownsRow B e sz (.slice (some ⟨g, 0, none⟩) n c) n xs) : n ≤ c := by
  rcases h.2 with ⟨h1, _⟩ | ⟨g2, cap, cur, h1, h2, h3, h4⟩
  · cases h1
  · cases h1
    omega
theorem info_c6 : (Try.prog.info? 28).map (fun i => (i.zero, i.size, i.bytes)) = some (some (cl 0 0 0 0), 6, 56) := by kernel_rfl
theorem bn_extract' (s : ByteArray) (a b : Nat) : bn (s.extract a b) = ((bn s).drop a).take (b - a) := by
  simp only [bn, ByteArray.data_extract, Array.toList_extract, List.extract_eq_take_drop, List.map_take, List.map_drop]
/-- Two texts that differ in their beginnings alone. -/
theorem cut_two (u r : List Nat) (hu : ∀ b ∈ u, b < 256) (hr : ∀ b ∈ r, b < 256) : (strN (u ++ r)).extract 0 (strN u).size = strN u ∧ (strN (u ++ r)).extract (strN u).size (strN (u ++ r)).size = strN r := by
  have h1 := bn_strN u hu
  have h2 := bn_strN r hr
  have h3 := bn_strN (u ++ r) (by intro b hb; rcases List.mem_append.1 hb with h | h; exact hu b h; exact hr b h)
  constructor <;> apply bn_inj' <;> rw [bn_extract', h3, strN_size]
  · rw [h1]; simp
  · rw [h2, strN_size]; simp
theorem moves_plain (x : Int) (r : List Int) (d : Int) : ∃ U V R : List Nat, encD 0 (x :: r) = U ++ R ∧ encD 0 ((x :: r).map (mv d)) = V ++ R ∧ encD 0 [x] = U ∧ encD 0 [mv d x] = V ∧ (∀ b ∈ U, b < 256) ∧ (∀ b ∈ V, b < 256) ∧ (∀ b ∈ R, b < 256) := by
  refine ⟨encD 0 [x], encD 0 [mv d x], encD x r, ?_, ?_, rfl, rfl, encD_lt _ _, encD_lt _ _, encD_lt _ _⟩
  · simp [encD]
  · rw [List.map_cons, encD, encD_mv]; simp [encD]
theorem enc_own (l : List Int) (n : Nat) (hn : n = l.length) (h0 : 0 < n) (h60 : n ≤ 60) (W : World) (B g c : Nat) (h : W.ownsRow B 28 6 (.slice (some ⟨g, 0, none⟩) n c) n (l.flatMap cells6)) :
    Calls Try.prog 5 #[.int .i64 2, .slice (some ⟨g, 0, none⟩) n c] W fun e w' => e = .returned (.tuple #[.string (strN (encD 0 l)), .int .i64 0]) ∧ Below W.heap.size W w' := by
  have hc := own_cap h
  subst hn
  exact enc_int l h0 h60 g c hc W (fun i x hx => own_at6 h rfl hx)
theorem enc_own1 (l : List Int) (x : Int) (hx : l[0]? = some x) (n : Nat) (hn : n = l.length) (h0 : 0 < n) (W : World) (B g c : Nat) (h : W.ownsRow B 28 6 (.slice (some ⟨g, 0, none⟩) n c) n (l.flatMap cells6)) :
    Calls Try.prog 5 #[.int .i64 2, .slice (some ⟨g, 0, none⟩) 1 c] W fun e w' => e = .returned (.tuple #[.string (strN (encD 0 [x])), .int .i64 0]) ∧ Below W.heap.size W w' := by
  have hc := own_cap h
  exact enc_int [x] (by simp) (by simp) g c (by simp; omega) W (fun i y hy => by
    match i, hy with
    | 0, hy =>
      cases hy
      exact own_at6 h hn hx)
set_option maxHeartbeats 4000000 in
set_option maxRecDepth 100000 in
theorem deltaMoves_walk (w : World) (v : Value) (hx : ∃ l : List Int, InSl w v l.length (fun i => .int .i64 (l.getD i 0))) (d : Int) (_hd : (Lit.int .i64 d).wf = true) :
    Calls Try.prog 3 #[v, .int .i64 d] w fun e w' => e = .returned (.bool true) ∧ Below w.heap.size w w' := by
  have KA := hide (fun w => awake10 w)
  obtain ⟨l, hl⟩ := hx
  have hform : ∃ A c, v = .slice A l.length c := by
    rcases hl.2 with ⟨h0, x, c, rfl, _⟩ | ⟨_, x, o, c, rfl, _⟩
    · exact ⟨x, c, by rw [h0]⟩
    · exact ⟨_, c, rfl⟩
  obtain ⟨A, c, rfl⟩ := hform
  by_cases h60 : l.length = 0 ∨ 60 < l.length
  · clear hl
    have hx : (l.length : Int) > 60 ∨ (l.length : Int) = 0 := by omega
    rcases h60 with h0 | h0
    · go_enter Try.func3, Try.ntmps3
      go_wp2_with fail
      refine (KA.out _).mono ?_
      rintro e w1 ⟨rfl, hb1⟩
      go_wp2_with fail
      go_ret
      exact ⟨rfl, hb1⟩
    · go_enter Try.func3, Try.ntmps3
      go_wp2_with fail
      refine (KA.out _).mono ?_
      rintro e w1 ⟨rfl, hb1⟩
      go_wp2_with fail
      go_ret
      exact ⟨rfl, hb1⟩
  have hn0 : 0 < l.length := by omega
  have hn : l.length ≤ 60 := by omega
  clear h60
  have hg1 : decide ((60 : Int) < (l.length : Int)) = false := by simp; omega
  have hg2 : ((l.length : Int) == 0) = false := by rw [beq_eq_false_iff_ne]; omega
  have HI := hide hl
  clear hl
  obtain ⟨i0, hi, hz0, hz1, hz2⟩ := info_parts info_c6
  go_enter Try.func3, Try.ntmps3
  go_wp2_with fail
  go_loopw [5, 6, 7] (fun av bv iv wr => ∃ i : Nat, i ≤ l.length ∧ iv = .int .i64 (i : Int) ∧ wr.ownsRow w.heap.size 28 6 av i ((l.take i).flatMap cells6) ∧ wr.ownsRow w.heap.size 28 6 bv i (((l.map (mv d)).take i).flatMap cells6) ∧ (∀ k, av.ownBlock = some k → bv.ownBlock ≠ some k) ∧ Below w.heap.size w wr) (fun _ _ iv _ => l.length - (intOf iv).toNat)
  case atStart => exact ⟨0, by omega, rfl, World.ownsRow_nil _ _ _ _, World.ownsRow_nil _ _ _ _, fun k h => by simp [Value.ownBlock] at h, Below.refl _ _⟩
  case round =>
    obtain ⟨i, hil, rfl, ha, hb, hab, hbe⟩ := hrel
    obtain ⟨Aa, ca, rfl⟩ := own_form3 ha
    obtain ⟨Ab, cb, rfl⟩ := own_form3 hb
    by_cases hlt : i < l.length
    · obtain ⟨g, o, cc, hA, hcc, hgl, hcell⟩ : ∃ b o c', Value.slice A l.length c = .slice (some ⟨b, o, none⟩) l.length c' ∧ l.length ≤ c' ∧ b < w.heap.size ∧ ∀ i, i < l.length → w.cell? ⟨b, o + i, none⟩ = some (.int .i64 (l.getD i 0)) := by
        rcases HI.out.2 with ⟨h0, _⟩ | ⟨_, b, o, c', h1, h2, h3, h4⟩
        · omega
        · exact ⟨b, o, c', h1, h2, h3, h4⟩
      injection hA with hA1 _ hA2
      subst hA1 hA2
      obtain ⟨x, hx⟩ : ∃ x, l[i]? = some x := ⟨_, List.getElem?_eq_getElem hlt⟩
      have hcx := hcell i hlt
      have hgd : l.getD i 0 = x := by simp [List.getD, hx]
      rw [hgd] at hcx
      have hc1 := (hbe.cell (p := ⟨g, o + i, none⟩) hgl).trans hcx
      have HT := hide (take_snoc hx)
      have HT2 := hide (take_snoc (l := l.map (mv d)) (i := i) (x := mv d x) (by rw [List.getElem?_map, hx]; rfl))
      have HG := hide hgl
      have HCX := hide hcx
      have HAB := hide hab
      have HBE := hide hbe
      have hi0 : (0 : Int) ≤ (i : Int) := by omega
      have hi1 : (i : Int) < (l.length : Int) := by omega
      clear hcell hcx hgd hx hab hbe hgl
      have hcf := hide (fun (w1 : World) (ob : Obj) (hg : (wr.alloc ob).grownBy w1 (Value.slice Aa i ca).ownBlock) => show w1.cell? ⟨g, o + i, none⟩ = some (.int .i64 x) from ((((HBE.out.alloc HBE.out.size ob).grown hg (by simpa using Nat.le_succ_of_le HBE.out.size) (fun k hk => (ha.lt k hk).1)).cell (p := ⟨g, o + i, none⟩) HG.out).trans HCX.out))
      have hbf := hide (fun (w1 : World) (ob : Obj) (hg : (wr.alloc ob).grownBy w1 (Value.slice Aa i ca).ownBlock) => show w1.ownsRow w.heap.size 28 6 (.slice Ab i cb) i (((l.map (mv d)).take i).flatMap cells6) from own_fr (hb.alloc _) (Fr.of_grown hg) (fun k hk h => HAB.out k h.symm hk))
      go_wp2_with (at_builtin; first
        | (refine wpList_append_own_at _ rfl _ _ 24 rfl w.heap.size 28 i0 _ 6 56 Try.underlying24 hi hz0 hz1 hz2 rfl (by decide) _ _ _ rfl (ha.alloc _) ⟨wr.heap.size, 0, none⟩ 1 1 [.bool false, .bool false, .int .i64 x, .int .u64 0, .string { data := #[] }, .complex .f64 0 0] rfl rfl (World.news_of_block (Blk.new _ _ _).out) (by simp [Value.oneCell']) (by simp only [maxLen]; omega) (by omega) (by simpa using Nat.le_succ_of_le HBE.out.size) ?_; intro v1 w1 hown1 hgrow1 _ hat1; have hc2 := hcf.out w1 _ hgrow1; have HG1 := hide hgrow1; have HO1 := hide hown1; have HT1 := hide hat1; have hsz1 : w.heap.size ≤ w1.heap.size := Nat.le_trans HBE.out.size (Nat.le_trans (by simp) hgrow1.size); clear hown1 hgrow1 hat1)
        | (refine wpList_append_own_at _ rfl _ _ 24 rfl w.heap.size 28 i0 _ 6 56 Try.underlying24 hi hz0 hz1 hz2 rfl (by decide) _ _ _ rfl ((hbf.out w1 _ HG1.out).alloc _) ⟨w1.heap.size, 0, none⟩ 1 1 [.bool false, .bool false, .int .i64 (wrap64 (x + d)), .int .u64 0, .string { data := #[] }, .complex .f64 0 0] rfl rfl (World.news_of_block (Blk.new _ _ _).out) (by simp [Value.oneCell']) (by simp only [maxLen]; omega) (by omega) (by simpa using Nat.le_succ_of_le hsz1) ?_; intro v2 w2 hown2 hgrow2 _ hat2))
      clear hc1 hc2
      have hbb := hbf.out w1 _ HG1.out
      have hbe1 := (HBE.out.alloc HBE.out.size _).grown HG1.out (by simpa using Nat.le_succ_of_le HBE.out.size) (fun k hk => (ha.lt k hk).1)
      have hbe2 := (hbe1.alloc hbe1.size _).grown hgrow2 (by simpa using Nat.le_succ_of_le hbe1.size) (fun k hk => (hbb.lt k hk).1)
      have hs1 : wr.heap.size + 1 ≤ w1.heap.size := by have := HG1.out.size; simpa using this
      have hab1 : ∀ k, v1.ownBlock = some k → (Value.slice Ab i cb).ownBlock ≠ some k := by
        intro k hk hk2
        rcases HT1.out with h | h
        · exact HAB.out k (h ▸ hk) hk2
        · rw [h] at hk
          injection hk with hk
          have := (hb.lt k hk2).2
          simp at hk
          omega
      have hab2 : ∀ k, v1.ownBlock = some k → v2.ownBlock ≠ some k := by
        intro k hk hk2
        rcases hat2 with h | h
        · exact hab1 k hk (h ▸ hk2)
        · rw [h] at hk2
          injection hk2 with hk2
          have := (HO1.out.lt k hk).2
          simp at hk2
          omega
      have ha2 : w2.ownsRow w.heap.size 28 6 v1 (i + 1) ((l.take (i + 1)).flatMap cells6) := by
        have h1 : w1.ownsRow w.heap.size 28 6 v1 (i + 1) ((l.take (i + 1)).flatMap cells6) := by
          rw [HT.out, cells6_snoc]; exact HO1.out
        exact own_fr (h1.alloc _) (Fr.of_grown hgrow2) (fun k hk h => hab1 k hk h.symm)
      have hb2 : w2.ownsRow w.heap.size 28 6 v2 (i + 1) (((l.map (mv d)).take (i + 1)).flatMap cells6) := by
        rw [HT2.out, cells6_snoc]; exact hown2
      clear hown2 hgrow2 hat2 HG1 HO1 HT1 hab1 hbb hcf hbf ha hb
      go_roundw
      case rel => exact ⟨i + 1, by omega, by go_num, ha2, hb2, hab2, hbe2⟩
      case measure => simp [intOf] <;> omega
    · have hin : i = l.length := by omega
      subst hin
      obtain ⟨x, r, rfl⟩ : ∃ x r, l = x :: r := by
        cases l with
        | nil => simp at hn0
        | cons x r => exact ⟨x, r, rfl⟩
      rw [List.take_of_length_le (Nat.le_refl _)] at ha
      rw [List.take_of_length_le (by simp)] at hb
      have hML : (x :: r).length = ((x :: r).map (mv d)).length := by simp
      obtain ⟨ga, cpa, hea⟩ := own_addr ha hn0
      injection hea with hA1 _ hA2
      subst hA1 hA2
      obtain ⟨gb, cpb, heb⟩ := own_addr hb hn0
      injection heb with hB1 _ hB2
      subst hB1 hB2
      have hcapa := own_cap ha
      have hcapb := own_cap hb
      have K1 := hide (fun W h => enc_own (x :: r) _ rfl hn0 hn W w.heap.size ga ca h)
      have K2 := hide (fun W h => enc_own ((x :: r).map (mv d)) _ hML hn0 hn W w.heap.size gb cb h)
      have K3 := hide (fun W h => enc_own1 (x :: r) x rfl _ rfl hn0 W w.heap.size ga ca h)
      have K4 := hide (fun W h => enc_own1 ((x :: r).map (mv d)) (mv d x) rfl _ hML hn0 W w.heap.size gb cb h)
      obtain ⟨U, V, R, e1, e2, e3, e4, hU, hV, hR⟩ := moves_plain x r d
      rw [e1] at K1
      rw [e2] at K2
      rw [e3] at K3
      rw [e4] at K4
      clear e1 e2 e3 e4
      have hd1 := cut_two U R hU hR
      have hd2 := cut_two V R hV hR
      have hz1 : (strN U).size ≤ (strN (U ++ R)).size := by rw [strN_size, strN_size, List.length_append]; omega
      have hz2 : (strN V).size ≤ (strN (V ++ R)).size := by rw [strN_size, strN_size, List.length_append]; omega
      clear hU hV hR
      generalize strN (U ++ R) = ss at *
      generalize strN (V ++ R) = tt at *
      generalize strN U = uu at *
      generalize strN V = vv at *
      generalize strN R = rr at *
      clear U V R
      have HD1 := hide hd1
      have HD2 := hide hd2
      have HA := hide ha
      have HB := hide hb
      have HBE := hide hbe
      have HI' := HI
      clear hd1 hd2 ha hb hbe hab HI HI' hML
      generalize hnn : (x :: r).length = n at *
      have hn1 : 1 ≤ ca := by omega
      have hn2 : 1 ≤ cb := by omega
      clear hnn
      go_wp2_with fail
      refine (K1.out wr HA.out).mono ?_
      rintro e w1 ⟨rfl, hb1⟩
      have HA1 := hide (own_below HA.out hb1)
      have HB1 := hide (own_below HB.out hb1)
      have HBE1 := hide (HBE.out.trans (hb1.mono HBE.out.size))
      clear hb1 HA HB HBE
      go_wp2_with fail
      refine (K2.out w1 HB1.out).mono ?_
      rintro e w2 ⟨rfl, hb1⟩
      have HA2 := hide (own_below HA1.out hb1)
      have HB2 := hide (own_below HB1.out hb1)
      have HBE2 := hide (HBE1.out.trans (hb1.mono HBE1.out.size))
      clear hb1 HA1 HB1 HBE1
      go_wp2_with fail
      refine (K3.out w2 HA2.out).mono ?_
      rintro e w3 ⟨rfl, hb1⟩
      have HB3 := hide (own_below HB2.out hb1)
      have HBE3 := hide (HBE2.out.trans (hb1.mono HBE2.out.size))
      clear hb1 HA2 HB2 HBE2
      go_wp2_with fail
      refine (K4.out w3 HB3.out).mono ?_
      rintro e w4 ⟨rfl, hb1⟩
      have HBE4 := hide (HBE3.out.trans (hb1.mono HBE3.out.size))
      clear hb1 HB3 HBE3
      have hq1 : decide ((ss.size : Int) < (uu.size : Int)) = false := by rw [decide_eq_false_iff_not]; omega
      have hq2 : decide ((tt.size : Int) < (vv.size : Int)) = false := by rw [decide_eq_false_iff_not]; omega
      clear K1 K2 K3 K4 hg1 hg2
      go_wp2_with fail
      have q1 := HD1.out.1
      have q2 := HD1.out.2
      have q3 := HD2.out.1
      have q4 := HD2.out.2
      have y1 : (uu.size : Int) ≤ (ss.size : Int) := by omega
      have y2 : (vv.size : Int) ≤ (tt.size : Int) := by omega
      go_region_held3 (fun _ => True) (first | trivial | go_keep | assumption) (first | (go_at_call 4; refine (KA.out _).mono ?_; rintro e w5 ⟨rfl, hb5⟩))
      all_goals
        have hb6 := HBE4.out.drew.trans (hb5.mono HBE4.out.drew.size)
        clear q1 q2 q3 q4 y1 y2 hq1 hq2
        go_wp2_with fail
        go_ret
        exact ⟨rfl, hb6⟩
end Go.Proofs.Ytihbcojmonlcgaa
