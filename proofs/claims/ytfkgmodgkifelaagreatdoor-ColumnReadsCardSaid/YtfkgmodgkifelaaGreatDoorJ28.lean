/- Columns: the document's cells by a dictionary. Columns: the document's bytes by a dictionary. Columns: the document's steps. -/
import Derived.Test.YtfkgmodgkifelaaGreatDoorJ27
import Derived.Test.YtfkgmodgkifelaaGreatDoorJ23
import Derived.Lib.QuietBelow
namespace Go.Proofs.YtfkgmodgkifelaaGreatDoor
open Go.RowKit

theorem dmk_some {k : Int} {l : List CD} {i : Nat} {c : CD} (h : l[i]? = some c) (d : List CD) (p : List Nat) {j : Nat} (hj : plcOf k d c = some j) :
    dmk k (l.drop i) d p = dmk k (l.drop (i + 1)) d (p ++ [j]) := by
  have hi := (List.getElem?_eq_some_iff.1 h).1
  rw [List.drop_eq_getElem_cons hi, (List.getElem?_eq_some_iff.1 h).2, dmk, hj]
theorem dmk_none {k : Int} {l : List CD} {i : Nat} {c : CD} (h : l[i]? = some c) (d : List CD) (p : List Nat) (hj : plcOf k d c = none) :
    dmk k (l.drop i) d p = dmk k (l.drop (i + 1)) (d ++ [c]) (p ++ [d.length]) := by
  have hi := (List.getElem?_eq_some_iff.1 h).1
  rw [List.drop_eq_getElem_cons hi, (List.getElem?_eq_some_iff.1 h).2, dmk, hj]
theorem plcOf_none {k : Int} {d : List CD} {c : CD} (h : d.any (fun x => ceq k x c) = false) : plcOf k d c = none := by
  unfold plcOf
  rw [List.findIdx?_eq_none_iff]
  intro x hx
  rw [List.any_eq_false] at h
  simpa using h x hx
/-- What holds of the different cells and of the places. -/
structure DInv (n m : Nat) (d : List CD) (p : List Nat) : Prop where
  kg : ∀ c ∈ d, KG c
  ts : ∀ c ∈ d, c.t.size ≤ 1100000
  len : d.length ≤ n
  tby : tby d ≤ m
  pl : p.length = n
  pb : ∀ j ∈ p, j ≤ n
theorem dinv_old {n m : Nat} {d : List CD} {p : List Nat} (h : DInv n m d p) (c : CD) {j : Nat} (hj : j < d.length) : DInv (n + 1) (m + (20 + c.t.size)) d (p ++ [j]) :=
  ⟨h.kg, h.ts, by have := h.len; omega, by have := h.tby; omega, by rw [List.length_append, h.pl]; rfl, fun x hx => by
    rcases List.mem_append.1 hx with h2 | h2
    · have := h.pb x h2; omega
    · rw [List.mem_singleton] at h2; have := h.len; omega⟩
theorem dinv_new {n m : Nat} {d : List CD} {p : List Nat} (h : DInv n m d p) {c : CD} (hc : KG c) (hs : c.t.size ≤ 1100000) : DInv (n + 1) (m + (20 + c.t.size)) (d ++ [c]) (p ++ [d.length]) := by
  refine ⟨fun x hx => ?_, fun x hx => ?_, by rw [List.length_append]; have := h.len; simp; omega, by rw [tby_append, tby_cons]; have := h.tby; have e : Proofs.YtfkgmodgkifelaaGreatDoor.tby [] = 0 := rfl; omega, by rw [List.length_append, h.pl]; rfl, fun x hx => ?_⟩
  · rcases List.mem_append.1 hx with h2 | h2
    · exact h.kg x h2
    · rw [List.mem_singleton] at h2; rw [h2]; exact hc
  · rcases List.mem_append.1 hx with h2 | h2
    · exact h.ts x h2
    · rw [List.mem_singleton] at h2; rw [h2]; exact hs
  · rcases List.mem_append.1 hx with h2 | h2
    · have := h.pb x h2; omega
    · rw [List.mem_singleton] at h2; have := h.len; omega
theorem plcOf_lt {k : Int} {d : List CD} {c : CD} {j : Nat} (h : plcOf k d c = some j) : j < d.length := by
  unfold plcOf at h
  rw [List.findIdx?_eq_some_iff_getElem] at h
  exact h.1
theorem dmk_inv (k : Int) : ∀ (l d : List CD) (p : List Nat) (n m : Nat), DInv n m d p → (∀ c ∈ l, KG c ∧ c.t.size ≤ 1100000) → DInv (n + l.length) (m + tby l) (dmk k l d p).1 (dmk k l d p).2 := by
  intro l
  induction l with
  | nil => intro d p n m h _; exact h
  | cons c l ih =>
    intro d p n m h hl
    have hc := hl c (by simp)
    have hl2 : ∀ x ∈ l, KG x ∧ x.t.size ≤ 1100000 := fun x hx => hl x (by simp [hx])
    have e1 : n + (c :: l).length = (n + 1) + l.length := by simp; omega
    have e2 : m + tby (c :: l) = (m + (20 + c.t.size)) + tby l := by rw [tby_cons]; omega
    rw [e1, e2, dmk]
    cases hq : plcOf k d c with
    | some j => exact ih d (p ++ [j]) _ _ (dinv_old h c (plcOf_lt hq)) hl2
    | none => exact ih (d ++ [c]) (p ++ [d.length]) _ _ (dinv_new h hc.1 hc.2) hl2
theorem dinv_nil : DInv 0 0 [] [] := ⟨by simp, by simp, by simp, by simp [tby], rfl, by simp⟩
def intsC (p : List Nat) : List Value := p.map fun j : Nat => Value.int .i64 (j : Int)
theorem intsC_snoc (p : List Nat) (j : Nat) : intsC (p ++ [j]) = intsC p ++ [.int .i64 (j : Int)] := by simp [intsC]
theorem info_int : (Tryz.prog.info? 3).map (fun i => (i.zero, i.size, i.bytes)) = some (some (.int .i64 0), 1, 8) := by kernel_rfl
/-- How the document makes a dictionary. -/
def SMkPost (w : World) (r : List CD × List Nat) (e : Ending) (w' : World) : Prop :=
  ∃ dv pv, e = .returned (.tuple #[dv, pv]) ∧ w'.ownsRow w.heap.size 45 6 dv r.1.length (r.1.flatMap cellsC) ∧ w'.ownsRow w.heap.size 3 1 pv r.2.length (intsC r.2) ∧ Below w.heap.size w w'
set_option maxHeartbeats 4000000 in
set_option maxRecDepth 100000 in
theorem smake_any (k : Int) (h1 : 1 ≤ k) (h6 : k ≤ 6) (l : List CD) (hl : Wok l) (v : Value) (w : World) (hv : InC w v l) :
    Calls Tryz.prog 167 #[.int .i64 k, v] w (SMkPost w (dmk k l [] [])) := by
  obtain ⟨A, ca, rfl, hcell⟩ := hv.form
  have HC := hide hcell
  have hlen := hl.len
  have KP := hide (fun l hl c B V w ho => splace_any k h1 h6 l hl c B V w ho)
  obtain ⟨i0, hi, hz0, hz1, hz2⟩ := info_parts info_cC
  obtain ⟨j0, hj, hy0, hy1, hy2⟩ := info_parts info_int
  clear hv hcell hl h1 h6
  generalize hn : l.length = n at *
  have HN := hide hn
  clear hn
  obtain ⟨RES, hRES⟩ : ∃ RES, dmk k l [] [] = RES := ⟨_, rfl⟩
  rw [hRES]
  have HRES := hide hRES
  clear hRES
  go_enter Tryz.func167, Tryz.ntmps167
  go_wp2_with fail
  go_loopw [6, 7, 8] (fun dv pv iv wr => ∃ (i : Nat) (d : List CD) (p : List Nat), i ≤ n ∧ iv = .int .i64 (i : Int) ∧ Hid (dmk k (l.drop i) d p = RES) ∧ Hid (d.length ≤ i) ∧ Hid (p.length = i) ∧ Hid (wr.ownsRow w.heap.size 45 6 dv d.length (d.flatMap cellsC)) ∧ Hid (wr.ownsRow w.heap.size 3 1 pv p.length (intsC p)) ∧ Hid (Below w.heap.size w wr)) (fun _ _ iv _ => n - (intOf iv).toNat)
  case atStart => exact ⟨0, [], [], by omega, rfl, HRES.out, Nat.le_refl _, rfl, World.ownsRow_nil _ _ _ _, World.ownsRow_nil _ _ _ _, Below.refl _ _⟩
  case round =>
    obtain ⟨i, d, p, hin, rfl, hgo, hdl, hpl, hod, hop, hb⟩ := hrel
    by_cases hlt : i < n
    · obtain ⟨x, hx⟩ : ∃ x, l[i]? = some x := ⟨l[i]'(by rw [HN.out]; exact hlt), List.getElem?_eq_getElem _⟩
      obtain ⟨g, hA, hg, hat⟩ := HC.out i x hx
      subst hA
      obtain ⟨a0, a1, a2, a3, a4, a5⟩ := hat.below hb.out hg
      have HGO := hide (show (∀ j, plcOf k d x = some j → dmk k (l.drop (i + 1)) d (p ++ [j]) = RES) ∧ (plcOf k d x = none → dmk k (l.drop (i + 1)) (d ++ [x]) (p ++ [d.length]) = RES) from ⟨fun j h => by rw [← dmk_some hx d p h]; exact hgo.out, fun h => by rw [← dmk_none hx d p h]; exact hgo.out⟩)
      have KP2 := hide (KP.out d (by have := hdl.out; omega) x _ _ wr hod.out)
      have hdi : d.length ≤ 10000 := by have := hdl.out; omega
      have hpi : p.length ≤ 10000 := by have := hpl.out; omega
      obtain ⟨DA, dc, rfl⟩ := own_form3 hod.out
      obtain ⟨PA, pc, rfl⟩ := own_form3 hop.out
      obtain ⟨xb, xx, xu, xt, xp, xq⟩ := x
      unfold CD.v clV clA at KP2
      simp only at KP2 a0 a1 a2 a3 a4 a5
      have hi0 : (0 : Int) ≤ (i : Int) := by omega
      have hi1 : (i : Int) < (n : Int) := by omega
      have HLT := hide hlt
      have HG := hide hg
      clear hx hat hgo hlt
      generalize hdL : d.length = dn at *
      have HDL := hide hdL
      generalize hpL : p.length = pn at *
      have HPL := hide hpL
      clear hdL hpL
      go_wp2_with fail
      refine KP2.out.mono ?_
      rintro e w2 (⟨hno, rfl, hb2⟩ | ⟨hyes, j, hj9, hfi, rfl, hb2⟩)
      · have HB2 := hide (hb.out.trans (hb2.mono hb.out.size))
        have HD2 := hide (own_below hod.out hb2)
        have HP2 := hide (own_below hop.out hb2)
        have HG2 := hide (HGO.out.2 (plcOf_none hno))
        obtain ⟨a0, a1, a2, a3, a4, a5⟩ := (⟨a0, a1, a2, a3, a4, a5⟩ : AtC wr g (i * 6) xb xx xu xt xp xq).below hb2 (Nat.lt_of_lt_of_le HG.out hb.out.size)
        have hB2 := HB2.out.size
        have HDA := hide (fun o => HD2.out.alloc o)
        have NB := hide (fun cs t => (Blk.new w2 cs t).out)
        have HPF := hide (fun (w3 : World) (ob : Obj) (hg : (w2.alloc ob).grownBy w3 (Value.slice DA dn dc).ownBlock) => show w3.ownsRow w.heap.size 3 1 (.slice PA pn pc) pn (intsC p) from own_fr (HP2.out.alloc _) (Fr.of_grown hg) (fun k hk h => own_ne_own HD2.out HP2.out (by decide) k h.symm hk))
        clear hno hb2 HGO KP2
        go_wp2_with (at_builtin; first
          | (refine wpList_append_own_at _ rfl _ _ 25 rfl w.heap.size 45 i0 _ 6 56 Tryz.underlying25 hi hz0 hz1 hz2 rfl (by decide) _ _ _ rfl (HDA.out _) ⟨w2.heap.size, 0, none⟩ 1 1 [.bool false, .bool xb, .int .i64 xx, .int .u64 xu, .string xt, .complex .f64 xp xq] rfl rfl (World.news_of_block (NB.out _ _)) (by simp [Value.oneCell']) (by simp only [maxLen]; omega) (by omega) (by simp; omega) ?_; intro v1 w3 hown1 hgrow1 _ hat1; have HP3 := hide (HPF.out w3 _ hgrow1); have HB3 := hide ((HB2.out.alloc HB2.out.size _).grown hgrow1 (by simp; omega) (fun q hq => (HD2.out.lt q hq).1)); have hB3 := HB3.out.size; have HO1 := hide hown1; clear hown1 hgrow1 hat1)
          | (refine wpList_append_own_at _ rfl _ _ 161 rfl w.heap.size 3 j0 _ 1 8 Tryz.underlying161 hj hy0 hy1 hy2 rfl (by decide) _ _ _ rfl (HP3.out.alloc _) ⟨w3.heap.size, 0, none⟩ 1 1 [.int .i64 (dn : Int)] rfl rfl (cell_one_new _ _ _) (by simp [Value.oneCell']) (by simp only [maxLen]; omega) (by omega) (by simp; omega) ?_; intro v2 w4 hown2 hgrow2 _ hat2))
        have HB4 := hide ((HB3.out.alloc HB3.out.size _).grown hgrow2 (by simp; omega) (fun q hq => (HP3.out.lt q hq).1))
        have HO4 := hide (own_fr (HO1.out.alloc _) (Fr.of_grown hgrow2) (fun k hk h => own_ne_own HO1.out HP3.out (by decide) k hk h.symm))
        go_roundw
        case rel =>
          refine ⟨i + 1, d ++ [(⟨xb, xx, xu, xt, xp, xq⟩ : CD)], p ++ [dn], by have := HLT.out; omega, by go_num, HG2.out, ?_, ?_, ?_, ?_, HB4.out⟩
          · show (d ++ _).length ≤ i + 1
            have := hdl.out; have := HDL.out; simp; omega
          · show (p ++ _).length = i + 1
            have := hpl.out; have := HPL.out; simp; omega
          · have e1 : (d ++ [(⟨xb, xx, xu, xt, xp, xq⟩ : CD)]).length = dn + 1 := by have := HDL.out; simp; omega
            show World.ownsRow _ _ _ _ _ _ _
            rw [e1, cellsC_snoc]
            exact HO4.out
          · have e1 : (p ++ [dn]).length = pn + 1 := by have := HPL.out; simp; omega
            show World.ownsRow _ _ _ _ _ _ _
            rw [e1, intsC_snoc]
            exact hown2
        case measure => have := HLT.out; simp [intOf]; omega
      · have HB2 := hide (hb.out.trans (hb2.mono hb.out.size))
        have HD2 := hide (own_below hod.out hb2)
        have HP2 := hide (own_below hop.out hb2)
        have HG2 := hide (HGO.out.1 j hfi)
        obtain ⟨a0, a1, a2, a3, a4, a5⟩ := (⟨a0, a1, a2, a3, a4, a5⟩ : AtC wr g (i * 6) xb xx xu xt xp xq).below hb2 (Nat.lt_of_lt_of_le HG.out hb.out.size)
        have hB2 := HB2.out.size
        have hj0 : (0 : Int) ≤ (j : Int) := by omega
        have hj9' : (j : Int) ≤ 100000 := by omega
        clear hyes hfi hb2 HGO KP2
        go_wp2_with (at_builtin; (refine wpList_append_own_at _ rfl _ _ 161 rfl w.heap.size 3 j0 _ 1 8 Tryz.underlying161 hj hy0 hy1 hy2 rfl (by decide) _ _ _ rfl (HP2.out.alloc _) ⟨w2.heap.size, 0, none⟩ 1 1 [.int .i64 (j : Int)] rfl rfl (cell_one_new _ _ _) (by simp [Value.oneCell']) (by simp only [maxLen]; omega) (by omega) (by simp; omega) ?_; intro v2 w4 hown2 hgrow2 _ hat2))
        have HB4 := hide ((HB2.out.alloc HB2.out.size _).grown hgrow2 (by simp; omega) (fun q hq => (HP2.out.lt q hq).1))
        have HO4 := hide (own_fr (HD2.out.alloc _) (Fr.of_grown hgrow2) (fun k hk h => own_ne_own HD2.out HP2.out (by decide) k hk h.symm))
        go_roundw
        case rel =>
          refine ⟨i + 1, d, p ++ [j], by have := HLT.out; omega, by go_num, HG2.out, ?_, ?_, ?_, ?_, HB4.out⟩
          · show d.length ≤ i + 1
            have := hdl.out; have := HDL.out; omega
          · show (p ++ _).length = i + 1
            have := hpl.out; have := HPL.out; simp; omega
          · show World.ownsRow _ _ _ _ _ _ _
            rw [HDL.out]; exact HO4.out
          · have e1 : (p ++ [j]).length = pn + 1 := by have := HPL.out; simp; omega
            show World.ownsRow _ _ _ _ _ _ _
            rw [e1, intsC_snoc]
            exact hown2
        case measure => have := HLT.out; simp [intOf]; omega
    · obtain rfl : n = i := by omega
      have hg := hgo.out
      rw [List.drop_eq_nil_of_le (by rw [HN.out]; exact Nat.le_refl _)] at hg
      obtain rfl : (d, p) = RES := hg
      go_wp2_with fail
      go_ret2
      exact ⟨_, _, rfl, hod.out, hop.out, hb.out⟩
end Go.Proofs.YtfkgmodgkifelaaGreatDoor
namespace Go.Proofs.YtfkgmodgkifelaaGreatDoor
open Go.RowKit

theorem take_flatU {p : List Nat} {i j : Nat} (h : p[i]? = some j) : (p.take (i + 1)).flatMap uvar = (p.take i).flatMap uvar ++ uvar j := by
  have hi := (List.getElem?_eq_some_iff.1 h).1
  rw [List.take_succ_eq_append_getElem hi, List.flatMap_append]
  have : p[i] = j := (List.getElem?_eq_some_iff.1 h).2
  rw [this]; simp
theorem flatU_len : ∀ (p : List Nat), (∀ j ∈ p, j < 18446744073709551616) → (p.flatMap uvar).length ≤ 10 * p.length := by
  intro p
  induction p with
  | nil => intro _; simp
  | cons j p ih =>
    intro h
    have h1 := ih (fun x hx => h x (by simp [hx]))
    have h2 := uvar_len10 (h j (by simp))
    rw [List.flatMap_cons, List.length_append, List.length_cons]
    omega
/-- The parts of what is written by a dictionary. -/
structure XOk (n : Nat) (r : List CD × List Nat) : Prop where
  wok : Wok r.1
  dl : r.1.length ≤ n
  pl : r.2.length = n
  pb : ∀ j ∈ r.2, j ≤ n
theorem xok_of (k : Int) {l : List CD} (hl : Wok l) : XOk l.length (dmk k l [] []) := by
  have h := dmk_inv k l [] [] 0 0 dinv_nil (fun c hc => ⟨hl.kg c hc, by have := tby_mem hc; have := hl.by_; omega⟩)
  rw [Nat.zero_add, Nat.zero_add] at h
  exact ⟨⟨h.kg, by have := h.len; have := hl.len; omega, by have := h.tby; have := hl.by_; omega⟩, h.len, h.pl, h.pb⟩
theorem XOk.pre {n : Nat} {r : List CD × List Nat} (h : XOk n r) (hn : n ≤ 10000) (i : Nat) : ((r.2.take i).flatMap uvar).length ≤ 100000 := by
  have := flatU_len (r.2.take i) (fun j hj => by have := h.pb j (List.mem_of_mem_take hj); omega)
  have h2 := List.length_take_le' i r.2
  have := h.pl
  omega
set_option maxHeartbeats 4000000 in
set_option maxRecDepth 100000 in
theorem sxencode_any (k : Int) (h1 : 1 ≤ k) (h6 : k ≤ 6) (l : List CD) (hl : Wok l) (v : Value) (w : World) (hv : InC w v l) :
    Calls Tryz.prog 151 #[.int .i64 k, v] w fun e w' => e = .returned (.string (strN (encX k l))) ∧ Below w.heap.size w w' := by
  have KM := hide (smake_any k h1 h6 l hl v w hv)
  have XO := hide (xok_of k hl)
  have hlen := hl.len
  have KP := hide (fun (c : CD) (hc : KG c) (hs : c.t.size ≤ 11000000) (w : World) => scell_all k h1 h6 c hc hs w)
  have KU := hide (fun (x : Nat) (hx : x < 18446744073709551616) (w : World) => suvar_any x hx w)
  have hspec : encX k l = uvar (dmk k l [] []).1.length ++ (dmk k l [] []).1.flatMap (cellB k) ++ (dmk k l [] []).2.flatMap uvar := rfl
  generalize encX k l = FIN at *
  generalize l.length = n at *
  clear hl hv h1 h6
  rcases hr : dmk k l [] [] with ⟨d, p⟩
  rw [hr] at KM XO hspec
  simp only at KM XO hspec
  have HFI := hide hspec
  have hdl : d.length ≤ 10000 := by have := XO.out.dl; simp only at this; omega
  have hpl : p.length ≤ 10000 := by have := XO.out.pl; simp only at this; omega
  obtain ⟨m, hm⟩ : ∃ m, d.length = m := ⟨_, rfl⟩
  obtain ⟨q, hq⟩ : ∃ q, p.length = q := ⟨_, rfl⟩
  have HM := hide hm
  have HQ := hide hq
  rw [hm] at hdl
  rw [hq] at hpl
  have KU0 := hide (KU.out m (by omega))
  have hm0 : (0 : Int) ≤ (m : Int) := by omega
  have hm1 : (m : Int) ≤ 10000 := by omega
  have hc0 : IntKind.u64.wrap (m : Int) = (m : Int) := by rw [IntKind.wrap_u64]; omega
  clear hr hspec hm hq
  go_enter Tryz.func151, Tryz.ntmps151
  go_wp2_with fail
  refine KM.out.mono ?_
  rintro e w2 ⟨dv, pv, rfl, hod, hop, hb2⟩
  simp only at hod hop
  rw [HM.out] at hod
  rw [HQ.out] at hop
  obtain ⟨DA, dc, rfl⟩ := own_form3 hod
  obtain ⟨PA, pc, rfl⟩ := own_form3 hop
  have HOD := hide hod
  have HOP := hide hop
  have HB2 := hide hb2
  clear KM hod hop hb2
  go_wp2_with fail
  refine (KU0.out _).mono ?_
  rintro e w3 ⟨rfl, hb3⟩
  have HB3 := hide (HB2.out.trans (hb3.mono HB2.out.size))
  have HOD3 := hide (own_below HOD.out hb3)
  have HOP3 := hide (own_below HOP.out hb3)
  have hl0 := uvar_len10 (x := m) (by omega)
  clear hb3 HB2 HOD HOP KU0
  go_wp2_with fail
  go_loopw [7, 8] (fun sv iv wr => ∃ i : Nat, i ≤ m ∧ iv = .int .i64 (i : Int) ∧ (∃ S : ByteArray, sv = .string S ∧ Hid (S = strN (uvar m ++ (d.take i).flatMap (cellB k)))) ∧ Hid (Below w3.heap.size w3 wr)) (fun _ iv _ => m - (intOf iv).toNat)
  case atStart => exact ⟨0, by omega, rfl, ⟨_, rfl, by show strN (uvar m) = _; simp⟩, Below.refl _ _⟩
  case round =>
    obtain ⟨i, hi, rfl, ⟨S, rfl, hS⟩, hb⟩ := hrel
    by_cases hlt : i < m
    · obtain ⟨x, hx⟩ : ∃ x, d[i]? = some x := ⟨d[i]'(by rw [HM.out]; exact hlt), List.getElem?_eq_getElem _⟩
      have hor := own_below HOD3.out hb.out
      obtain ⟨g, cg, hAg⟩ := own_addr hor (by omega)
      have hA : DA = some ⟨g, 0, none⟩ := by injection hAg
      subst hA
      have hog := own_atC hor HM.out.symm hx
      obtain ⟨a0, a1, a2, a3, a4, a5⟩ := hog
      have hxm := List.mem_of_getElem? hx
      have hxs : x.t.size ≤ 1100000 := by have := tby_mem hxm; have := XO.out.wok.by_; simp only at this; omega
      have KP2 := hide (KP.out x (XO.out.wok.kg x hxm) (by omega) wr)
      have hcl := cellB_len k (XO.out.wok.kg x hxm)
      have HSN := hide (show S ++ strN (cellB k x) = strN (uvar m ++ (d.take (i + 1)).flatMap (cellB k)) from by rw [take_flat k hx, ← List.append_assoc, strN_app, hS.out])
      have hadd := fun w1 => run_string_add_sum (P := Tryz.prog) w1 S (strN (cellB k x)) (by have := XO.out.wok.pre i k; simp only at this; rw [hS.out, strN_size, strN_size, List.length_append]; omega)
      have HLT := hide hlt
      clear hx hxm hxs hcl hor hAg
      obtain ⟨xb, xx, xu, xt, xp, xq⟩ := x
      unfold CD.v clV clA at KP2
      simp only at KP2 a0 a1 a2 a3 a4 a5
      have hi0 : (0 : Int) ≤ (i : Int) := by omega
      have hi1 : (i : Int) < (m : Int) := by omega
      generalize strN (cellB k ⟨xb, xx, xu, xt, xp, xq⟩) = Y at *
      clear hlt
      go_wp2_with fail
      refine KP2.out.mono ?_
      rintro e w4 ⟨rfl, hb4⟩
      have HB4 := hide (hb.out.trans (hb4.mono hb.out.size))
      clear hb4 a0 a1 a2 a3 a4 a5 KP2
      go_wp2_with fail
      go_roundw
      case rel => exact ⟨i + 1, by have := HLT.out; omega, by go_num, ⟨_, rfl, HSN.out⟩, HB4.out⟩
      case measure => have := HLT.out; simp [intOf]; omega
    · obtain rfl : m = i := by omega
      have hS2 := hS.out
      rw [List.take_of_length_le (by rw [HM.out]; exact Nat.le_refl _)] at hS2
      have HS2 := hide hS2
      have hSL : S.size ≤ 1100010 := by
        have := XO.out.wok.pre d.length k
        simp only at this
        rw [List.take_length] at this
        rw [hS2, strN_size, List.length_append]; omega
      have HOP4 := hide (own_below HOP3.out hb.out)
      have HB4 := hide (HB3.out.trans (hb.out.mono HB3.out.size))
      clear hlt hi hS hS2 hb
      go_wp2_with fail
      obtain ⟨wo, rfl⟩ : ∃ wo : World, wo = wr := ⟨_, rfl⟩
      go_loopw [7, 9] (fun sv iv wx => ∃ i : Nat, i ≤ q ∧ iv = .int .i64 (i : Int) ∧ (∃ T : ByteArray, sv = .string T ∧ Hid (T = S ++ strN ((p.take i).flatMap uvar))) ∧ Hid (Below wo.heap.size wo wx)) (fun _ iv _ => q - (intOf iv).toNat)
      case atStart => exact ⟨0, by omega, rfl, ⟨_, rfl, by show S = S ++ strN []; rw [strN_nil]; exact ByteArray.append_empty.symm⟩, Below.refl _ _⟩
      case round =>
        obtain ⟨i, hi, rfl, ⟨T, rfl, hT⟩, hb⟩ := hrel
        by_cases hlt : i < q
        · obtain ⟨j, hj⟩ : ∃ j, p[i]? = some j := ⟨p[i]'(by rw [HQ.out]; exact hlt), List.getElem?_eq_getElem _⟩
          have hjb := XO.out.pb j (List.mem_of_getElem? hj)
          have hor := own_below HOP4.out hb.out
          obtain ⟨g, cg, hAg⟩ := own_addr hor (by omega)
          have hA : PA = some ⟨g, 0, none⟩ := by injection hAg
          subst hA
          have a0 : wr.cell? ⟨g, i, none⟩ = some (.int .i64 (j : Int)) := by
            have h2 := hor.cellAt i (by simpa using hlt)
            rw [h2]
            unfold intsC
            simp [hj]
          have KU2 := hide (KU.out j (by omega))
          have hcl := uvar_len10 (x := j) (by omega)
          have HSN := hide (show T ++ strN (uvar j) = S ++ strN ((p.take (i + 1)).flatMap uvar) from by rw [take_flatU hj, strN_app, hT.out, ByteArray.append_assoc])
          have hadd := fun w1 => run_string_add_sum (P := Tryz.prog) w1 T (strN (uvar j)) (by have := XO.out.pre (by omega) i; simp only at this; rw [hT.out, ByteArray.size_append, strN_size, strN_size]; omega)
          have HLT := hide hlt
          have hi0 : (0 : Int) ≤ (i : Int) := by omega
          have hi1 : (i : Int) < (q : Int) := by omega
          have hj0 : (0 : Int) ≤ (j : Int) := by omega
          have hj1 : (j : Int) ≤ 10000 := by omega
          have hcj : IntKind.u64.wrap (j : Int) = (j : Int) := by rw [IntKind.wrap_u64]; omega
          generalize strN (uvar j) = Y at *
          clear hlt hj hcl hor hAg
          go_wp2_with fail
          refine (KU2.out _).mono ?_
          rintro e w5 ⟨rfl, hb5⟩
          have HB5 := hide (hb.out.trans (hb5.mono hb.out.size))
          clear hb5 a0 KU2
          go_wp2_with fail
          go_roundw
          case rel => exact ⟨i + 1, by have := HLT.out; omega, by go_num, ⟨_, rfl, HSN.out⟩, HB5.out⟩
          case measure => have := HLT.out; simp [intOf]; omega
        · obtain rfl : q = i := by omega
          have hT2 := hT.out
          rw [List.take_of_length_le (by rw [HQ.out]; exact Nat.le_refl _), HS2.out, ← strN_app, ← HM.out, ← HFI.out] at hT2
          have HT2 := hide hT2
          clear hT hT2 hlt hi
          go_wp2_with fail
          go_ret
          exact ⟨by rw [HT2.out]; rfl, HB4.out.trans (hb.out.mono HB4.out.size)⟩
end Go.Proofs.YtfkgmodgkifelaaGreatDoor
namespace Go.Proofs.YtfkgmodgkifelaaGreatDoor
open Go.RowKit

/-- A cell's word. -/
def wd (k : Int) (c : CD) : Nat := if k = 2 then (c.x % 18446744073709551616).toNat else c.u.toNat
theorem wd_lt {k : Int} {c : CD} (h : KG c) : wd k c < 18446744073709551616 := by
  unfold wd
  have := h.u1
  have := h.u2
  split <;> omega
/-- The steps' bytes at the kinds of whole numbers. -/
def stN (a b : Nat) : Int := wrap64 ((b : Int) - (a : Int))
def encS (k : Int) : Nat → List CD → List Nat
  | _, [] => []
  | a, c :: l => uvar (zz (stN a (wd k c))) ++ encS k (wd k c) l
theorem stN_lo (a b : Nat) : -9223372036854775808 ≤ stN a b := wrap_lo _
theorem stN_hi (a b : Nat) : stN a b ≤ 9223372036854775807 := wrap_hi _
set_option maxHeartbeats 1000000 in
set_option maxRecDepth 100000 in
theorem sword_any (k : Int) (hk : k = 2 ∨ k = 3) (c : CD) (hc : KG c) (w : World) :
    Calls Tryz.prog 166 #[.int .i64 k, c.v] w fun e w' => e = .returned (.int .u64 (wd k c : Nat)) ∧ Below w.heap.size w w' := by
  have hu := hc.u1
  have hu2 := hc.u2
  have HB := hide (fun o => (Below.refl w.heap.size w).alloc (Nat.le_refl _) o)
  rcases hk with rfl | rfl
  · have e : (wd 2 c : Int) = IntKind.u64.wrap c.x := by rw [wrap_u64]; rfl
    rw [e]
    obtain ⟨cb, cx, cu, ct, cp, cq⟩ := c
    unfold CD.v clV clA
    clear hc e hu hu2
    simp only
    go_enter Tryz.func166, Tryz.ntmps166
    go_wp2_with fail
    go_ret
    exact ⟨rfl, HB.out _⟩
  · have e : (wd 3 c : Int) = c.u := by unfold wd; rw [if_neg (by omega)]; omega
    rw [e]
    obtain ⟨cb, cx, cu, ct, cp, cq⟩ := c
    unfold CD.v clV clA
    clear hc e hu hu2
    simp only
    go_enter Tryz.func166, Tryz.ntmps166
    go_wp2_with fail
    go_ret
    exact ⟨rfl, HB.out _⟩
set_option maxHeartbeats 1000000 in
set_option maxRecDepth 100000 in
theorem sstep_any (a b : Nat) (ha : a < 18446744073709551616) (hb : b < 18446744073709551616) (w : World) :
    Calls Tryz.prog 165 #[.int .u64 a, .int .u64 b] w fun e w' => e = .returned (.int .i64 (stN a b)) ∧ w = w' := by
  obtain ⟨d, e1⟩ : ∃ d : Int, IntKind.u64.wrap ((b : Int) - (a : Int)) = d := ⟨_, rfl⟩
  have e0 := e1
  rw [IntKind.wrap_u64] at e0
  have hd0 : 0 ≤ d := by omega
  have hd1 : d < 18446744073709551616 := by omega
  have ha0 : (0 : Int) ≤ (a : Int) := by omega
  have hb0 : (0 : Int) ≤ (b : Int) := by omega
  by_cases hlt : d < 9223372036854775808
  · have e2 : stN a b = d := by unfold stN wrap64; omega
    rw [e2]
    have g1 : decide (9223372036854775808 ≤ d) = false := by rw [decide_eq_false_iff_not]; omega
    clear e2 ha hb e0
    go_enter Tryz.func165, Tryz.ntmps165
    go_wp2_with fail
    go_ret
    exact ⟨ret_int (by first | rfl | omega), rfl⟩
  · have e2 : stN a b = d - 18446744073709551616 := by unfold stN wrap64; omega
    rw [e2]
    have g1 : decide (9223372036854775808 ≤ d) = true := by rw [decide_eq_true_eq]; omega
    clear e2 ha hb e0
    go_enter Tryz.func165, Tryz.ntmps165
    go_wp2_with fail
    go_ret
    exact ⟨ret_int (by first | rfl | omega), rfl⟩
end Go.Proofs.YtfkgmodgkifelaaGreatDoor
