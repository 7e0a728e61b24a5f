/- Columns: the document's bytes by a dictionary. Columns: the document's steps. Columns: the document's bytes by steps, whole numbers. Whole numbers as floats: differences, and turned round. -/
import Derived.Test.YtfkgmodgkifelaaGreatDoorJ28
import Derived.Lib.QuietBelow
import Derived.Test.YtfkgmodgkifelaaGreatDoorJ14
namespace Go.Proofs.YtfkgmodgkifelaaGreatDoor
open Go.RowKit

theorem take_flatU {p : List Nat} {i j : Nat} (h : p[i]? = some j) : (p.take (i + 1)).flatMap uvar = (p.take i).flatMap uvar ++ uvar j := by
  have hi := (List.getElem?_eq_some_iff.1 h).1
  rw [List.take_succ_eq_append_getElem hi, List.flatMap_append]
  have : p[i] = j := (List.getElem?_eq_some_iff.1 h).2
  rw [this]; simp
theorem flatU_len : ∀ (p : List Nat), (∀ j ∈ p, j < 18446744073709551616) → (p.flatMap uvar).length ≤ 10 * p.length := by
  intro p
  induction p with
  | nil => intro _; simp
  | cons j p ih =>
    intro h
    have h1 := ih (fun x hx => h x (by simp [hx]))
    have h2 := uvar_len10 (h j (by simp))
    rw [List.flatMap_cons, List.length_append, List.length_cons]
    omega
/-- The parts of what is written by a dictionary. -/
structure XOk (n : Nat) (r : List CD × List Nat) : Prop where
  wok : Wok r.1
  dl : r.1.length ≤ n
  pl : r.2.length = n
  pb : ∀ j ∈ r.2, j ≤ n
theorem xok_of (k : Int) {l : List CD} (hl : Wok l) : XOk l.length (dmk k l [] []) := by
  have h := dmk_inv k l [] [] 0 0 dinv_nil (fun c hc => ⟨hl.kg c hc, by have := tby_mem hc; have := hl.by_; omega⟩)
  rw [Nat.zero_add, Nat.zero_add] at h
  exact ⟨⟨h.kg, by have := h.len; have := hl.len; omega, by have := h.tby; have := hl.by_; omega⟩, h.len, h.pl, h.pb⟩
theorem XOk.pre {n : Nat} {r : List CD × List Nat} (h : XOk n r) (hn : n ≤ 10000) (i : Nat) : ((r.2.take i).flatMap uvar).length ≤ 100000 := by
  have := flatU_len (r.2.take i) (fun j hj => by have := h.pb j (List.mem_of_mem_take hj); omega)
  have h2 := List.length_take_le' i r.2
  have := h.pl
  omega
set_option maxHeartbeats 4000000 in
set_option maxRecDepth 100000 in
theorem sxencode_any (k : Int) (h1 : 1 ≤ k) (h6 : k ≤ 6) (l : List CD) (hl : Wok l) (v : Value) (w : World) (hv : InC w v l) :
    Calls Tryz.prog 151 #[.int .i64 k, v] w fun e w' => e = .returned (.string (strN (encX k l))) ∧ Below w.heap.size w w' := by
  have KM := hide (smake_any k h1 h6 l hl v w hv)
  have XO := hide (xok_of k hl)
  have hlen := hl.len
  have KP := hide (fun (c : CD) (hc : KG c) (hs : c.t.size ≤ 11000000) (w : World) => scell_all k h1 h6 c hc hs w)
  have KU := hide (fun (x : Nat) (hx : x < 18446744073709551616) (w : World) => suvar_any x hx w)
  have hspec : encX k l = uvar (dmk k l [] []).1.length ++ (dmk k l [] []).1.flatMap (cellB k) ++ (dmk k l [] []).2.flatMap uvar := rfl
  generalize encX k l = FIN at *
  generalize l.length = n at *
  clear hl hv h1 h6
  rcases hr : dmk k l [] [] with ⟨d, p⟩
  rw [hr] at KM XO hspec
  simp only at KM XO hspec
  have HFI := hide hspec
  have hdl : d.length ≤ 10000 := by have := XO.out.dl; simp only at this; omega
  have hpl : p.length ≤ 10000 := by have := XO.out.pl; simp only at this; omega
  obtain ⟨m, hm⟩ : ∃ m, d.length = m := ⟨_, rfl⟩
  obtain ⟨q, hq⟩ : ∃ q, p.length = q := ⟨_, rfl⟩
  have HM := hide hm
  have HQ := hide hq
  rw [hm] at hdl
  rw [hq] at hpl
  have KU0 := hide (KU.out m (by omega))
  have hm0 : (0 : Int) ≤ (m : Int) := by omega
  have hm1 : (m : Int) ≤ 10000 := by omega
  have hc0 : IntKind.u64.wrap (m : Int) = (m : Int) := by rw [IntKind.wrap_u64]; omega
  clear hr hspec hm hq
  go_enter Tryz.func151, Tryz.ntmps151
  go_wp2_with fail
  refine KM.out.mono ?_
  rintro e w2 ⟨dv, pv, rfl, hod, hop, hb2⟩
  simp only at hod hop
  rw [HM.out] at hod
  rw [HQ.out] at hop
  obtain ⟨DA, dc, rfl⟩ := own_form3 hod
  obtain ⟨PA, pc, rfl⟩ := own_form3 hop
  have HOD := hide hod
  have HOP := hide hop
  have HB2 := hide hb2
  clear KM hod hop hb2
  go_wp2_with fail
  refine (KU0.out _).mono ?_
  rintro e w3 ⟨rfl, hb3⟩
  have HB3 := hide (HB2.out.trans (hb3.mono HB2.out.size))
  have HOD3 := hide (own_below HOD.out hb3)
  have HOP3 := hide (own_below HOP.out hb3)
  have hl0 := uvar_len10 (x := m) (by omega)
  clear hb3 HB2 HOD HOP KU0
  go_wp2_with fail
  go_loopw [7, 8] (fun sv iv wr => ∃ i : Nat, i ≤ m ∧ iv = .int .i64 (i : Int) ∧ (∃ S : ByteArray, sv = .string S ∧ Hid (S = strN (uvar m ++ (d.take i).flatMap (cellB k)))) ∧ Hid (Below w3.heap.size w3 wr)) (fun _ iv _ => m - (intOf iv).toNat)
  case atStart => exact ⟨0, by omega, rfl, ⟨_, rfl, by show strN (uvar m) = _; simp⟩, Below.refl _ _⟩
  case round =>
    obtain ⟨i, hi, rfl, ⟨S, rfl, hS⟩, hb⟩ := hrel
    by_cases hlt : i < m
    · obtain ⟨x, hx⟩ : ∃ x, d[i]? = some x := ⟨d[i]'(by rw [HM.out]; exact hlt), List.getElem?_eq_getElem _⟩
      have hor := own_below HOD3.out hb.out
      obtain ⟨g, cg, hAg⟩ := own_addr hor (by omega)
      have hA : DA = some ⟨g, 0, none⟩ := by injection hAg
      subst hA
      have hog := own_atC hor HM.out.symm hx
      obtain ⟨a0, a1, a2, a3, a4, a5⟩ := hog
      have hxm := List.mem_of_getElem? hx
      have hxs : x.t.size ≤ 1100000 := by have := tby_mem hxm; have := XO.out.wok.by_; simp only at this; omega
      have KP2 := hide (KP.out x (XO.out.wok.kg x hxm) (by omega) wr)
      have hcl := cellB_len k (XO.out.wok.kg x hxm)
      have HSN := hide (show S ++ strN (cellB k x) = strN (uvar m ++ (d.take (i + 1)).flatMap (cellB k)) from by rw [take_flat k hx, ← List.append_assoc, strN_app, hS.out])
      have hadd := fun w1 => run_string_add_sum (P := Tryz.prog) w1 S (strN (cellB k x)) (by have := XO.out.wok.pre i k; simp only at this; rw [hS.out, strN_size, strN_size, List.length_append]; omega)
      have HLT := hide hlt
      clear hx hxm hxs hcl hor hAg
      obtain ⟨xb, xx, xu, xt, xp, xq⟩ := x
      unfold CD.v clV clA at KP2
      simp only at KP2 a0 a1 a2 a3 a4 a5
      have hi0 : (0 : Int) ≤ (i : Int) := by omega
      have hi1 : (i : Int) < (m : Int) := by omega
      generalize strN (cellB k ⟨xb, xx, xu, xt, xp, xq⟩) = Y at *
      clear hlt
      go_wp2_with fail
      refine KP2.out.mono ?_
      rintro e w4 ⟨rfl, hb4⟩
      have HB4 := hide (hb.out.trans (hb4.mono hb.out.size))
      clear hb4 a0 a1 a2 a3 a4 a5 KP2
      go_wp2_with fail
      go_roundw
      case rel => exact ⟨i + 1, by have := HLT.out; omega, by go_num, ⟨_, rfl, HSN.out⟩, HB4.out⟩
      case measure => have := HLT.out; simp [intOf]; omega
    · obtain rfl : m = i := by omega
      have hS2 := hS.out
      rw [List.take_of_length_le (by rw [HM.out]; exact Nat.le_refl _)] at hS2
      have HS2 := hide hS2
      have hSL : S.size ≤ 1100010 := by
        have := XO.out.wok.pre d.length k
        simp only at this
        rw [List.take_length] at this
        rw [hS2, strN_size, List.length_append]; omega
      have HOP4 := hide (own_below HOP3.out hb.out)
      have HB4 := hide (HB3.out.trans (hb.out.mono HB3.out.size))
      clear hlt hi hS hS2 hb
      go_wp2_with fail
      obtain ⟨wo, rfl⟩ : ∃ wo : World, wo = wr := ⟨_, rfl⟩
      go_loopw [7, 9] (fun sv iv wx => ∃ i : Nat, i ≤ q ∧ iv = .int .i64 (i : Int) ∧ (∃ T : ByteArray, sv = .string T ∧ Hid (T = S ++ strN ((p.take i).flatMap uvar))) ∧ Hid (Below wo.heap.size wo wx)) (fun _ iv _ => q - (intOf iv).toNat)
      case atStart => exact ⟨0, by omega, rfl, ⟨_, rfl, by show S = S ++ strN []; rw [strN_nil]; exact ByteArray.append_empty.symm⟩, Below.refl _ _⟩
      case round =>
        obtain ⟨i, hi, rfl, ⟨T, rfl, hT⟩, hb⟩ := hrel
        by_cases hlt : i < q
        · obtain ⟨j, hj⟩ : ∃ j, p[i]? = some j := ⟨p[i]'(by rw [HQ.out]; exact hlt), List.getElem?_eq_getElem _⟩
          have hjb := XO.out.pb j (List.mem_of_getElem? hj)
          have hor := own_below HOP4.out hb.out
          obtain ⟨g, cg, hAg⟩ := own_addr hor (by omega)
          have hA : PA = some ⟨g, 0, none⟩ := by injection hAg
          subst hA
          have a0 : wr.cell? ⟨g, i, none⟩ = some (.int .i64 (j : Int)) := by
            have h2 := hor.cellAt i (by simpa using hlt)
            rw [h2]
            unfold intsC
            simp [hj]
          have KU2 := hide (KU.out j (by omega))
          have hcl := uvar_len10 (x := j) (by omega)
          have HSN := hide (show T ++ strN (uvar j) = S ++ strN ((p.take (i + 1)).flatMap uvar) from by rw [take_flatU hj, strN_app, hT.out, ByteArray.append_assoc])
          have hadd := fun w1 => run_string_add_sum (P := Tryz.prog) w1 T (strN (uvar j)) (by have := XO.out.pre (by omega) i; simp only at this; rw [hT.out, ByteArray.size_append, strN_size, strN_size]; omega)
          have HLT := hide hlt
          have hi0 : (0 : Int) ≤ (i : Int) := by omega
          have hi1 : (i : Int) < (q : Int) := by omega
          have hj0 : (0 : Int) ≤ (j : Int) := by omega
          have hj1 : (j : Int) ≤ 10000 := by omega
          have hcj : IntKind.u64.wrap (j : Int) = (j : Int) := by rw [IntKind.wrap_u64]; omega
          generalize strN (uvar j) = Y at *
          clear hlt hj hcl hor hAg
          go_wp2_with fail
          refine (KU2.out _).mono ?_
          rintro e w5 ⟨rfl, hb5⟩
          have HB5 := hide (hb.out.trans (hb5.mono hb.out.size))
          clear hb5 a0 KU2
          go_wp2_with fail
          go_roundw
          case rel => exact ⟨i + 1, by have := HLT.out; omega, by go_num, ⟨_, rfl, HSN.out⟩, HB5.out⟩
          case measure => have := HLT.out; simp [intOf]; omega
        · obtain rfl : q = i := by omega
          have hT2 := hT.out
          rw [List.take_of_length_le (by rw [HQ.out]; exact Nat.le_refl _), HS2.out, ← strN_app, ← HM.out, ← HFI.out] at hT2
          have HT2 := hide hT2
          clear hT hT2 hlt hi
          go_wp2_with fail
          go_ret
          exact ⟨by rw [HT2.out]; rfl, HB4.out.trans (hb.out.mono HB4.out.size)⟩
end Go.Proofs.YtfkgmodgkifelaaGreatDoor
namespace Go.Proofs.YtfkgmodgkifelaaGreatDoor
open Go.RowKit

/-- A cell's word. -/
def wd (k : Int) (c : CD) : Nat := if k = 2 then (c.x % 18446744073709551616).toNat else c.u.toNat
theorem wd_lt {k : Int} {c : CD} (h : KG c) : wd k c < 18446744073709551616 := by
  unfold wd
  have := h.u1
  have := h.u2
  split <;> omega
/-- The steps' bytes at the kinds of whole numbers. -/
def stN (a b : Nat) : Int := wrap64 ((b : Int) - (a : Int))
def encS (k : Int) : Nat → List CD → List Nat
  | _, [] => []
  | a, c :: l => uvar (zz (stN a (wd k c))) ++ encS k (wd k c) l
theorem stN_lo (a b : Nat) : -9223372036854775808 ≤ stN a b := wrap_lo _
theorem stN_hi (a b : Nat) : stN a b ≤ 9223372036854775807 := wrap_hi _
set_option maxHeartbeats 1000000 in
set_option maxRecDepth 100000 in
theorem sword_any (k : Int) (hk : k = 2 ∨ k = 3) (c : CD) (hc : KG c) (w : World) :
    Calls Tryz.prog 166 #[.int .i64 k, c.v] w fun e w' => e = .returned (.int .u64 (wd k c : Nat)) ∧ Below w.heap.size w w' := by
  have hu := hc.u1
  have hu2 := hc.u2
  have HB := hide (fun o => (Below.refl w.heap.size w).alloc (Nat.le_refl _) o)
  rcases hk with rfl | rfl
  · have e : (wd 2 c : Int) = IntKind.u64.wrap c.x := by rw [wrap_u64]; rfl
    rw [e]
    obtain ⟨cb, cx, cu, ct, cp, cq⟩ := c
    unfold CD.v clV clA
    clear hc e hu hu2
    simp only
    go_enter Tryz.func166, Tryz.ntmps166
    go_wp2_with fail
    go_ret
    exact ⟨rfl, HB.out _⟩
  · have e : (wd 3 c : Int) = c.u := by unfold wd; rw [if_neg (by omega)]; omega
    rw [e]
    obtain ⟨cb, cx, cu, ct, cp, cq⟩ := c
    unfold CD.v clV clA
    clear hc e hu hu2
    simp only
    go_enter Tryz.func166, Tryz.ntmps166
    go_wp2_with fail
    go_ret
    exact ⟨rfl, HB.out _⟩
set_option maxHeartbeats 1000000 in
set_option maxRecDepth 100000 in
theorem sstep_any (a b : Nat) (ha : a < 18446744073709551616) (hb : b < 18446744073709551616) (w : World) :
    Calls Tryz.prog 165 #[.int .u64 a, .int .u64 b] w fun e w' => e = .returned (.int .i64 (stN a b)) ∧ w = w' := by
  obtain ⟨d, e1⟩ : ∃ d : Int, IntKind.u64.wrap ((b : Int) - (a : Int)) = d := ⟨_, rfl⟩
  have e0 := e1
  rw [IntKind.wrap_u64] at e0
  have hd0 : 0 ≤ d := by omega
  have hd1 : d < 18446744073709551616 := by omega
  have ha0 : (0 : Int) ≤ (a : Int) := by omega
  have hb0 : (0 : Int) ≤ (b : Int) := by omega
  by_cases hlt : d < 9223372036854775808
  · have e2 : stN a b = d := by unfold stN wrap64; omega
    rw [e2]
    have g1 : decide (9223372036854775808 ≤ d) = false := by rw [decide_eq_false_iff_not]; omega
    clear e2 ha hb e0
    go_enter Tryz.func165, Tryz.ntmps165
    go_wp2_with fail
    go_ret
    exact ⟨ret_int (by first | rfl | omega), rfl⟩
  · have e2 : stN a b = d - 18446744073709551616 := by unfold stN wrap64; omega
    rw [e2]
    have g1 : decide (9223372036854775808 ≤ d) = true := by rw [decide_eq_true_eq]; omega
    clear e2 ha hb e0
    go_enter Tryz.func165, Tryz.ntmps165
    go_wp2_with fail
    go_ret
    exact ⟨ret_int (by first | rfl | omega), rfl⟩
end Go.Proofs.YtfkgmodgkifelaaGreatDoor
namespace Go.Proofs.YtfkgmodgkifelaaGreatDoor
open Go.RowKit

theorem encS_on {k : Int} {l : List CD} {i : Nat} {c : CD} (h : l[i]? = some c) (a : Nat) : encS k a (l.drop i) = uvar (zz (stN a (wd k c))) ++ encS k (wd k c) (l.drop (i + 1)) := by
  have hi := (List.getElem?_eq_some_iff.1 h).1
  rw [List.drop_eq_getElem_cons hi, (List.getElem?_eq_some_iff.1 h).2, encS]
theorem blk_setC {w : World} {L : Nat} {t : TypeId} {b0 : Bool} {x0 u0 : Int} {t0 : ByteArray} {p0 q0 : Nat} (h : Blk w L t (clA b0 x0 u0 t0 p0 q0)) (b : Bool) (x u : Int) (s : ByteArray) (p q : Nat) :
    Blk ((((((w.setCell ⟨L, 0, none⟩ (.bool false)).setCell ⟨L, 1, none⟩ (.bool b)).setCell ⟨L, 2, none⟩ (.int .i64 x)).setCell ⟨L, 3, none⟩ (.int .u64 u)).setCell ⟨L, 4, none⟩ (.string s)).setCell ⟨L, 5, none⟩ (.complex .f64 p q)) L t (clA b x u s p q) :=
  (((((h.set 0 (.bool false)).set 1 (.bool b)).set 2 (.int .i64 x)).set 3 (.int .u64 u)).set 4 (.string s)).set 5 (.complex .f64 p q)
theorem wd_z (k : Int) : wd k CD.z = 0 := by unfold wd CD.z; split <;> rfl
set_option maxHeartbeats 4000000 in
set_option maxRecDepth 100000 in
theorem sdencodeN (k : Int) (hk : k = 2 ∨ k = 3) (l : List CD) (hl : Wok l) (v : Value) (w : World) (hv : InC w v l) :
    Calls Tryz.prog 150 #[.int .i64 k, v] w fun e w' => e = .returned (.tuple #[.string (strN (encS k 0 l)), .int .i64 0]) ∧ Below w.heap.size w w' := by
  obtain ⟨A, ca, rfl, hcell⟩ := hv.form
  have HC := hide hcell
  have HL := hide hl
  have hlen := hl.len
  have hk6 : ((k : Int) == 6) = false := by rw [beq_eq_false_iff_ne]; omega
  have KW := hide (fun (c : CD) (hc : KG c) (w : World) => sword_any k hk c hc w)
  have KS := hide (fun (a b : Nat) (ha : a < 18446744073709551616) (hb : b < 18446744073709551616) (w : World) => sstep_any a b ha hb w)
  have KZ := hide (fun (x : Int) (h1 : -9223372036854775808 ≤ x) (h2 : x ≤ 9223372036854775807) (w : World) => szig_any x h1 h2 w)
  have KU := hide (fun (x : Nat) (hx : x < 18446744073709551616) (w : World) => suvar_any x hx w)
  have hst := fun (w1 : World) (a1 : Addr) (m : Mode) (x y : Nat) => run_store Tryz.prog w1 a1 (.complex .f64 x y) m rfl
  obtain ⟨FIN, hFIN⟩ : ∃ FIN, encS k 0 l = FIN := ⟨_, rfl⟩
  rw [hFIN]
  have HFI := hide hFIN
  clear hv hcell hl hk hFIN
  generalize hn : l.length = n at *
  have HN := hide hn
  clear hn
  go_enter Tryz.func150, Tryz.ntmps150
  go_wp2_with fail
  go_loopw [6, 8] (fun sv iv wr => ∃ (i : Nat) (c : CD) (D : List Nat), i ≤ n ∧ iv = .int .i64 (i : Int) ∧ (∃ S : ByteArray, sv = .string S ∧ Hid (S = strN D)) ∧ Hid (FIN = D ++ encS k (wd k c) (l.drop i)) ∧ Hid (D.length ≤ 10 * i) ∧ Hid (KG c) ∧ Hid (Blk wr w.heap.size 45 (clA c.b c.x c.u c.t c.p c.q)) ∧ Hid (Below w.heap.size w wr)) (fun _ iv _ => n - (intOf iv).toNat)
  case atStart =>
    refine ⟨0, CD.z, [], by omega, rfl, ⟨_, rfl, strN_nil.symm⟩, by show FIN = _; rw [wd_z, ← HFI.out]; simp, Nat.le_refl _, kg_z, ?_, ?_⟩
    · first | exact Blk.new _ _ _ | exact blk_setC (Blk.new _ _ _) _ _ _ _ _ _
    · first | exact (Below.refl _ _).alloc (Nat.le_refl _) _ | exact (((((((Below.refl _ _).alloc (Nat.le_refl _) _).setCell (Nat.le_refl _) _).setCell (Nat.le_refl _) _).setCell (Nat.le_refl _) _).setCell (Nat.le_refl _) _).setCell (Nat.le_refl _) _).setCell (Nat.le_refl _) _
  case round =>
    obtain ⟨i, c, D, hin, rfl, ⟨S, rfl, hS⟩, hfi, hsz, hkc, hblk, hb⟩ := hrel
    by_cases hlt : i < n
    · obtain ⟨x, hx⟩ : ∃ x, l[i]? = some x := ⟨l[i]'(by rw [HN.out]; exact hlt), List.getElem?_eq_getElem _⟩
      obtain ⟨g, hA, hg, hat⟩ := HC.out i x hx
      subst hA
      obtain ⟨a0, a1, a2, a3, a4, a5⟩ := hat.below hb.out hg
      have hkx := HL.out.kg x (List.mem_of_getElem? hx)
      have hf := hfi.out
      rw [encS_on hx] at hf
      have HF2 := hide (show FIN = (D ++ uvar (zz (stN (wd k c) (wd k x)))) ++ encS k (wd k x) (l.drop (i + 1)) from by rw [hf, List.append_assoc])
      have KW1 := hide (fun w => KW.out c hkc.out w)
      have KW2 := hide (fun w => KW.out x hkx w)
      have KS1 := hide (fun w => KS.out (wd k c) (wd k x) (wd_lt hkc.out) (wd_lt hkx) w)
      have KZ1 := hide (fun w => KZ.out (stN (wd k c) (wd k x)) (stN_lo _ _) (stN_hi _ _) w)
      have hzz : zz (stN (wd k c) (wd k x)) < 18446744073709551616 := zz_lt (stN_lo _ _) (stN_hi _ _)
      have KU1 := hide (fun w => KU.out _ hzz w)
      have hlu := uvar_len10 hzz
      have HSN := hide (show S ++ strN (uvar (zz (stN (wd k c) (wd k x)))) = strN (D ++ uvar (zz (stN (wd k c) (wd k x)))) from by rw [strN_app, hS.out])
      have HZ2 := hide (show (D ++ uvar (zz (stN (wd k c) (wd k x)))).length ≤ 10 * (i + 1) from by have := hsz.out; rw [List.length_append]; omega)
      have hadd := fun w1 => run_string_add_sum (P := Tryz.prog) w1 S (strN (uvar (zz (stN (wd k c) (wd k x))))) (by have := hsz.out; rw [hS.out, strN_size, strN_size]; omega)
      have HKX := hide hkx
      have HLT := hide hlt
      have hi0 : (0 : Int) ≤ (i : Int) := by omega
      have hi1 : (i : Int) < (n : Int) := by omega
      obtain ⟨p0, p1, p2, p3, p4, p5, _, _, _, _, _, _⟩ := Blk.six hblk.out
      have HBK := hide hblk.out
      have HB := hide hb.out
      have HG := hide hg
      have hgne : g ≠ w.heap.size := by omega
      have HAT := hide hat
      obtain ⟨cb, cx, cu, ct, cp, cq⟩ := c
      obtain ⟨xb, xx, xu, xt, xp, xq⟩ := x
      unfold CD.v clV clA at KW1 KW2
      simp only at KW1 KW2 a0 a1 a2 a3 a4 a5 p0 p1 p2 p3 p4 p5
      generalize hWA : wd k ⟨cb, cx, cu, ct, cp, cq⟩ = WA at *
      generalize hWX : wd k ⟨xb, xx, xu, xt, xp, xq⟩ = WX at *
      have HWX := hide hWX
      generalize strN (uvar (zz (stN WA WX))) = Y at *
      generalize hZ : zz (stN WA WX) = Z at *
      generalize stN WA WX = T at *
      clear hx hat hkx hf hzz hlu hlt hfi hkc hblk hb hg hWA hWX hZ
      have r0 := cell_regrown a0
      have r1 := cell_regrown a1
      have r2 := cell_regrown a2
      have r3 := cell_regrown a3
      have r4 := cell_regrown a4
      have r5 := cell_regrown a5
      have q0 := cell_regrown p0
      have q1 := cell_regrown p1
      have q2 := cell_regrown p2
      have q3 := cell_regrown p3
      have q4 := cell_regrown p4
      have q5 := cell_regrown p5
      have Q1 := hide (fun d os => Calls.regrown_of (d := d) (os := os) (KW1.out (Sort.grow (redrawn wr d) os)))
      have Q2 := hide (fun d os => Calls.regrown_of (d := d) (os := os) (KW2.out (Sort.grow (redrawn wr d) os)))
      have Q3 := hide (fun d os => Calls.regrown_of (d := d) (os := os) ((KS1.out (Sort.grow (redrawn wr d) os)).mono (by rintro e w' ⟨rfl, rfl⟩; exact ⟨rfl, Below.refl _ _⟩)))
      have Q4 := hide (fun d os => Calls.regrown_of (d := d) (os := os) ((KZ1.out (Sort.grow (redrawn wr d) os)).mono (by rintro e w' ⟨rfl, rfl⟩; exact ⟨rfl, Below.refl _ _⟩)))
      have Q5 := hide (fun d os => Calls.regrown_of (d := d) (os := os) (KU1.out (Sort.grow (redrawn wr d) os)))
      clear a0 a1 a2 a3 a4 a5 p0 p1 p2 p3 p4 p5
      go_wp2_with fail
      refine wp_region_quiet_below (by kernel_rfl) (by kernel_rfl) ?_
      repeat (go_big_quiet_step (first | (with_reducible exact Q1.out _ _) | (with_reducible exact Q2.out _ _) | (with_reducible exact Q3.out _ _) | (with_reducible exact Q4.out _ _) | (with_reducible exact Q5.out _ _)))
      refine wpQuiet_nil ?_
      intro _ hw'
      obtain ⟨⟨dq, osq⟩, hw''⟩ := hw'
      subst hw''
      have hb4 := below_regrown wr dq osq
      generalize Sort.grow (redrawn wr dq) osq = w4 at *
      have HB4 := hide (HB.out.trans (hb4.mono HB.out.size))
      have HK4 := hide (HBK.out.below hb4 HBK.out.lt)
      obtain ⟨a0, a1, a2, a3, a4, a5⟩ := HAT.out.below HB4.out HG.out
      obtain ⟨p0, p1, p2, p3, p4, p5, f0, f1, f2, f3, f4, f5⟩ := Blk.six HK4.out
      clear hb4 r0 r1 r2 r3 r4 r5 q0 q1 q2 q3 q4 q5 Q1 Q2 Q3 Q4 Q5
      go_wp2_with fail
      go_roundw
      case rel => exact ⟨i + 1, ⟨xb, xx, xu, xt, xp, xq⟩, _, by have := HLT.out; omega, by go_num, ⟨_, rfl, HSN.out⟩, (by rw [HWX.out]; exact HF2.out), HZ2.out, HKX.out, blk_setC HK4.out _ _ _ _ _ _, (((((HB4.out.setCell (Nat.le_refl _) _).setCell (Nat.le_refl _) _).setCell (Nat.le_refl _) _).setCell (Nat.le_refl _) _).setCell (Nat.le_refl _) _).setCell (Nat.le_refl _) _⟩
      case measure => have := HLT.out; simp [intOf]; omega
    · obtain rfl : n = i := by omega
      have hf := hfi.out
      rw [List.drop_eq_nil_of_le (by rw [HN.out]; exact Nat.le_refl _), encS, List.append_nil] at hf
      have HF := hide hf
      clear hlt hin hf
      go_wp2_with fail
      go_ret2
      exact ⟨by rw [HF.out, ← hS.out]; rfl, hb.out⟩
end Go.Proofs.YtfkgmodgkifelaaGreatDoor
namespace Go.Proofs.YtfkgmodgkifelaaGreatDoor

theorem read_neg (x : Nat) : Ieee.double.read (x ^^^ 9223372036854775808) = (Ieee.double.read x).opposite := by
  have hsw : Ieee.double.signWeight = 2 ^ 63 := by decide
  have e63 : (9223372036854775808 : Nat) = 2 ^ 63 := by decide
  have e1 : (x ^^^ 9223372036854775808) % 2 ^ 63 = x % 2 ^ 63 := by
    rw [e63, Nat.xor_mod_two_pow, Nat.mod_self, Nat.xor_zero]
  have e2 : (x ^^^ 9223372036854775808) / 2 ^ 63 = x / 2 ^ 63 ^^^ 1 := by
    rw [e63, Nat.xor_div_two_pow, Nat.div_self (by decide)]
  have e3 : ((x ^^^ 9223372036854775808) / 2 ^ 63 % 2 == 1) = !(x / 2 ^ 63 % 2 == 1) := by
    rw [e2]
    have h := Nat.xor_mod_two_eq_one (a := x / 2 ^ 63) (b := 1)
    by_cases h1 : x / 2 ^ 63 % 2 = 1
    · have h2 : ¬ (x / 2 ^ 63 ^^^ 1) % 2 = 1 := by rw [h]; simp [h1]
      rw [beq_eq_false_iff_ne.2 h2, h1]; rfl
    · have h2 : (x / 2 ^ 63 ^^^ 1) % 2 = 1 := by rw [h]; simp [h1]
      rw [h2, beq_eq_false_iff_ne.2 h1]; rfl
  unfold Ieee.Format.read
  simp only [hsw, e1, e3]
  split
  · rfl
  · split
    · rfl
    · split <;> rfl
theorem cut_opp (way : Ieee.Toward) (hw : way = .zero) (s t : Bool) (n d : Nat) : way.cut s n d = way.cut t n d := by
  subst hw; rfl
/-- 'int64' of a float turned round. -/
theorem toInt_neg (x : Nat) (n : Int) (hn : n.natAbs ≤ 9007199254740992) (h : floatToIntVal .f64 x .i64 = some n) : floatToIntVal .f64 (Op.negFloat .f64 x) .i64 = some (-n) := by
  have hneg : Op.negFloat .f64 x = x ^^^ 9223372036854775808 := rfl
  rw [hneg]
  unfold floatToIntVal at h ⊢
  show (match (Ieee.double.read (x ^^^ 9223372036854775808)).toInt .zero with | some n => _ | none => _) = _
  have h' : (match (Ieee.double.read x).toInt .zero with | some n => if IntKind.i64.min ≤ n ∧ n ≤ IntKind.i64.max then some n else none | none => none) = some n := h
  rw [read_neg]
  have hto : ∀ m, (Ieee.double.read x).toInt .zero = some m → (Ieee.double.read x).opposite.toInt .zero = some (-m) := by
    intro m
    generalize Ieee.double.read x = d
    cases d with
    | number s mg e =>
      intro hm
      unfold Ieee.Datum.toInt Ieee.Datum.integral at hm
      unfold Ieee.Datum.toInt Ieee.Datum.integral Ieee.Datum.opposite
      simp only [Option.some.injEq] at hm ⊢
      rw [← hm, cut_opp .zero rfl (!s) s]
      unfold Ieee.signed
      cases s <;> simp
    | infinity s => intro hm; cases hm
    | nan s f => intro hm; cases hm
  cases hr : (Ieee.double.read x).toInt .zero with
  | none => rw [hr] at h'; cases h'
  | some m =>
    rw [hr] at h'
    simp only at h'
    split at h'
    · injection h' with h'
      subst h'
      rw [hto _ hr]
      have hmin : IntKind.i64.min = -9223372036854775808 := by decide
      have hmax : IntKind.i64.max = 9223372036854775807 := by decide
      simp only [hmin, hmax]
      rw [if_pos (by omega)]
    · cases h'
theorem signed_opp (s : Bool) (m k : Nat) : Ieee.signed (!s) m k = -Ieee.signed s m k := by
  unfold Ieee.signed
  cases s <;> simp
/-- A difference of whole numbers is exact, where it does not grow too far. -/
theorem sub_int (a b : Int) (ha : a.natAbs ≤ 9007199254740992) (hb : b.natAbs ≤ 9007199254740992) (hc : (a - b).natAbs ≤ 9007199254740992) :
    Ieee.double.sub (floatOfInt .f64 a) (floatOfInt .f64 b) = some (floatOfInt .f64 (a - b)) := by
  obtain ⟨s, m, k, e1, h1, hs, _⟩ := read_int a ha
  obtain ⟨t, n, l, e2, h2, ht, _⟩ := read_int b hb
  unfold Ieee.Format.sub
  rw [e1, e2]
  unfold Ieee.Datum.opposite Ieee.Datum.sum
  simp only [min_place, Option.map_some, signed_opp]
  have g1 := signed_of s m k (max k l) a (by omega) h1
  have g2 := signed_of t n l (max k l) b (by omega) h2
  have hz0 : a - b = 0 → (s && !t) = false := by
    intro h0
    have hab : a = b := by omega
    subst hab
    rw [e1] at e2
    injection e2 with e2
    subst e2
    cases s <;> rfl
  generalize Ieee.signed s m ((1 - (k : Int)) - (1 - ((max k l : Nat) : Int))).toNat = X at *
  generalize Ieee.signed t n ((1 - (l : Int)) - (1 - ((max k l : Nat) : Int))).toNat = Y at *
  generalize max k l = K at *
  have hP : (0 : Int) < 2 ^ K := Int.pow_pos (by omega)
  have hsum : 2 * (X + -Y) = (a - b) * 2 ^ K := by rw [Int.sub_mul, ← g1, ← g2]; omega
  congr 1
  by_cases h0 : a - b = 0
  · have hXY : X + -Y = 0 := by rw [h0, Int.zero_mul] at hsum; omega
    rw [hXY, h0, if_pos rfl]
    rw [hz0 h0]
    have hz : floatOfInt .f64 0 = Ieee.double.word false 0 := by kernel_rfl
    rw [hz]
    show Ieee.double.nearest false (0 : Int).natAbs _ = _
    unfold Ieee.Format.nearest
    rw [if_pos Int.natAbs_zero]
  · have hXY : X + -Y ≠ 0 := by
      intro h
      rw [h, Int.mul_zero] at hsum
      rcases Int.mul_eq_zero.1 hsum.symm with q | q
      · exact h0 q
      · omega
    rw [if_neg hXY]
    have hsg : decide (X + -Y < 0) = decide (a - b < 0) := by
      rw [decide_eq_decide]
      constructor
      · intro h
        apply Int.not_le.1
        intro hn
        have : 0 ≤ (a - b) * 2 ^ K := Int.mul_nonneg hn (by omega)
        omega
      · intro h
        have : (a - b) * 2 ^ K < 0 := Int.mul_neg_of_neg_of_pos h hP
        omega
    have hab : 2 * (X + -Y).natAbs = (a - b).natAbs * 2 ^ K := by
      have h3 := congrArg Int.natAbs hsum
      rw [Int.natAbs_mul, Int.natAbs_mul, Int.natAbs_pow] at h3
      simpa using h3
    have hpos : 0 < (a - b).natAbs := by omega
    obtain ⟨q1, hq1, w1⟩ := nearest_of (decide (a - b < 0)) (X + -Y).natAbs K (a - b).natAbs hpos hc hab
    obtain ⟨q2, hq2, w2⟩ := nearest_of (decide (a - b < 0)) (a - b).natAbs 1 (a - b).natAbs hpos hc (by omega)
    have hq : q1 = q2 := by omega
    subst hq
    show Ieee.double.nearest (decide (X + -Y < 0)) (X + -Y).natAbs (1 - (K : Int)) = _
    rw [hsg, w1]
    have hf : floatOfInt .f64 (a - b) = Ieee.double.nearest (decide (a - b < 0)) (a - b).natAbs (1 - ((1 : Nat) : Int)) := rfl
    rw [hf, w2]
theorem csub_int (a b c d : Int) (ha : a.natAbs ≤ 9007199254740992) (hb : b.natAbs ≤ 9007199254740992) (hc : c.natAbs ≤ 9007199254740992) (hd : d.natAbs ≤ 9007199254740992) (hac : (a - c).natAbs ≤ 9007199254740992) (hbd : (b - d).natAbs ≤ 9007199254740992) :
    cSumBits .sub .f64 (floatOfInt .f64 a) (floatOfInt .f64 b) (floatOfInt .f64 c) (floatOfInt .f64 d) = some (floatOfInt .f64 (a - c), floatOfInt .f64 (b - d)) := by
  unfold cSumBits floatBits
  show (Ieee.double.sub _ _).bind (fun re => (Ieee.double.sub _ _).bind fun im => some (re, im)) = _
  rw [sub_int a c ha hc hac, sub_int b d hb hd hbd]
  rfl
/-- A difference of two numbers is some number, whatever comes of it. -/
theorem sub_some (a b : Int) (ha : a.natAbs ≤ 9007199254740992) (hb : b.natAbs ≤ 9007199254740992) : ∃ r, Ieee.double.sub (floatOfInt .f64 a) (floatOfInt .f64 b) = some r := by
  obtain ⟨s, m, k, e1, _, _, _⟩ := read_int a ha
  obtain ⟨t, n, l, e2, _, _, _⟩ := read_int b hb
  unfold Ieee.Format.sub
  rw [e1, e2]
  exact ⟨_, rfl⟩
theorem csub_some (a b c d : Int) (ha : a.natAbs ≤ 9007199254740992) (hb : b.natAbs ≤ 9007199254740992) (hc : c.natAbs ≤ 9007199254740992) (hd : d.natAbs ≤ 9007199254740992) :
    ∃ re im, cSumBits .sub .f64 (floatOfInt .f64 a) (floatOfInt .f64 b) (floatOfInt .f64 c) (floatOfInt .f64 d) = some (re, im) := by
  obtain ⟨re, e1⟩ := sub_some a c ha hc
  obtain ⟨im, e2⟩ := sub_some b d hb hd
  refine ⟨re, im, ?_⟩
  unfold cSumBits floatBits
  show (Ieee.double.sub _ _).bind (fun re => (Ieee.double.sub _ _).bind fun im => some (re, im)) = _
  rw [e1, e2]
  rfl
end Go.Proofs.YtfkgmodgkifelaaGreatDoor
