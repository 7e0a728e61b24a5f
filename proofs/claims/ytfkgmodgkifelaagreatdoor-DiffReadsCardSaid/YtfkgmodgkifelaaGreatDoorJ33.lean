/- Columns: the document's runs of cells. Columns: the document's bytes by runs. A range over a function whose iterator keeps its state in cells: what holds between two rounds, at a round, and at the end. -/
import Derived.Test.YtfkgmodgkifelaaGreatDoorJ29
import Derived.Lib.QuietBelow
import Derived.Test.YtfkgmodgkifelaaGreatDoorJ01
import Derived.RangeFuncNested
import Derived.RangeFuncBound
import Derived.RangeFuncCalls
import Derived.RangeFuncLeaves
namespace Go.Proofs.YtfkgmodgkifelaaGreatDoor
open Go.RowKit

theorem drop_at {α : Type} {l : List α} {j : Nat} {a : α} (h : l[j]? = some a) : l.drop j = a :: l.drop (j + 1) := by
  have hi := (List.getElem?_eq_some_iff.1 h).1
  rw [List.drop_eq_getElem_cons hi, (List.getElem?_eq_some_iff.1 h).2]
theorem lng_eq {k : Int} {l : List CD} {j : Nat} {a b : CD} (ha : l[j]? = some a) (hb : l[j + 1]? = some b) (h : ceq k a b = true) : lng k (l.drop j) = 1 + lng k (l.drop (j + 1)) := by
  rw [drop_at ha, drop_at hb, lng_on k a b _ h]
theorem lng_ne {k : Int} {l : List CD} {j : Nat} {a b : CD} (ha : l[j]? = some a) (hb : l[j + 1]? = some b) (h : ceq k a b = false) : lng k (l.drop j) = 1 := by
  rw [drop_at ha, drop_at hb, lng_off k a b _ h]
theorem lng_end {k : Int} {l : List CD} {j : Nat} (h : l.length = j + 1) : lng k (l.drop j) = 1 := by
  have ha : l[j]? = some (l[j]'(by omega)) := List.getElem?_eq_getElem _
  rw [drop_at ha, List.drop_eq_nil_of_le (by omega), lng_one]
set_option maxHeartbeats 2000000 in
set_option maxRecDepth 100000 in
theorem slong_any (k : Int) (h1 : 1 ≤ k) (h6 : k ≤ 6) (l : List CD) (hlen : l.length ≤ 10000) (v : Value) (w : World) (hv : InC w v l) (i : Nat) (hi : i < l.length) :
    Calls Tryz.prog 162 #[.int .i64 k, v, .int .i64 i] w fun e w' => e = .returned (.int .i64 (lng k (l.drop i) : Nat)) ∧ Below w.heap.size w w' := by
  obtain ⟨A, ca, rfl, hcell⟩ := hv.form
  have HC := hide hcell
  have KE := hide (fun (a b : CD) (w : World) => requal_any k h1 h6 a b w)
  clear hv hcell h1 h6
  generalize hn : l.length = n at *
  have HN := hide hn
  clear hn
  have hi0 : (0 : Int) ≤ (i : Int) := by omega
  have hi1 : (i : Int) < (n : Int) := by omega
  have hn1 : (n : Int) ≤ 10000 := by omega
  obtain ⟨RES, hRES⟩ : ∃ RES, lng k (l.drop i) = RES := ⟨_, rfl⟩
  rw [hRES]
  have HRES := hide hRES
  have HI := hide hi
  clear hRES hi
  go_enter Tryz.func162, Tryz.ntmps162
  go_wp2_with fail
  go_loopw [7] (fun mv wr => ∃ (m j : Nat), mv = .int .i64 (m : Int) ∧ Hid (i + m = j + 1) ∧ Hid (i + m ≤ n) ∧ Hid (lng k (l.drop j) + m = RES + 1) ∧ Hid (Below w.heap.size w wr)) (fun mv _ => n - (intOf mv).toNat)
  case atStart => exact ⟨1, i, rfl, rfl, HI.out, by show _ = _; rw [HRES.out], Below.refl _ _⟩
  case round =>
    obtain ⟨m, j, rfl, hij, hin, hln, hb⟩ := hrel
    have hm0 : (0 : Int) ≤ (m : Int) := by omega
    have hm1 : (m : Int) ≤ 10000 := by have := hin.out; omega
    obtain ⟨q, hq⟩ : ∃ q : Nat, q = i + m := ⟨_, rfl⟩
    have e1 : (i : Int) + (m : Int) = (q : Int) := by omega
    have e2 : (q : Int) - 1 = (j : Int) := by have := hij.out; omega
    have hq0 : (0 : Int) ≤ (q : Int) := by omega
    have hq9 : (q : Int) ≤ 10000 := by have := hin.out; omega
    have hj0 : (0 : Int) ≤ (j : Int) := by omega
    have HQ := hide hq
    obtain ⟨a, ha⟩ : ∃ a, l[j]? = some a := ⟨l[j]'(by rw [HN.out]; have := hij.out; have := hin.out; omega), List.getElem?_eq_getElem _⟩
    obtain ⟨g, hA, hg, hat⟩ := HC.out j a ha
    subst hA
    obtain ⟨a0, a1, a2, a3, a4, a5⟩ := hat.below hb.out hg
    have HA := hide ha
    by_cases hlt : q < n
    · obtain ⟨b, hb2⟩ : ∃ b, l[q]? = some b := ⟨l[q]'(by rw [HN.out]; exact hlt), List.getElem?_eq_getElem _⟩
      obtain ⟨g2, hA2, hg2, hat2⟩ := HC.out q b hb2
      injection hA2 with hA2
      injection hA2 with hA2
      subst hA2
      obtain ⟨b0, b1, b2, b3, b4, b5⟩ := hat2.below hb.out hg
      have HBQ := hide hb2
      have KX := hide (KE.out a b)
      have hq1 : (q : Int) < (n : Int) := by omega
      have HLT := hide hlt
      obtain ⟨xb, xx, xu, xt, xp, xq⟩ := a
      obtain ⟨yb, yx, yu, yt, yp, yq⟩ := b
      unfold CD.v clV clA at KX
      simp only at KX a0 a1 a2 a3 a4 a5 b0 b1 b2 b3 b4 b5
      have r0 := cell_regrown a0
      have r1 := cell_regrown a1
      have r2 := cell_regrown a2
      have r3 := cell_regrown a3
      have r4 := cell_regrown a4
      have r5 := cell_regrown a5
      have q0 := cell_regrown b0
      have q1 := cell_regrown b1
      have q2 := cell_regrown b2
      have q3 := cell_regrown b3
      have q4 := cell_regrown b4
      have q5 := cell_regrown b5
      have KQ := hide (fun d os => Calls.regrown_of (d := d) (os := os) (KX.out (Sort.grow (redrawn wr d) os)))
      clear hlt ha hb2 hat hat2 hq a0 a1 a2 a3 a4 a5 b0 b1 b2 b3 b4 b5
      go_wp2_with fail
      refine wp_region_quiet_below (by kernel_rfl) (by kernel_rfl) ?_
      repeat (go_big_quiet_step (exact KQ.out _ _))
      refine wpQuiet_nil ?_
      intro _ hw'
      obtain ⟨⟨dq, osq⟩, hw''⟩ := hw'
      subst hw''
      have hb4 := below_regrown wr dq osq
      generalize Sort.grow (redrawn wr dq) osq = w4 at *
      have HB4 := hide (hb.out.trans (hb4.mono hb.out.size))
      clear hb4 r0 r1 r2 r3 r4 r5 q0 q1 q2 q3 q4 q5 KQ
      generalize hOK : ceq k ⟨xb, xx, xu, xt, xp, xq⟩ ⟨yb, yx, yu, yt, yp, yq⟩ = OK at *
      have HOK := hide hOK
      clear hOK
      cases OK
      · have hres : lng k (l.drop j) = 1 := lng_ne HA.out (by have h := HBQ.out; rwa [show q = j + 1 from by have := HQ.out; have := hij.out; omega] at h) HOK.out
        have HM := hide (show m = RES by have := hln.out; omega)
        clear hres
        go_wp2_with fail
        go_ret
        exact ⟨by rw [HM.out]; rfl, HB4.out⟩
      · have hres : lng k (l.drop j) = 1 + lng k (l.drop (j + 1)) := lng_eq HA.out (by have h := HBQ.out; rwa [show q = j + 1 from by have := HQ.out; have := hij.out; omega] at h) HOK.out
        have HM := hide (show lng k (l.drop (j + 1)) + (m + 1) = RES + 1 by have := hln.out; omega)
        clear hres
        go_wp2_with fail
        go_roundw
        case rel => exact ⟨m + 1, j + 1, by go_num, (by show i + (m + 1) = _; have := hij.out; omega), (by show i + (m + 1) ≤ n; have := HLT.out; have := HQ.out; omega), HM.out, HB4.out⟩
        case measure => have := HLT.out; have := HQ.out; simp [intOf]; omega
    · have hres : lng k (l.drop j) = 1 := lng_end (by rw [HN.out]; have := hij.out; have := hin.out; omega)
      have HM := hide (show m = RES by have := hln.out; omega)
      have hq1 : ¬ (q : Int) < (n : Int) := by omega
      have hq2 : decide ((q : Int) < (n : Int)) = false := by rw [decide_eq_false_iff_not]; exact hq1
      have hq3 : decide (q < n) = false := by rw [decide_eq_false_iff_not]; exact hlt
      clear hres ha hat hq hlt a0 a1 a2 a3 a4 a5 hq1
      go_wp2_with fail
      refine wp_region_quiet_below (by kernel_rfl) (by kernel_rfl) ?_
      repeat (go_big_quiet_step (fail))
      refine wpQuiet_nil ?_
      intro _ hw'
      obtain ⟨⟨dq, osq⟩, hw''⟩ := hw'
      subst hw''
      have hb4 := below_regrown wr dq osq
      generalize Sort.grow (redrawn wr dq) osq = w4 at *
      have HB4 := hide (hb.out.trans (hb4.mono hb.out.size))
      clear hb4
      go_wp2_with fail
      go_ret
      exact ⟨by rw [HM.out]; rfl, HB4.out⟩
end Go.Proofs.YtfkgmodgkifelaaGreatDoor
namespace Go.Proofs.YtfkgmodgkifelaaGreatDoor
open Go.RowKit

theorem rns_on {k : Int} {l : List CD} {i : Nat} {c : CD} (h : l[i]? = some c) : rns k l.length (l.drop i) = (c, lng k (l.drop i)) :: rns k l.length (l.drop (i + lng k (l.drop i))) := by
  have hi := (List.getElem?_eq_some_iff.1 h).1
  obtain ⟨n, hn⟩ : ∃ n, l.length = n + 1 := ⟨l.length - 1, by omega⟩
  rw [hn, drop_at h, rns, ← drop_at h, List.drop_drop]
  congr 1
  have := lng_pos k c (l.drop (i + 1))
  rw [← drop_at h] at this
  refine rns_fuel k _ _ _ ?_ ?_ <;> (rw [List.length_drop]; omega)
theorem rns_end {k : Int} {l : List CD} {i : Nat} (h : l.length ≤ i) (n : Nat) : rns k n (l.drop i) = [] := by
  rw [List.drop_eq_nil_of_le h]
  cases n <;> rfl
theorem lng_bound (k : Int) (l : List CD) (i : Nat) : lng k (l.drop i) ≤ l.length - i := by
  have := lng_le k (l.drop i)
  rwa [List.length_drop] at this
/-- The runs' bytes are not more than the cells' could be. -/
theorem tby_drop (l : List CD) (i n : Nat) (h : 1 ≤ n) {c : CD} (hc : l[i]? = some c) : 20 + c.t.size + tby (l.drop (i + n)) ≤ tby (l.drop i) := by
  rw [drop_at hc, tby_cons]
  have e : l.drop (i + n) = (l.drop (i + 1)).drop (n - 1) := by rw [List.drop_drop]; congr 1; omega
  rw [e]
  have h2 := tby_append ((l.drop (i + 1)).take (n - 1)) ((l.drop (i + 1)).drop (n - 1))
  rw [List.take_append_drop] at h2
  omega
set_option maxHeartbeats 4000000 in
set_option maxRecDepth 100000 in
theorem srencode_any (k : Int) (h1 : 1 ≤ k) (h6 : k ≤ 6) (l : List CD) (hl : Wok l) (v : Value) (w : World) (hv : InC w v l) :
    Calls Tryz.prog 149 #[.int .i64 k, v] w fun e w' => e = .returned (.string (strN (encR k l))) ∧ Below w.heap.size w w' := by
  obtain ⟨A, ca, rfl, hcell⟩ := hv.form
  have HC := hide hcell
  have HV := hide hv
  have HL := hide hl
  have hlen := hl.len
  have KG1 := hide (fun (i : Nat) (hi : i < l.length) (w : World) (hv : InC w (.slice A l.length ca) l) => slong_any k h1 h6 l hlen _ w hv i hi)
  have KP := hide (fun (c : CD) (hc : KG c) (hs : c.t.size ≤ 11000000) (w : World) => scell_all k h1 h6 c hc hs w)
  have KU := hide (fun (x : Nat) (hx : x < 18446744073709551616) (w : World) => suvar_any x hx w)
  have LB := hide (fun i => lng_bound k l i)
  have RN := hide (fun (i : Nat) (c : CD) h => rns_on (k := k) (l := l) (i := i) (c := c) h)
  have hspec : encR k l = (rns k l.length (l.drop 0)).flatMap (runB k) := rfl
  generalize encR k l = FIN at *
  clear hv hcell hl h1 h6
  generalize hn : l.length = n at *
  have HN := hide hn
  have HFI := hide hspec
  clear hn hspec
  go_enter Tryz.func149, Tryz.ntmps149
  go_wp2_with fail
  go_loopw [5, 6] (fun sv iv wr => ∃ (i : Nat) (D : List Nat), i ≤ n ∧ iv = .int .i64 (i : Int) ∧ (∃ S : ByteArray, sv = .string S ∧ Hid (S = strN D)) ∧ Hid (FIN = D ++ (rns k n (l.drop i)).flatMap (runB k)) ∧ Hid (D.length + 2 * tby (l.drop i) ≤ 2200000) ∧ Hid (Below w.heap.size w wr)) (fun _ iv _ => n - (intOf iv).toNat)
  case atStart => exact ⟨0, [], by omega, rfl, ⟨_, rfl, strN_nil.symm⟩, by show FIN = _; rw [HFI.out]; simp, by have := HL.out.by_; show 0 + 2 * tby (l.drop 0) ≤ 2200000; rw [List.drop_zero]; omega, Below.refl _ _⟩
  case round =>
    obtain ⟨i, D, hin, rfl, ⟨S, rfl, hS⟩, hfi, hsz, hb⟩ := hrel
    by_cases hlt : i < n
    · obtain ⟨x, hx⟩ : ∃ x, l[i]? = some x := ⟨l[i]'(by rw [HN.out]; exact hlt), List.getElem?_eq_getElem _⟩
      obtain ⟨g, hA, hg, hat⟩ := HC.out i x hx
      subst hA
      have hxm := List.mem_of_getElem? hx
      have hxs : x.t.size ≤ 1100000 := by have := tby_mem hxm; have := HL.out.by_; omega
      have hcl := cellB_len k (HL.out.kg x hxm)
      have KL := hide (KG1.out i hlt wr (HV.out.below hb.out))
      have hf := hfi.out
      rw [RN.out i x hx] at hf
      have hlb := LB.out i
      have hp := lng_pos k x (l.drop (i + 1))
      rw [← drop_at hx] at hp
      generalize hm : lng k (l.drop i) = m at *
      have htd := tby_drop l i m hp hx
      have hi0 : (0 : Int) ≤ (i : Int) := by omega
      have hi1 : (i : Int) < (n : Int) := by omega
      have hm0 : (0 : Int) ≤ (m : Int) := by omega
      have hm1 : (m : Int) ≤ 10000 := by omega
      have hmw : IntKind.u64.wrap (m : Int) = (m : Int) := by rw [IntKind.wrap_u64]; omega
      have hlu := uvar_len10 (x := m) (by omega)
      have HSN := hide (show S ++ strN (uvar m) ++ strN (cellB k x) = strN (D ++ runB k (x, m)) from by rw [show runB k (x, m) = uvar m ++ cellB k x from rfl, strN_app, strN_app, hS.out, ByteArray.append_assoc])
      have HF2 := hide (show FIN = (D ++ runB k (x, m)) ++ (rns k n (l.drop (i + m))).flatMap (runB k) from by rw [hf, List.flatMap_cons, List.append_assoc])
      have HZ2 := hide (show (D ++ runB k (x, m)).length + 2 * tby (l.drop (i + m)) ≤ 2200000 from by
        have := hsz.out
        rw [show runB k (x, m) = uvar m ++ cellB k x from rfl, List.length_append, List.length_append]
        omega)
      have KP2 := hide (fun w => KP.out x (HL.out.kg x hxm) (by omega) w)
      have KU2 := hide (fun w => KU.out m (by omega) w)
      have hadd1 := fun w1 => run_string_add_sum (P := Tryz.prog) w1 S (strN (uvar m)) (by have := hsz.out; rw [hS.out, strN_size, strN_size]; omega)
      have hadd2 := fun w1 => run_string_add_sum (P := Tryz.prog) w1 (S ++ strN (uvar m)) (strN (cellB k x)) (by have := hsz.out; rw [hS.out, ByteArray.size_append, strN_size, strN_size, strN_size]; omega)
      have HAT := hide (hat.below hb.out hg)
      have HG := hide hg
      have HADD1 := hide hadd1
      have HADD2 := hide hadd2
      have hmn : (i : Int) + (m : Int) ≤ (n : Int) := by omega
      have HP := hide hp
      clear hx hat hxm hxs hcl hf htd hm hlu hadd1 hadd2 hlb hp
      go_wp2_with fail
      refine KL.out.mono ?_
      rintro e w2 ⟨rfl, hb2⟩
      obtain ⟨a0, a1, a2, a3, a4, a5⟩ := HAT.out.below hb2 (Nat.lt_of_lt_of_le HG.out hb.out.size)
      have HB2 := hide (hb.out.trans (hb2.mono hb.out.size))
      obtain ⟨xb, xx, xu, xt, xp, xq⟩ := x
      unfold CD.v clV clA at KP2
      simp only at KP2 a0 a1 a2 a3 a4 a5
      have r0 := cell_regrown a0
      have r1 := cell_regrown a1
      have r2 := cell_regrown a2
      have r3 := cell_regrown a3
      have r4 := cell_regrown a4
      have r5 := cell_regrown a5
      have KQ := hide (fun d os => Calls.regrown_of (d := d) (os := os) (KP2.out (Sort.grow (redrawn w2 d) os)))
      have KV := hide (fun d os => Calls.regrown_of (d := d) (os := os) (KU2.out (Sort.grow (redrawn w2 d) os)))
      have hadd1 := HADD1.out
      have hadd2 := HADD2.out
      generalize strN (cellB k ⟨xb, xx, xu, xt, xp, xq⟩) = Y at *
      generalize strN (uvar m) = Z at *
      clear hb2 KL HAT a0 a1 a2 a3 a4 a5
      go_wp2_with fail
      refine wp_region_quiet_below (by kernel_rfl) (by kernel_rfl) ?_
      repeat (go_big_quiet_step (first | exact KQ.out _ _ | exact KV.out _ _))
      refine wpQuiet_nil ?_
      intro _ hw'
      obtain ⟨⟨dq, osq⟩, hw''⟩ := hw'
      subst hw''
      have hb4 := below_regrown w2 dq osq
      generalize Sort.grow (redrawn w2 dq) osq = w4 at *
      have HB4 := hide (HB2.out.trans (hb4.mono HB2.out.size))
      clear hb4 r0 r1 r2 r3 r4 r5 KQ KV
      go_wp2_with fail
      go_roundw
      case rel => exact ⟨i + m, _, by omega, by go_num, ⟨_, rfl, HSN.out⟩, HF2.out, HZ2.out, HB4.out⟩
      case measure => have := HP.out; simp [intOf]; omega
    · obtain rfl : n = i := by omega
      have hf := hfi.out
      rw [rns_end (by rw [HN.out]; exact Nat.le_refl _), List.flatMap_nil, List.append_nil] at hf
      have HF := hide hf
      clear hf hlt hin
      go_wp2_with fail
      go_ret
      exact ⟨by rw [HF.out, ← hS.out]; rfl, hb.out⟩
end Go.Proofs.YtfkgmodgkifelaaGreatDoor
namespace Go.Proofs.YtfkgmodgkifelaaGreatDoor
open Go Go.RowKit

variable {F : Fence} {n : Nat} {P : Program}
/-- What is kept wherever only cells have turned. -/
def CellsKeep (K : World → Prop) : Prop := ∀ (W W' : World) (S : Nat → Prop), Fr W W' S → (∀ k, S k → k < W.heap.size → ∃ o, W.heap[k]? = some o ∧ o.isCells = true) → K W → K W'
/-- How a round's body ends: off its end. -/
def RoundEnd (B : Nat) (W : World) (J : World → Prop) : Exit → Act → World → Prop
  | .normal, _, W' => KeepsFrom B W W' ∧ J W'
  | _, _, _ => False
theorem wpIn_rangeFunc_st {α : Type} {g : Operand} {ps : Array Tmp} {assign body : Code} {Q : Exit → Act → World → Prop} {a : Act} {w : World}
    (hro : F.round = none) (h1 : 1 ≤ n) {gf : Nat} {lb : Array Value} (hg : a.eval g = .func (.func gf) #[] lb) (hFg : F.fn gf) (eg : ∀ args w, (callFunc gf args).run P w = .ok (.enter gf args) w)
    {encs : α → Array Value} (hps : ∀ x, (encs x).size = ps.size)
    (I : List α → World → Prop) (M : List α × α → World → Prop) (Ax : (List α × α) × Act → World → Prop) (Z : List α → World → Prop)
    (hI : OwnFrom w.heap.size I) (hAx : OwnFrom w.heap.size Ax) (hZ : OwnFrom w.heap.size Z) (h0 : I [] w)
    (hseq : ∀ (l : Nat) (K : World → Prop), CellsKeep K →
      (∀ pre x W, M (pre, x) W → K W → YieldAt F (n - 1 - 1) P l (encs x) W fun e W' => e = .returned (.bool true) ∧ I (pre ++ [x]) W' ∧ K W') →
      ∀ W1, I [] W1 → K W1 → CallsIn F (n - 1) P gf (#[.func (.yield l) #[] #[]] ++ lb) W1 fun e W' => (∃ v, e = .returned v) ∧ ∃ xs, Z xs W' ∧ K W')
    (hassign : ∀ (l : Nat) (pre : List α) (x : α) (W : World) (K : Act → World → Prop), M (pre, x) W → (∀ a' W', KeepsFrom w.heap.size W W' → Ax ((pre, x), a') W' → K a' W') →
      assign.wpIn (F.inRound l) (n - 1 - 1) P (Exit.then K (fun _ _ _ => False)) { tmps := (ps.zip (encs x)).foldl (fun t (p, v) => t.setIfInBounds p v) a.tmps, defers := [] } W)
    (hbody : ∀ (l : Nat) (pre : List α) (x : α) (a' : Act) (W : World), Ax ((pre, x), a') W →
      body.wpIn (F.inRound l) (n - 1 - 1) P (RoundEnd w.heap.size W (I (pre ++ [x]))) a' W)
    (hdone : ∀ (D : Nat) (xs : List α) (W : World), w.heap.size ≤ D → Z xs W → W.heap[D]? = some (.deferred (some [])) → Q .normal { a with defers := { target := .collected D, args := #[] } :: a.defers } W) :
    (Code.rangeFunc g ps assign body).wpIn F n P Q a w := by
  refine wpIn_rangeFunc ?_
  intro fn hfn
  rw [hro]
  obtain ⟨rec, hrec⟩ : ∃ rec : LoopState → Option Code → Loop, rec = fun st pe => { state := st, pending := pe, fn, tmps := a.tmps, params := ps, assign, body, defers := w.heap.size } := ⟨_, rfl⟩
  obtain ⟨W1, hW1⟩ : ∃ W1, (w.alloc (.deferred (some []))).alloc (.loop (rec .ready none)) = W1 := ⟨_, rfl⟩
  have hL1 : W1.heap[w.heap.size + 1]? = some (.loop (rec .ready none)) := by
    rw [← hW1]; have := World.alloc_heap_new (w.alloc (.deferred (some []))) (.loop (rec .ready none)); rwa [World.size_alloc] at this
  have hK1 : W1.heap[w.heap.size]? = some (.deferred (some [])) := by
    rw [← hW1]; exact (Below.heap_alloc _ _ _ (by simp)).trans (World.alloc_heap_new w _)
  have hI1 : I [] W1 := by rw [← hW1]; exact hI.alloc _ (hI.alloc _ h0)
  refine ⟨w.heap.size + 1, [{ target := .collected w.heap.size, args := #[] }], W1, { target := .fn (.func gf) lb, args := #[.func (.yield (w.heap.size + 1)) #[] #[]] }, W1, gf,
    #[.func (.yield (w.heap.size + 1)) #[] #[]] ++ lb, W1, ?_, ?_, ?_, ?_, fun _ => h1, ?_⟩
  · rw [← hW1, hrec]; exact run_enterLoop_outer _ _ _ _ _
  · simp only [resolve, hg]
    simp [go_sem]
  · intro f' hf'; simp [Target.leads] at hf'; subst hf'; exact hFg
  · simp [invoke, go_sem, eg]
  · have hkeep : CellsKeep (fun W => W.heap[w.heap.size + 1]? = some (.loop (rec .ready none)) ∧ W.heap[w.heap.size]? = some (.deferred (some []))) := by
      rintro X Y S hf hS ⟨hl, hk⟩
      refine ⟨(hf.block _ (Array.getElem?_eq_some_iff.1 hl).1 (fun hs => ?_)).trans hl, (hf.block _ (Array.getElem?_eq_some_iff.1 hk).1 (fun hs => ?_)).trans hk⟩
      · obtain ⟨o, ho, hc⟩ := hS _ hs (Array.getElem?_eq_some_iff.1 hl).1
        rw [hl] at ho; injection ho with ho; subst ho; cases hc
      · obtain ⟨o, ho, hc⟩ := hS _ hs (Array.getElem?_eq_some_iff.1 hk).1
        rw [hk] at ho; injection ho with ho; subst ho; cases hc
    refine (hseq (w.heap.size + 1) _ hkeep ?_ W1 hI1 ⟨hL1, hK1⟩).mono ?_
    · rintro pre x W hm ⟨hl, hk⟩
      have hy := run_yield (P := P) (args := encs x) hl (by rw [hrec]; exact hps x)
      rw [hrec] at hy
      refine ⟨fn, _, assign, body, hy, roundIn_of_wpIn hfn (hassign _ pre x W _ hm ?_)⟩
      clear hy
      intro a' Wa hkfa hax
      replace hl := hkfa.same _ _ (by omega) hl rfl
      replace hk := hkfa.same _ _ (Nat.le_refl _) hk rfl
      have hlt : w.heap.size + 1 < Wa.heap.size := (Array.getElem?_eq_some_iff.1 hl).1
      refine ⟨_, run_beginRound hl (by rw [hrec]), ?_⟩
      have hl2 : (Wa.putObj (w.heap.size + 1) (.loop { rec .ready none with state := .busy })).heap[w.heap.size + 1]? = some (.loop { rec .ready none with state := .busy }) := World.putObj_heap_same hlt
      have hk2 : (Wa.putObj (w.heap.size + 1) (.loop { rec .ready none with state := .busy })).heap[w.heap.size]? = some (.deferred (some [])) := (World.putObj_heap_other (by omega)).trans hk
      refine wpIn_mono (hbody _ pre x a' _ (hAx.putObj _ hax (by omega) hl rfl)) ?_
      rintro e a3 W3 hp
      cases e with
      | normal =>
        obtain ⟨hk3, hi3⟩ := hp
        have hl3 := hk3.same _ _ (by omega) hl2 rfl
        have hr := run_endRound (P := P) none hl3
        rw [hrec] at hr
        refine ⟨_, _, hr, rfl, ?_, ?_, ?_⟩
        · exact hI.putObj _ hi3 (by omega) hl3 rfl
        · rw [hrec]; exact World.putObj_heap_same (Array.getElem?_eq_some_iff.1 hl3).1
        · exact (World.putObj_heap_other (by omega)).trans (hk3.same _ _ (Nat.le_refl _) hk2 rfl)
      | ret => exact hp.elim
      | exit id => exact hp.elim
      | goto t => exact hp.elim
      | panic ch => exact hp.elim
      | outgrown => exact hp.elim
    · rintro e W2 ⟨⟨v, rfl⟩, xs, hz, hl, hk⟩
      exact ⟨none, _, by have := run_endLoop (P := P) hl (by rw [hrec]; simp); rw [hrec] at this; exact this, hdone _ xs _ (Nat.le_refl _) (hZ.putObj _ hz (by omega) hl rfl) ((World.putObj_heap_other (by omega)).trans hk)⟩
end Go.Proofs.YtfkgmodgkifelaaGreatDoor
