/- Columns: the document's bytes of a cell, and of cells one behind the other. Columns: the document's cells one behind the other. -/
import Derived.Test.YtfkgmodgkifelaaGreatDoorJ26
import Derived.Test.YtfkgmodgkifelaaGreatDoorJ12
import Derived.Deep.RegionHeld3
import Derived.Maps.AppendAt
namespace Go.Proofs.YtfkgmodgkifelaaGreatDoor
open Go.RowKit

theorem strN_app (a b : List Nat) : strN (a ++ b) = strN a ++ strN b := by
  unfold strN
  rw [List.map_append]
  apply ByteArray.ext
  apply Array.ext'
  rw [strOfNums_data, List.map_append]
  simp [strOfNums]
theorem strN_app_bn (a : List Nat) (s : ByteArray) : strN (a ++ bn s) = strN a ++ s := by rw [strN_app, strN_bn]
set_option maxHeartbeats 1000000 in
set_option maxRecDepth 100000 in
theorem spart_any (x : Nat) (n : Int) (h : Wh x n) (w : World) :
    Calls Tryz.prog 172 #[.float .f64 x] w fun e w' => e = .returned (.int .i64 n) ∧ w = w' := by
  have h1 := h.ge
  have h2 := h.le
  have h3 := h.fi
  have h4 := fun w => run_convert_float_int (P := Tryz.prog) w 153 2 .f64 .i64 x n (by kernel_rfl) Tryz.underlying2 h.ti
  clear h
  go_enter Tryz.func172, Tryz.ntmps172
  go_wp2_with fail
  go_ret
  exact ⟨rfl, rfl⟩
theorem wh_zero {x : Nat} (hx : ∃ a : Int, a.natAbs ≤ 9007199254740992 ∧ x = floatOfInt .f64 a) (hn : fi x = 0) : (FloatKind.f64.format.order x 0 != some .eq) = false := by
  obtain ⟨a, ha, he⟩ := hx
  rw [he, fi_int a ha] at hn
  subst hn
  rw [he, f_zero]
  rfl
set_option maxHeartbeats 2000000 in
set_option maxRecDepth 100000 in
theorem scell_all (k : Int) (h1 : 1 ≤ k) (h6 : k ≤ 6) (c : CD) (hc : KG c) (hs : c.t.size ≤ 11000000) (w : World) :
    Calls Tryz.prog 161 #[.int .i64 k, c.v] w fun e w' => e = .returned (.string (strN (cellB k c))) ∧ Below w.heap.size w w' := by
  have hk : k = 1 ∨ k = 2 ∨ k = 3 ∨ k = 4 ∨ k = 5 ∨ k = 6 := by omega
  have hA : ∀ o : Obj, Below w.heap.size w (w.alloc o) := fun o => (Below.refl _ _).alloc (Nat.le_refl _) _
  have HA := hide hA
  clear hA
  rcases hk with rfl | rfl | rfl | rfl | rfl | rfl
  · rw [show cellB 1 c = [if c.b = true then 1 else 0] from rfl]
    obtain ⟨cb, cx, cu, ct, cp, cq⟩ := c
    unfold CD.v clV clA
    simp only
    clear hc hs
    have e1 : strN [1] = ⟨#[1]⟩ := strN_bn ⟨#[1]⟩
    have e0 : strN [0] = ⟨#[0]⟩ := strN_bn ⟨#[0]⟩
    have E1 := hide e1
    have E0 := hide e0
    clear e1 e0
    cases cb
    · rw [if_neg (by simp), E0.out]
      go_enter Tryz.func161, Tryz.ntmps161
      go_wp2_with fail
      go_ret
      exact ⟨rfl, HA.out _⟩
    · rw [if_pos rfl, E1.out]
      go_enter Tryz.func161, Tryz.ntmps161
      go_wp2_with fail
      go_ret
      exact ⟨rfl, HA.out _⟩
  · have K := hide (fun (w : World) => sfixed_any (c.x % 18446744073709551616).toNat 8 (by omega) (by omega) w)
    rw [show cellB 2 c = fixN (c.x % 18446744073709551616).toNat 8 from rfl]
    rw [← wrap_u64] at K
    have hx := hc.x1
    have hx2 := hc.x2
    clear hc hs
    obtain ⟨cb, cx, cu, ct, cp, cq⟩ := c
    unfold CD.v clV clA
    simp only at K hx hx2 ⊢
    go_enter Tryz.func161, Tryz.ntmps161
    go_wp2_with fail
    refine (K.out _).mono ?_
    rintro e w1 ⟨rfl, hb1⟩
    have HB1 := hide ((HA.out _).trans (hb1.mono (by simp)))
    clear hb1
    go_wp2_with fail
    go_ret
    exact ⟨rfl, HB1.out⟩
  · have hu := hc.u1
    have hu2 := hc.u2
    obtain ⟨n, hn⟩ : ∃ n : Nat, c.u = n := ⟨c.u.toNat, by omega⟩
    have K := hide (fun (w : World) => sfixed_any n 8 (by omega) (by omega) w)
    rw [show cellB 3 c = fixN c.u.toNat 8 from rfl, show c.u.toNat = n by omega]
    clear hc hs hu hu2
    obtain ⟨cb, cx, cu, ct, cp, cq⟩ := c
    unfold CD.v clV clA
    simp only at K hn ⊢
    subst hn
    go_enter Tryz.func161, Tryz.ntmps161
    go_wp2_with fail
    refine (K.out _).mono ?_
    rintro e w1 ⟨rfl, hb1⟩
    have HB1 := hide ((HA.out _).trans (hb1.mono (by simp)))
    clear hb1
    go_wp2_with fail
    go_ret
    exact ⟨rfl, HB1.out⟩
  · rw [show cellB 4 c = uvar c.t.size ++ bn c.t from rfl, strN_app_bn]
    have hadd := fun w1 => run_string_add_sum (P := Tryz.prog) w1 (strN (uvar c.t.size)) c.t (by rw [strN_size]; have := uvar_len10 (x := c.t.size) (by omega); omega)
    have hsz : IntKind.u64.wrap (c.t.size : Int) = (c.t.size : Int) := by rw [IntKind.wrap_u64]; omega
    have K := hide (fun w => suvar_any c.t.size (by omega) w)
    clear hc
    obtain ⟨cb, cx, cu, ct, cp, cq⟩ := c
    unfold CD.v clV clA
    simp only at K hadd hsz hs ⊢
    go_enter Tryz.func161, Tryz.ntmps161
    go_wp2_with fail
    go_region_held3 (fun w' => w'.cell? ⟨w.heap.size, 4, none⟩ = some (.string ct)) (first | go_keep | assumption) (first | (go_at_call 61; refine (K.out _).mono ?_; rintro e w2 ⟨rfl, hb2⟩; have hck2 : w2.cell? ⟨w.heap.size, 4, none⟩ = some (.string ct) := (hb2.cell (p := ⟨w.heap.size, 4, none⟩) (by simp)).trans (by simp [go_sem])))
    all_goals
      go_wp2_with fail
      go_ret
      exact ⟨rfl, ((HA.out _).drew).trans (hb2.mono (by simp [World.drew]))⟩
  · rw [show cellB 5 c = uvar c.t.size ++ bn c.t from rfl, strN_app_bn]
    have hadd := fun w1 => run_string_add_sum (P := Tryz.prog) w1 (strN (uvar c.t.size)) c.t (by rw [strN_size]; have := uvar_len10 (x := c.t.size) (by omega); omega)
    have hsz : IntKind.u64.wrap (c.t.size : Int) = (c.t.size : Int) := by rw [IntKind.wrap_u64]; omega
    have K := hide (fun w => suvar_any c.t.size (by omega) w)
    clear hc
    obtain ⟨cb, cx, cu, ct, cp, cq⟩ := c
    unfold CD.v clV clA
    simp only at K hadd hsz hs ⊢
    go_enter Tryz.func161, Tryz.ntmps161
    go_wp2_with fail
    go_region_held3 (fun w' => w'.cell? ⟨w.heap.size, 4, none⟩ = some (.string ct)) (first | go_keep | assumption) (first | (go_at_call 61; refine (K.out _).mono ?_; rintro e w2 ⟨rfl, hb2⟩; have hck2 : w2.cell? ⟨w.heap.size, 4, none⟩ = some (.string ct) := (hb2.cell (p := ⟨w.heap.size, 4, none⟩) (by simp)).trans (by simp [go_sem])))
    all_goals
      go_wp2_with fail
      go_ret
      exact ⟨rfl, ((HA.out _).drew).trans (hb2.mono (by simp [World.drew]))⟩
  · obtain ⟨a, ha, he⟩ := hc.p1
    obtain ⟨b, hb, hf⟩ := hc.q1
    have KP := hide (fun w => spart_any c.p (fi c.p) (by rw [he, fi_int a ha]; exact wh_of a ha) w)
    have KQ := hide (fun w => spart_any c.q (fi c.q) (by rw [hf, fi_int b hb]; exact wh_of b hb) w)
    have hl1 := fi_le ha he
    have hl2 := fi_le hb hf
    have hz1 := hide (fun h : fi c.p = 0 => wh_zero hc.p1 h)
    have hz2 := hide (fun h : fi c.q = 0 => wh_zero hc.q1 h)
    rw [show cellB 6 c = uvar (zz (fi c.p)) ++ uvar (zz (fi c.q)) from rfl, strN_app]
    have hadd := fun w1 => run_string_add_sum (P := Tryz.prog) w1 (strN (uvar (zz (fi c.p)))) (strN (uvar (zz (fi c.q)))) (by rw [strN_size, strN_size]; have := uvar_len10 (zz_lt53 hl1); have := uvar_len10 (zz_lt53 hl2); omega)
    clear hc hs he hf
    obtain ⟨cb, cx, cu, ct, cp, cq⟩ := c
    unfold CD.v clV clA
    simp only at KP KQ hl1 hl2 hz1 hz2 hadd ⊢
    generalize fi cp = n at *
    generalize fi cq = m at *
    have KZ1 := hide (fun w => szig_any n (by omega) (by omega) w)
    have KZ2 := hide (fun w => szig_any m (by omega) (by omega) w)
    have KU1 := hide (fun w => suvar_any (zz n) (zz_lt53 hl1) w)
    have KU2 := hide (fun w => suvar_any (zz m) (zz_lt53 hl2) w)
    have hcs : Hid (((n : Int) == 0) = false ∧ ((m : Int) == 0) = false ∨ (n = 0 ∧ ((m : Int) == 0) = false) ∨ (((n : Int) == 0) = false ∧ m = 0) ∨ (n = 0 ∧ m = 0)) := by
      show _ ∨ _
      by_cases h1 : n = 0 <;> by_cases h2 : m = 0
      · exact .inr (.inr (.inr ⟨h1, h2⟩))
      · exact .inr (.inl ⟨h1, by simp [h2]⟩)
      · exact .inr (.inr (.inl ⟨by simp [h1], h2⟩))
      · exact .inl ⟨by simp [h1], by simp [h2]⟩
    have HADD := hide hadd
    clear hadd
    rcases hcs.out with ⟨g1, g2⟩ | ⟨rfl, g2⟩ | ⟨g1, rfl⟩ | ⟨rfl, rfl⟩
    · have hadd := HADD.out
      go_enter Tryz.func161, Tryz.ntmps161
      go_wp2_with fail
      refine (KP.out _).mono ?_
      rintro e w1 ⟨rfl, rfl⟩
      go_wp2_with fail
      refine (KQ.out _).mono ?_
      rintro e w1 ⟨rfl, rfl⟩
      go_wp2_with fail
      refine (KZ1.out _).mono ?_
      rintro e w1 ⟨rfl, rfl⟩
      go_wp2_with fail
      refine (KU1.out _).mono ?_
      rintro e w1 ⟨rfl, hb1⟩
      have HB1 := hide ((HA.out _).trans (hb1.mono (by simp)))
      clear hb1
      go_wp2_with fail
      refine (KZ2.out _).mono ?_
      rintro e w1 ⟨rfl, rfl⟩
      go_wp2_with fail
      refine (KU2.out _).mono ?_
      rintro e w2 ⟨rfl, hb2⟩
      have HB2 := hide (HB1.out.trans (hb2.mono HB1.out.size))
      clear hb2
      go_wp2_with fail
      go_ret
      exact ⟨rfl, HB2.out⟩
    · have hadd := HADD.out
      have g3 := hz1.out rfl
      go_enter Tryz.func161, Tryz.ntmps161
      go_wp2_with fail
      refine (KP.out _).mono ?_
      rintro e w1 ⟨rfl, rfl⟩
      go_wp2_with fail
      refine (KQ.out _).mono ?_
      rintro e w1 ⟨rfl, rfl⟩
      go_wp2_with fail
      refine (KZ1.out _).mono ?_
      rintro e w1 ⟨rfl, rfl⟩
      go_wp2_with fail
      refine (KU1.out _).mono ?_
      rintro e w1 ⟨rfl, hb1⟩
      have HB1 := hide ((HA.out _).trans (hb1.mono (by simp)))
      clear hb1
      go_wp2_with fail
      refine (KZ2.out _).mono ?_
      rintro e w1 ⟨rfl, rfl⟩
      go_wp2_with fail
      refine (KU2.out _).mono ?_
      rintro e w2 ⟨rfl, hb2⟩
      have HB2 := hide (HB1.out.trans (hb2.mono HB1.out.size))
      clear hb2
      go_wp2_with fail
      go_ret
      exact ⟨rfl, HB2.out⟩
    · have hadd := HADD.out
      have g3 := hz2.out rfl
      go_enter Tryz.func161, Tryz.ntmps161
      go_wp2_with fail
      refine (KP.out _).mono ?_
      rintro e w1 ⟨rfl, rfl⟩
      go_wp2_with fail
      refine (KQ.out _).mono ?_
      rintro e w1 ⟨rfl, rfl⟩
      go_wp2_with fail
      refine (KZ1.out _).mono ?_
      rintro e w1 ⟨rfl, rfl⟩
      go_wp2_with fail
      refine (KU1.out _).mono ?_
      rintro e w1 ⟨rfl, hb1⟩
      have HB1 := hide ((HA.out _).trans (hb1.mono (by simp)))
      clear hb1
      go_wp2_with fail
      refine (KZ2.out _).mono ?_
      rintro e w1 ⟨rfl, rfl⟩
      go_wp2_with fail
      refine (KU2.out _).mono ?_
      rintro e w2 ⟨rfl, hb2⟩
      have HB2 := hide (HB1.out.trans (hb2.mono HB1.out.size))
      clear hb2
      go_wp2_with fail
      go_ret
      exact ⟨rfl, HB2.out⟩
    · have hadd := HADD.out
      have g3 := hz1.out rfl
      have g4 := hz2.out rfl
      go_enter Tryz.func161, Tryz.ntmps161
      go_wp2_with fail
      refine (KP.out _).mono ?_
      rintro e w1 ⟨rfl, rfl⟩
      go_wp2_with fail
      refine (KQ.out _).mono ?_
      rintro e w1 ⟨rfl, rfl⟩
      go_wp2_with fail
      refine (KZ1.out _).mono ?_
      rintro e w1 ⟨rfl, rfl⟩
      go_wp2_with fail
      refine (KU1.out _).mono ?_
      rintro e w1 ⟨rfl, hb1⟩
      have HB1 := hide ((HA.out _).trans (hb1.mono (by simp)))
      clear hb1
      go_wp2_with fail
      refine (KZ2.out _).mono ?_
      rintro e w1 ⟨rfl, rfl⟩
      go_wp2_with fail
      refine (KU2.out _).mono ?_
      rintro e w2 ⟨rfl, hb2⟩
      have HB2 := hide (HB1.out.trans (hb2.mono HB1.out.size))
      clear hb2
      go_wp2_with fail
      go_ret
      exact ⟨rfl, HB2.out⟩
end Go.Proofs.YtfkgmodgkifelaaGreatDoor
namespace Go.Proofs.YtfkgmodgkifelaaGreatDoor
open Go.RowKit

theorem slB_own {w : World} {B : Nat} {v : Value} {l : List Bool} (h : w.ownsRow B 4 1 v l.length (l.map fun b => Value.bool b)) (hl : l.length ≤ maxLen) : SlB w v l := by
  refine ⟨hl, ?_⟩
  rcases Nat.eq_zero_or_pos l.length with h0 | h0
  · rcases h.2 with ⟨rfl, _⟩ | ⟨g, cap, cur, rfl, _⟩
    · exact .inl ⟨h0, none, 0, rfl, fun _ => rfl⟩
    · exact .inl ⟨h0, _, cap, by rw [h0], fun h => by cases h⟩
  · obtain ⟨g, c, rfl⟩ := own_addr h h0
    refine .inr ⟨h0, g, 0, c, rfl, own_capC h, (h.lt g rfl).2, fun i hi => ?_⟩
    have := h.cellAt i (by simpa using hi)
    rw [Nat.zero_add, this]
    simp [List.getD, hi]
set_option maxHeartbeats 2000000 in
set_option maxRecDepth 100000 in
theorem sencodeL (k : Int) (h2 : 2 ≤ k) (h6 : k ≤ 6) (l : List CD) (hl : Wok l) (v : Value) (w : World) (hv : InC w v l) :
    Calls Tryz.prog 148 #[.int .i64 k, v] w fun e w' => e = .returned (.string (strN (l.flatMap (cellB k)))) ∧ Below w.heap.size w w' := by
  obtain ⟨A, ca, rfl, hcell⟩ := hv.form
  have HC := hide hcell
  have HL := hide hl
  have hlen := hl.len
  have hk : ((k : Int) == 1) = false := by rw [beq_eq_false_iff_ne]; omega
  have KP := hide (fun (c : CD) (hc : KG c) (hs : c.t.size ≤ 11000000) (w : World) => scell_all k (by omega) h6 c hc hs w)
  clear hv hcell hl h2 h6
  generalize hn : l.length = n at *
  have HN := hide hn
  clear hn
  go_enter Tryz.func148, Tryz.ntmps148
  go_wp2_with fail
  go_loopw [7, 8] (fun sv iv wr => ∃ i : Nat, i ≤ n ∧ iv = .int .i64 (i : Int) ∧ (∃ S : ByteArray, sv = .string S ∧ Hid (S = strN ((l.take i).flatMap (cellB k)))) ∧ Hid (Below w.heap.size w wr)) (fun _ iv _ => n - (intOf iv).toNat)
  case atStart => exact ⟨0, by omega, rfl, ⟨_, rfl, strN_nil.symm⟩, Below.refl _ _⟩
  case round =>
    obtain ⟨i, hi, rfl, ⟨S, rfl, hS⟩, hb⟩ := hrel
    by_cases hlt : i < n
    · obtain ⟨x, hx⟩ : ∃ x, l[i]? = some x := ⟨l[i]'(by rw [HN.out]; exact hlt), List.getElem?_eq_getElem _⟩
      obtain ⟨g, hA, hg, hat⟩ := HC.out i x hx
      subst hA
      obtain ⟨a0, a1, a2, a3, a4, a5⟩ := hat.below hb.out hg
      have hxm := List.mem_of_getElem? hx
      have hxs : x.t.size ≤ 1100000 := by have := tby_mem hxm; have := HL.out.by_; omega
      have KP2 := hide (KP.out x (HL.out.kg x hxm) (by omega) wr)
      have hcl := cellB_len k (HL.out.kg x hxm)
      have HSN := hide (show S ++ strN (cellB k x) = strN ((l.take (i + 1)).flatMap (cellB k)) from by rw [take_flat k hx, strN_app, hS.out])
      have hadd := fun w1 => run_string_add_sum (P := Tryz.prog) w1 S (strN (cellB k x)) (by have := HL.out.pre i k; rw [hS.out, strN_size, strN_size]; omega)
      have HLT := hide hlt
      clear hx hxm hat hxs hcl
      obtain ⟨xb, xx, xu, xt, xp, xq⟩ := x
      unfold CD.v clV clA at KP2
      simp only at KP2 a0 a1 a2 a3 a4 a5
      have hi0 : (0 : Int) ≤ (i : Int) := by omega
      have hi1 : (i : Int) < (n : Int) := by omega
      generalize strN (cellB k ⟨xb, xx, xu, xt, xp, xq⟩) = Y at *
      clear hlt
      go_wp2_with fail
      refine KP2.out.mono ?_
      rintro e w2 ⟨rfl, hb2⟩
      have HB2 := hide (hb.out.trans (hb2.mono hb.out.size))
      clear hb2 a0 a1 a2 a3 a4 a5 KP2
      go_wp2_with fail
      go_roundw
      case rel => exact ⟨i + 1, by have := HLT.out; omega, by go_num, ⟨_, rfl, HSN.out⟩, HB2.out⟩
      case measure => have := HLT.out; simp [intOf]; omega
    · obtain rfl : n = i := by omega
      have hS2 := hS.out
      rw [List.take_of_length_le (by rw [HN.out]; exact Nat.le_refl _)] at hS2
      have HS2 := hide hS2
      clear hlt hi hS hS2
      go_wp2_with fail
      go_ret
      exact ⟨by rw [← HS2.out]; rfl, hb.out⟩
set_option maxHeartbeats 2000000 in
set_option maxRecDepth 100000 in
theorem sencode1 (l : List CD) (hlen : l.length ≤ 10000) (v : Value) (w : World) (hv : InC w v l) :
    Calls Tryz.prog 148 #[.int .i64 1, v] w fun e w' => e = .returned (.string (strN (packL (l.map (·.b))))) ∧ Below w.heap.size w w' := by
  obtain ⟨A, ca, rfl, hcell⟩ := hv.form
  have HC := hide hcell
  have KP := hide (fun (v : Value) (w : World) h => refpack_any (l.map (·.b)) (by simp; omega) v w h)
  have KS := hide (fun (w : World) (v : Value) (B : Nat) h => slB_own (w := w) (B := B) (v := v) (l := l.map (·.b)) h (by unfold maxLen; simp; omega))
  obtain ⟨i0, hi, hz0, hz1, hz2⟩ := info_parts info_bool
  clear hv hcell
  rw [List.length_map] at KS
  generalize hn : l.length = n at *
  have HN := hide hn
  clear hn
  go_enter Tryz.func148, Tryz.ntmps148
  go_wp2_with fail
  go_loopw [5, 6] (fun bv iv wr => ∃ i : Nat, i ≤ n ∧ iv = .int .i64 (i : Int) ∧ Hid (wr.ownsRow w.heap.size 4 1 bv i (((l.take i).map (·.b)).map fun b => Value.bool b)) ∧ Hid (Below w.heap.size w wr)) (fun _ iv _ => n - (intOf iv).toNat)
  case atStart => exact ⟨0, by omega, rfl, World.ownsRow_nil _ _ _ _, Below.refl _ _⟩
  case round =>
    obtain ⟨i, hin, rfl, how, hb⟩ := hrel
    obtain ⟨OA, oc, rfl⟩ := own_form3 how.out
    by_cases hlt : i < n
    · obtain ⟨x, hx⟩ : ∃ x, l[i]? = some x := ⟨l[i]'(by rw [HN.out]; exact hlt), List.getElem?_eq_getElem _⟩
      obtain ⟨g, hA, hg, hat⟩ := HC.out i x hx
      subst hA
      obtain ⟨a0, a1, a2, a3, a4, a5⟩ := hat.below hb.out hg
      have HTK := hide (show ((l.take (i + 1)).map (·.b)).map (fun b => Value.bool b) = ((l.take i).map (·.b)).map (fun b => Value.bool b) ++ [.bool x.b] from by
        rw [List.take_add_one, hx]; simp)
      have HLT := hide hlt
      clear hx hat
      obtain ⟨xb, xx, xu, xt, xp, xq⟩ := x
      simp only at a0 a1 a2 a3 a4 a5
      have hi0 : (0 : Int) ≤ (i : Int) := by omega
      have hi1 : (i : Int) < (n : Int) := by omega
      have h16 : i < 10000 := by omega
      have hbs := hb.out.size
      have HO2 := hide (fun o => how.out.alloc o)
      clear hlt
      go_wp2_with (at_builtin; refine wpList_append_own_at _ rfl _ _ 50 rfl w.heap.size 4 i0 _ 1 1 Tryz.underlying50 hi hz0 hz1 hz2 rfl (by decide) _ _ _ rfl (HO2.out _) ⟨wr.heap.size, 0, none⟩ 1 1 [.bool xb] rfl rfl (cell_one_new _ _ _) (by simp [Value.oneCell']) (by simp only [maxLen]; omega) (by omega) (by simp; omega) ?_; intro v1 w2 hown1 hgrow1 _ hat1)
      have HB2 := hide ((hb.out.alloc hb.out.size _).grown hgrow1 (by simp; omega) (fun z hz => (how.out.lt z hz).1))
      have HO3 := hide hown1
      clear hown1 hgrow1 hat1
      go_roundw
      case rel => exact ⟨i + 1, by have := HLT.out; omega, by go_num, by rw [HTK.out]; exact HO3.out, HB2.out⟩
      case measure => have := HLT.out; simp [intOf]; omega
    · obtain rfl : n = i := by omega
      have ho := how.out
      rw [List.take_of_length_le (by rw [HN.out]; exact Nat.le_refl _)] at ho
      have hsl := KS.out wr _ _ ho
      have K2 := hide (KP.out _ _ hsl)
      clear hlt hin how ho hsl
      go_wp2_with fail
      refine K2.out.mono ?_
      rintro e w2 ⟨rfl, hb2⟩
      have HB2 := hide (hb.out.trans (hb2.mono hb.out.size))
      clear hb2
      go_wp2_with fail
      go_ret
      exact ⟨rfl, HB2.out⟩
theorem sencode_all (k : Int) (h1 : 1 ≤ k) (h6 : k ≤ 6) (l : List CD) (hl : Wok l) (v : Value) (w : World) (hv : InC w v l) :
    Calls Tryz.prog 148 #[.int .i64 k, v] w fun e w' => e = .returned (.string (strN (encP k l))) ∧ Below w.heap.size w w' := by
  unfold encP
  by_cases hk : k = 1
  · subst hk
    rw [if_pos rfl]
    exact sencode1 l hl.len v w hv
  · rw [if_neg hk]
    exact sencodeL k (by omega) h6 l hl v w hv
end Go.Proofs.YtfkgmodgkifelaaGreatDoor
