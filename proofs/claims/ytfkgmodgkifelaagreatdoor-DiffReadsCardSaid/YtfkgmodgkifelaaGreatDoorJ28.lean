/- Columns: the document's bytes of a cell, and of cells one behind the other. Columns: the document's cells by a dictionary. -/
import Derived.Test.YtfkgmodgkifelaaGreatDoorJ20
import Derived.Test.YtfkgmodgkifelaaGreatDoorJ11
import Derived.Deep.RegionHeld3
import Derived.Maps.AppendAt
import Derived.Test.YtfkgmodgkifelaaGreatDoorJ26
namespace Go.Proofs.YtfkgmodgkifelaaGreatDoor
open Go.RowKit

theorem strN_app (a b : List Nat) : strN (a ++ b) = strN a ++ strN b := by
  unfold strN
  rw [List.map_append]
  apply ByteArray.ext
  apply Array.ext'
  rw [strOfNums_data, List.map_append]
  simp [strOfNums]
theorem strN_app_bn (a : List Nat) (s : ByteArray) : strN (a ++ bn s) = strN a ++ s := by rw [strN_app, strN_bn]
set_option maxHeartbeats 1000000 in
set_option maxRecDepth 100000 in
theorem spart_any (x : Nat) (n : Int) (h : Wh x n) (w : World) :
    Calls Tryz.prog 172 #[.float .f64 x] w fun e w' => e = .returned (.int .i64 n) ∧ w = w' := by
  have h1 := h.ge
  have h2 := h.le
  have h3 := h.fi
  have h4 := fun w => run_convert_float_int (P := Tryz.prog) w 153 2 .f64 .i64 x n (by kernel_rfl) Tryz.underlying2 h.ti
  clear h
  go_enter Tryz.func172, Tryz.ntmps172
  go_wp2_with fail
  go_ret
  exact ⟨rfl, rfl⟩
theorem wh_zero {x : Nat} (hx : ∃ a : Int, a.natAbs ≤ 9007199254740992 ∧ x = floatOfInt .f64 a) (hn : fi x = 0) : (FloatKind.f64.format.order x 0 != some .eq) = false := by
  obtain ⟨a, ha, he⟩ := hx
  rw [he, fi_int a ha] at hn
  subst hn
  rw [he, f_zero]
  rfl
set_option maxHeartbeats 2000000 in
set_option maxRecDepth 100000 in
theorem scell_all (k : Int) (h1 : 1 ≤ k) (h6 : k ≤ 6) (c : CD) (hc : KG c) (hs : c.t.size ≤ 11000000) (w : World) :
    Calls Tryz.prog 161 #[.int .i64 k, c.v] w fun e w' => e = .returned (.string (strN (cellB k c))) ∧ Below w.heap.size w w' := by
  have hk : k = 1 ∨ k = 2 ∨ k = 3 ∨ k = 4 ∨ k = 5 ∨ k = 6 := by omega
  have hA : ∀ o : Obj, Below w.heap.size w (w.alloc o) := fun o => (Below.refl _ _).alloc (Nat.le_refl _) _
  have HA := hide hA
  clear hA
  rcases hk with rfl | rfl | rfl | rfl | rfl | rfl
  · rw [show cellB 1 c = [if c.b = true then 1 else 0] from rfl]
    obtain ⟨cb, cx, cu, ct, cp, cq⟩ := c
    unfold CD.v clV clA
    simp only
    clear hc hs
    have e1 : strN [1] = ⟨#[1]⟩ := strN_bn ⟨#[1]⟩
    have e0 : strN [0] = ⟨#[0]⟩ := strN_bn ⟨#[0]⟩
    have E1 := hide e1
    have E0 := hide e0
    clear e1 e0
    cases cb
    · rw [if_neg (by simp), E0.out]
      go_enter Tryz.func161, Tryz.ntmps161
      go_wp2_with fail
      go_ret
      exact ⟨rfl, HA.out _⟩
    · rw [if_pos rfl, E1.out]
      go_enter Tryz.func161, Tryz.ntmps161
      go_wp2_with fail
      go_ret
      exact ⟨rfl, HA.out _⟩
  · have K := hide (fun (w : World) => sfixed_any (c.x % 18446744073709551616).toNat 8 (by omega) (by omega) w)
    rw [show cellB 2 c = fixN (c.x % 18446744073709551616).toNat 8 from rfl]
    rw [← wrap_u64] at K
    have hx := hc.x1
    have hx2 := hc.x2
    clear hc hs
    obtain ⟨cb, cx, cu, ct, cp, cq⟩ := c
    unfold CD.v clV clA
    simp only at K hx hx2 ⊢
    go_enter Tryz.func161, Tryz.ntmps161
    go_wp2_with fail
    refine (K.out _).mono ?_
    rintro e w1 ⟨rfl, hb1⟩
    have HB1 := hide ((HA.out _).trans (hb1.mono (by simp)))
    clear hb1
    go_wp2_with fail
    go_ret
    exact ⟨rfl, HB1.out⟩
  · have hu := hc.u1
    have hu2 := hc.u2
    obtain ⟨n, hn⟩ : ∃ n : Nat, c.u = n := ⟨c.u.toNat, by omega⟩
    have K := hide (fun (w : World) => sfixed_any n 8 (by omega) (by omega) w)
    rw [show cellB 3 c = fixN c.u.toNat 8 from rfl, show c.u.toNat = n by omega]
    clear hc hs hu hu2
    obtain ⟨cb, cx, cu, ct, cp, cq⟩ := c
    unfold CD.v clV clA
    simp only at K hn ⊢
    subst hn
    go_enter Tryz.func161, Tryz.ntmps161
    go_wp2_with fail
    refine (K.out _).mono ?_
    rintro e w1 ⟨rfl, hb1⟩
    have HB1 := hide ((HA.out _).trans (hb1.mono (by simp)))
    clear hb1
    go_wp2_with fail
    go_ret
    exact ⟨rfl, HB1.out⟩
  · rw [show cellB 4 c = uvar c.t.size ++ bn c.t from rfl, strN_app_bn]
    have hadd := fun w1 => run_string_add_sum (P := Tryz.prog) w1 (strN (uvar c.t.size)) c.t (by rw [strN_size]; have := uvar_len10 (x := c.t.size) (by omega); omega)
    have hsz : IntKind.u64.wrap (c.t.size : Int) = (c.t.size : Int) := by rw [IntKind.wrap_u64]; omega
    have K := hide (fun w => suvar_any c.t.size (by omega) w)
    clear hc
    obtain ⟨cb, cx, cu, ct, cp, cq⟩ := c
    unfold CD.v clV clA
    simp only at K hadd hsz hs ⊢
    go_enter Tryz.func161, Tryz.ntmps161
    go_wp2_with fail
    go_region_held3 (fun w' => w'.cell? ⟨w.heap.size, 4, none⟩ = some (.string ct)) (first | go_keep | assumption) (first | (go_at_call 61; refine (K.out _).mono ?_; rintro e w2 ⟨rfl, hb2⟩; have hck2 : w2.cell? ⟨w.heap.size, 4, none⟩ = some (.string ct) := (hb2.cell (p := ⟨w.heap.size, 4, none⟩) (by simp)).trans (by simp [go_sem])))
    all_goals
      go_wp2_with fail
      go_ret
      exact ⟨rfl, ((HA.out _).drew).trans (hb2.mono (by simp [World.drew]))⟩
  · rw [show cellB 5 c = uvar c.t.size ++ bn c.t from rfl, strN_app_bn]
    have hadd := fun w1 => run_string_add_sum (P := Tryz.prog) w1 (strN (uvar c.t.size)) c.t (by rw [strN_size]; have := uvar_len10 (x := c.t.size) (by omega); omega)
    have hsz : IntKind.u64.wrap (c.t.size : Int) = (c.t.size : Int) := by rw [IntKind.wrap_u64]; omega
    have K := hide (fun w => suvar_any c.t.size (by omega) w)
    clear hc
    obtain ⟨cb, cx, cu, ct, cp, cq⟩ := c
    unfold CD.v clV clA
    simp only at K hadd hsz hs ⊢
    go_enter Tryz.func161, Tryz.ntmps161
    go_wp2_with fail
    go_region_held3 (fun w' => w'.cell? ⟨w.heap.size, 4, none⟩ = some (.string ct)) (first | go_keep | assumption) (first | (go_at_call 61; refine (K.out _).mono ?_; rintro e w2 ⟨rfl, hb2⟩; have hck2 : w2.cell? ⟨w.heap.size, 4, none⟩ = some (.string ct) := (hb2.cell (p := ⟨w.heap.size, 4, none⟩) (by simp)).trans (by simp [go_sem])))
    all_goals
      go_wp2_with fail
      go_ret
      exact ⟨rfl, ((HA.out _).drew).trans (hb2.mono (by simp [World.drew]))⟩
  · obtain ⟨a, ha, he⟩ := hc.p1
    obtain ⟨b, hb, hf⟩ := hc.q1
    have KP := hide (fun w => spart_any c.p (fi c.p) (by rw [he, fi_int a ha]; exact wh_of a ha) w)
    have KQ := hide (fun w => spart_any c.q (fi c.q) (by rw [hf, fi_int b hb]; exact wh_of b hb) w)
    have hl1 := fi_le ha he
    have hl2 := fi_le hb hf
    have hz1 := hide (fun h : fi c.p = 0 => wh_zero hc.p1 h)
    have hz2 := hide (fun h : fi c.q = 0 => wh_zero hc.q1 h)
    rw [show cellB 6 c = uvar (zz (fi c.p)) ++ uvar (zz (fi c.q)) from rfl, strN_app]
    have hadd := fun w1 => run_string_add_sum (P := Tryz.prog) w1 (strN (uvar (zz (fi c.p)))) (strN (uvar (zz (fi c.q)))) (by rw [strN_size, strN_size]; have := uvar_len10 (zz_lt53 hl1); have := uvar_len10 (zz_lt53 hl2); omega)
    clear hc hs he hf
    obtain ⟨cb, cx, cu, ct, cp, cq⟩ := c
    unfold CD.v clV clA
    simp only at KP KQ hl1 hl2 hz1 hz2 hadd ⊢
    generalize fi cp = n at *
    generalize fi cq = m at *
    have KZ1 := hide (fun w => szig_any n (by omega) (by omega) w)
    have KZ2 := hide (fun w => szig_any m (by omega) (by omega) w)
    have KU1 := hide (fun w => suvar_any (zz n) (zz_lt53 hl1) w)
    have KU2 := hide (fun w => suvar_any (zz m) (zz_lt53 hl2) w)
    have hcs : Hid (((n : Int) == 0) = false ∧ ((m : Int) == 0) = false ∨ (n = 0 ∧ ((m : Int) == 0) = false) ∨ (((n : Int) == 0) = false ∧ m = 0) ∨ (n = 0 ∧ m = 0)) := by
      show _ ∨ _
      by_cases h1 : n = 0 <;> by_cases h2 : m = 0
      · exact .inr (.inr (.inr ⟨h1, h2⟩))
      · exact .inr (.inl ⟨h1, by simp [h2]⟩)
      · exact .inr (.inr (.inl ⟨by simp [h1], h2⟩))
      · exact .inl ⟨by simp [h1], by simp [h2]⟩
    have HADD := hide hadd
    clear hadd
    rcases hcs.out with ⟨g1, g2⟩ | ⟨rfl, g2⟩ | ⟨g1, rfl⟩ | ⟨rfl, rfl⟩
    · have hadd := HADD.out
      go_enter Tryz.func161, Tryz.ntmps161
      go_wp2_with fail
      refine (KP.out _).mono ?_
      rintro e w1 ⟨rfl, rfl⟩
      go_wp2_with fail
      refine (KQ.out _).mono ?_
      rintro e w1 ⟨rfl, rfl⟩
      go_wp2_with fail
      refine (KZ1.out _).mono ?_
      rintro e w1 ⟨rfl, rfl⟩
      go_wp2_with fail
      refine (KU1.out _).mono ?_
      rintro e w1 ⟨rfl, hb1⟩
      have HB1 := hide ((HA.out _).trans (hb1.mono (by simp)))
      clear hb1
      go_wp2_with fail
      refine (KZ2.out _).mono ?_
      rintro e w1 ⟨rfl, rfl⟩
      go_wp2_with fail
      refine (KU2.out _).mono ?_
      rintro e w2 ⟨rfl, hb2⟩
      have HB2 := hide (HB1.out.trans (hb2.mono HB1.out.size))
      clear hb2
      go_wp2_with fail
      go_ret
      exact ⟨rfl, HB2.out⟩
    · have hadd := HADD.out
      have g3 := hz1.out rfl
      go_enter Tryz.func161, Tryz.ntmps161
      go_wp2_with fail
      refine (KP.out _).mono ?_
      rintro e w1 ⟨rfl, rfl⟩
      go_wp2_with fail
      refine (KQ.out _).mono ?_
      rintro e w1 ⟨rfl, rfl⟩
      go_wp2_with fail
      refine (KZ1.out _).mono ?_
      rintro e w1 ⟨rfl, rfl⟩
      go_wp2_with fail
      refine (KU1.out _).mono ?_
      rintro e w1 ⟨rfl, hb1⟩
      have HB1 := hide ((HA.out _).trans (hb1.mono (by simp)))
      clear hb1
      go_wp2_with fail
      refine (KZ2.out _).mono ?_
      rintro e w1 ⟨rfl, rfl⟩
      go_wp2_with fail
      refine (KU2.out _).mono ?_
      rintro e w2 ⟨rfl, hb2⟩
      have HB2 := hide (HB1.out.trans (hb2.mono HB1.out.size))
      clear hb2
      go_wp2_with fail
      go_ret
      exact ⟨rfl, HB2.out⟩
    · have hadd := HADD.out
      have g3 := hz2.out rfl
      go_enter Tryz.func161, Tryz.ntmps161
      go_wp2_with fail
      refine (KP.out _).mono ?_
      rintro e w1 ⟨rfl, rfl⟩
      go_wp2_with fail
      refine (KQ.out _).mono ?_
      rintro e w1 ⟨rfl, rfl⟩
      go_wp2_with fail
      refine (KZ1.out _).mono ?_
      rintro e w1 ⟨rfl, rfl⟩
      go_wp2_with fail
      refine (KU1.out _).mono ?_
      rintro e w1 ⟨rfl, hb1⟩
      have HB1 := hide ((HA.out _).trans (hb1.mono (by simp)))
      clear hb1
      go_wp2_with fail
      refine (KZ2.out _).mono ?_
      rintro e w1 ⟨rfl, rfl⟩
      go_wp2_with fail
      refine (KU2.out _).mono ?_
      rintro e w2 ⟨rfl, hb2⟩
      have HB2 := hide (HB1.out.trans (hb2.mono HB1.out.size))
      clear hb2
      go_wp2_with fail
      go_ret
      exact ⟨rfl, HB2.out⟩
    · have hadd := HADD.out
      have g3 := hz1.out rfl
      have g4 := hz2.out rfl
      go_enter Tryz.func161, Tryz.ntmps161
      go_wp2_with fail
      refine (KP.out _).mono ?_
      rintro e w1 ⟨rfl, rfl⟩
      go_wp2_with fail
      refine (KQ.out _).mono ?_
      rintro e w1 ⟨rfl, rfl⟩
      go_wp2_with fail
      refine (KZ1.out _).mono ?_
      rintro e w1 ⟨rfl, rfl⟩
      go_wp2_with fail
      refine (KU1.out _).mono ?_
      rintro e w1 ⟨rfl, hb1⟩
      have HB1 := hide ((HA.out _).trans (hb1.mono (by simp)))
      clear hb1
      go_wp2_with fail
      refine (KZ2.out _).mono ?_
      rintro e w1 ⟨rfl, rfl⟩
      go_wp2_with fail
      refine (KU2.out _).mono ?_
      rintro e w2 ⟨rfl, hb2⟩
      have HB2 := hide (HB1.out.trans (hb2.mono HB1.out.size))
      clear hb2
      go_wp2_with fail
      go_ret
      exact ⟨rfl, HB2.out⟩
end Go.Proofs.YtfkgmodgkifelaaGreatDoor
namespace Go.Proofs.YtfkgmodgkifelaaGreatDoor
open Go.RowKit

theorem dmk_some {k : Int} {l : List CD} {i : Nat} {c : CD} (h : l[i]? = some c) (d : List CD) (p : List Nat) {j : Nat} (hj : plcOf k d c = some j) :
    dmk k (l.drop i) d p = dmk k (l.drop (i + 1)) d (p ++ [j]) := by
  have hi := (List.getElem?_eq_some_iff.1 h).1
  rw [List.drop_eq_getElem_cons hi, (List.getElem?_eq_some_iff.1 h).2, dmk, hj]
theorem dmk_none {k : Int} {l : List CD} {i : Nat} {c : CD} (h : l[i]? = some c) (d : List CD) (p : List Nat) (hj : plcOf k d c = none) :
    dmk k (l.drop i) d p = dmk k (l.drop (i + 1)) (d ++ [c]) (p ++ [d.length]) := by
  have hi := (List.getElem?_eq_some_iff.1 h).1
  rw [List.drop_eq_getElem_cons hi, (List.getElem?_eq_some_iff.1 h).2, dmk, hj]
theorem plcOf_none {k : Int} {d : List CD} {c : CD} (h : d.any (fun x => ceq k x c) = false) : plcOf k d c = none := by
  unfold plcOf
  rw [List.findIdx?_eq_none_iff]
  intro x hx
  rw [List.any_eq_false] at h
  simpa using h x hx
/-- What holds of the different cells and of the places. -/
structure DInv (n m : Nat) (d : List CD) (p : List Nat) : Prop where
  kg : ∀ c ∈ d, KG c
  ts : ∀ c ∈ d, c.t.size ≤ 1100000
  len : d.length ≤ n
  tby : tby d ≤ m
  pl : p.length = n
  pb : ∀ j ∈ p, j ≤ n
theorem dinv_old {n m : Nat} {d : List CD} {p : List Nat} (h : DInv n m d p) (c : CD) {j : Nat} (hj : j < d.length) : DInv (n + 1) (m + (20 + c.t.size)) d (p ++ [j]) :=
  ⟨h.kg, h.ts, by have := h.len; omega, by have := h.tby; omega, by rw [List.length_append, h.pl]; rfl, fun x hx => by
    rcases List.mem_append.1 hx with h2 | h2
    · have := h.pb x h2; omega
    · rw [List.mem_singleton] at h2; have := h.len; omega⟩
theorem dinv_new {n m : Nat} {d : List CD} {p : List Nat} (h : DInv n m d p) {c : CD} (hc : KG c) (hs : c.t.size ≤ 1100000) : DInv (n + 1) (m + (20 + c.t.size)) (d ++ [c]) (p ++ [d.length]) := by
  refine ⟨fun x hx => ?_, fun x hx => ?_, by rw [List.length_append]; have := h.len; simp; omega, by rw [tby_append, tby_cons]; have := h.tby; have e : Proofs.YtfkgmodgkifelaaGreatDoor.tby [] = 0 := rfl; omega, by rw [List.length_append, h.pl]; rfl, fun x hx => ?_⟩
  · rcases List.mem_append.1 hx with h2 | h2
    · exact h.kg x h2
    · rw [List.mem_singleton] at h2; rw [h2]; exact hc
  · rcases List.mem_append.1 hx with h2 | h2
    · exact h.ts x h2
    · rw [List.mem_singleton] at h2; rw [h2]; exact hs
  · rcases List.mem_append.1 hx with h2 | h2
    · have := h.pb x h2; omega
    · rw [List.mem_singleton] at h2; have := h.len; omega
theorem plcOf_lt {k : Int} {d : List CD} {c : CD} {j : Nat} (h : plcOf k d c = some j) : j < d.length := by
  unfold plcOf at h
  rw [List.findIdx?_eq_some_iff_getElem] at h
  exact h.1
theorem dmk_inv (k : Int) : ∀ (l d : List CD) (p : List Nat) (n m : Nat), DInv n m d p → (∀ c ∈ l, KG c ∧ c.t.size ≤ 1100000) → DInv (n + l.length) (m + tby l) (dmk k l d p).1 (dmk k l d p).2 := by
  intro l
  induction l with
  | nil => intro d p n m h _; exact h
  | cons c l ih =>
    intro d p n m h hl
    have hc := hl c (by simp)
    have hl2 : ∀ x ∈ l, KG x ∧ x.t.size ≤ 1100000 := fun x hx => hl x (by simp [hx])
    have e1 : n + (c :: l).length = (n + 1) + l.length := by simp; omega
    have e2 : m + tby (c :: l) = (m + (20 + c.t.size)) + tby l := by rw [tby_cons]; omega
    rw [e1, e2, dmk]
    cases hq : plcOf k d c with
    | some j => exact ih d (p ++ [j]) _ _ (dinv_old h c (plcOf_lt hq)) hl2
    | none => exact ih (d ++ [c]) (p ++ [d.length]) _ _ (dinv_new h hc.1 hc.2) hl2
theorem dinv_nil : DInv 0 0 [] [] := ⟨by simp, by simp, by simp, by simp [tby], rfl, by simp⟩
def intsC (p : List Nat) : List Value := p.map fun j : Nat => Value.int .i64 (j : Int)
theorem intsC_snoc (p : List Nat) (j : Nat) : intsC (p ++ [j]) = intsC p ++ [.int .i64 (j : Int)] := by simp [intsC]
theorem info_int : (Tryz.prog.info? 3).map (fun i => (i.zero, i.size, i.bytes)) = some (some (.int .i64 0), 1, 8) := by kernel_rfl
/-- How the document makes a dictionary. -/
def SMkPost (w : World) (r : List CD × List Nat) (e : Ending) (w' : World) : Prop :=
  ∃ dv pv, e = .returned (.tuple #[dv, pv]) ∧ w'.ownsRow w.heap.size 45 6 dv r.1.length (r.1.flatMap cellsC) ∧ w'.ownsRow w.heap.size 3 1 pv r.2.length (intsC r.2) ∧ Below w.heap.size w w'
set_option maxHeartbeats 4000000 in
set_option maxRecDepth 100000 in
theorem smake_any (k : Int) (h1 : 1 ≤ k) (h6 : k ≤ 6) (l : List CD) (hl : Wok l) (v : Value) (w : World) (hv : InC w v l) :
    Calls Tryz.prog 167 #[.int .i64 k, v] w (SMkPost w (dmk k l [] [])) := by
  obtain ⟨A, ca, rfl, hcell⟩ := hv.form
  have HC := hide hcell
  have hlen := hl.len
  have KP := hide (fun l hl c B V w ho => splace_any k h1 h6 l hl c B V w ho)
  obtain ⟨i0, hi, hz0, hz1, hz2⟩ := info_parts info_cC
  obtain ⟨j0, hj, hy0, hy1, hy2⟩ := info_parts info_int
  clear hv hcell hl h1 h6
  generalize hn : l.length = n at *
  have HN := hide hn
  clear hn
  obtain ⟨RES, hRES⟩ : ∃ RES, dmk k l [] [] = RES := ⟨_, rfl⟩
  rw [hRES]
  have HRES := hide hRES
  clear hRES
  go_enter Tryz.func167, Tryz.ntmps167
  go_wp2_with fail
  go_loopw [6, 7, 8] (fun dv pv iv wr => ∃ (i : Nat) (d : List CD) (p : List Nat), i ≤ n ∧ iv = .int .i64 (i : Int) ∧ Hid (dmk k (l.drop i) d p = RES) ∧ Hid (d.length ≤ i) ∧ Hid (p.length = i) ∧ Hid (wr.ownsRow w.heap.size 45 6 dv d.length (d.flatMap cellsC)) ∧ Hid (wr.ownsRow w.heap.size 3 1 pv p.length (intsC p)) ∧ Hid (Below w.heap.size w wr)) (fun _ _ iv _ => n - (intOf iv).toNat)
  case atStart => exact ⟨0, [], [], by omega, rfl, HRES.out, Nat.le_refl _, rfl, World.ownsRow_nil _ _ _ _, World.ownsRow_nil _ _ _ _, Below.refl _ _⟩
  case round =>
    obtain ⟨i, d, p, hin, rfl, hgo, hdl, hpl, hod, hop, hb⟩ := hrel
    by_cases hlt : i < n
    · obtain ⟨x, hx⟩ : ∃ x, l[i]? = some x := ⟨l[i]'(by rw [HN.out]; exact hlt), List.getElem?_eq_getElem _⟩
      obtain ⟨g, hA, hg, hat⟩ := HC.out i x hx
      subst hA
      obtain ⟨a0, a1, a2, a3, a4, a5⟩ := hat.below hb.out hg
      have HGO := hide (show (∀ j, plcOf k d x = some j → dmk k (l.drop (i + 1)) d (p ++ [j]) = RES) ∧ (plcOf k d x = none → dmk k (l.drop (i + 1)) (d ++ [x]) (p ++ [d.length]) = RES) from ⟨fun j h => by rw [← dmk_some hx d p h]; exact hgo.out, fun h => by rw [← dmk_none hx d p h]; exact hgo.out⟩)
      have KP2 := hide (KP.out d (by have := hdl.out; omega) x _ _ wr hod.out)
      have hdi : d.length ≤ 10000 := by have := hdl.out; omega
      have hpi : p.length ≤ 10000 := by have := hpl.out; omega
      obtain ⟨DA, dc, rfl⟩ := own_form3 hod.out
      obtain ⟨PA, pc, rfl⟩ := own_form3 hop.out
      obtain ⟨xb, xx, xu, xt, xp, xq⟩ := x
      unfold CD.v clV clA at KP2
      simp only at KP2 a0 a1 a2 a3 a4 a5
      have hi0 : (0 : Int) ≤ (i : Int) := by omega
      have hi1 : (i : Int) < (n : Int) := by omega
      have HLT := hide hlt
      have HG := hide hg
      clear hx hat hgo hlt
      generalize hdL : d.length = dn at *
      have HDL := hide hdL
      generalize hpL : p.length = pn at *
      have HPL := hide hpL
      clear hdL hpL
      go_wp2_with fail
      refine KP2.out.mono ?_
      rintro e w2 (⟨hno, rfl, hb2⟩ | ⟨hyes, j, hj9, hfi, rfl, hb2⟩)
      · have HB2 := hide (hb.out.trans (hb2.mono hb.out.size))
        have HD2 := hide (own_below hod.out hb2)
        have HP2 := hide (own_below hop.out hb2)
        have HG2 := hide (HGO.out.2 (plcOf_none hno))
        obtain ⟨a0, a1, a2, a3, a4, a5⟩ := (⟨a0, a1, a2, a3, a4, a5⟩ : AtC wr g (i * 6) xb xx xu xt xp xq).below hb2 (Nat.lt_of_lt_of_le HG.out hb.out.size)
        have hB2 := HB2.out.size
        have HDA := hide (fun o => HD2.out.alloc o)
        have NB := hide (fun cs t => (Blk.new w2 cs t).out)
        have HPF := hide (fun (w3 : World) (ob : Obj) (hg : (w2.alloc ob).grownBy w3 (Value.slice DA dn dc).ownBlock) => show w3.ownsRow w.heap.size 3 1 (.slice PA pn pc) pn (intsC p) from own_fr (HP2.out.alloc _) (Fr.of_grown hg) (fun k hk h => own_ne_own HD2.out HP2.out (by decide) k h.symm hk))
        clear hno hb2 HGO KP2
        go_wp2_with (at_builtin; first
          | (refine wpList_append_own_at _ rfl _ _ 25 rfl w.heap.size 45 i0 _ 6 56 Tryz.underlying25 hi hz0 hz1 hz2 rfl (by decide) _ _ _ rfl (HDA.out _) ⟨w2.heap.size, 0, none⟩ 1 1 [.bool false, .bool xb, .int .i64 xx, .int .u64 xu, .string xt, .complex .f64 xp xq] rfl rfl (World.news_of_block (NB.out _ _)) (by simp [Value.oneCell']) (by simp only [maxLen]; omega) (by omega) (by simp; omega) ?_; intro v1 w3 hown1 hgrow1 _ hat1; have HP3 := hide (HPF.out w3 _ hgrow1); have HB3 := hide ((HB2.out.alloc HB2.out.size _).grown hgrow1 (by simp; omega) (fun q hq => (HD2.out.lt q hq).1)); have hB3 := HB3.out.size; have HO1 := hide hown1; clear hown1 hgrow1 hat1)
          | (refine wpList_append_own_at _ rfl _ _ 161 rfl w.heap.size 3 j0 _ 1 8 Tryz.underlying161 hj hy0 hy1 hy2 rfl (by decide) _ _ _ rfl (HP3.out.alloc _) ⟨w3.heap.size, 0, none⟩ 1 1 [.int .i64 (dn : Int)] rfl rfl (cell_one_new _ _ _) (by simp [Value.oneCell']) (by simp only [maxLen]; omega) (by omega) (by simp; omega) ?_; intro v2 w4 hown2 hgrow2 _ hat2))
        have HB4 := hide ((HB3.out.alloc HB3.out.size _).grown hgrow2 (by simp; omega) (fun q hq => (HP3.out.lt q hq).1))
        have HO4 := hide (own_fr (HO1.out.alloc _) (Fr.of_grown hgrow2) (fun k hk h => own_ne_own HO1.out HP3.out (by decide) k hk h.symm))
        go_roundw
        case rel =>
          refine ⟨i + 1, d ++ [(⟨xb, xx, xu, xt, xp, xq⟩ : CD)], p ++ [dn], by have := HLT.out; omega, by go_num, HG2.out, ?_, ?_, ?_, ?_, HB4.out⟩
          · show (d ++ _).length ≤ i + 1
            have := hdl.out; have := HDL.out; simp; omega
          · show (p ++ _).length = i + 1
            have := hpl.out; have := HPL.out; simp; omega
          · have e1 : (d ++ [(⟨xb, xx, xu, xt, xp, xq⟩ : CD)]).length = dn + 1 := by have := HDL.out; simp; omega
            show World.ownsRow _ _ _ _ _ _ _
            rw [e1, cellsC_snoc]
            exact HO4.out
          · have e1 : (p ++ [dn]).length = pn + 1 := by have := HPL.out; simp; omega
            show World.ownsRow _ _ _ _ _ _ _
            rw [e1, intsC_snoc]
            exact hown2
        case measure => have := HLT.out; simp [intOf]; omega
      · have HB2 := hide (hb.out.trans (hb2.mono hb.out.size))
        have HD2 := hide (own_below hod.out hb2)
        have HP2 := hide (own_below hop.out hb2)
        have HG2 := hide (HGO.out.1 j hfi)
        obtain ⟨a0, a1, a2, a3, a4, a5⟩ := (⟨a0, a1, a2, a3, a4, a5⟩ : AtC wr g (i * 6) xb xx xu xt xp xq).below hb2 (Nat.lt_of_lt_of_le HG.out hb.out.size)
        have hB2 := HB2.out.size
        have hj0 : (0 : Int) ≤ (j : Int) := by omega
        have hj9' : (j : Int) ≤ 100000 := by omega
        clear hyes hfi hb2 HGO KP2
        go_wp2_with (at_builtin; (refine wpList_append_own_at _ rfl _ _ 161 rfl w.heap.size 3 j0 _ 1 8 Tryz.underlying161 hj hy0 hy1 hy2 rfl (by decide) _ _ _ rfl (HP2.out.alloc _) ⟨w2.heap.size, 0, none⟩ 1 1 [.int .i64 (j : Int)] rfl rfl (cell_one_new _ _ _) (by simp [Value.oneCell']) (by simp only [maxLen]; omega) (by omega) (by simp; omega) ?_; intro v2 w4 hown2 hgrow2 _ hat2))
        have HB4 := hide ((HB2.out.alloc HB2.out.size _).grown hgrow2 (by simp; omega) (fun q hq => (HP2.out.lt q hq).1))
        have HO4 := hide (own_fr (HD2.out.alloc _) (Fr.of_grown hgrow2) (fun k hk h => own_ne_own HD2.out HP2.out (by decide) k hk h.symm))
        go_roundw
        case rel =>
          refine ⟨i + 1, d, p ++ [j], by have := HLT.out; omega, by go_num, HG2.out, ?_, ?_, ?_, ?_, HB4.out⟩
          · show d.length ≤ i + 1
            have := hdl.out; have := HDL.out; omega
          · show (p ++ _).length = i + 1
            have := hpl.out; have := HPL.out; simp; omega
          · show World.ownsRow _ _ _ _ _ _ _
            rw [HDL.out]; exact HO4.out
          · have e1 : (p ++ [j]).length = pn + 1 := by have := HPL.out; simp; omega
            show World.ownsRow _ _ _ _ _ _ _
            rw [e1, intsC_snoc]
            exact hown2
        case measure => have := HLT.out; simp [intOf]; omega
    · obtain rfl : n = i := by omega
      have hg := hgo.out
      rw [List.drop_eq_nil_of_le (by rw [HN.out]; exact Nat.le_refl _)] at hg
      obtain rfl : (d, p) = RES := hg
      go_wp2_with fail
      go_ret2
      exact ⟨_, _, rfl, hod.out, hop.out, hb.out⟩
end Go.Proofs.YtfkgmodgkifelaaGreatDoor
