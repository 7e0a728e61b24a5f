/- Edits, read: diff.edits. -/
import Derived.Test.YtfkgmodgkifelaaGreatDoorJ41
namespace Go.Proofs.YtfkgmodgkifelaaGreatDoor
open Go.RowKit

theorem info_ed : (Tryz.prog.info? 67).map (fun i => (i.zero, i.size, i.bytes)) = some (some (.agg #[.int .i64 0, .bool false, .bool false, .int .i64 0, .int .u64 0, .string ByteArray.empty, .complex .f64 0 0]), 7, 64) := by kernel_rfl
def cellsE (e : Ed) : List Go.Value := .int .i64 (e.1 : Nat) :: cellsM e.2
structure AtE (w : World) (g o : Nat) (r : Nat) (n b : Bool) (x u : Int) (t : ByteArray) (p q : Nat) : Prop where
  c0 : w.cell? ⟨g, o, none⟩ = some (.int .i64 (r : Nat))
  c1 : w.cell? ⟨g, o + 1, none⟩ = some (.bool n)
  c2 : w.cell? ⟨g, o + 2, none⟩ = some (.bool b)
  c3 : w.cell? ⟨g, o + 3, none⟩ = some (.int .i64 x)
  c4 : w.cell? ⟨g, o + 4, none⟩ = some (.int .u64 u)
  c5 : w.cell? ⟨g, o + 5, none⟩ = some (.string t)
  c6 : w.cell? ⟨g, o + 6, none⟩ = some (.complex .f64 p q)
theorem AtE.below {w w' : World} {g o r : Nat} {n b : Bool} {x u : Int} {t : ByteArray} {p q : Nat} (h : AtE w g o r n b x u t p q) {B : Nat} (hb : Below B w w') (hg : g < B) : AtE w' g o r n b x u t p q :=
  ⟨(hb.cell (p := ⟨g, _, none⟩) hg).trans h.c0, (hb.cell (p := ⟨g, _, none⟩) hg).trans h.c1, (hb.cell (p := ⟨g, _, none⟩) hg).trans h.c2, (hb.cell (p := ⟨g, _, none⟩) hg).trans h.c3, (hb.cell (p := ⟨g, _, none⟩) hg).trans h.c4, (hb.cell (p := ⟨g, _, none⟩) hg).trans h.c5, (hb.cell (p := ⟨g, _, none⟩) hg).trans h.c6⟩
/-- A slice of edits. -/
def InE (w : World) (v : Value) (l : List Ed) : Prop :=
  ∃ A c, v = .slice A l.length c ∧ ∀ i x, l[i]? = some x → ∃ g, A = some ⟨g, 0, none⟩ ∧ g < w.heap.size ∧ AtE w g (i * 7) x.1 x.2.1 x.2.2.b x.2.2.x x.2.2.u x.2.2.t x.2.2.p x.2.2.q
theorem InE.below {w w' : World} {v : Value} {l : List Ed} (h : InE w v l) (hb : Below w.heap.size w w') : InE w' v l := by
  obtain ⟨A, c, rfl, hc⟩ := h
  refine ⟨A, c, rfl, fun i x hx => ?_⟩
  obtain ⟨g, hA, hg, hat⟩ := hc i x hx
  exact ⟨g, hA, Nat.lt_of_lt_of_le hg hb.size, hat.below hb hg⟩
theorem inE_nil (w : World) : InE w (.slice none 0 0) [] := ⟨none, 0, rfl, fun i x h => by simp at h⟩
theorem cellsE_get : ∀ (l : List Ed) (i : Nat) (x : Ed) (j : Nat), l[i]? = some x → j < 7 → (l.flatMap cellsE)[i * 7 + j]? = (cellsE x)[j]? := by
  intro l
  induction l with
  | nil => intro i x j h; simp at h
  | cons a l ih =>
    intro i x j h hj
    rw [List.flatMap_cons]
    have hl : (cellsE a).length = 7 := rfl
    cases i with
    | zero =>
      obtain rfl : a = x := by simpa using h
      rw [List.getElem?_append_left (by omega), Nat.zero_mul, Nat.zero_add]
    | succ i =>
      rw [List.getElem?_append_right (by rw [hl]; omega), hl, show (i + 1) * 7 + j - 7 = i * 7 + j by omega]
      exact ih i x j (by simpa using h) hj
theorem inE_own {w : World} {B n : Nat} {v : Value} {l : List Ed} (h : w.ownsRow B 67 7 v n (l.flatMap cellsE)) (hn : n = l.length) : InE w v l := by
  subst hn
  rcases Nat.eq_zero_or_pos l.length with h0 | h0
  · obtain ⟨A, c, rfl⟩ := own_form3 h
    have : l = [] := List.eq_nil_of_length_eq_zero h0
    subst this
    exact ⟨A, c, rfl, fun i x h => by simp at h⟩
  · obtain ⟨g, c, rfl⟩ := own_addr h h0
    refine ⟨some ⟨g, 0, none⟩, c, rfl, fun i x hx => ⟨g, rfl, (h.lt g rfl).2, ?_⟩⟩
    have hi : i < l.length := (List.getElem?_eq_some_iff.1 hx).1
    have hc := fun j (hj : j < 7) => (h.cellAt (i * 7 + j) (by omega)).trans (cellsE_get l i x j hx hj)
    exact ⟨hc 0 (by omega), hc 1 (by omega), hc 2 (by omega), hc 3 (by omega), hc 4 (by omega), hc 5 (by omega), hc 6 (by omega)⟩
theorem cellsE_snoc (l : List Ed) (x : Ed) : (l ++ [x]).flatMap cellsE = l.flatMap cellsE ++ cellsE x := by simp
def ste (w : World) (L : Nat) (a1 a2 a3 a4 a5 a6 : Value) : World :=
  (((((w.setCell ⟨L, 1, none⟩ a1).setCell ⟨L, 2, none⟩ a2).setCell ⟨L, 3, none⟩ a3).setCell ⟨L, 4, none⟩ a4).setCell ⟨L, 5, none⟩ a5).setCell ⟨L, 6, none⟩ a6
theorem ste_fr (w : World) (L : Nat) (a1 a2 a3 a4 a5 a6 : Value) : Fr w (ste w L a1 a2 a3 a4 a5 a6) (fun k => k = L) :=
  ((((((Fr.refl w _).set' 1 _).set' 2 _).set' 3 _).set' 4 _).set' 5 _).set' 6 _
theorem ste_blk {w : World} {L : Nat} {t : TypeId} {b0 b1 b2 b3 b4 b5 b6 : Value} (h : Blk w L t #[b0, b1, b2, b3, b4, b5, b6]) (a1 a2 a3 a4 a5 a6 : Value) : Blk (ste w L a1 a2 a3 a4 a5 a6) L t #[b0, a1, a2, a3, a4, a5, a6] :=
  (((((h.set 1 a1).set 2 a2).set 3 a3).set 4 a4).set 5 a5).set 6 a6
theorem ste_size (w : World) (L : Nat) (a1 a2 a3 a4 a5 a6 : Value) : (ste w L a1 a2 a3 a4 a5 a6).heap.size = w.heap.size := by simp [ste, World.setCell]
/-- One more edit is read. -/
theorem ed_step (k : Int) (rows : Nat) (s : ByteArray) (hs : s.size ≤ maxLen) (p : Nat) (hp : p ≤ s.size) (m next : Nat) (acc : List Ed) (RES : Nat × List Nat × List Ed) (h : edGo k rows (m + 1) ((bn s).drop p) next acc = RES) :
    ∃ (x p1 e1 b p2 e2 : Nat), x < 18446744073709551616 ∧ b < 256 ∧ p1 ≤ s.size ∧ p2 ≤ s.size ∧
      (∀ R w, Rd w R s p 0 → Calls Tryz.prog 47 #[.pointer (some ⟨R, 0, none⟩)] w (RPost R w s (.int .u64 (x : Nat)) p1 e1)) ∧
      (∀ R w, Rd w R s p1 e1 → Calls Tryz.prog 50 #[.pointer (some ⟨R, 0, none⟩)] w (RPost R w s (.int .u8 (b : Nat)) p2 e2)) ∧
      ((e2 ≠ 0 ∧ RES = (e2, [], [])) ∨ (e2 = 0 ∧ (rows - next ≤ x ∨ 1 < b) ∧ RES = (12, [], [])) ∨
       (e2 = 0 ∧ x < rows - next ∧ b = 1 ∧ edGo k rows m ((bn s).drop p2) (next + x + 1) (acc ++ [(next + x, (true, CD.z))]) = RES) ∨
       (e2 = 0 ∧ x < rows - next ∧ b = 0 ∧ (gp k ((bn s).drop p2)).2.2.2 ≠ 0 ∧ RES = ((gp k ((bn s).drop p2)).2.2.2, [], [])) ∨
       (e2 = 0 ∧ x < rows - next ∧ b = 0 ∧ (gp k ((bn s).drop p2)).2.2.2 = 0 ∧ edGo k rows m ((bn s).drop (p2 + (gp k ((bn s).drop p2)).2.1)) (next + x + 1) (acc ++ [(next + x, (false, (gp k ((bn s).drop p2)).1))]) = RES)) := by
  have hlD : ((bn s).drop p).length = s.size - p := by rw [List.length_drop, bn_len]
  have K := fun R w (h : Rd w R s p 0) => ruvar_any R s p 0 hs hp w h
  rw [st_at] at K
  have h64 := few_lt64 ((bn s).drop p)
  have hle := few_le0 ((bn s).drop p)
  unfold edGo at h
  rcases hf : few ((bn s).drop p) 0 with ⟨x, a, e⟩
  rw [hf] at h K h64 hle
  simp only at h K h64 hle
  by_cases he : e = 0
  · subst he
    rw [if_neg (by simp)] at h
    by_cases h2 : ((bn s).drop p).length ≤ a
    · rw [if_pos h2] at h
      refine ⟨x, p + a, 0, 0, p + a, 10, h64, by omega, by omega, by omega, K, fun R w hr => ?_, .inl ⟨by decide, h.symm⟩⟩
      exact ru8_nil R s (p + a) hs (by omega) (by rw [← List.drop_drop]; exact List.drop_of_length_le h2) w hr
    · rw [if_neg h2] at h
      have hlt : a < ((bn s).drop p).length := by omega
      have hg : ((bn s).drop p)[a]? = some (((bn s).drop p).getD a 0) := by simp [List.getD, List.getElem?_eq_getElem hlt]
      have hb : ((bn s).drop p).getD a 0 < 256 := bn_lt s _ (List.mem_of_mem_drop (List.mem_of_getElem? hg))
      have hd := dropK_at hg
      rw [List.drop_drop, List.drop_drop] at hd
      rw [List.drop_drop, ← Nat.add_assoc, List.drop_drop] at h
      refine ⟨x, p + a, 0, ((bn s).drop p).getD a 0, p + a + 1, 0, h64, hb, by omega, by omega, K, fun R w hr => ru8_cons R s (p + a) _ _ hs (by omega) hd w hr, ?_⟩
      by_cases h3 : rows - next ≤ x ∨ 1 < ((bn s).drop p).getD a 0
      · rw [if_pos h3] at h
        exact .inr (.inl ⟨rfl, h3, h.symm⟩)
      · rw [if_neg h3] at h
        by_cases h4 : ((bn s).drop p).getD a 0 = 1
        · rw [if_pos h4] at h
          exact .inr (.inr (.inl ⟨rfl, by omega, h4, h⟩))
        · rw [if_neg h4] at h
          by_cases h5 : (gp k ((bn s).drop (p + a + 1))).2.2.2 = 0
          · rw [if_neg (by simp [h5])] at h
            exact .inr (.inr (.inr (.inr ⟨rfl, by omega, by omega, h5, h⟩)))
          · rw [if_pos h5] at h
            exact .inr (.inr (.inr (.inl ⟨rfl, by omega, by omega, h5, h.symm⟩)))
  · rw [if_pos he] at h
    refine ⟨x, p + a, e, 0, p + a, e, h64, by omega, by omega, by omega, K, fun R w hr => ?_, .inl ⟨he, h.symm⟩⟩
    have := ru8_any R s (p + a) e hs (by omega) w hr
    unfold st at this
    rw [if_neg he] at this
    exact this
/-- The edits of a column: the error, what is left, they. -/
def edS (k : Int) (rows : Nat) (D : List Nat) : Nat × List Nat × List Ed :=
  if (few D 0).2.2 ≠ 0 then ((few D 0).2.2, [], []) else if rows < (few D 0).1 then (12, [], []) else edGo k rows (few D 0).1 (D.drop (few D 0).2.1) 0 []
theorem edS_k (k : Int) (h1 : 1 ≤ k) (h6 : k ≤ 6) (rows : Nat) (D : List Nat) : Eok (edS k rows D).1 := by
  unfold edS
  split
  · exact few_k _ _
  · split
    · exact (by decide : Eok 12)
    · exact edGo_k k h1 h6 rows _ _ _ _
theorem edS_one (k : Int) (h1 : 1 ≤ k) (h6 : k ≤ 6) (rows : Nat) (D : List Nat) (hD : Bys D) (h : (edS k rows D).1 = 0) : D = uvar (edS k rows D).2.2.length ++ edsB k 0 (edS k rows D).2.2 ++ (edS k rows D).2.1 ∧ EdsOk k rows (edS k rows D).2.2 ∧ (edS k rows D).2.2.length ≤ rows := by
  unfold edS at h ⊢
  split at h
  · rename_i he; exact absurd h he
  · rename_i he
    split at h
    · cases h
    · rename_i hr
      rw [if_neg he, if_neg hr]
      have hgo : edGo k rows (few D 0).1 (D.drop (few D 0).2.1) 0 [] = (0, (edGo k rows (few D 0).1 (D.drop (few D 0).2.1) 0 []).2.1, (edGo k rows (few D 0).1 (D.drop (few D 0).2.1) 0 []).2.2) := Prod.ext h rfl
      obtain ⟨l', e1, e2, e3⟩ := edGo_one k h1 h6 rows _ _ _ _ _ _ (hD.drop _).lt hgo
      have hok := edGo_ok k h1 h6 rows _ _ _ _ _ (hD.drop _) (edsOk_nil k rows) hgo
      obtain ⟨g1, _⟩ := few_one D 0 hD.lt (Decidable.not_not.1 he)
      rw [List.nil_append] at e1
      rw [e1] at hok ⊢
      refine ⟨?_, hok, by rw [e2]; omega⟩
      rw [e2, List.append_assoc, ← e3, ← g1, List.take_append_drop]
def EdPost (R : Nat) (s : ByteArray) (w : World) (r : Nat × List Nat × List Ed) (e : Ending) (w' : World) : Prop :=
  ∃ v, e = .returned (.tuple #[v, .int .i64 (r.1 : Nat)]) ∧ (∃ A n c, v = .slice A n c) ∧ (r.1 = 0 → InE w' v r.2.2 ∧ ∃ p', p' ≤ s.size ∧ (bn s).drop p' = r.2.1 ∧ Rd w' R s p' 0) ∧ Fr w w' (fun j => j = R)
set_option maxHeartbeats 8000000 in
set_option maxRecDepth 100000 in
theorem edits_any (k : Int) (h1 : 1 ≤ k) (h6 : k ≤ 6) (rows : Nat) (hrw : rows ≤ 10000) (R : Nat) (s : ByteArray) (hs : s.size ≤ 600) (p : Nat) (hp : p ≤ s.size) (w : World) (hT : Tabs w) (hr : Rd w R s p 0) :
    Calls Tryz.prog 71 #[.pointer (some ⟨R, 0, none⟩), .int .i64 k, .int .i64 (rows : Nat)] w (EdPost R s w (edS k rows ((bn s).drop p))) := by
  have hsm : s.size ≤ maxLen := by unfold maxLen; omega
  have hRw := Blk.lt hr
  obtain ⟨i0, hi, hz0, hz1, hz2⟩ := info_parts info_ed
  have hst := fun (w1 : World) (a1 : Addr) (m : Mode) (x y : Nat) => run_store Tryz.prog w1 a1 (.complex .f64 x y) m rfl
  have HT := hide hT
  have HR0 := hide hr
  have HSM := hide hsm
  have K1 := ruvar_any R s p 0 hsm hp w hr
  rw [st_at] at K1
  have KE := hide (fun p e w (h : Rd w R s p e) => rerr_any R s p e w h)
  have KG := hide (fun p (hp : p ≤ s.size) w (h : Rd w R s p 0) (hT : Tabs w) => gget_all k h1 h6 R s p hsm hp w h hT)
  have KS := hide (fun p (hp : p ≤ s.size) m next acc RES h => ed_step k rows s hsm p hp m next acc RES h)
  have KP := hide (fun p => gp_pur k h1 h6 ((bn s).drop p) ((bys_bn s hs).drop p))
  have KGE := hide (fun p => gp_e k ((bn s).drop p))
  have KGL := hide (fun p => gp_le k ((bn s).drop p))
  have HBL := hide (bn_len s)
  have hle := few_le0 ((bn s).drop p)
  rw [List.length_drop, bn_len] at hle
  have h64 := few_lt64 ((bn s).drop p)
  obtain ⟨RES, hRES⟩ : ∃ RES, edS k rows ((bn s).drop p) = RES := ⟨_, rfl⟩
  rw [hRES]
  unfold edS at hRES
  rw [List.drop_drop] at hRES
  rcases hf : few ((bn s).drop p) 0 with ⟨n, a, e0⟩
  rw [hf] at K1 hRES hle h64
  simp only at K1 hRES hle h64
  have K1' := hide K1
  have HRES := hide hRES
  have hrows0 : (0 : Int) ≤ (rows : Int) := by omega
  have hrows1 : (rows : Int) ≤ 10000 := by omega
  have hrww : IntKind.u64.wrap (rows : Int) = (rows : Int) := by rw [IntKind.wrap_u64]; omega
  clear hsm hr hT K1 hRES hf
  go_enter Tryz.func71, Tryz.ntmps71
  go_wp2_with fail
  refine K1'.out.mono ?_
  rintro e w1 ⟨rfl, hr1, hf1⟩
  have HR1 := hide hr1
  have HF1 := hide hf1
  have KE1 := hide (KE.out _ _ _ hr1)
  clear hr1 hf1 K1'
  go_wp2_with fail
  refine KE1.out.mono ?_
  rintro e w2 ⟨rfl, rfl⟩
  by_cases he0 : e0 = 0
  · subst he0
    have hres := HRES.out
    rw [if_neg (by simp)] at hres
    have HRS := hide hres
    clear HRES hres
    by_cases hbig : rows < n
    · obtain rfl : RES = (12, [], []) := by rw [← HRS.out, if_pos hbig]
      have hb' : (rows : Int) < (n : Int) := by omega
      clear hbig HRS
      go_wp2_with fail
      go_ret2
      exact ⟨_, rfl, ⟨_, _, _, rfl⟩, (fun h => by cases h), HF1.out⟩
    · have hgo0 := HRS.out
      rw [if_neg hbig] at hgo0
      have HG0 := hide hgo0
      have hb' : decide ((rows : Int) < (n : Int)) = false := by rw [decide_eq_false_iff_not]; omega
      have hb'' : decide (rows < n) = false := decide_eq_false hbig
      have hnr : n ≤ 10000 := by omega
      clear hbig HRS hgo0 KE1
      go_wp2_with fail
      go_loopw [9, 10, 30] (fun ov nv iv wr => ∃ (i p : Nat) (acc : List Ed), i ≤ n ∧ nv = .int .i64 ((nxE acc i : Nat) : Int) ∧ iv = .int .u64 (i : Int) ∧ p ≤ s.size ∧ Hid (acc.length = i) ∧ Hid (edGo k rows (n - i) ((bn s).drop p) (nxE acc i) acc = RES) ∧ Hid (EdsOk k rows acc) ∧ Hid (wr.ownsRow w.heap.size 67 7 ov i (acc.flatMap cellsE)) ∧ Hid (Rd wr R s p 0) ∧ Hid (Fr w wr (fun j => j = R))) (fun _ _ iv _ => n - (intOf iv).toNat)
      case atStart => exact ⟨0, p + a, [], by omega, rfl, rfl, by omega, rfl, HG0.out, edsOk_nil k rows, World.ownsRow_nil _ _ _ _, HR1.out, HF1.out⟩
      case round =>
        obtain ⟨i, p, acc, hin, rfl, rfl, hp, hal, hgo, hok, how, hrd, hfr⟩ := hrel
        obtain ⟨OA, oc, rfl⟩ := own_form3 how.out
        by_cases hlt : i < n
        · have hi1 : (i : Int) < (n : Int) := by omega
          have hg1 := hgo.out
          rw [show n - i = (n - i - 1) + 1 by omega] at hg1
          obtain ⟨x, p1, e1, b, p2, e2, hx64, hb8, hp1, hp2, KU, K8, hcase⟩ := KS.out p hp _ _ acc RES hg1
          have hnx := nxE_le hok.out i
          obtain ⟨N, hN⟩ : ∃ N, nxE acc i = N := ⟨_, rfl⟩
          rw [hN] at hcase hnx ⊢
          have HNX := hide hN
          have HCASE := hide hcase
          have KU2 := hide (KU R _ hrd.out)
          have K82 := hide (K8 R)
          have KE2 := hide (KE.out p2 e2)
          have HLT := hide hlt
          clear hg1 KU K8 hcase hgo hN hlt
          go_wp2_with fail
          refine KU2.out.mono ?_
          rintro e w3 ⟨rfl, hr3, hf3⟩
          have K83 := hide (K82.out w3 hr3)
          have HR3 := hide hr3
          have HF3 := hide (hfr.out.trans hf3 (fun _ _ h => h))
          have HO3 := hide (own_fr how.out hf3 (fun q hq h => own_ne_blk how.out hrd.out (by decide) (by rw [hq, h])))
          clear hr3 hf3 hfr hrd how
          go_wp2_with fail
          refine K83.out.mono ?_
          rintro e w4 ⟨rfl, hr4, hf4⟩
          have KE4 := hide (KE2.out w4 hr4)
          have HR4 := hide hr4
          have HF4 := hide (HF3.out.trans hf4 (fun _ _ h => h))
          have HO4 := hide (own_fr HO3.out hf4 (fun q hq h => own_ne_blk HO3.out HR3.out (by decide) (by rw [hq, h])))
          clear hr4 hf4 HR3 HF3 HO3 K83 K82 KE2 KU2
          go_wp2_with fail
          refine KE4.out.mono ?_
          rintro e w5 ⟨rfl, rfl⟩
          obtain ⟨D, hD⟩ : ∃ D, rows - N = D := ⟨_, rfl⟩
          have hsub : (rows : Int) - (N : Int) = (D : Int) := by omega
          have hDw : IntKind.u64.wrap (D : Int) = (D : Int) := by rw [IntKind.wrap_u64]; omega
          have hDw2 : IntKind.i64.wrap (D : Int) = (D : Int) := by rw [IntKind.wrap_i64]; omega
          have hD4 : D ≤ 10000 := by omega
          obtain ⟨Y, hY⟩ : ∃ Y, N + x = Y := ⟨_, rfl⟩
          have hYi : (N : Int) + (x : Int) = (Y : Int) := by omega
          rw [hD, hY] at HCASE
          rcases HCASE.out with ⟨h2, hres⟩ | ⟨rfl, hbad, hres⟩ | ⟨rfl, hx, rfl, hgo⟩ | ⟨rfl, hx, rfl, hg, hres⟩ | ⟨rfl, hx, rfl, hg, hgo⟩
          · subst hres
            have hne : ((e2 : Int) != 0) = true := by rw [bne_iff_ne]; omega
            clear HCASE hD hY
            go_wp2_with fail
            refine KE4.out.mono ?_
            rintro e w5 ⟨rfl, rfl⟩
            go_wp2_with fail
            go_ret2
            exact ⟨_, rfl, ⟨_, _, _, rfl⟩, fun h => absurd h h2, HF4.out⟩
          · subst hres
            clear HCASE hD hY
            by_cases hx : D ≤ x
            · have d1 : decide ((D : Int) ≤ (x : Int)) = true := by rw [decide_eq_true_eq]; omega
              have d2 : decide (D ≤ x) = true := decide_eq_true hx
              clear hbad hx
              go_wp2_with fail
              go_ret2
              exact ⟨_, rfl, ⟨_, _, _, rfl⟩, (fun h => by cases h), HF4.out⟩
            · have d1 : decide ((D : Int) ≤ (x : Int)) = false := by rw [decide_eq_false_iff_not]; omega
              have d2 : decide (D ≤ x) = false := decide_eq_false hx
              have d3 : (1 : Int) < (b : Int) := by omega
              clear hbad hx
              go_wp2_with fail
              go_ret2
              exact ⟨_, rfl, ⟨_, _, _, rfl⟩, (fun h => by cases h), HF4.out⟩
          · have d1 : decide ((D : Int) ≤ (x : Int)) = false := by rw [decide_eq_false_iff_not]; omega
            have d2 : decide (D ≤ x) = false := by rw [decide_eq_false_iff_not]; omega
            have hxw : IntKind.i64.wrap (x : Int) = (x : Int) := by rw [IntKind.wrap_i64]; omega
            have hYw : IntKind.i64.wrap (Y : Int) = (Y : Int) := by rw [IntKind.wrap_i64]; omega
            have hY4 : (Y : Int) ≤ 10000 := by omega
            have HO6 := hide (fun o1 o2 => (HO4.out.alloc o1).alloc o2)
            have NB := hide (fun o cs t => (blk_n2 w4 o cs t).out)
            have HXB := hide (fun cs t o2 => (Blk.new w4 cs t).alloc o2)
            have HGO := hide hgo
            have HX := hide hx
            have HYY := hide hY
            have hi99 : i ≤ 10000 := by omega
            have hsz4 : w.heap.size ≤ w4.heap.size := HF4.out.size
            clear HCASE hgo hx hD hY
            go_wp2_with (at_builtin; refine wpList_append_own_at _ rfl _ _ 63 rfl w.heap.size 67 i0 _ 7 64 Tryz.underlying63 hi hz0 hz1 hz2 rfl (by decide) _ _ _ rfl (HO6.out _ _) ⟨w4.heap.size + 1, 0, none⟩ 1 1 [.int .i64 (Y : Nat), .bool true, .bool false, .int .i64 0, .int .u64 0, .string ByteArray.empty, .complex .f64 0 0] rfl rfl (World.news_of_block (NB.out _ _ _)) (by simp [Value.oneCell']) (by simp only [maxLen]; omega) (by omega) (by simp; omega) ?_; intro v1 w6 hown1 hgrow1 _ hat1; have hx0 := ((HXB.out _ _ _).grown hgrow1 (fun h => by have := (HO4.out.lt _ h.symm).2; omega)).cell 0; simp at hx0)
            have HR6 := hide ((Blk.alloc (Blk.alloc HR4.out _) _).grown hgrow1 (fun h => own_ne_blk HO4.out HR4.out (by decide) h.symm))
            have HF6 := hide (((HF4.out.trans (Fr.alloc w4 _ _) (fun _ _ h => h)).trans (Fr.alloc _ _ _) (fun _ _ h => h)).trans (Fr.of_grown hgrow1) (fun q hq h => by have := (HO4.out.lt q h.symm).1; omega))
            have HW6 := hide hown1
            clear hown1 hgrow1 hat1
            have hnx2 : nxE (acc ++ [(Y, (true, CD.z))]) (i + 1) = Y + 1 := nxE_succ (e := (Y, (true, CD.z))) (by rw [← hal.out]; simp)
            have HN2 := hide hnx2
            clear hnx2
            go_roundw
            case rel =>
              refine ⟨i + 1, p2, acc ++ [(Y, (true, CD.z))], by have := HLT.out; omega, by rw [HN2.out]; go_num, by go_num, hp2, ?_, ?_, ?_, ?_, HR6.out, HF6.out⟩
              · have := hal.out; show _ = _; simp; omega
              · rw [HN2.out, show n - (i + 1) = n - i - 1 by omega]; exact HGO.out
              · refine hok.out.snoc ?_ ?_ ?_
                · rw [hal.out, HNX.out, ← HYY.out]; exact Nat.le_add_right _ _
                · show Y < rows; have := HX.out; have := HYY.out; omega
                · unfold EdC; rw [if_pos rfl]
              · rw [cellsE_snoc]; exact HW6.out
            case measure => have := HLT.out; simp [intOf]; omega
          · rcases hgp : gp k ((bn s).drop p2) with ⟨c, m, e', er⟩
            have KG4 := KG.out p2 hp2
            rw [hgp] at KG4 hg hres
            simp only at KG4 hg hres
            have KG5 := hide (fun o => KG4 (w4.alloc o) (rd_alloc HR4.out o) (HT.out.fr HR0.out (HF4.out.trans (Fr.alloc _ _ _) (fun _ _ h => h))))
            obtain ⟨cb, cx, cu, ct, cp, cq⟩ := c
            unfold CD.v clV clA at KG5
            simp only at KG5
            subst hres
            have hne : ((er : Int) != 0) = true := by rw [bne_iff_ne]; omega
            have d1 : decide ((D : Int) ≤ (x : Int)) = false := by rw [decide_eq_false_iff_not]; omega
            have d2 : decide (D ≤ x) = false := by rw [decide_eq_false_iff_not]; omega
            have hxw : IntKind.i64.wrap (x : Int) = (x : Int) := by rw [IntKind.wrap_i64]; omega
            have hYw : IntKind.i64.wrap (Y : Int) = (Y : Int) := by rw [IntKind.wrap_i64]; omega
            have hY4 : (Y : Int) ≤ 10000 := by omega
            have HG := hide hg
            clear HCASE KG4 hgp hD hY hg
            go_wp2_with fail
            refine (KG5.out _).mono ?_
            rintro e w6 ⟨rfl, hr6, hf6⟩
            have HF6 := hide ((HF4.out.trans (Fr.alloc w4 _ _) (fun _ _ h => h)).trans hf6 (fun _ _ h => h))
            clear hr6 hf6
            go_wp2_with fail
            go_ret2
            exact ⟨_, rfl, ⟨_, _, _, rfl⟩, fun h => absurd h HG.out, HF6.out.trans (Fr.alloc _ _ _) (fun _ _ h => h)⟩
          · rcases hgp : gp k ((bn s).drop p2) with ⟨c, m, e', er⟩
            have KG4 := KG.out p2 hp2
            have hpur := KP.out p2
            have hge := KGE.out p2
            have hgl := KGL.out p2
            rw [hgp] at KG4 hg hgo hpur hge hgl
            simp only at KG4 hg hgo hpur hge hgl
            subst hg
            obtain rfl := hge rfl
            rw [List.length_drop, HBL.out] at hgl
            have KG5 := hide (fun o => KG4 (w4.alloc o) (rd_alloc HR4.out o) (HT.out.fr HR0.out (HF4.out.trans (Fr.alloc _ _ _) (fun _ _ h => h))))
            have HPU := hide hpur
            obtain ⟨cb, cx, cu, ct, cp, cq⟩ := c
            unfold CD.v clV clA at KG5
            simp only at KG5
            have d1 : decide ((D : Int) ≤ (x : Int)) = false := by rw [decide_eq_false_iff_not]; omega
            have d2 : decide (D ≤ x) = false := by rw [decide_eq_false_iff_not]; omega
            have hxw : IntKind.i64.wrap (x : Int) = (x : Int) := by rw [IntKind.wrap_i64]; omega
            have hYw : IntKind.i64.wrap (Y : Int) = (Y : Int) := by rw [IntKind.wrap_i64]; omega
            have hY4 : (Y : Int) ≤ 10000 := by omega
            have HGO := hide hgo
            have HX := hide hx
            have HYY := hide hY
            have hi99 : i ≤ 10000 := by omega
            have hsz4 : w.heap.size ≤ w4.heap.size := HF4.out.size
            clear HCASE KG4 hgp hD hY hpur hge hgo hx
            go_wp2_with fail
            refine (KG5.out _).mono ?_
            rintro e w6 ⟨rfl, hr6, hf6⟩
            have hxb6 := Blk.fr (Blk.new w4 #[.int .i64 (Y : Nat), .bool false, .bool false, .int .i64 0, .int .u64 0, .string ByteArray.empty, .complex .f64 0 0] 67) hf6 (by omega)
            have ho6 := own_fr (HO4.out.alloc (.cells #[.int .i64 (Y : Nat), .bool false, .bool false, .int .i64 0, .int .u64 0, .string ByteArray.empty, .complex .f64 0 0] 67)) hf6 (fun q hq h => own_ne_blk HO4.out HR4.out (by decide) (by rw [hq, h]))
            have HF6 := (HF4.out.trans (Fr.alloc w4 _ _) (fun _ _ h => h)).trans hf6 (fun _ _ h => h)
            obtain ⟨b0, b1, b2, b3, b4, b5, b6, f0, f1, f2, f3, f4, f5, f6⟩ := Blk.seven hxb6
            have hs6 : w4.heap.size < w6.heap.size := hxb6.lt
            have hse := ste_fr w6 w4.heap.size (.bool false) (.bool cb) (.int .i64 cx) (.int .u64 cu) (.string ct) (.complex .f64 cp cq)
            have HO7 := hide (fun C X => ((own_fr ho6 hse (fun q hq h => by have := (HO4.out.lt q hq).2; omega)).alloc C).alloc X)
            have HX7 := hide (fun C X => ((ste_blk hxb6 (.bool false) (.bool cb) (.int .i64 cx) (.int .u64 cu) (.string ct) (.complex .f64 cp cq)).alloc C).alloc X)
            have HR7 := hide (fun C X => show Blk _ R _ _ from (Blk.alloc (Blk.alloc (Blk.fr hr6 hse (by omega)) C) X))
            have HF7 := hide (fun C X => ((HF6.trans hse (fun q hq h => by omega)).trans (Fr.alloc _ C _) (fun _ _ h => h)).trans (Fr.alloc _ X _) (fun _ _ h => h))
            have NB := hide (fun C cs t => (blk_n2 (ste w6 w4.heap.size (.bool false) (.bool cb) (.int .i64 cx) (.int .u64 cu) (.string ct) (.complex .f64 cp cq)) C cs t).out)
            rw [ste_size] at NB
            unfold ste at HO7 HX7 HR7 HF7 NB
            clear hr6 hf6 hxb6 ho6 HF6 hse
            go_wp2_with (at_builtin; refine wpList_append_own_at _ rfl _ _ 63 rfl w.heap.size 67 i0 _ 7 64 Tryz.underlying63 hi hz0 hz1 hz2 rfl (by decide) _ _ _ rfl (HO7.out _ _) ⟨w6.heap.size + 1, 0, none⟩ 1 1 [.int .i64 (Y : Nat), .bool false, .bool cb, .int .i64 cx, .int .u64 cu, .string ct, .complex .f64 cp cq] rfl rfl (World.news_of_block (NB.out _ _ _)) (by simp [Value.oneCell']) (by simp only [maxLen]; omega) (by omega) (by simp; omega) ?_; intro v1 w7 hown1 hgrow1 _ hat1; have hx0 := ((HX7.out _ _).grown hgrow1 (fun h => by have := (HO4.out.lt _ h.symm).2; omega)).cell 0; simp at hx0)
            have HR8 := hide ((HR7.out _ _).grown hgrow1 (fun h => own_ne_blk HO4.out HR4.out (by decide) h.symm))
            have HF8 := hide ((HF7.out _ _).trans (Fr.of_grown hgrow1) (fun q hq h => by have := (HO4.out.lt q h.symm).1; omega))
            have HW8 := hide hown1
            clear hown1 hgrow1 hat1
            have hnx2 : nxE (acc ++ [(Y, (false, ⟨cb, cx, cu, ct, cp, cq⟩))]) (i + 1) = Y + 1 := nxE_succ (e := (Y, (false, ⟨cb, cx, cu, ct, cp, cq⟩))) (by rw [← hal.out]; simp)
            have HN2 := hide hnx2
            clear hnx2
            go_roundw
            case rel =>
              refine ⟨i + 1, p2 + m, acc ++ [(Y, (false, ⟨cb, cx, cu, ct, cp, cq⟩))], by have := HLT.out; omega, by rw [HN2.out]; go_num, by go_num, by omega, ?_, ?_, ?_, ?_, HR8.out, HF8.out⟩
              · have := hal.out; show _ = _; simp; omega
              · rw [HN2.out, show n - (i + 1) = n - i - 1 by omega]; exact HGO.out
              · refine hok.out.snoc ?_ ?_ ?_
                · rw [hal.out, HNX.out, ← HYY.out]; exact Nat.le_add_right _ _
                · show Y < rows; have := HX.out; have := HYY.out; omega
                · unfold EdC; rw [if_neg (by simp)]; exact HPU.out
              · rw [cellsE_snoc]; exact HW8.out
            case measure => have := HLT.out; simp [intOf]; omega
        · obtain rfl : n = i := by omega
          have hg := hgo.out
          rw [Nat.sub_self] at hg
          obtain rfl : (0, (bn s).drop p, acc) = RES := hg
          have HW := hide how.out
          clear hgo hlt hin
          go_wp2_with fail
          go_ret2
          exact ⟨_, rfl, ⟨_, _, _, rfl⟩, fun _ => ⟨inE_own HW.out hal.out.symm, p, hp, rfl, hrd.out⟩, hfr.out⟩
  · have hres := HRES.out
    rw [if_pos he0] at hres
    subst hres
    have hne : ((e0 : Int) != 0) = true := by rw [bne_iff_ne]; omega
    clear HRES
    go_wp2_with fail
    refine KE1.out.mono ?_
    rintro e w2 ⟨rfl, rfl⟩
    go_wp2_with fail
    go_ret2
    exact ⟨_, rfl, ⟨_, _, _, rfl⟩, fun h => absurd h he0, HF1.out⟩
end Go.Proofs.YtfkgmodgkifelaaGreatDoor
