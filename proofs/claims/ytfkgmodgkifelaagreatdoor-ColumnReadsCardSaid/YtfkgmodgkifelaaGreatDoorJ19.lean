/- Runs: the plain functions, and the cells that runs have. -/
import Derived.Test.YtfkgmodgkifelaaGreatDoorJ18
namespace Go.Proofs.YtfkgmodgkifelaaGreatDoor
open Go.RowKit

def tot (L : List (CD × Nat)) : Nat := (L.map (·.2)).sum
theorem tot_snoc (L : List (CD × Nat)) (x : CD × Nat) : tot (L ++ [x]) = tot L + x.2 := by simp [tot]
def cellsL (L : List (CD × Nat)) : List CD := L.flatMap fun x => List.replicate x.2 x.1
theorem cellsL_snoc (L : List (CD × Nat)) (x : CD × Nat) : cellsL (L ++ [x]) = cellsL L ++ List.replicate x.2 x.1 := by simp [cellsL]
theorem cellsL_len (L : List (CD × Nat)) : (cellsL L).length = tot L := by
  induction L with
  | nil => rfl
  | cons x L ih => simp only [cellsL, tot, List.flatMap_cons, List.length_append, List.length_replicate, List.map_cons, List.sum_cons] at *; omega
theorem tot_take (L : List (CD × Nat)) (i : Nat) : tot (L.take i) ≤ tot L := by
  induction L generalizing i with
  | nil => simp
  | cons x L ih =>
    cases i with
    | zero => simp [tot]
    | succ i => have := ih i; simp only [tot, List.take_succ_cons, List.map_cons, List.sum_cons] at *; omega
def cellsR (x : CD × Nat) : List Go.Value := cellsC x.1 ++ [.int .i64 (x.2 : Nat)]
theorem cellsR_snoc (l : List (CD × Nat)) (x : CD × Nat) : (l ++ [x]).flatMap cellsR = l.flatMap cellsR ++ cellsR x := by simp
theorem cellsR_get : ∀ (l : List (CD × Nat)) (i : Nat) (x : CD × Nat) (j : Nat), l[i]? = some x → j < 7 → (l.flatMap cellsR)[i * 7 + j]? = (cellsR x)[j]? := by
  intro l
  induction l with
  | nil => intro i x j h; simp at h
  | cons a l ih =>
    intro i x j h hj
    rw [List.flatMap_cons]
    have hl : (cellsR a).length = 7 := rfl
    cases i with
    | zero =>
      obtain rfl : a = x := by simpa using h
      rw [List.getElem?_append_left (by omega), Nat.zero_mul, Nat.zero_add]
    | succ i =>
      rw [List.getElem?_append_right (by rw [hl]; omega), hl, show (i + 1) * 7 + j - 7 = i * 7 + j by omega]
      exact ih i x j (by simpa using h) hj
/-- A run's places. -/
structure AtR (w : World) (g o : Nat) (c : CD) (m : Nat) : Prop where
  c0 : w.cell? ⟨g, o, none⟩ = some (.bool false)
  c1 : w.cell? ⟨g, o + 1, none⟩ = some (.bool c.b)
  c2 : w.cell? ⟨g, o + 2, none⟩ = some (.int .i64 c.x)
  c3 : w.cell? ⟨g, o + 3, none⟩ = some (.int .u64 c.u)
  c4 : w.cell? ⟨g, o + 4, none⟩ = some (.string c.t)
  c5 : w.cell? ⟨g, o + 5, none⟩ = some (.complex .f64 c.p c.q)
  c6 : w.cell? ⟨g, o + 6, none⟩ = some (.int .i64 (m : Nat))
theorem AtR.below {w w' : World} {g o : Nat} {c : CD} {m : Nat} (h : AtR w g o c m) {B : Nat} (hb : Below B w w') (hg : g < B) : AtR w' g o c m :=
  ⟨(hb.cell (p := ⟨g, _, none⟩) hg).trans h.c0, (hb.cell (p := ⟨g, _, none⟩) hg).trans h.c1, (hb.cell (p := ⟨g, _, none⟩) hg).trans h.c2, (hb.cell (p := ⟨g, _, none⟩) hg).trans h.c3, (hb.cell (p := ⟨g, _, none⟩) hg).trans h.c4, (hb.cell (p := ⟨g, _, none⟩) hg).trans h.c5, (hb.cell (p := ⟨g, _, none⟩) hg).trans h.c6⟩
theorem own_atR {w : World} {B g n c : Nat} {e : TypeId} {l : List (CD × Nat)} (h : w.ownsRow B e 7 (.slice (some ⟨g, 0, none⟩) n c) n (l.flatMap cellsR)) (hn : n = l.length) {i : Nat} {x : CD × Nat} (hx : l[i]? = some x) : AtR w g (i * 7) x.1 x.2 := by
  have hi : i < l.length := (List.getElem?_eq_some_iff.1 hx).1
  have hc := fun j (hj : j < 7) => (h.cellAt (i * 7 + j) (by omega)).trans (cellsR_get l i x j hx hj)
  exact ⟨hc 0 (by omega), hc 1 (by omega), hc 2 (by omega), hc 3 (by omega), hc 4 (by omega), hc 5 (by omega), hc 6 (by omega)⟩
theorem info_rR : (Tryz.prog.info? 173).map (fun i => (i.zero, i.size, i.bytes)) = some (some (runV CD.z 0), 7, 64) := by kernel_rfl
theorem blk_six7 {w : World} {g : Nat} {t : TypeId} {c : CD} {m : Int} (h : Blk w g t (runA c m)) : Seven w g (.bool false) (.bool c.b) (.int .i64 c.x) (.int .u64 c.u) (.string c.t) (.complex .f64 c.p c.q) (.int .i64 m) := Blk.seven h
set_option maxHeartbeats 8000000 in
set_option maxRecDepth 100000 in
theorem rcells_any (L : List (CD × Nat)) (hL : tot L ≤ 10000) (hpos : ∀ x ∈ L, 1 ≤ x.2) (hlen : L.length ≤ 10000) (w : World) (B : Nat) (v : Value) (h : w.ownsRow B 173 7 v L.length (L.flatMap cellsR)) :
    Calls Tryz.prog 134 #[v] w (DPost w (0, cellsL L)) := by
  obtain ⟨A, cc, rfl⟩ := own_form3 h
  have HL := hide hL
  have HP := hide hpos
  have HO : Hid (∀ (i : Nat) (x : CD × Nat), L[i]? = some x → ∃ g, A = some ⟨g, 0, none⟩ ∧ g < w.heap.size ∧ AtR w g (i * 7) x.1 x.2) := fun i x hx => by
    have hi : i < L.length := (List.getElem?_eq_some_iff.1 hx).1
    obtain ⟨g, cap, e⟩ := own_addr h (by omega)
    injection e with e1 _ e2
    subst e1
    exact ⟨g, rfl, (h.lt g rfl).2, own_atR h rfl hx⟩
  obtain ⟨i0, hi, hz0, hz1, hz2⟩ := info_parts info_cC
  generalize hN : L.length = N at *
  have HN := hide hN
  clear hL hpos h hN
  have hst := fun (w1 : World) (a1 : Addr) (m : Mode) (x y : Nat) => run_store Tryz.prog w1 a1 (.complex .f64 x y) m rfl
  go_enter Tryz.func134, Tryz.ntmps134
  go_wp2_with fail
  go_loopw [4, 9] (fun ov iv wr => ∃ i : Nat, i ≤ N ∧ iv = .int .i64 (i : Int) ∧ (∃ T : Nat, Hid (T = tot (L.take i)) ∧ wr.ownsRow w.heap.size 45 6 ov T ((cellsL (L.take i)).flatMap cellsC)) ∧ Below w.heap.size w wr) (fun _ iv _ => N - (intOf iv).toNat)
  case atStart => exact ⟨0, by omega, rfl, ⟨0, rfl, World.ownsRow_nil _ _ _ _⟩, Below.refl _ _⟩
  case round =>
    obtain ⟨i, hin, rfl, ⟨T, HT, ha⟩, hbe⟩ := hrel
    obtain ⟨Aa, ca, rfl⟩ := own_form3 ha
    obtain ⟨wo, rfl⟩ : ∃ wo : World, wo = wr := ⟨_, rfl⟩
    by_cases hlt : i < N
    · obtain ⟨x, hx⟩ : ∃ x, L[i]? = some x := ⟨_, List.getElem?_eq_getElem (by rw [HN.out]; exact hlt)⟩
      obtain ⟨g, rfl, hg, hat⟩ := HO.out i x hx
      have hat2 := hat.below hbe hg
      have HTK : Hid (L.take (i + 1) = L.take i ++ [x]) := by
        show _ = _
        rw [List.take_add_one, hx]; rfl
      have hx1 := HP.out x (List.mem_of_getElem? hx)
      have hT1 : T + x.2 ≤ 10000 := by
        have h1 := tot_take L (i + 1)
        have h2 := HL.out
        rw [HTK.out, tot_snoc, ← HT.out] at h1
        omega
      obtain ⟨c, m⟩ := x
      obtain ⟨cb, cx, cu, ct, cp, cq⟩ := c
      obtain ⟨a0, a1, a2, a3, a4, a5, a6⟩ := hat2
      simp only at a0 a1 a2 a3 a4 a5 a6 hx1 hT1
      have HA := hide ha
      have HBE := hide hbe
      have hi0 : (0 : Int) ≤ (i : Int) := by omega
      have hi1 : (i : Int) < (N : Int) := by omega
      have hgo : g < wo.heap.size := Nat.lt_of_lt_of_le hg hbe.size
      have hm1 : (1 : Int) ≤ (m : Int) := by omega
      have hm2 : (m : Int) ≤ 10000 := by omega
      have hm3 : (T : Int) + (m : Int) ≤ 10000 := by omega
      have hm4 : decide ((10000 : Int) - (T : Int) < (m : Int)) = false := by rw [decide_eq_false_iff_not]; omega
      clear hx hat ha hbe
      have HTK2 : Hid (cellsL (L.take (i + 1)) = cellsL (L.take i) ++ List.replicate m (⟨cb, cx, cu, ct, cp, cq⟩ : CD)) := by show _ = _; rw [HTK.out, cellsL_snoc]
      have HT2 : Hid (T + m = tot (L.take (i + 1))) := by show _ = _; rw [HTK.out, tot_snoc, ← HT.out]
      have HNB := hide (Blk.new wo (runA ⟨cb, cx, cu, ct, cp, cq⟩ m) 173)
      have HBA := hide (fun o => HBE.out.alloc HBE.out.size o)
      have hwo : w.heap.size ≤ wo.heap.size := HBE.out.size
      go_wp2_with fail
      clear a0 a1 a2 a3 a4 a5 a6 hm4 hi0 hi1
      go_loopw [4, 26] (fun ov qv wr => ∃ q : Nat, q ≤ m ∧ qv = .int .i64 (q : Int) ∧ wr.ownsRow w.heap.size 45 6 ov (T + q) ((cellsL (L.take i) ++ List.replicate q (⟨cb, cx, cu, ct, cp, cq⟩ : CD)).flatMap cellsC) ∧ Blk wr wo.heap.size 173 (runA ⟨cb, cx, cu, ct, cp, cq⟩ m) ∧ Below w.heap.size w wr) (fun _ qv _ => m - (intOf qv).toNat)
      case atStart => exact ⟨0, by omega, rfl, by simpa using HA.out.alloc _, HNB.out, HBA.out _⟩
      case round =>
        obtain ⟨q, hq, rfl, hb, hbl, hbe2⟩ := hrel
        obtain ⟨Ab, cb2, rfl⟩ := own_form3 hb
        by_cases hlq : q < m
        · have hblt := hbl.lt
          obtain ⟨c0, c1, c2, c3, c4, c5, c6, f0, f1, f2, f3, f4, f5, f6⟩ := blk_six7 hbl
          simp only at c0 c1 c2 c3 c4 c5 c6
          have HB2 := hide hb
          have HBL2 := hide hbl
          have HE2 := hide hbe2
          have hq0 : (q : Int) < (m : Int) := by omega
          have HR : Hid (List.replicate (q + 1) (⟨cb, cx, cu, ct, cp, cq⟩ : CD) = List.replicate q (⟨cb, cx, cu, ct, cp, cq⟩ : CD) ++ [⟨cb, cx, cu, ct, cp, cq⟩]) := by show _ = _; rw [List.replicate_succ']
          clear hb hbl hbe2
          go_wp2_with (at_builtin; refine wpList_append_own_at _ rfl _ _ 25 rfl w.heap.size 45 i0 _ 6 56 Tryz.underlying25 hi hz0 hz1 hz2 rfl (by decide) _ _ _ rfl (HB2.out.alloc _) ⟨wr.heap.size, 0, none⟩ 1 1 [.bool false, .bool cb, .int .i64 cx, .int .u64 cu, .string ct, .complex .f64 cp cq] rfl rfl (World.news_of_block (Blk.new _ _ _).out) (by simp [Value.oneCell']) (by simp only [maxLen]; omega) (by omega) (by simpa using Nat.le_succ_of_le HE2.out.size) ?_; intro v1 w2 hown1 hgrow1 _ hat1)
          have HE3 := hide ((HE2.out.alloc HE2.out.size _).grown hgrow1 (by simpa using Nat.le_succ_of_le HE2.out.size) (fun j hj => (HB2.out.lt j hj).1))
          have HBL3 := hide ((HBL2.out.alloc _).grown hgrow1 (fun h => own_ne_blk HB2.out HBL2.out (by decide) h.symm))
          have HB3 : Hid (w2.ownsRow w.heap.size 45 6 v1 (T + (q + 1)) ((cellsL (L.take i) ++ List.replicate (q + 1) (⟨cb, cx, cu, ct, cp, cq⟩ : CD)).flatMap cellsC)) := by
            show World.ownsRow _ _ _ _ _ _ _
            rw [HR.out, ← List.append_assoc, cellsC_snoc]; exact hown1
          clear hown1 hgrow1 hat1
          go_roundw
          case rel => exact ⟨q + 1, by omega, by go_num, HB3.out, HBL3.out, HE3.out⟩
          case measure => simp [intOf] <;> omega
        · obtain rfl : q = m := by omega
          have HB2 := hide hb
          have HE2 := hide hbe2
          clear hb hbl hbe2
          go_wp2_with fail
          go_roundw
          case rel =>
            have hB := HB2.out
            rw [← HTK2.out] at hB
            exact ⟨i + 1, by omega, by go_num, ⟨T + q, HT2.out, hB⟩, HE2.out⟩
          case measure => simp [intOf] <;> omega
    · obtain rfl : i = N := by omega
      have HA := hide ha
      have HBE := hide hbe
      clear ha hbe
      go_wp2_with fail
      go_ret2
      have hA := HA.out
      rw [List.take_of_length_le (by rw [HN.out]; exact Nat.le_refl _)] at hA
      have hT := HT.out
      rw [List.take_of_length_le (by rw [HN.out]; exact Nat.le_refl _)] at hT
      exact ⟨_, rfl, inC_own hA (by rw [cellsL_len, hT]), HBE.out⟩
end Go.Proofs.YtfkgmodgkifelaaGreatDoor
