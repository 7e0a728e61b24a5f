/- Columns: cells spread, missing ones between: the program. Columns: a stream read: which cells are missing; the four ways back. Columns: a stream's cells, the program. -/
import Derived.Test.YtfkgmodgkifelaaGreatDoorJ38
import Derived.Test.YtfkgmodgkifelaaGreatDoorJ39
namespace Go.Proofs.YtfkgmodgkifelaaGreatDoor
open Go.RowKit

/-- A cell's parts by number. -/
def mcell (c : MC) (r : Nat) : Value := match r with
  | 0 => .bool c.1
  | 1 => .bool c.2.b
  | 2 => .int .i64 c.2.x
  | 3 => .int .u64 c.2.u
  | 4 => .string c.2.t
  | _ => .complex .f64 c.2.p c.2.q
def mrow (f : Nat → MC) (j : Nat) : Value := mcell (f (j / 6)) (j % 6)
theorem mrow_at (f : Nat → MC) (i : Nat) : mrow f (i * 6) = .bool (f i).1 ∧ mrow f (i * 6 + 1) = .bool (f i).2.b ∧ mrow f (i * 6 + 2) = .int .i64 (f i).2.x ∧ mrow f (i * 6 + 3) = .int .u64 (f i).2.u ∧ mrow f (i * 6 + 4) = .string (f i).2.t ∧ mrow f (i * 6 + 5) = .complex .f64 (f i).2.p (f i).2.q := by
  have e : ∀ j, j < 6 → (i * 6 + j) % 6 = j ∧ (i * 6 + j) / 6 = i := fun j hj => by omega
  unfold mrow
  refine ⟨?_, ?_, ?_, ?_, ?_, ?_⟩
  · have := e 0 (by omega); rw [Nat.add_zero] at this; rw [this.1, this.2]; rfl
  · rw [(e 1 (by omega)).1, (e 1 (by omega)).2]; rfl
  · rw [(e 2 (by omega)).1, (e 2 (by omega)).2]; rfl
  · rw [(e 3 (by omega)).1, (e 3 (by omega)).2]; rfl
  · rw [(e 4 (by omega)).1, (e 4 (by omega)).2]; rfl
  · rw [(e 5 (by omega)).1, (e 5 (by omega)).2]; rfl
def mset (f : Nat → MC) (i : Nat) (c : MC) (k : Nat) : MC := if k = i then c else f k
theorem mset_same (f : Nat → MC) (i : Nat) (c : MC) : mset f i c i = c := if_pos rfl
theorem mset_other (f : Nat → MC) (i : Nat) (c : MC) (k : Nat) (h : k ≠ i) : mset f i c k = f k := if_neg h
theorem mrow_set (f : Nat → MC) (i : Nat) (c : MC) (j : Nat) :
    (if j = i * 6 + 5 then .complex .f64 c.2.p c.2.q else if j = i * 6 + 4 then .string c.2.t else if j = i * 6 + 3 then .int .u64 c.2.u else if j = i * 6 + 2 then .int .i64 c.2.x else if j = i * 6 + 1 then .bool c.2.b else if j = i * 6 then .bool c.1 else mrow f j) = mrow (mset f i c) j := by
  obtain ⟨m0, m1, m2, m3, m4, m5⟩ := mrow_at (mset f i c) i
  rw [mset_same] at m0 m1 m2 m3 m4 m5
  by_cases h5 : j = i * 6 + 5
  · rw [if_pos h5, h5, m5]
  rw [if_neg h5]
  by_cases h4 : j = i * 6 + 4
  · rw [if_pos h4, h4, m4]
  rw [if_neg h4]
  by_cases h3 : j = i * 6 + 3
  · rw [if_pos h3, h3, m3]
  rw [if_neg h3]
  by_cases h2 : j = i * 6 + 2
  · rw [if_pos h2, h2, m2]
  rw [if_neg h2]
  by_cases h1 : j = i * 6 + 1
  · rw [if_pos h1, h1, m1]
  rw [if_neg h1]
  by_cases h0 : j = i * 6
  · rw [if_pos h0, h0, m0]
  rw [if_neg h0]
  unfold mrow
  rw [mset_other _ _ _ _ (by omega)]
theorem mrow_null (f : Nat → MC) (i : Nat) (c : CD) (h : f i = (false, c)) (j : Nat) : (if j = i * 6 then .bool true else mrow f j) = mrow (mset f i (true, c)) j := by
  by_cases h0 : j = i * 6
  · rw [if_pos h0, h0, (mrow_at _ _).1, mset_same]
  rw [if_neg h0]
  unfold mrow
  by_cases hq : j / 6 = i
  · rw [hq, mset_same, h]
    have : j % 6 ≠ 0 := by omega
    unfold mcell
    split <;> first | contradiction | rfl
  · rw [mset_other _ _ _ _ hq]
theorem mset6 {w : World} {L N : Nat} {t : TypeId} {f : Nat → MC} (h : w.rowIs L t N (mrow f)) (i : Nat) (n b : Bool) (x u : Int) (s : ByteArray) (p q : Nat) :
    ((((((w.setCell ⟨L, i * 6, none⟩ (.bool n)).setCell ⟨L, i * 6 + 1, none⟩ (.bool b)).setCell ⟨L, i * 6 + 2, none⟩ (.int .i64 x)).setCell ⟨L, i * 6 + 3, none⟩ (.int .u64 u)).setCell ⟨L, i * 6 + 4, none⟩ (.string s)).setCell ⟨L, i * 6 + 5, none⟩ (.complex .f64 p q)).rowIs L t N (mrow (mset f i (n, ⟨b, x, u, s, p, q⟩))) :=
  ((((((h.set (i * 6) (.bool n)).set (i * 6 + 1) (.bool b)).set (i * 6 + 2) (.int .i64 x)).set (i * 6 + 3) (.int .u64 u)).set (i * 6 + 4) (.string s)).set (i * 6 + 5) (.complex .f64 p q)).congr (fun j _ => mrow_set f i (n, ⟨b, x, u, s, p, q⟩) j)
theorem below_set6 {B : Nat} {a w : World} (h : Below B a w) {L : Nat} (hL : B ≤ L) (o : Nat) (v0 v1 v2 v3 v4 v5 : Value) :
    Below B a ((((((w.setCell ⟨L, o, none⟩ v0).setCell ⟨L, o + 1, none⟩ v1).setCell ⟨L, o + 2, none⟩ v2).setCell ⟨L, o + 3, none⟩ v3).setCell ⟨L, o + 4, none⟩ v4).setCell ⟨L, o + 5, none⟩ v5) :=
  (((((h.setCell (p := ⟨L, o, none⟩) hL v0).setCell (p := ⟨L, o + 1, none⟩) hL v1).setCell (p := ⟨L, o + 2, none⟩) hL v2).setCell (p := ⟨L, o + 3, none⟩) hL v3).setCell (p := ⟨L, o + 4, none⟩) hL v4).setCell (p := ⟨L, o + 5, none⟩) hL v5
theorem rowIs_madeM (Z : Array Value) (hZ : Z = clZ.cells) (w : World) (n : Nat) (t : TypeId) : (w.alloc (.cells (madeCells Z (n * 6)) t)).rowIs w.heap.size t (n * 6) (mrow fun _ => (false, CD.z)) := by
  have h := rowIs_made6 (fun _ => false) Z hZ w n t
  refine h.congr (fun j _ => ?_)
  unfold bcell mrow
  have hj : j % 6 < 6 := Nat.mod_lt _ (by omega)
  generalize j % 6 = r at *
  match r, hj with
  | 0, _ => rfl
  | 1, _ => rw [if_pos rfl]; simp; rfl
  | 2, _ => rfl
  | 3, _ => rfl
  | 4, _ => rfl
  | 5, _ => rfl
theorem inM_row {w : World} {L n : Nat} {t : TypeId} {f : Nat → MC} (h : w.rowIs L t (n * 6) (mrow f)) (l : List MC) (hl : l.length = n) (hf : ∀ i x, l[i]? = some x → f i = x) (c : Nat) : InM w (.slice (some ⟨L, 0, none⟩) n c) l := by
  refine ⟨_, c, by rw [hl], fun i x hx => ⟨L, rfl, h.lt, ?_⟩⟩
  have hi : i < n := by rw [← hl]; exact (List.getElem?_eq_some_iff.1 hx).1
  obtain ⟨m0, m1, m2, m3, m4, m5⟩ := mrow_at f i
  rw [hf i x hx] at m0 m1 m2 m3 m4 m5
  exact ⟨by rw [h.cell (by omega), m0], by rw [h.cell (by omega), m1], by rw [h.cell (by omega), m2], by rw [h.cell (by omega), m3], by rw [h.cell (by omega), m4], by rw [h.cell (by omega), m5]⟩
theorem spr_get {bits : List Bool} {l : List CD} {i : Nat} {x : MC} (h : (spr bits l)[i]? = some x) : i < bits.length ∧ spc bits l i = x := by
  have hi := (List.getElem?_eq_some_iff.1 h).1
  rw [spr_len] at hi
  refine ⟨hi, ?_⟩
  unfold spr at h
  simp [hi] at h
  exact h
/-- What is laid of the cells spread so far. -/
def laidM (bits : List Bool) (l : List CD) (i k : Nat) : MC := if k < i then spc bits l k else (false, CD.z)
theorem laidM_on (bits : List Bool) (l : List CD) (i k : Nat) : mset (laidM bits l i) i (spc bits l i) k = laidM bits l (i + 1) k := by
  unfold mset laidM
  by_cases h : k = i
  · subst h; rw [if_pos rfl, if_pos (by omega)]
  · rw [if_neg h]
    by_cases h1 : k < i
    · rw [if_pos h1, if_pos (by omega)]
    · rw [if_neg h1, if_neg (by omega)]
theorem mrow_congr {f g : Nat → MC} (h : ∀ k, f k = g k) (j : Nat) : mrow f j = mrow g j := by unfold mrow; rw [h]
set_option maxHeartbeats 4000000 in
set_option maxRecDepth 100000 in
theorem nspread_any (bits : List Bool) (l : List CD) (hlen : bits.length ≤ 10000) (hl : l.length + cnt bits = bits.length) (vb v : Value) (w : World) (hvb : SlB w vb bits) (hv : InC w v l) :
    Calls Tryz.prog 55 #[vb, v] w fun e w' => (∃ V, e = .returned (.tuple #[V, .int .i64 0]) ∧ InM w' V (spr bits l)) ∧ Below w.heap.size w w' := by
  have KC := hide (count_any bits vb w hvb)
  obtain ⟨A, ca, rfl, hcap, hcell⟩ := hv.form2
  obtain ⟨Ab, cb, rfl, hbit⟩ := hvb.form
  have HC := hide hcell
  have HCAP := hide hcap
  have HBT := hide hbit
  have HTL := hide (fun i hi hb => there_lt hl (i := i) hi hb)
  obtain ⟨Z, HZ⟩ : ∃ Z, Hid (Z = clZ.cells) := ⟨_, rfl⟩
  have hmk : ∀ w : World, (Instr.makeSlice 25 (.int .i64 (bits.length : Int)) (.int .i64 (bits.length : Int))).run Tryz.prog w = .ok (.slice (some ⟨w.heap.size, 0, none⟩) bits.length bits.length) (w.alloc (.cells (madeCells Z (bits.length * 6)) 45)) := fun w => by
    rw [HZ.out]
    obtain ⟨i0, hi, hz0, hz1, hz2⟩ := info_parts info_cC
    have := run_make (P := Tryz.prog) w 25 45 i0 clZ Tryz.underlying25 hi hz0 .i64 .i64 bits.length bits.length (by omega) (by omega) (by rw [hz2]; omega) (by omega)
    rw [hz1] at this
    simpa using this
  have hcn : cnt bits ≤ bits.length := by omega
  have hm : l.length ≤ 10000 := by omega
  have HEQ := hide (show ((bits.length : Int) - (cnt bits : Int)) = (l.length : Int) from by omega)
  have HCN := hide hl
  clear hcell hbit hv hvb hcap hl
  generalize hn : bits.length = n at *
  have HN := hide hn
  generalize hm' : l.length = m at *
  have HM := hide hm'
  clear hn hm'
  generalize hcc : cnt bits = cc at *
  have HCC := hide hcc
  clear hcc
  have hst := fun (w1 : World) (a1 : Addr) (m : Mode) (x y : Nat) => run_store Tryz.prog w1 a1 (.complex .f64 x y) m rfl
  have hsub : (n : Int) - (cc : Int) = (m : Int) := HEQ.out
  go_enter Tryz.func55, Tryz.ntmps55
  go_wp2_with fail
  refine KC.out.mono ?_
  rintro e w1 ⟨rfl, rfl⟩
  go_wp2_with fail
  go_loopw [1, 30] (fun lv iv wr => ∃ (i a r c : Nat) (A' : Option Addr), i ≤ n ∧ iv = .int .i64 (i : Int) ∧ lv = .slice A' r c ∧ Hid (a + cntTo bits i = i) ∧ Hid (a + r = m) ∧ Hid (0 < r → r ≤ c ∧ ∃ g, A = some ⟨g, 0, none⟩ ∧ A' = some ⟨g, a * 6, none⟩) ∧ Hid (wr.rowIs w.heap.size 45 (n * 6) (mrow (laidM bits l i))) ∧ Hid (Below w.heap.size w wr)) (fun _ iv _ => n - (intOf iv).toNat)
  case atStart =>
    refine ⟨0, 0, m, ca, A, by omega, rfl, rfl, (by show 0 + cntTo bits 0 = 0; unfold cntTo; rfl), (by show 0 + m = m; omega), ?_, (rowIs_madeM Z HZ.out w n _).congr (fun j _ => mrow_congr (fun k => by unfold laidM; rw [if_neg (by omega)]) j), (Below.refl _ _).alloc (Nat.le_refl _) _⟩
    show 0 < m → _
    intro h
    have hx : ∃ x, l[0]? = some x := ⟨l[0]'(by rw [HM.out]; exact h), List.getElem?_eq_getElem _⟩
    obtain ⟨x, hx⟩ := hx
    obtain ⟨g, hA, _, _⟩ := HC.out 0 x hx
    exact ⟨HCAP.out h, g, hA, by rw [hA]⟩
  case round =>
    obtain ⟨i, a, r, c, A', hin, rfl, rfl, hac, har, hsl, hrow, hb⟩ := hrel
    by_cases hlt : i < n
    · obtain ⟨gb, ob, hA, hgb, hbt⟩ := HBT.out i hlt
      subst hA
      have b0 := (hb.out.cell (p := ⟨gb, ob + i, none⟩) hgb).trans hbt
      have HLT := hide hlt
      have hi0 : (0 : Int) ≤ (i : Int) := by omega
      have hi1 : (i : Int) < (n : Int) := by omega
      have hi2 : (i : Int) ≤ 10000 := by omega
      have hf0 := hrow.out.frozen (i * 6)
      have hf1 := hrow.out.frozen (i * 6 + 1)
      have hf2 := hrow.out.frozen (i * 6 + 2)
      have hf3 := hrow.out.frozen (i * 6 + 3)
      have hf4 := hrow.out.frozen (i * 6 + 4)
      have hf5 := hrow.out.frozen (i * 6 + 5)
      have hc0 := hrow.out.cell (show i * 6 < n * 6 by omega)
      have hc1 := hrow.out.cell (show i * 6 + 1 < n * 6 by omega)
      have hc2 := hrow.out.cell (show i * 6 + 2 < n * 6 by omega)
      have hc3 := hrow.out.cell (show i * 6 + 3 < n * 6 by omega)
      have hc4 := hrow.out.cell (show i * 6 + 4 < n * 6 by omega)
      have hc5 := hrow.out.cell (show i * 6 + 5 < n * 6 by omega)
      have hfi : laidM bits l i i = (false, CD.z) := by unfold laidM; rw [if_neg (by omega)]
      obtain ⟨m0, m1, m2, m3, m4, m5⟩ := mrow_at (laidM bits l i) i
      rw [hfi] at m0 m1 m2 m3 m4 m5
      rw [m0] at hc0
      rw [m1] at hc1
      rw [m2] at hc2
      rw [m3] at hc3
      rw [m4] at hc4
      rw [m5] at hc5
      have HON := hide (laidM_on bits l i)
      clear m0 m1 m2 m3 m4 m5
      cases hbi : bits.getD i false
      · have hlm := HTL.out i hlt hbi
        have hae : i - cntTo bits i = a := by have := hac.out; omega
        rw [hae] at hlm
        have hr : 0 < r := by have := har.out; omega
        obtain ⟨hrc, g', hAA, hA'⟩ := hsl.out hr
        subst hA'
        subst hAA
        obtain ⟨x, hx⟩ : ∃ x, l[a]? = some x := ⟨l[a]'(by rw [HM.out]; exact hlm), List.getElem?_eq_getElem _⟩
        obtain ⟨g, hA, hg, hat⟩ := HC.out a x hx
        injection hA with hA
        injection hA with hA
        subst hA
        obtain ⟨a0, a1, a2, a3, a4, a5⟩ := hat.below hb.out hg
        have HSC : Hid (spc bits l i = (false, x)) := by
          show _ = _
          unfold spc
          rw [if_neg (by rw [hbi]; simp), hae, List.getD_eq_getElem?_getD, hx]
          rfl
        have HBC : Hid (cntTo bits (i + 1) = cntTo bits i) := by show _ = _; rw [cntTo_succ, bit_false hbi]; rfl
        rw [hbi] at b0
        have HRC := hide hrc
        have HR0 := hide hr
        obtain ⟨xb, xx, xu, xt, xp, xq⟩ := x
        simp only at a0 a1 a2 a3 a4 a5
        have HR1 := hide ((mset6 hrow.out i false xb xx xu xt xp xq).congr (fun j _ => mrow_congr (g := laidM bits l (i + 1)) (fun k => (by rw [← HSC.out]; exact HON.out k)) j))
        have HB1 := hide (below_set6 hb.out (Nat.le_refl _) (i * 6) (.bool false) (.bool xb) (.int .i64 xx) (.int .u64 xu) (.string xt) (.complex .f64 xp xq))
        have hr0 : (0 : Int) < (r : Int) := by omega
        clear hx hat hlt hbi hae hbt hfi hsl hrc hr hlm
        obtain ⟨A2, hA2⟩ : ∃ A2, (if c = 1 then some (⟨g', a * 6, none⟩ : Addr) else some ⟨g', a * 6 + 6, none⟩) = A2 := ⟨_, rfl⟩
        have HA2 := hide hA2
        have hsl : ∀ w : World, (Instr.slice 25 (.slice (some ⟨g', a * 6, none⟩) r c) (some (.int .i64 1)) none none).run Tryz.prog w = .ok (.slice A2 (r - 1) (c - 1)) w := fun w => by
          rw [← HA2.out]
          have := HR0.out
          simp [Instr.slice, Instr.sliceBounds, Instr.sliceBound, asIntOf, run_underlying Tryz.underlying25, go_sem]
          intro h
          omega
        clear hA2
        go_wp2_with fail
        go_region
        go_wp2_with fail
        go_roundw
        case rel =>
          refine ⟨i + 1, a + 1, r - 1, c - 1, A2, by have := HLT.out; omega, by go_num, rfl, (by show _ = _; rw [HBC.out]; have := hac.out; omega), (by show _ = _; have := har.out; have := HR0.out; omega), ?_, HR1.out.drew, HB1.out.drew⟩
          show 0 < r - 1 → _
          intro h
          have := HRC.out
          refine ⟨by omega, g', rfl, ?_⟩
          rw [← HA2.out, if_neg (by omega), show (a + 1) * 6 = a * 6 + 6 by omega]
        case measure => have := HLT.out; simp [intOf]; omega
      · have HSC : Hid (spc bits l i = (true, CD.z)) := by
          show _ = _
          unfold spc
          rw [if_pos hbi]
        have HBC : Hid (cntTo bits (i + 1) = cntTo bits i + 1) := by show _ = _; rw [cntTo_succ, bit_true hbi]
        rw [hbi] at b0
        have HR1 := hide (((hrow.out.set (i * 6) (.bool true)).congr (fun j _ => mrow_null (laidM bits l i) i CD.z hfi j)).congr (fun j _ => mrow_congr (g := laidM bits l (i + 1)) (fun k => (by rw [← HSC.out]; exact HON.out k)) j))
        have HB1 := hide (hb.out.setCell (p := ⟨w.heap.size, i * 6, none⟩) (Nat.le_refl _) (.bool true))
        clear hlt hbi hbt hfi
        go_wp2_with fail
        go_roundw
        case rel => exact ⟨i + 1, a, r, c, A', by have := HLT.out; omega, by go_num, rfl, (by show _ = _; rw [HBC.out]; have := hac.out; omega), har.out, hsl.out, HR1.out, HB1.out⟩
        case measure => have := HLT.out; simp [intOf]; omega
    · obtain rfl : n = i := by omega
      have HV := hide (inM_row hrow.out (spr bits l) (by rw [spr_len, HN.out]) (fun i x hx => by
        obtain ⟨h1, h2⟩ := spr_get hx
        rw [HN.out] at h1
        unfold laidM
        rw [if_pos h1, h2]) n)
      clear hlt hin
      go_wp2_with fail
      go_ret2
      exact ⟨⟨_, rfl, HV.out⟩, hb.out⟩
end Go.Proofs.YtfkgmodgkifelaaGreatDoor
namespace Go.Proofs.YtfkgmodgkifelaaGreatDoor
open Go.RowKit

/-- So many cells of a way. -/
def backS (way : Nat) (k : Int) (D : List Nat) (n : Int) : Nat × List CD := if way = 1 then dspec k D n else if way = 2 then rspec k D n else if way = 3 then lspec k D n else if way = 4 then xspec k D n else (14, [])
theorem backS_dec (way : Nat) (k : Int) (h1 : 1 ≤ k) (h6 : k ≤ 6) (D : List Nat) (hD : Bys D) (n : Int) : Dec k n (backS way k D n) := by
  unfold backS
  split
  · exact dspec_dec k h1 h6 D hD n
  · split
    · exact rspec_dec k h1 h6 D hD n
    · split
      · exact lspec_dec k D n
      · split
        · exact xspec_dec k h1 h6 D hD n
        · exact dec_err (by decide) (by decide)
set_option maxHeartbeats 2000000 in
set_option maxRecDepth 100000 in
theorem cback_any (way : Nat) (k : Int) (s : ByteArray) (hs : s.size ≤ 600) (n : Int) (w : World) (hT : Tabs w) :
    Calls Tryz.prog 19 #[.int .i64 (way : Int), .int .i64 k, .string s, .int .i64 n] w (DPost w (backS way k (bn s) n)) := by
  have hm : s.size ≤ maxLen := Nat.le_trans hs (by simp [maxLen])
  by_cases w1 : way = 1
  · subst w1
    have K := hide (sdecode_any k s (by omega) n w hT)
    rw [show backS 1 k (bn s) n = dspec k (bn s) n from rfl]
    unfold DPost at K ⊢
    generalize (dspec k (bn s) n).1 = er at *
    generalize (dspec k (bn s) n).2 = l at *
    clear hm hs hT
    go_enter Tryz.func19, Tryz.ntmps19
    go_wp2_with fail
    refine K.out.mono ?_
    rintro e w1 ⟨V, rfl, hV, hb⟩
    have HV := hide hV
    have HB := hide hb
    clear hV hb
    go_wp2_with fail
    go_ret2
    exact ⟨_, rfl, HV.out, HB.out⟩
  by_cases w2 : way = 2
  · subst w2
    have K := hide (srdecode_any k s hm n w hT)
    rw [show backS 2 k (bn s) n = rspec k (bn s) n from rfl]
    unfold DPost at K ⊢
    generalize (rspec k (bn s) n).1 = er at *
    generalize (rspec k (bn s) n).2 = l at *
    clear hm hs hT
    go_enter Tryz.func19, Tryz.ntmps19
    go_wp2_with fail
    refine K.out.mono ?_
    rintro e w1 ⟨V, rfl, hV, hb⟩
    have HV := hide hV
    have HB := hide hb
    clear hV hb
    go_wp2_with fail
    go_ret2
    exact ⟨_, rfl, HV.out, HB.out⟩
  by_cases w3 : way = 3
  · subst w3
    have K := hide (sddecode_any k s hm n w hT)
    rw [show backS 3 k (bn s) n = lspec k (bn s) n from rfl]
    unfold DPost at K ⊢
    generalize (lspec k (bn s) n).1 = er at *
    generalize (lspec k (bn s) n).2 = l at *
    clear hm hs hT
    go_enter Tryz.func19, Tryz.ntmps19
    go_wp2_with fail
    refine K.out.mono ?_
    rintro e w1 ⟨V, rfl, hV, hb⟩
    have HV := hide hV
    have HB := hide hb
    clear hV hb
    go_wp2_with fail
    go_ret2
    exact ⟨_, rfl, HV.out, HB.out⟩
  by_cases w4 : way = 4
  · subst w4
    have K := hide (sxdecode_any k s hm n w hT)
    rw [show backS 4 k (bn s) n = xspec k (bn s) n from rfl]
    unfold DPost at K ⊢
    generalize (xspec k (bn s) n).1 = er at *
    generalize (xspec k (bn s) n).2 = l at *
    clear hm hs hT
    go_enter Tryz.func19, Tryz.ntmps19
    go_wp2_with fail
    refine K.out.mono ?_
    rintro e w1 ⟨V, rfl, hV, hb⟩
    have HV := hide hV
    have HB := hide hb
    clear hV hb
    go_wp2_with fail
    go_ret2
    exact ⟨_, rfl, HV.out, HB.out⟩
  have d1 : ((way : Int) == 1) = false := by rw [beq_eq_false_iff_ne]; omega
  have d2 : ((way : Int) == 2) = false := by rw [beq_eq_false_iff_ne]; omega
  have d3 : ((way : Int) == 3) = false := by rw [beq_eq_false_iff_ne]; omega
  have d4 : ((way : Int) == 4) = false := by rw [beq_eq_false_iff_ne]; omega
  rw [show backS way k (bn s) n = (14, []) by unfold backS; rw [if_neg w1, if_neg w2, if_neg w3, if_neg w4]]
  clear hm hs hT w1 w2 w3 w4
  go_enter Tryz.func19, Tryz.ntmps19
  go_wp2_with fail
  go_ret2
  exact ⟨_, rfl, inC_nil _, Below.refl _ _⟩
/-- Which cells are missing: the error, the bits, where the reader stands. -/
def missS (nl : Bool) (D : List Nat) (p n : Nat) : Nat × List Bool × Nat :=
  if nl = true then (if D.length - p < (n + 7) / 8 then (10, [], p) else ((unR ((D.drop p).take ((n + 7) / 8)) n).1, (unR ((D.drop p).take ((n + 7) / 8)) n).2, p + (n + 7) / 8)) else (0, List.replicate n false, p)
theorem slB_rep (w : World) (n : Nat) (hn : n ≤ 10000) (o : Obj) (ho : o = .cells (madeCells #[.bool false] n) 4) : SlB (w.alloc o) (.slice (some ⟨w.heap.size, 0, none⟩) n n) (List.replicate n false) := by
  subst ho
  have := slB_row (World.rowIs_made w (.bool false) n 4) (List.replicate n false) (by simp) (by unfold maxLen; omega) (fun i hi => by simp [List.getD, hi])
  exact this
/-- How column.missing ends. -/
def MPost (R : Nat) (w : World) (s : ByteArray) (r : Nat × List Bool × Nat) (e : Ending) (w' : World) : Prop :=
  (∃ V, e = .returned (.tuple #[V, .int .i64 (r.1 : Nat)]) ∧ (r.1 = 0 → SlB w' V r.2.1)) ∧ (r.1 = 0 → Rd w' R s r.2.2 0) ∧ Fr w w' (fun k => k = R)
set_option maxHeartbeats 4000000 in
set_option maxRecDepth 100000 in
theorem missing_any (nm : ByteArray) (k : Int) (nl : Bool) (R : Nat) (s : ByteArray) (hs : s.size ≤ 600) (p : Nat) (hp : p ≤ s.size) (n : Nat) (hn : n ≤ 10000) (w : World) (hr : Rd w R s p 0) :
    Calls Tryz.prog 49 #[.pointer (some ⟨R, 0, none⟩), colV nm k nl, .int .i64 (n : Int)] w (MPost R w s (missS nl (bn s) p n)) := by
  have hm : s.size ≤ maxLen := Nat.le_trans hs (by simp [maxLen])
  unfold colV
  have hn0 : (0 : Int) ≤ (n : Int) := by omega
  have hn1 : (n : Int) ≤ 10000 := by omega
  cases nl
  · rw [show missS false (bn s) p n = (0, List.replicate n false, p) from rfl]
    have hmk := run_make_row' (P := Tryz.prog) 50 4 (.bool false) 1 Tryz.underlying50 info_bool rfl .i64 .i64 n (by omega) (by omega)
    have HS := hide (fun o => show SlB ((w.alloc o).alloc (.cells (madeCells #[.bool false] n) 4)) (.slice (some ⟨w.heap.size + 1, 0, none⟩) n n) (List.replicate n false) from by have := slB_rep (w.alloc o) n hn _ rfl; rwa [show (w.alloc o).heap.size = w.heap.size + 1 by simp] at this)
    have HR := hide (fun o o' => (rd_alloc hr o).below ((Below.refl _ _).alloc (Nat.le_refl _) o'))
    generalize madeCells #[Value.bool false] n = CZ at *
    clear hs hm hp hr
    go_enter Tryz.func49, Tryz.ntmps49
    go_wp2_with fail
    go_ret2
    exact ⟨⟨_, rfl, fun _ => HS.out _⟩, fun _ => HR.out _ _, (Fr.alloc w _ _).trans (Fr.alloc _ _ _) (fun _ _ h => h)⟩
  · have hq : ((n : Int) + 8 - 1) / 8 = (((n + 7) / 8 : Nat) : Int) := by omega
    have HQ := hide hq
    clear hq
    have KRR := hide (fun (o : Obj) => rraw_any R s p 0 (((n + 7) / 8 : Nat) : Int) (by omega) hm hp (w.alloc o) (rd_alloc hr o))
    have hlt := Blk.lt hr
    have hbl := bn_len s
    by_cases hsh : (bn s).length - p < (n + 7) / 8
    · have e1 : missS true (bn s) p n = (10, [], p) := by unfold missS; rw [if_pos rfl, if_pos hsh]
      have e2 : stT s p 0 (rawS (((n + 7) / 8 : Nat) : Int)) = ([], p + 0, 10) := by
        rw [stT_at]
        unfold rawS
        rw [if_neg (by omega), if_pos (by rw [List.length_drop]; omega)]
      rw [e2] at KRR
      rw [e1]
      simp only at KRR
      generalize (n + 7) / 8 = z at *
      have HRW := hide hlt
      clear e1 e2 hm hp hr hs hsh hbl
      go_enter Tryz.func49, Tryz.ntmps49
      go_wp2_with fail
      rw [HQ.out]
      refine (KRR.out _).mono ?_
      rintro e w1 ⟨rfl, hr1, hf1⟩
      have KE := hide (rerr_any R s (p + 0) 10 w1 hr1)
      have HF := hide ((Fr.alloc w _ _).trans hf1 (fun _ _ h => h))
      clear hr1 hf1
      go_wp2_with fail
      refine KE.out.mono ?_
      rintro e w2 ⟨rfl, rfl⟩
      go_wp2_with fail
      go_ret2
      exact ⟨⟨_, rfl, (fun h => by cases h)⟩, (fun h => by cases h), HF.out⟩
    · have e1 : missS true (bn s) p n = ((unR (((bn s).drop p).take ((n + 7) / 8)) n).1, (unR (((bn s).drop p).take ((n + 7) / 8)) n).2, p + (n + 7) / 8) := by unfold missS; rw [if_pos rfl, if_neg hsh]
      have e2 : stT s p 0 (rawS (((n + 7) / 8 : Nat) : Int)) = (((bn s).drop p).take ((n + 7) / 8), p + (n + 7) / 8, 0) := by
        rw [stT_at]
        unfold rawS
        rw [if_neg (by omega), if_neg (by rw [List.length_drop]; omega)]
        rfl
      rw [e2] at KRR
      rw [e1]
      simp only at KRR
      have hby : ∀ b ∈ ((bn s).drop p).take ((n + 7) / 8), b < 256 := fun b hb => (bys_bn s hs).lt b (List.mem_of_mem_drop (List.mem_of_mem_take hb))
      have hle : (strN (((bn s).drop p).take ((n + 7) / 8))).size ≤ maxLen := by
        rw [strN_size, List.length_take, List.length_drop]; unfold maxLen at *; omega
      have KU := hide (fun w => unpack_any (strN (((bn s).drop p).take ((n + 7) / 8))) hle n w)
      unfold UnPost at KU
      rw [bn_strN _ hby] at KU
      generalize ((bn s).drop p).take ((n + 7) / 8) = Z at *
      generalize (n + 7) / 8 = z at *
      clear e1 e2 hm hp hr hs hsh hbl hby hle
      generalize (unR Z n).1 = er at *
      generalize (unR Z n).2 = L at *
      go_enter Tryz.func49, Tryz.ntmps49
      go_wp2_with fail
      rw [HQ.out]
      refine (KRR.out _).mono ?_
      rintro e w1 ⟨rfl, hr1, hf1⟩
      have KE := hide (rerr_any R s (p + z) 0 w1 hr1)
      have HR1 := hide hr1
      have HF := hide ((Fr.alloc w _ _).trans hf1 (fun _ _ h => h))
      clear hr1 hf1
      go_wp2_with fail
      refine KE.out.mono ?_
      rintro e w2 ⟨rfl, rfl⟩
      go_wp2_with fail
      refine (KU.out _).mono ?_
      rintro e w3 ⟨V, rfl, hV, hb3⟩
      have HV := hide hV
      have HB3 := hide hb3
      clear hV hb3
      go_wp2_with fail
      go_ret2
      exact ⟨⟨_, rfl, fun _ => HV.out⟩, fun _ => HR1.out.below HB3.out, HF.out.trans (Fr.of_below HB3.out _) (fun _ _ h => h)⟩
end Go.Proofs.YtfkgmodgkifelaaGreatDoor
namespace Go.Proofs.YtfkgmodgkifelaaGreatDoor
open Go.RowKit

/-- The cells that a stream tells. -/
def cellsS (k : Int) (nl : Bool) (D : List Nat) : Nat × List MC :=
  if (few D 0).2.2 ≠ 0 then ((few D 0).2.2, [])
  else if 10000 < (few D 0).1 then (31, [])
  else if (missS nl D (few D 0).2.1 (few D 0).1).1 ≠ 0 then ((missS nl D (few D 0).2.1 (few D 0).1).1, [])
  else if D.length ≤ (missS nl D (few D 0).2.1 (few D 0).1).2.2 then (10, [])
  else if (backS (D.getD (missS nl D (few D 0).2.1 (few D 0).1).2.2 0) k (D.drop ((missS nl D (few D 0).2.1 (few D 0).1).2.2 + 1)) (((missS nl D (few D 0).2.1 (few D 0).1).2.1.length : Int) - (cnt (missS nl D (few D 0).2.1 (few D 0).1).2.1 : Int))).1 ≠ 0
    then ((backS (D.getD (missS nl D (few D 0).2.1 (few D 0).1).2.2 0) k (D.drop ((missS nl D (few D 0).2.1 (few D 0).1).2.2 + 1)) (((missS nl D (few D 0).2.1 (few D 0).1).2.1.length : Int) - (cnt (missS nl D (few D 0).2.1 (few D 0).1).2.1 : Int))).1, [])
  else (0, spr (missS nl D (few D 0).2.1 (few D 0).1).2.1 (backS (D.getD (missS nl D (few D 0).2.1 (few D 0).1).2.2 0) k (D.drop ((missS nl D (few D 0).2.1 (few D 0).1).2.2 + 1)) (((missS nl D (few D 0).2.1 (few D 0).1).2.1.length : Int) - (cnt (missS nl D (few D 0).2.1 (few D 0).1).2.1 : Int))).2)
theorem cellsS_e1 {k : Int} {nl : Bool} {D : List Nat} {n a e : Nat} (h : few D 0 = (n, a, e)) (he : e ≠ 0) : cellsS k nl D = (e, []) := by
  unfold cellsS
  rw [h]
  simp only
  rw [if_pos he]
theorem cellsS_e2 {k : Int} {nl : Bool} {D : List Nat} {n a : Nat} (h : few D 0 = (n, a, 0)) (hn : 10000 < n) : cellsS k nl D = (31, []) := by
  unfold cellsS
  rw [h]
  simp only
  rw [if_neg (by simp), if_pos hn]
theorem cellsS_e3 {k : Int} {nl : Bool} {D : List Nat} {n a : Nat} (h : few D 0 = (n, a, 0)) (hn : ¬ 10000 < n) {e p : Nat} {b : List Bool} (hm : missS nl D a n = (e, b, p)) (he : e ≠ 0) : cellsS k nl D = (e, []) := by
  unfold cellsS
  rw [h]
  simp only
  rw [hm]
  simp only
  rw [if_neg (by simp), if_neg hn, if_pos he]
theorem cellsS_e4 {k : Int} {nl : Bool} {D : List Nat} {n a : Nat} (h : few D 0 = (n, a, 0)) (hn : ¬ 10000 < n) {p : Nat} {b : List Bool} (hm : missS nl D a n = (0, b, p)) (hp : D.length ≤ p) : cellsS k nl D = (10, []) := by
  unfold cellsS
  rw [h]
  simp only
  rw [hm]
  simp only
  rw [if_neg (by simp), if_neg hn, if_neg (by simp), if_pos hp]
theorem cellsS_e5 {k : Int} {nl : Bool} {D : List Nat} {n a : Nat} (h : few D 0 = (n, a, 0)) (hn : ¬ 10000 < n) {p : Nat} {b : List Bool} (hm : missS nl D a n = (0, b, p)) (hp : ¬ D.length ≤ p) :
    cellsS k nl D = if (backS (D.getD p 0) k (D.drop (p + 1)) ((b.length : Int) - (cnt b : Int))).1 ≠ 0 then ((backS (D.getD p 0) k (D.drop (p + 1)) ((b.length : Int) - (cnt b : Int))).1, []) else (0, spr b (backS (D.getD p 0) k (D.drop (p + 1)) ((b.length : Int) - (cnt b : Int))).2) := by
  unfold cellsS
  rw [h]
  simp only
  rw [hm]
  simp only
  rw [if_neg (by simp), if_neg hn, if_neg (by simp), if_neg hp]
set_option maxRecDepth 100000 in
theorem en_pd : ∀ args w, (callFunc 88 args).run Tryz.prog w = .ok (.enter 88 args) w := enters_of Tryz.func88 (by kernel_rfl) rfl
set_option maxRecDepth 100000 in
theorem en_rd : ∀ args w, (callFunc 90 args).run Tryz.prog w = .ok (.enter 90 args) w := enters_of Tryz.func90 (by kernel_rfl) rfl
set_option maxRecDepth 100000 in
theorem en_dd : ∀ args w, (callFunc 92 args).run Tryz.prog w = .ok (.enter 92 args) w := enters_of Tryz.func92 (by kernel_rfl) rfl
set_option maxRecDepth 100000 in
theorem en_xd : ∀ args w, (callFunc 94 args).run Tryz.prog w = .ok (.enter 94 args) w := enters_of Tryz.func94 (by kernel_rfl) rfl
theorem wayb_1 (p1 p2 p3 : Nat) : ∃ X : Value, ∀ w, (Instr.index 104 (.agg (wayA p1 p2 p3)) (.int .u8 1)).run Tryz.prog w = .ok (.agg #[X, .func (.func 88) #[] #[]]) w := ⟨.func (.func 128) #[] #[.pointer (some ⟨p1, 0, none⟩)], fun w => by kernel_rfl⟩
theorem wayb_2 (p1 p2 p3 : Nat) : ∃ X : Value, ∀ w, (Instr.index 104 (.agg (wayA p1 p2 p3)) (.int .u8 2)).run Tryz.prog w = .ok (.agg #[X, .func (.func 90) #[] #[]]) w := ⟨.func (.func 128) #[] #[.pointer (some ⟨p2, 0, none⟩)], fun w => by kernel_rfl⟩
theorem wayb_3 (p1 p2 p3 : Nat) : ∃ X : Value, ∀ w, (Instr.index 104 (.agg (wayA p1 p2 p3)) (.int .u8 3)).run Tryz.prog w = .ok (.agg #[X, .func (.func 92) #[] #[]]) w := ⟨.func (.func 91) #[] #[], fun w => by kernel_rfl⟩
theorem wayb_4 (p1 p2 p3 : Nat) : ∃ X : Value, ∀ w, (Instr.index 104 (.agg (wayA p1 p2 p3)) (.int .u8 4)).run Tryz.prog w = .ok (.agg #[X, .func (.func 94) #[] #[]]) w := ⟨.func (.func 128) #[] #[.pointer (some ⟨p3, 0, none⟩)], fun w => by kernel_rfl⟩
theorem way_fn (way : Nat) (h1 : 1 ≤ way) (h4 : way ≤ 4) : ∃ F : FuncId, (∀ p1 p2 p3, ∃ X : Value, ∀ w, (Instr.index 104 (.agg (wayA p1 p2 p3)) (.int .u8 (way : Int))).run Tryz.prog w = .ok (.agg #[X, .func (.func F) #[] #[]]) w) ∧
    (∀ args w, (callFunc F args).run Tryz.prog w = .ok (.enter F args) w) ∧
    (∀ (k : Int) (s : ByteArray), s.size ≤ maxLen → ∀ (n : Int) (w : World), Tabs w → Calls Tryz.prog F #[.int .i64 k, .string s, .int .i64 n] w (DPost w (backS way k (bn s) n))) := by
  have : way = 1 ∨ way = 2 ∨ way = 3 ∨ way = 4 := by omega
  rcases this with rfl | rfl | rfl | rfl
  · exact ⟨_, wayb_1, en_pd, fun k s hs n w hT => pdecode_any k s hs n w hT⟩
  · exact ⟨_, wayb_2, en_rd, fun k s hs n w hT => rdecode_any k s hs n w hT⟩
  · exact ⟨_, wayb_3, en_dd, fun k s hs n w hT => ddecode_any k s hs n w hT⟩
  · exact ⟨_, wayb_4, en_xd, fun k s hs n w hT => xdecode_any k s hs n w hT⟩
/-- How a Decode of cells some of which may be missing ends. -/
def DPostM (w : World) (r : Nat × List MC) (e : Ending) (w' : World) : Prop := ∃ v, e = .returned (.tuple #[v, .int .i64 (r.1 : Nat)]) ∧ InM w' v r.2 ∧ Below w.heap.size w w'
theorem inM_nil (w : World) : InM w (.slice none 0 0) [] := ⟨none, 0, rfl, fun i x h => by simp at h⟩
end Go.Proofs.YtfkgmodgkifelaaGreatDoor
