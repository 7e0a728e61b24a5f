/- Bits as cells: plain.bools, and the document's loop. -/
import Derived.Test.YtihbcojmonlcgaaDoorPlainD2
import Derived.Test.YtihbcojmonlcgaaDoorNulls4
namespace Go.Proofs.YtihbcojmonlcgaaDoor
open Go.RowKit

/-- A bit's cell. -/
def bc (b : Bool) : CD := ⟨b, 0, 0, ByteArray.empty, 0, 0⟩
/-- The cells of bits, as far as they are laid. -/
def bcell (u : Nat → Bool) (k j : Nat) : Value := if j % 6 = 1 then .bool (decide (j / 6 < k) && u (j / 6)) else clZ.cells[j % 6]!
theorem bcell_set (u : Nat → Bool) (k j : Nat) : (if j = k * 6 + 1 then .bool (u k) else bcell u k j) = bcell u (k + 1) j := by
  unfold bcell
  by_cases h : j = k * 6 + 1
  · subst h
    have e1 : (k * 6 + 1) % 6 = 1 := by omega
    have e2 : (k * 6 + 1) / 6 = k := by omega
    rw [if_pos rfl, e1, e2, if_pos rfl]
    simp
  · rw [if_neg h]
    by_cases h1 : j % 6 = 1
    · rw [if_pos h1, if_pos h1]
      have : decide (j / 6 < k + 1) = decide (j / 6 < k) := by rw [decide_eq_decide]; omega
      rw [this]
    · rw [if_neg h1, if_neg h1]
theorem bcell_at (u : Nat → Bool) (n i : Nat) (hi : i < n) : bcell u n (i * 6) = .bool false ∧ bcell u n (i * 6 + 1) = .bool (u i) ∧ bcell u n (i * 6 + 2) = .int .i64 0 ∧ bcell u n (i * 6 + 3) = .int .u64 0 ∧ bcell u n (i * 6 + 4) = .string ByteArray.empty ∧ bcell u n (i * 6 + 5) = .complex .f64 0 0 := by
  have e : ∀ j, j < 6 → (i * 6 + j) % 6 = j ∧ (i * 6 + j) / 6 = i := fun j hj => by omega
  unfold bcell
  refine ⟨?_, ?_, ?_, ?_, ?_, ?_⟩
  · have := e 0 (by omega); rw [Nat.add_zero] at this; rw [this.1]; rfl
  · rw [(e 1 (by omega)).1, (e 1 (by omega)).2, if_pos rfl]; simp [hi]
  · rw [(e 2 (by omega)).1]; rfl
  · rw [(e 3 (by omega)).1]; rfl
  · rw [(e 4 (by omega)).1]; rfl
  · rw [(e 5 (by omega)).1]; rfl
theorem rowIs_made6 (u : Nat → Bool) (Z : Array Value) (hZ : Z = clZ.cells) (w : World) (n : Nat) (t : TypeId) : (w.alloc (.cells (madeCells Z (n * 6)) t)).rowIs w.heap.size t (n * 6) (bcell u 0) := by
  subst hZ
  have := World.rowIs_alloc w (madeCells clZ.cells (n * 6)) t (bcell u 0) (fun i hi => by
    rw [size_madeCells] at hi
    have h6 : clZ.cells.size = 6 := rfl
    have hm : (madeCells clZ.cells (n * 6))[i]? = some (clZ.cells[i % 6]!) := by simp [madeCells, hi, h6]
    rw [hm]
    unfold bcell
    by_cases h : i % 6 = 1
    · rw [if_pos h, h]; simp; rfl
    · rw [if_neg h])
  rwa [size_madeCells] at this
theorem inC_bits {w : World} {L n : Nat} {t : TypeId} {u : Nat → Bool} (h : w.rowIs L t (n * 6) (bcell u n)) (l : List Bool) (hl : l.length = n) (hu : ∀ i, i < n → u i = l.getD i false) (c : Nat) : InC w (.slice (some ⟨L, 0, none⟩) n c) (l.map bc) := by
  rcases Nat.eq_zero_or_pos n with h0 | h0
  · subst h0
    exact .inl ⟨by rw [List.eq_nil_of_length_eq_zero hl]; rfl, _, c, rfl⟩
  · refine .inr ⟨by simpa [hl] using h0, L, c, by rw [List.length_map, hl], h.lt, fun i x hx => ?_⟩
    have hi : i < n := by
      have := (List.getElem?_eq_some_iff.1 hx).1
      rw [List.length_map, hl] at this; exact this
    have hx2 : x = bc (l.getD i false) := by
      rw [List.getElem?_map, List.getElem?_eq_getElem (by omega)] at hx
      have := Option.some.inj hx
      rw [← this]; simp [List.getD, hl, hi]
    subst hx2
    obtain ⟨e0, e1, e2, e3, e4, e5⟩ := bcell_at u n i hi
    exact ⟨by rw [h.cell (by omega), e0], by rw [h.cell (by omega), e1, hu i hi]; rfl, by rw [h.cell (by omega), e2]; rfl, by rw [h.cell (by omega), e3]; rfl, by rw [h.cell (by omega), e4]; rfl, by rw [h.cell (by omega), e5]; rfl⟩
theorem unR_len (s : List Nat) (n : Nat) (h : (unR s n).1 = 0) : (unR s n).2.length = n := by
  by_cases h1 : (n : Int) < 0 ∨ 1048576 < (n : Int)
  · rw [unR_arg s n h1] at h; cases h
  · by_cases h2 : s.length < (n + 7) / 8
    · rw [unR_short s n (by omega) h2] at h; cases h
    · by_cases h3 : (n + 7) / 8 < s.length
      · rw [unR_long s n (by omega) h3] at h; cases h
      · cases hc : cleanTo s n (8 * s.length)
        · rw [unR_form s n (by omega) (by omega) hc] at h; cases h
        · rw [unR_ok s n (by omega) (by omega) hc]; exact ubits_length _ _
theorem unR_err (s : List Nat) (n : Int) (h : (unR s n).1 ≠ 0) : (unR s n).2 = [] := by
  unfold unR at h ⊢
  repeat' split
  all_goals simp_all
set_option maxHeartbeats 2000000 in
set_option maxRecDepth 100000 in
theorem pbools_any (s : ByteArray) (hm : s.size ≤ maxLen) (n : Nat) (hn : n ≤ 10000) (w : World) :
    Calls Tryd.prog 45 #[.string s, .int .i64 n] w (DPost w ((unR (bn s) n).1, ((unR (bn s) n).2).map bc)) := by
  have K := hide (unpack_any s hm n w)
  obtain ⟨Z, HZ⟩ : ∃ Z, Hid (Z = clZ.cells) := ⟨_, rfl⟩
  have hmk : ∀ w : World, (Instr.makeSlice 30 (.int .i64 (n : Int)) (.int .i64 (n : Int))).run Tryd.prog w = .ok (.slice (some ⟨w.heap.size, 0, none⟩) n n) (w.alloc (.cells (madeCells Z (n * 6)) 34)) := fun w => by
    rw [HZ.out]
    obtain ⟨i0, hi, hz0, hz1, hz2⟩ := info_parts info_cC
    have := run_make (P := Tryd.prog) w 30 34 i0 clZ Tryd.underlying30 hi hz0 .i64 .i64 n n (by omega) (by omega) (by rw [hz2]; omega) (by omega)
    rw [hz1] at this
    simpa using this
  unfold UnPost at K
  have hlen := unR_len (bn s) n
  have herr := unR_err (bn s) n
  rcases hu : unR (bn s) n with ⟨er, l⟩
  rw [hu] at K hlen herr
  simp only at K hlen herr ⊢
  clear hu hm
  by_cases h0 : er = 0
  · have hl := hlen h0
    subst h0
    clear hlen herr
    obtain ⟨u, hU⟩ : ∃ u : Nat → Bool, Hid (∀ i, i < n → u i = l.getD i false) := ⟨fun i => l.getD i false, fun _ _ => rfl⟩
    have HL := hide hl
    go_enter Tryd.func45, Tryd.ntmps45
    go_wp2_with fail
    refine K.out.mono ?_
    rintro e w1 ⟨v, rfl, hsl, hb1⟩
    have HB1 := hide hb1
    obtain ⟨hml, hs⟩ := hsl
    rw [HL.out] at hs
    clear hb1 hml hl
    rcases hs with ⟨hn0, a, c, rfl, _⟩ | ⟨hpos, g, o, c, rfl, hc, hg, hcell⟩
    · have HN0 := hide hn0
      clear hn0
      go_wp2_with fail
      go_loopw [24] (fun iv wr => iv = .int .i64 (0 : Int) ∧ wr = w1.alloc (.cells (madeCells Z (n * 6)) 34)) (fun iv _ => 0)
      case atStart => exact ⟨rfl, rfl⟩
      case round =>
        obtain ⟨rfl, rfl⟩ := hrel
        go_wp2_with fail
        go_ret2
        exact ⟨_, rfl, .inl ⟨by rw [List.eq_nil_of_length_eq_zero (HL.out.trans HN0.out)]; rfl, some ⟨w1.heap.size, 0, none⟩, n, congrArg (fun k => Value.slice (some ⟨w1.heap.size, 0, none⟩) k n) HN0.out⟩, HB1.out.alloc HB1.out.size _⟩
    · have HC := hide hcell
      have HG := hide hg
      clear hcell
      go_wp2_with fail
      go_loopw [24] (fun iv wr => ∃ i : Nat, i ≤ n ∧ iv = .int .i64 (i : Int) ∧ wr.rowIs w1.heap.size 34 (n * 6) (bcell u i) ∧ Below w1.heap.size w1 wr) (fun iv _ => n - (intOf iv).toNat)
      case atStart => exact ⟨0, by omega, rfl, rowIs_made6 u Z HZ.out w1 n _, (Below.refl _ _).alloc (Nat.le_refl _) _⟩
      case round =>
        obtain ⟨i, hin, rfl, hrow, hbe⟩ := hrel
        by_cases hlt : i < n
        · have hc1 := (hbe.cell (p := ⟨g, o + i, none⟩) HG.out).trans (HC.out i hlt)
          rw [← hU.out i hlt] at hc1
          obtain ⟨v1, hv1⟩ : ∃ v1, wr.cell? ⟨w1.heap.size, i * 6 + 1, none⟩ = some v1 := ⟨_, hrow.cell (by omega)⟩
          have hf := hrow.frozen (i * 6 + 1)
          have HR2 : Hid ((wr.setCell ⟨w1.heap.size, i * 6 + 1, none⟩ (.bool (u i))).rowIs w1.heap.size 34 (n * 6) (bcell u (i + 1))) := (hrow.set (i * 6 + 1) (.bool (u i))).congr (fun j _ => bcell_set u i j)
          have HB2 := hide (hbe.setCell (p := ⟨w1.heap.size, i * 6 + 1, none⟩) (Nat.le_refl _) (.bool (u i)))
          have hi0 : (0 : Int) ≤ (i : Int) := by omega
          have hi1 : (i : Int) < (n : Int) := by omega
          clear hrow hbe
          generalize u i = ui at *
          go_wp2_with fail
          go_roundw
          case rel => exact ⟨i + 1, by omega, by go_num, HR2.out, HB2.out⟩
          case measure => simp [intOf] <;> omega
        · obtain rfl : i = n := by omega
          have HR := hide hrow
          have HBE := hide hbe
          clear hrow hbe
          go_wp2_with fail
          go_ret2
          exact ⟨_, rfl, inC_bits HR.out l HL.out hU.out _, HB1.out.trans (HBE.out.mono HB1.out.size)⟩
  · have he := herr h0
    subst he
    have hne : ((er : Int) != 0) = true := by rw [bne_iff_ne]; omega
    clear hlen herr h0
    go_enter Tryd.func45, Tryd.ntmps45
    go_wp2_with fail
    refine K.out.mono ?_
    rintro e w1 ⟨v, rfl, hsl, hb1⟩
    have HB1 := hide hb1
    clear hsl hb1
    go_wp2_with fail
    go_ret2
    exact ⟨_, rfl, inC_nil _, HB1.out⟩
end Go.Proofs.YtihbcojmonlcgaaDoor
