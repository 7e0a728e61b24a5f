/- The walk of FrameReads. -/
import Derived.Test.YtkeaijocjbldmaaFrameL
namespace Go.Proofs.Ytkeaijocjbldmaa
open Go.RowKit Go.ChangeShapes Go.WideShapes

/-- The cells of a frame of one's own. -/
theorem own_frame {w : World} {B g c : Nat} {e : TypeId} {l : List FrD} (h : w.ownsRow B e 3 (.slice (some ⟨g, 0, none⟩) l.length c) l.length (l.flatMap cells3)) {i : Nat} {f : FrD} (hf : l[i]? = some f) :
    w.cell? ⟨g, i * 3, none⟩ = some (.int .u8 (f.1 : Nat)) ∧ w.cell? ⟨g, i * 3 + 1, none⟩ = some (.string (strN f.2.1)) ∧ w.cell? ⟨g, i * 3 + 2, none⟩ = some (.int .i64 (f.2.2 : Nat)) := by
  have hi : i < l.length := (List.getElem?_eq_some_iff.1 hf).1
  obtain ⟨h0, h1, h2⟩ := cells3_get l i f hf
  exact ⟨(h.cellAt (i * 3) (by omega)).trans h0, (h.cellAt (i * 3 + 1) (by omega)).trans h1, (h.cellAt (i * 3 + 2) (by omega)).trans h2⟩
set_option maxHeartbeats 2000000 in
set_option maxRecDepth 100000 in
theorem frameReads_walk (w : World) (s : ByteArray) (hs : s.size ≤ maxLen) :
    Calls Try.prog 10 #[.string s] w fun e w' => e = .returned (.bool true) ∧ Below w.heap.size w w' := by
  have KA := hide (fun w => awake05 w)
  unfold maxLen at hs
  by_cases h1000 : 1000 < s.size
  · go_enter Try.func10, Try.ntmps10
    go_wp2_with fail
    refine (KA.out _).mono ?_
    rintro e w1 ⟨rfl, hb1⟩
    go_wp2_with fail
    go_ret
    exact ⟨rfl, hb1⟩
  have K1 := hide (fun w => fnext_any s (by unfold maxLen; omega) w)
  have K2 := hide (fun w => refnext_any s (by omega) w)
  have K3 := hide (fun w => scan_any s (by omega) w)
  have K4 := hide (fun w => refscan_any s (by omega) w)
  unfold ScanPost at K3 K4
  have hsl := (scan_lt (bn s) (bn_lt s)).2.2.2
  rw [bn_len] at hsl
  generalize nextN (bn s) = T at *
  obtain ⟨k, bd, n, er⟩ := T
  generalize scanN (bn s) 0 = U at *
  obtain ⟨l, p, f⟩ := U
  simp only at K1 K2 K3 K4 hsl
  have hl63 : l.length ≤ 1000 := by omega
  go_enter Try.func10, Try.ntmps10
  go_wp2_with fail
  refine (K1.out _).mono ?_
  rintro e w1 ⟨rfl, hb1⟩
  go_wp2_with fail
  refine (K2.out _).mono ?_
  rintro e w2 ⟨rfl, hb2⟩
  have hb3 := hb1.trans (hb2.mono hb1.size)
  clear hb1 hb2
  go_wp2_with fail
  refine (K3.out _).mono ?_
  rintro e w3 ⟨va, rfl, ha, hb4⟩
  have hb5 := hb3.trans (hb4.mono hb3.size)
  clear hb3 hb4
  obtain ⟨Aa, ca, rfl⟩ := own_form3 ha
  have HA := hide ha
  clear ha
  go_wp2_with fail
  refine (K4.out _).mono ?_
  rintro e w4 ⟨vb, rfl, hbo, hb6⟩
  have hb7 := hb5.trans (hb6.mono hb5.size)
  have HA4 := hide (own_below HA.out hb6)
  clear hb5 hb6 HA
  obtain ⟨Ab, cb, rfl⟩ := own_form3 hbo
  have HB4 := hide hbo
  clear hbo
  go_wp2_with fail
  go_loopw [17] (fun iv wr => ∃ (i m : Nat), i ≤ l.length ∧ iv = .int .i64 (i : Int) ∧ wr = w4.drewN m) (fun iv _ => l.length - (intOf iv).toNat)
  case atStart => exact ⟨0, 0, by omega, rfl, rfl⟩
  case round =>
    obtain ⟨i, m, hi, rfl, rfl⟩ := hrel
    by_cases hlt : i < l.length
    · obtain ⟨fr, hfr⟩ : ∃ fr, l[i]? = some fr := ⟨_, List.getElem?_eq_getElem hlt⟩
      obtain ⟨ga, cpa, hea⟩ := own_addr HA4.out (by omega)
      injection hea with hA1 _ hA2
      subst hA1 hA2
      obtain ⟨gb, cpb, heb⟩ := own_addr HB4.out (by omega)
      injection heb with hB1 _ hB2
      subst hB1 hB2
      obtain ⟨a0, a1, a2⟩ := own_frame HA4.out hfr
      obtain ⟨b0, b1, b2⟩ := own_frame HB4.out hfr
      clear hfr
      have hi0 : (0 : Int) ≤ (i : Int) := by omega
      have hi1 : (i : Int) < (l.length : Int) := by omega
      go_wp2_with fail
      go_quiet (fail)
      go_wp2_with fail
      go_roundw
      case rel => exact ⟨i + 1, _, by omega, by go_num, rfl⟩
      case measure => simp [intOf] <;> omega
    · go_wp2_with fail
      refine (KA.out _).mono ?_
      rintro e w5 ⟨rfl, hb8⟩
      go_wp2_with fail
      go_ret
      have hb9 := below_drewN hb7 m
      exact ⟨rfl, hb9.trans (hb8.mono hb9.size)⟩
end Go.Proofs.Ytkeaijocjbldmaa
