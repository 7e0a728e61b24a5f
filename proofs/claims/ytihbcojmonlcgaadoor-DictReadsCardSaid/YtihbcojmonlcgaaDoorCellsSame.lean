/- Two lists of cells that are the same, part by part. -/
import Derived.Test.YtihbcojmonlcgaaDoorLex
import Derived.Test.YtihbcojmonlcgaaDoorProg
import Derived.BigQuiet
namespace Go.Proofs.YtihbcojmonlcgaaDoor
open Go.RowKit

/-- A cell's places. -/
structure AtC (w : World) (g o : Nat) (b : Bool) (x u : Int) (t : ByteArray) (p q : Nat) : Prop where
  c0 : w.cell? ⟨g, o, none⟩ = some (.bool false)
  c1 : w.cell? ⟨g, o + 1, none⟩ = some (.bool b)
  c2 : w.cell? ⟨g, o + 2, none⟩ = some (.int .i64 x)
  c3 : w.cell? ⟨g, o + 3, none⟩ = some (.int .u64 u)
  c4 : w.cell? ⟨g, o + 4, none⟩ = some (.string t)
  c5 : w.cell? ⟨g, o + 5, none⟩ = some (.complex .f64 p q)
set_option maxHeartbeats 4000000 in
set_option maxRecDepth 100000 in
theorem cells_same (n : Nat) (hn : n ≤ 100000) (g1 g2 c1 c2 : Nat) (b : Nat → Bool) (x u : Nat → Int) (t : Nat → ByteArray) (p q : Nat → Nat) (w : World)
    (H1 : Hid (∀ i, i < n → AtC w g1 (i * 6) (b i) (x i) (u i) (t i) (p i) (q i))) (H2 : Hid (∀ i, i < n → AtC w g2 (i * 6) (b i) (x i) (u i) (t i) (p i) (q i)))
    (H3 : Hid (∀ i, i < n → FloatKind.f64.format.order (p i) (p i) = some .eq ∧ FloatKind.f64.format.order (q i) (q i) = some .eq)) :
    Calls Tryd.prog 18 #[.slice (some ⟨g1, 0, none⟩) n c1, .slice (some ⟨g2, 0, none⟩) n c2] w fun e w' => e = .returned (.bool true) ∧ ∃ m, w' = w.drewN m := by
  go_enter Tryd.func18, Tryd.ntmps18
  go_wp2_with fail
  go_loopw [5] (fun iv wr => ∃ i m : Nat, i ≤ n ∧ iv = .int .i64 (i : Int) ∧ wr = w.drewN m) (fun iv _ => n - (intOf iv).toNat)
  case atStart => exact ⟨0, 0, by omega, rfl, rfl⟩
  case round =>
    obtain ⟨i, m, hi, rfl, rfl⟩ := hrel
    by_cases hlt : i < n
    · obtain ⟨a0, a1, a2, a3, a4, a5⟩ := H1.out i hlt
      obtain ⟨d0, d1, d2, d3, d4, d5⟩ := H2.out i hlt
      obtain ⟨r1, r2⟩ := H3.out i hlt
      generalize b i = B at *
      generalize x i = X at *
      generalize u i = U at *
      generalize t i = T at *
      generalize p i = P at *
      generalize q i = Q at *
      have hi0 : (0 : Int) ≤ (i : Int) := by omega
      have hi1 : (i : Int) < (n : Int) := by omega
      have hB : (B != B) = false := by simp
      have hT : (T.toList != T.toList) = false := by simp
      go_wp2_with fail
      refine wp_region_quiet_big (by kernel_rfl) (by kernel_rfl) (by kernel_rfl) ?_
      dsimp only [List.append]
      as_aux_lemma =>
      iterate 10 (try go_big_quiet_step (fail))
      as_aux_lemma =>
      iterate 10 (try go_big_quiet_step (fail))
      as_aux_lemma =>
      iterate 10 (try go_big_quiet_step (fail))
      as_aux_lemma =>
      iterate 10 (try go_big_quiet_step (fail))
      as_aux_lemma =>
      iterate 10 (try go_big_quiet_step (fail))
      as_aux_lemma =>
      iterate 10 (try go_big_quiet_step (fail))
      as_aux_lemma =>
      iterate 10 (try go_big_quiet_step (fail))
      as_aux_lemma =>
      iterate 10 (try go_big_quiet_step (fail))
      as_aux_lemma =>
      iterate 10 (try go_big_quiet_step (fail))
      as_aux_lemma =>
      iterate 10 (try go_big_quiet_step (fail))
      as_aux_lemma =>
      iterate 10 (try go_big_quiet_step (fail))
      as_aux_lemma =>
      refine wpQuiet_nil ?_
      intro _ hw'
      obtain ⟨nq, hw''⟩ := hw'
      subst hw''
      clear a0 a1 a2 a3 a4 a5 d0 d1 d2 d3 d4 d5
      go_wp2_with fail
      go_roundw
      case rel => exact ⟨i + 1, m + nq, by omega, by go_num, rfl⟩
      case measure => simp [intOf] <;> omega
    · go_wp2_with fail
      go_ret
      exact ⟨rfl, m, rfl⟩
end Go.Proofs.YtihbcojmonlcgaaDoor
