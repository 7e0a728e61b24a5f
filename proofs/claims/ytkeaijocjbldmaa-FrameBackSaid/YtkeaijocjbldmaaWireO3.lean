/- The statements' calls: what each writes as the document has it, what each asks of a reader; nil objects. -/
import Derived.Test.YtkeaijocjbldmaaWireO2
import Derived.Deep.RegionHeld3
namespace Go.Proofs.Ytkeaijocjbldmaa
open Go.RowKit

set_option maxHeartbeats 2000000 in
set_option maxRecDepth 100000 in
theorem nwrite_any (o : OpD) (ho : o.Wf) (w : World) : Calls Try.prog 25 #[.pointer none, .agg #[.int .i64 o.k, .int .u64 (o.x : Nat), .string o.s, .int .i64 o.m]] w (NPost w (.tuple #[])) := by
  obtain ⟨k, x, s, m⟩ := o
  have hx := ho.x1
  have hs := ho.s1
  have hk1 := ho.k1
  have hk2 := ho.k2
  have hm1 := ho.m1
  have hm2 := ho.m2
  clear ho
  simp only at hs hx hk1 hk2 hm1 hm2 ⊢
  by_cases e0 : k = 0
  · subst e0
    go_enter Try.func25, Try.ntmps25
    go_wp2_with fail
    refine (nwu8_any (x % 256) _).mono ?_
    rintro e w1 ⟨rfl, hb1⟩
    go_wp2_with fail
    go_end0
    exact ⟨rfl, ((Below.refl _ _).alloc (Nat.le_refl _) _).trans (hb1.mono (by simp))⟩
  have b0 : (k == 0) = false := by rw [beq_eq_false_iff_ne]; exact e0
  by_cases e1 : k = 1
  · subst e1
    go_enter Try.func25, Try.ntmps25
    go_wp2_with fail
    refine (nwu32_any (x % 4294967296) (by omega) _).mono ?_
    rintro e w1 ⟨rfl, hb1⟩
    go_wp2_with fail
    go_end0
    exact ⟨rfl, ((Below.refl _ _).alloc (Nat.le_refl _) _).trans (hb1.mono (by simp))⟩
  have b1 : (k == 1) = false := by rw [beq_eq_false_iff_ne]; exact e1
  by_cases e2 : k = 2
  · subst e2
    go_enter Try.func25, Try.ntmps25
    go_wp2_with fail
    refine (nwu64_any x hx _).mono ?_
    rintro e w1 ⟨rfl, hb1⟩
    go_wp2_with fail
    go_end0
    exact ⟨rfl, ((Below.refl _ _).alloc (Nat.le_refl _) _).trans (hb1.mono (by simp))⟩
  have b2 : (k == 2) = false := by rw [beq_eq_false_iff_ne]; exact e2
  by_cases e3 : k = 3
  · subst e3
    go_enter Try.func25, Try.ntmps25
    go_wp2_with fail
    refine (nwuvar_any x hx _).mono ?_
    rintro e w1 ⟨rfl, hb1⟩
    go_wp2_with fail
    go_end0
    exact ⟨rfl, ((Below.refl _ _).alloc (Nat.le_refl _) _).trans (hb1.mono (by simp))⟩
  have b3 : (k == 3) = false := by rw [beq_eq_false_iff_ne]; exact e3
  by_cases e4 : k = 4
  · subst e4
    have hw := toI_wrap hx
    go_enter Try.func25, Try.ntmps25
    go_wp2_with fail
    refine (nwsvar_any (toI x) (toI_ge hx).1 (toI_ge hx).2 _).mono ?_
    rintro e w1 ⟨rfl, hb1⟩
    go_wp2_with fail
    go_end0
    exact ⟨rfl, ((Below.refl _ _).alloc (Nat.le_refl _) _).trans (hb1.mono (by simp))⟩
  have b4 : (k == 4) = false := by rw [beq_eq_false_iff_ne]; exact e4
  by_cases e5 : k = 5
  · subst e5
    go_enter Try.func25, Try.ntmps25
    go_wp2_with fail
    refine (nwtext_any s hs _).mono ?_
    rintro e w1 ⟨rfl, hb1⟩
    go_wp2_with fail
    go_end0
    exact ⟨rfl, ((Below.refl _ _).alloc (Nat.le_refl _) _).trans (hb1.mono (by simp))⟩
  have b5 : (k == 5) = false := by rw [beq_eq_false_iff_ne]; exact e5
  go_enter Try.func25, Try.ntmps25
  go_wp2_with fail
  refine (nwraw_any s hs _).mono ?_
  rintro e w1 ⟨rfl, hb1⟩
  go_wp2_with fail
  go_end0
  exact ⟨rfl, ((Below.refl _ _).alloc (Nat.le_refl _) _).trans (hb1.mono (by simp))⟩

set_option maxHeartbeats 2000000 in
set_option maxRecDepth 100000 in
theorem nread_any (o : OpD) (ho : o.Wf) (w : World) : Calls Try.prog 28 #[.pointer none, .agg #[.int .i64 o.k, .int .u64 (o.x : Nat), .string o.s, .int .i64 o.m]] w (NPost w (.tuple #[.int .u64 0, .string { data := #[] }])) := by
  obtain ⟨k, x, s, m⟩ := o
  have hx := ho.x1
  have hs := ho.s1
  have hk1 := ho.k1
  have hk2 := ho.k2
  have hm1 := ho.m1
  have hm2 := ho.m2
  clear ho
  simp only at hs hx hk1 hk2 hm1 hm2 ⊢
  by_cases e0 : k = 0
  · subst e0
    go_enter Try.func28, Try.ntmps28
    go_wp2_with fail
    refine (nru8_any _).mono ?_
    rintro e w1 ⟨rfl, hb1⟩
    go_wp2_with fail
    go_ret2
    exact ⟨rfl, ((Below.refl _ _).alloc (Nat.le_refl _) _).trans (hb1.mono (by simp))⟩
  have b0 : (k == 0) = false := by rw [beq_eq_false_iff_ne]; exact e0
  by_cases e1 : k = 1
  · subst e1
    go_enter Try.func28, Try.ntmps28
    go_wp2_with fail
    refine (nru32_any _).mono ?_
    rintro e w1 ⟨rfl, hb1⟩
    go_wp2_with fail
    go_ret2
    exact ⟨rfl, ((Below.refl _ _).alloc (Nat.le_refl _) _).trans (hb1.mono (by simp))⟩
  have b1 : (k == 1) = false := by rw [beq_eq_false_iff_ne]; exact e1
  by_cases e2 : k = 2
  · subst e2
    go_enter Try.func28, Try.ntmps28
    go_wp2_with fail
    refine (nru64_any _).mono ?_
    rintro e w1 ⟨rfl, hb1⟩
    go_wp2_with fail
    go_ret2
    exact ⟨rfl, ((Below.refl _ _).alloc (Nat.le_refl _) _).trans (hb1.mono (by simp))⟩
  have b2 : (k == 2) = false := by rw [beq_eq_false_iff_ne]; exact e2
  by_cases e3 : k = 3
  · subst e3
    go_enter Try.func28, Try.ntmps28
    go_wp2_with fail
    refine (nruvar_any _).mono ?_
    rintro e w1 ⟨rfl, rfl⟩
    go_wp2_with fail
    go_ret2
    exact ⟨rfl, ((Below.refl _ _).alloc (Nat.le_refl _) _)⟩
  have b3 : (k == 3) = false := by rw [beq_eq_false_iff_ne]; exact e3
  by_cases e4 : k = 4
  · subst e4
    go_enter Try.func28, Try.ntmps28
    go_wp2_with fail
    refine (nrsvar_any _).mono ?_
    rintro e w1 ⟨rfl, rfl⟩
    go_wp2_with fail
    go_ret2
    exact ⟨rfl, ((Below.refl _ _).alloc (Nat.le_refl _) _)⟩
  have b4 : (k == 4) = false := by rw [beq_eq_false_iff_ne]; exact e4
  by_cases e5 : k = 5
  · subst e5
    go_enter Try.func28, Try.ntmps28
    go_wp2_with fail
    refine (nrtext_any m _).mono ?_
    rintro e w1 ⟨rfl, rfl⟩
    go_wp2_with fail
    go_ret2
    exact ⟨rfl, ((Below.refl _ _).alloc (Nat.le_refl _) _)⟩
  have b5 : (k == 5) = false := by rw [beq_eq_false_iff_ne]; exact e5
  go_enter Try.func28, Try.ntmps28
  go_wp2_with fail
  refine (nrraw_any m _).mono ?_
  rintro e w1 ⟨rfl, rfl⟩
  go_wp2_with fail
  go_ret2
  exact ⟨rfl, ((Below.refl _ _).alloc (Nat.le_refl _) _)⟩

set_option maxHeartbeats 2000000 in
set_option maxRecDepth 100000 in
theorem text_any (o : OpD) (ho : o.Wf) (hs : o.s.size ≤ 33000000) (w : World) : Calls Try.prog 26 #[.agg #[.int .i64 o.k, .int .u64 (o.x : Nat), .string o.s, .int .i64 o.m]] w fun e w' => e = .returned (.string (strN (opT o))) ∧ Below w.heap.size w w' := by
  obtain ⟨k, x, s, m⟩ := o
  have hx := ho.x1
  have hk1 := ho.k1
  have hk2 := ho.k2
  have hm1 := ho.m1
  have hm2 := ho.m2
  clear ho
  simp only at hs hx hk1 hk2 hm1 hm2 ⊢
  unfold opT
  simp only
  by_cases e0 : k = 0
  · subst e0
    rw [if_pos rfl]
    go_enter Try.func26, Try.ntmps26
    go_wp2_with fail
    refine (sfixed_any x 1 hx (by omega) _).mono ?_
    rintro e w1 ⟨rfl, hb1⟩
    go_wp2_with fail
    go_ret
    exact ⟨rfl, ((Below.refl _ _).alloc (Nat.le_refl _) _).trans (hb1.mono (by simp))⟩
  have b0 : (k == 0) = false := by rw [beq_eq_false_iff_ne]; exact e0
  rw [if_neg e0]
  clear e0
  by_cases e1 : k = 1
  · subst e1
    rw [if_pos rfl]
    go_enter Try.func26, Try.ntmps26
    go_wp2_with fail
    refine (sfixed_any x 4 hx (by omega) _).mono ?_
    rintro e w1 ⟨rfl, hb1⟩
    go_wp2_with fail
    go_ret
    exact ⟨rfl, ((Below.refl _ _).alloc (Nat.le_refl _) _).trans (hb1.mono (by simp))⟩
  have b1 : (k == 1) = false := by rw [beq_eq_false_iff_ne]; exact e1
  rw [if_neg e1]
  clear e1
  by_cases e2 : k = 2
  · subst e2
    rw [if_pos rfl]
    go_enter Try.func26, Try.ntmps26
    go_wp2_with fail
    refine (sfixed_any x 8 hx (by omega) _).mono ?_
    rintro e w1 ⟨rfl, hb1⟩
    go_wp2_with fail
    go_ret
    exact ⟨rfl, ((Below.refl _ _).alloc (Nat.le_refl _) _).trans (hb1.mono (by simp))⟩
  have b2 : (k == 2) = false := by rw [beq_eq_false_iff_ne]; exact e2
  rw [if_neg e2]
  clear e2
  by_cases e3 : k = 3
  · subst e3
    rw [if_pos rfl]
    go_enter Try.func26, Try.ntmps26
    go_wp2_with fail
    refine (suvar_any x hx _).mono ?_
    rintro e w1 ⟨rfl, hb1⟩
    go_wp2_with fail
    go_ret
    exact ⟨rfl, ((Below.refl _ _).alloc (Nat.le_refl _) _).trans (hb1.mono (by simp))⟩
  have b3 : (k == 3) = false := by rw [beq_eq_false_iff_ne]; exact e3
  rw [if_neg e3]
  clear e3
  by_cases e4 : k = 4
  · subst e4
    rw [if_pos rfl]
    have hw := toI_wrap hx
    go_enter Try.func26, Try.ntmps26
    go_wp2_with fail
    refine (szig_any (toI x) (toI_ge hx).1 (toI_ge hx).2 _).mono ?_
    rintro e w1 ⟨rfl, rfl⟩
    go_wp2_with fail
    refine (suvar_any (zz (toI x)) (zz_lt (toI_ge hx).1 (toI_ge hx).2) _).mono ?_
    rintro e w1 ⟨rfl, hb1⟩
    go_wp2_with fail
    go_ret
    exact ⟨rfl, ((Below.refl _ _).alloc (Nat.le_refl _) _).trans (hb1.mono (by simp))⟩
  have b4 : (k == 4) = false := by rw [beq_eq_false_iff_ne]; exact e4
  rw [if_neg e4]
  clear e4
  by_cases e5 : k = 5
  · subst e5
    rw [if_pos rfl, strN_append, strN_bn]
    have K := hide (fun w => suvar_any s.size (by omega) w)
    have hadd := fun w1 => run_string_add_sum (P := Try.prog) w1 (strN (uvar s.size)) s (by rw [strN_size]; have := uvar_len10 (x := s.size) (by omega); omega)
    have hsz : IntKind.u64.wrap (s.size : Int) = (s.size : Int) := by rw [IntKind.wrap_u64]; omega
    go_enter Try.func26, Try.ntmps26
    go_wp2_with fail
    go_region_held3 (fun w' => w'.cell? ⟨w.heap.size, 2, none⟩ = some (.string s)) (first | go_keep | assumption) (first | (go_at_call 50; refine (K.out _).mono ?_; rintro e w2 ⟨rfl, hb2⟩; have hck2 : w2.cell? ⟨w.heap.size, 2, none⟩ = some (.string s) := (hb2.cell (p := ⟨w.heap.size, 2, none⟩) (by simp)).trans (by simp [go_sem])))
    all_goals
      go_wp2_with fail
      go_ret
      exact ⟨rfl, (((Below.refl _ _).alloc (Nat.le_refl _) _).drew).trans (hb2.mono (by simp [World.drew]))⟩
  have b5 : (k == 5) = false := by rw [beq_eq_false_iff_ne]; exact e5
  rw [if_neg e5]
  clear e5
  rw [strN_bn]
  go_enter Try.func26, Try.ntmps26
  go_wp2_with fail
  go_ret
  exact ⟨rfl, ((Below.refl _ _).alloc (Nat.le_refl _) _)⟩
end Go.Proofs.Ytkeaijocjbldmaa
