/- A cell by itself, read: plain.Get, over any contract of plain.read. -/
import Derived.Test.YtihbcojmonlcgaaDoorPlainR2
namespace Go.Proofs.YtihbcojmonlcgaaDoor
open Go.RowKit

def GPost (R : Nat) (w : World) (s : ByteArray) (c : Value) (er p' e' : Nat) (e : Ending) (w' : World) : Prop :=
  e = .returned (.tuple #[c, .int .i64 (er : Nat)]) ∧ Rd w' R s p' e' ∧ Fr w w' (fun k => k = R)
set_option maxHeartbeats 2000000 in
set_option maxRecDepth 100000 in
theorem pget_of (k : Int) (h1 : 1 ≤ k) (h6 : k ≤ 6) (R : Nat) (s : ByteArray) (p p' e' : Nat) (b ok : Bool) (x u : Int) (t : ByteArray) (fp fq : Nat) (w : World) (h : Rd w R s p 0) (c : Value) (er : Nat)
    (hcase : Hid ((e' = 0 ∧ ok = true ∧ c = clV b x u t fp fq ∧ er = 0) ∨ (e' = 0 ∧ ok = false ∧ c = clZ ∧ er = 12) ∨ (0 < e' ∧ c = clZ ∧ er = e')))
    (HR : ∀ o, Calls Tryd.prog 37 #[.pointer (some ⟨R, 0, none⟩), .int .i64 k] (w.alloc o) (CPost R (w.alloc o) s (clV b x u t fp fq) ok p' e')) :
    Calls Tryd.prog 14 #[.pointer (some ⟨R, 0, none⟩), .int .i64 k] w (GPost R w s c er p' e') := by
  have hRw := Blk.lt h
  have KI := hide (is_yes k h1 h6)
  have KR := hide HR
  clear h HR
  have hst := fun (w1 : World) (a1 : Addr) (m : Mode) (x y : Nat) => run_store Tryd.prog w1 a1 (.complex .f64 x y) m rfl
  go_enter Tryd.func14, Tryd.ntmps14
  go_wp2_with fail
  refine (KI.out _).mono ?_
  rintro e w0 ⟨rfl, rfl⟩
  go_wp2_with fail
  refine (KR.out _).mono ?_
  rintro e w1 ⟨rfl, hr1, hf1⟩
  have hb0 : Blk w1 w.heap.size 34 (clA false 0 0 ByteArray.empty 0 0) := Blk.fr (Blk.new _ _ _) hf1 (by omega)
  have hw1 : w.heap.size < w1.heap.size := hb0.lt
  have KE := hide (fun o => rerr_any R s p' e' (w1.alloc o) (hr1.below ((Below.refl _ _).alloc (Nat.le_refl _) _)))
  have hF := hide ((Fr.alloc w _ _).trans hf1 (fun _ _ h => h))
  have HR1 := hide hr1
  have HB := hide (fun o => hb0.alloc o)
  obtain ⟨c0, c1, c2, c3, c4, c5, f0, f1, f2, f3, f4, f5⟩ := Blk.six hb0
  have HB1 := hide hb0
  clear hr1 hf1 hb0
  have hFA := hide (fun (o : Obj) (a0 a1 a2 a3 a4 a5 : Value) => show Fr w ((st6 w1 w.heap.size a0 a1 a2 a3 a4 a5).alloc o) (fun k => k = R) ∧ Rd ((st6 w1 w.heap.size a0 a1 a2 a3 a4 a5).alloc o) R s p' e' ∧ Blk ((st6 w1 w.heap.size a0 a1 a2 a3 a4 a5).alloc o) w.heap.size 34 #[a0, a1, a2, a3, a4, a5] from
    ⟨(Fr.newset hF.out (Nat.le_refl _) (st6_fr w1 w.heap.size a0 a1 a2 a3 a4 a5)).trans (Fr.alloc _ _ _) (fun _ _ h => h), (Blk.fr HR1.out (st6_fr w1 w.heap.size a0 a1 a2 a3 a4 a5) (by omega)).alloc _, (st6_blk (by exact HB1.out) a0 a1 a2 a3 a4 a5).alloc _⟩)
  have CL := info_c
  unfold clV clA
  go_wp2_with fail
  refine (KE.out _).mono ?_
  rintro e w0 ⟨rfl, rfl⟩
  rcases hcase.out with ⟨rfl, rfl, rfl, rfl⟩ | ⟨rfl, rfl, rfl, rfl⟩ | ⟨hpos, rfl, rfl⟩
  · unfold clV clA
    go_wp2_with fail
    obtain ⟨q1, q2, q3⟩ := hFA.out (.cells #[.bool false, .bool b, .int .i64 x, .int .u64 u, .string t, .complex .f64 fp fq] 34) (.bool false) (.bool b) (.int .i64 x) (.int .u64 u) (.string t) (.complex .f64 fp fq)
    refine bodyPost_ret (results_cell_tmp_row' rfl _ _ _ w.heap.size 34 #[.bool false, .bool b, .int .i64 x, .int .u64 u, .string t, .complex .f64 fp fq] (0, 0) rfl q3 Tryd.underlying34 (by exact info_c)) rfl ?_
    exact ⟨rfl, q2, q1⟩
  · unfold clZ clV clA
    go_wp2_with fail
    obtain ⟨q1, q2, q3⟩ := hFA.out (.cells #[.bool false, .bool b, .int .i64 x, .int .u64 u, .string t, .complex .f64 fp fq] 34) (.bool false) (.bool false) (.int .i64 0) (.int .u64 0) (.string { data := #[] }) (.complex .f64 0 0)
    refine bodyPost_ret (results_cell_tmp_row' rfl _ _ _ w.heap.size 34 #[.bool false, .bool false, .int .i64 0, .int .u64 0, .string { data := #[] }, .complex .f64 0 0] (0, 0) rfl q3 Tryd.underlying34 (by exact info_c)) rfl ?_
    exact ⟨rfl, q2, q1⟩
  · have hne : ((er : Int) != 0) = true := by rw [bne_iff_ne]; omega
    unfold clZ clV clA
    go_wp2_with fail
    refine (KE.out _).mono ?_
    rintro e w0 ⟨rfl, rfl⟩
    go_wp2_with fail
    obtain ⟨q1, q2, q3⟩ := hFA.out (.cells #[.bool false, .bool b, .int .i64 x, .int .u64 u, .string t, .complex .f64 fp fq] 34) (.bool false) (.bool false) (.int .i64 0) (.int .u64 0) (.string { data := #[] }) (.complex .f64 0 0)
    refine bodyPost_ret (results_cell_tmp_row' rfl _ _ _ w.heap.size 34 #[.bool false, .bool false, .int .i64 0, .int .u64 0, .string { data := #[] }, .complex .f64 0 0] (0, 0) rfl q3 Tryd.underlying34 (by exact info_c)) rfl ?_
    exact ⟨rfl, q2, q1⟩
end Go.Proofs.YtihbcojmonlcgaaDoor
