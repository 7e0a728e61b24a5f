/- Cells by their steps: the loop. -/
import Derived.Test.YtfkgmodgkifelaaGreatDoorJ09
import Derived.Test.YtfkgmodgkifelaaGreatDoorJ10
namespace Go.Proofs.YtfkgmodgkifelaaGreatDoor
open Go.RowKit

def cla (x u : Int) (p q : Nat) : Array Value := #[.bool false, .bool false, .int .i64 x, .int .u64 u, .string ByteArray.empty, .complex .f64 p q]
/-- A cell's places. -/
structure At6 (w : World) (g o : Nat) (x u : Int) (p q : Nat) : Prop where
  c0 : w.cell? ⟨g, o, none⟩ = some (.bool false)
  c1 : w.cell? ⟨g, o + 1, none⟩ = some (.bool false)
  c2 : w.cell? ⟨g, o + 2, none⟩ = some (.int .i64 x)
  c3 : w.cell? ⟨g, o + 3, none⟩ = some (.int .u64 u)
  c4 : w.cell? ⟨g, o + 4, none⟩ = some (.string ByteArray.empty)
  c5 : w.cell? ⟨g, o + 5, none⟩ = some (.complex .f64 p q)
theorem cell_lt {w : World} {g o : Nat} {v : Value} (h : w.cell? ⟨g, o, none⟩ = some v) : g < w.heap.size := by
  unfold World.cell? at h
  split at h
  · rename_i heq; exact (Array.getElem?_eq_some_iff.1 heq).1
  · cases h
theorem At6.below {w w' : World} {g o : Nat} {x u : Int} {p q : Nat} (h : At6 w g o x u p q) {B : Nat} (hb : Below B w w') (hg : g < B) : At6 w' g o x u p q :=
  ⟨(hb.cell (p := ⟨g, _, none⟩) hg).trans h.c0, (hb.cell (p := ⟨g, _, none⟩) hg).trans h.c1, (hb.cell (p := ⟨g, _, none⟩) hg).trans h.c2, (hb.cell (p := ⟨g, _, none⟩) hg).trans h.c3, (hb.cell (p := ⟨g, _, none⟩) hg).trans h.c4, (hb.cell (p := ⟨g, _, none⟩) hg).trans h.c5⟩
def set6 (w : World) (L : Nat) (x u : Int) (p q : Nat) : World :=
  (((((w.setCell ⟨L, 0, none⟩ (.bool false)).setCell ⟨L, 1, none⟩ (.bool false)).setCell ⟨L, 2, none⟩ (.int .i64 x)).setCell ⟨L, 3, none⟩ (.int .u64 u)).setCell ⟨L, 4, none⟩ (.string ByteArray.empty)).setCell ⟨L, 5, none⟩ (.complex .f64 p q)
theorem Fr.set {a b : World} {L : Nat} (h : Fr a b (fun k => k = L)) (i : Nat) (v : Value) : Fr a (b.setCell ⟨L, i, none⟩ v) (fun k => k = L) := h.trans (Fr.setCell b ⟨L, i, none⟩ v) (fun _ _ h => h)
theorem set6_fr (w : World) (L : Nat) (x u : Int) (p q : Nat) : Fr w (set6 w L x u p q) (fun k => k = L) :=
  ((((((Fr.refl w _).set 0 _).set 1 _).set 2 _).set 3 _).set 4 _).set 5 _
theorem set6_blk {w : World} {L : Nat} {t : TypeId} {x0 u0 : Int} {p0 q0 : Nat} (h : Blk w L t (cla x0 u0 p0 q0)) (x u : Int) (p q : Nat) : Blk (set6 w L x u p q) L t (cla x u p q) := by
  have := (((((h.set 0 (.bool false)).set 1 (.bool false)).set 2 (.int .i64 x)).set 3 (.int .u64 u)).set 4 (.string ByteArray.empty)).set 5 (.complex .f64 p q)
  exact this
/-- What a round does. -/
def Rnd (kind : Int) (I U : Nat → Int) (P Q : Nat → Nat) (S : Nat → Int) (dP dQ : Nat → Nat) (F : Nat → List Nat) (i : Nat) : Prop :=
  (∀ w, Calls Tryz.prog 136 #[.int .i64 kind, cl (I i) (U i) (P i) (Q i), cl (I (i + 1)) (U (i + 1)) (P (i + 1)) (Q (i + 1))] w fun e w' => e = .returned (.tuple #[cl (S i) 0 (dP i) (dQ i), .int .i64 0]) ∧ Below w.heap.size w w') ∧
  ((kind ≠ 6 ∧ F (i + 1) = F i ++ uvar (zz (S i)) ∧ -9223372036854775808 ≤ S i ∧ S i ≤ 9223372036854775807) ∨
   (kind = 6 ∧
      (∀ w, Calls Tryz.prog 138 #[.complex .f64 (P (i + 1)) (Q (i + 1))] w fun e w' => e = .returned (.bool true) ∧ w = w') ∧
      (∀ w, Calls Tryz.prog 139 #[.complex .f64 (P (i + 1)) (Q (i + 1)), .complex .f64 (Op.negFloat .f64 (P i)) (Op.negFloat .f64 (Q i))] w fun e w' => e = .returned (.bool true) ∧ w = w') ∧
      (∀ (w : World) (W B : Nat) (sv : Value), Wr w W B sv (F i) → B ≤ w.heap.size → Calls Tryz.prog 74 #[.pointer (some ⟨W, 0, none⟩), .int .i64 6, cl (S i) 0 (dP i) (dQ i)] w (WPost W B w sv (F (i + 1))))))
set_option maxHeartbeats 2000000 in
set_option maxRecDepth 100000 in
theorem encode_any (kind : Int) (hk : kind = 2 ∨ kind = 3 ∨ kind = 6) (n : Nat) (hn0 : 0 < n) (hn : n ≤ 100) (I U : Nat → Int) (P Q : Nat → Nat) (S : Nat → Int) (dP dQ : Nat → Nat) (F : Nat → List Nat)
    (hz : I 0 = 0 ∧ U 0 = 0 ∧ P 0 = 0 ∧ Q 0 = 0 ∧ F 0 = []) (hF : ∀ i, i ≤ n → (F i).length ≤ 1000)
    (hr : ∀ i, i < n → Rnd kind I U P Q S dP dQ F i) (g c : Nat) (hc : n ≤ c) (w : World) (hcell : ∀ i, i < n → At6 w g (i * 6) (I (i + 1)) (U (i + 1)) (P (i + 1)) (Q (i + 1))) :
    Calls Tryz.prog 91 #[.int .i64 kind, .slice (some ⟨g, 0, none⟩) n c] w fun e w' => e = .returned (.tuple #[.string (strN (F n)), .int .i64 0]) ∧ Below w.heap.size w w' := by
  have hg := hide (cell_lt (hcell 0 hn0).c0)
  have KH := hide (has_any kind hk)
  obtain ⟨z1, z2, z3, z4, z5⟩ := hz
  have Z1 := hide z1
  have Z2 := hide z2
  have Z3 := hide z3
  have Z4 := hide z4
  have Z5 := hide z5
  have HC := hide hcell
  have HR := hide hr
  have HF := hide hF
  have hkk : Hid (kind = 2 ∨ kind = 3 ∨ kind = 6) := hk
  clear z1 z2 z3 z4 z5 hcell hr hk hF
  have hst := fun (w1 : World) (a1 : Addr) (m : Mode) (x y : Nat) => run_store Tryz.prog w1 a1 (.complex .f64 x y) m rfl
  go_enter Tryz.func91, Tryz.ntmps91
  go_wp2_with fail
  refine (KH.out _).mono ?_
  rintro e w1 ⟨rfl, rfl⟩
  go_wp2_with fail
  go_loopw [17] (fun iv wr => ∃ i : Nat, i ≤ n ∧ iv = .int .i64 (i : Int) ∧ ∃ sv', Wr wr w.heap.size w.heap.size sv' (F i) ∧ Blk wr (w.heap.size + 1) 45 (cla (I i) (U i) (P i) (Q i)) ∧ Below w.heap.size w wr) (fun iv _ => n - (intOf iv).toNat)
  case atStart =>
    refine ⟨0, by omega, rfl, .slice none 0 0, ⟨(Blk.new _ _ _).alloc _, ?_, Nat.le_refl _⟩, ?_, ((Below.refl _ _).alloc (Nat.le_refl _) _).alloc (by simp) _⟩
    · rw [Z5.out]; exact ownU8_nil _ _
    · rw [Z1.out, Z2.out, Z3.out, Z4.out]
      have := Blk.new (w.alloc (.cells #[.slice none 0 0] 77)) (cla 0 0 0 0) 45
      unfold cla at this ⊢
      rwa [show (w.alloc (.cells #[.slice none 0 0] 77)).heap.size = w.heap.size + 1 by simp] at this
  case round =>
    obtain ⟨i, hi, rfl, sv', hw, hbl, hb⟩ := hrel
    by_cases hlt : i < n
    · have HA := HC.out i hlt
      have HA' := HA.below hb hg.out
      obtain ⟨hS, hE⟩ := HR.out i hlt
      have HE := hide hE
      have HS := hide hS
      have HW := hide hw
      have HL := hide hbl
      have HBW := hide hb
      have hl0 := fun o => (hbl.alloc o).cell 0
      have hl1 := fun o => (hbl.alloc o).cell 1
      have hl2 := fun o => (hbl.alloc o).cell 2
      have hl3 := fun o => (hbl.alloc o).cell 3
      have hl4 := fun o => (hbl.alloc o).cell 4
      have hl5 := fun o => (hbl.alloc o).cell 5
      simp [cla] at hl0 hl1 hl2 hl3 hl4 hl5
      obtain ⟨a0, a1, a2, a3, a4, a5⟩ := HA'
      clear hE hS hw hbl HA hb
      have hi0 : (0 : Int) ≤ (i : Int) := by omega
      have hi1 : (i : Int) < (n : Int) := by omega
      go_wp2_with fail
      refine (HS.out _).mono ?_
      rintro e w1 ⟨rfl, hb1⟩
      clear a0 a1 a2 a3 a4 a5 hl0 hl1 hl2 hl3 hl4 hl5
      have hL1 := hide ((HL.out.alloc _).below hb1 (HL.out.alloc _).lt)
      have h91 := hide ((Blk.new _ _ _).below hb1 (Blk.new _ _ _).lt)
      have hW1 := hide ((HW.out.below ((Below.refl _ _).alloc (Nat.le_refl _) _)).below hb1)
      have hB1 := hide ((HBW.out.alloc HBW.out.size _).trans (hb1.mono (by simp; exact Nat.le_succ_of_le HBW.out.size)))
      clear hb1
      unfold cl
      have hWa := hide (fun o => hW1.out.below ((Below.refl w1.heap.size w1).alloc (Nat.le_refl _) o))
      have hBa := hide (fun o => hB1.out.alloc hB1.out.size o)
      have hb9 := hide (Nat.ne_of_gt HW.out.blk.lt)
      have hn9 := hide (OwnU8.ne hW1.out.own h91.out (by decide))
      have hnL := hide (OwnU8.ne hW1.out.own hL1.out (by decide))
      rcases HE.out with ⟨hk6, hFi, hS1, hS2⟩ | ⟨rfl, hM, hRe, hP⟩
      · have hk6' : (kind != 6) = true := by simpa using hk6
        have hFi' := hide hFi
        have KS := hide (fun o => wsvar_any _ _ _ _ (S i) hS1 hS2 _ (hWa.out o) (by have := HF.out i hi; omega) (hBa.out o).size)
        clear hk6 hFi hS1 hS2
        go_wp2_with fail
        refine (KS.out _).mono ?_
        rintro e w2 ⟨rfl, sv2, hw2, hs2⟩
        rw [← hFi'.out] at hw2
        have H9 := (h91.out.alloc _).fr hs2.fr (by
          rintro (h | h)
          · exact hb9.out h
          · exact hn9.out h.symm)
        have HL2 := hide ((hL1.out.alloc _).fr hs2.fr (by
          rintro (h | h)
          · omega
          · exact hnL.out h.symm))
        have HB2 := hide ((hBa.out _).trans (hs2.below (hWa.out _) (hBa.out _).size))
        have HW2 := hide hw2
        clear hw2 hs2
        have d0 := H9.cell 0
        have d1 := H9.cell 1
        have d2 := H9.cell 2
        have d3 := H9.cell 3
        have d4 := H9.cell 4
        have d5 := H9.cell 5
        have e0 := HL2.out.cell 0
        have e1 := HL2.out.cell 1
        have e2 := HL2.out.cell 2
        have e3 := HL2.out.cell 3
        have e4 := HL2.out.cell 4
        have e5 := HL2.out.cell 5
        have f0 := HL2.out.frozen 0
        have f1 := HL2.out.frozen 1
        have f2 := HL2.out.frozen 2
        have f3 := HL2.out.frozen 3
        have f4 := HL2.out.frozen 4
        have f5 := HL2.out.frozen 5
        simp [cla] at d0 d1 d2 d3 d4 d5 e0 e1 e2 e3 e4 e5
        clear H9
        go_wp2_with fail
        go_roundw
        case rel =>
          have hfs := set6_fr w2 (w.heap.size + 1) (I (i + 1)) (U (i + 1)) (P (i + 1)) (Q (i + 1))
          refine ⟨i + 1, by omega, by go_num, sv2, ⟨?_, ?_, Nat.le_refl _⟩, ?_, ?_⟩
          · exact HW2.out.blk.fr hfs (by omega)
          · exact HW2.out.own.fr hfs (fun k hk h => OwnU8.ne HW2.out.own HL2.out (by decide) (by rw [hk, h]))
          · exact set6_blk HL2.out _ _ _ _
          · exact HB2.out.trans (hfs.below HB2.out.size (fun k hk => by omega))
        case measure => simp [intOf] <;> omega
      · have g9 := fun o => (h91.out.alloc o).cell 5
        have gL := fun o => (hL1.out.alloc o).cell 5
        simp [cla] at g9 gL
        have hneg : ∀ x y : Nat, Op.unary .neg (.complex .f64 x y) = pure (.complex .f64 (Op.negFloat .f64 x) (Op.negFloat .f64 y)) := fun _ _ => rfl
        have KP := hide (fun o => hP _ _ _ _ (hWa.out o) (hBa.out o).size)
        have HM := hide hM
        have HRe := hide hRe
        clear hM hRe hP
        unfold cl at KP
        go_wp2_with fail
        refine (HM.out _).mono ?_
        rintro e w0 ⟨rfl, rfl⟩
        go_wp2_with fail
        refine (HRe.out _).mono ?_
        rintro e w0 ⟨rfl, rfl⟩
        go_wp2_with fail
        clear g9 gL
        refine (KP.out _).mono ?_
        rintro e w2 ⟨rfl, sv2, hw2, hs2⟩
        have H9 := (h91.out.alloc _).fr hs2.fr (by
          rintro (h | h)
          · exact hb9.out h
          · exact hn9.out h.symm)
        have HL2 := hide ((hL1.out.alloc _).fr hs2.fr (by
          rintro (h | h)
          · omega
          · exact hnL.out h.symm))
        have HB2 := hide ((hBa.out _).trans (hs2.below (hWa.out _) (hBa.out _).size))
        have HW2 := hide hw2
        clear hw2 hs2
        have d0 := H9.cell 0
        have d1 := H9.cell 1
        have d2 := H9.cell 2
        have d3 := H9.cell 3
        have d4 := H9.cell 4
        have d5 := H9.cell 5
        have e0 := HL2.out.cell 0
        have e1 := HL2.out.cell 1
        have e2 := HL2.out.cell 2
        have e3 := HL2.out.cell 3
        have e4 := HL2.out.cell 4
        have e5 := HL2.out.cell 5
        have f0 := HL2.out.frozen 0
        have f1 := HL2.out.frozen 1
        have f2 := HL2.out.frozen 2
        have f3 := HL2.out.frozen 3
        have f4 := HL2.out.frozen 4
        have f5 := HL2.out.frozen 5
        simp [cla] at d0 d1 d2 d3 d4 d5 e0 e1 e2 e3 e4 e5
        clear H9
        go_wp2_with fail
        go_roundw
        case rel =>
          have hfs := set6_fr w2 (w.heap.size + 1) (I (i + 1)) (U (i + 1)) (P (i + 1)) (Q (i + 1))
          refine ⟨i + 1, by omega, by go_num, sv2, ⟨?_, ?_, Nat.le_refl _⟩, ?_, ?_⟩
          · exact HW2.out.blk.fr hfs (by omega)
          · exact HW2.out.own.fr hfs (fun k hk h => OwnU8.ne HW2.out.own HL2.out (by decide) (by rw [hk, h]))
          · exact set6_blk HL2.out _ _ _ _
          · exact HB2.out.trans (hfs.below HB2.out.size (fun k hk => by omega))
        case measure => simp [intOf] <;> omega
    · have hin : i = n := by omega
      subst hin
      have K := hide (dwstring_any _ _ _ _ _ hw)
      have HB := hide hb
      clear hw hbl hb
      go_wp2_with fail
      refine K.out.mono ?_
      rintro e w2 ⟨rfl, rfl⟩
      go_wp2_with fail
      go_ret2
      exact ⟨rfl, HB.out⟩
end Go.Proofs.YtfkgmodgkifelaaGreatDoor
