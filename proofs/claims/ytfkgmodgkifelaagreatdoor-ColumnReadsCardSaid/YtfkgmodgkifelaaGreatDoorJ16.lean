/- Cells by their steps: the loop. Ints by their steps, and the chapter's examples. -/
import Derived.Test.YtfkgmodgkifelaaGreatDoorJ10
import Derived.Test.YtfkgmodgkifelaaGreatDoorJ11
namespace Go.Proofs.YtfkgmodgkifelaaGreatDoor
open Go.RowKit

def cla (x u : Int) (p q : Nat) : Array Value := #[.bool false, .bool false, .int .i64 x, .int .u64 u, .string ByteArray.empty, .complex .f64 p q]
/-- A cell's places. -/
structure At6 (w : World) (g o : Nat) (x u : Int) (p q : Nat) : Prop where
  c0 : w.cell? ⟨g, o, none⟩ = some (.bool false)
  c1 : w.cell? ⟨g, o + 1, none⟩ = some (.bool false)
  c2 : w.cell? ⟨g, o + 2, none⟩ = some (.int .i64 x)
  c3 : w.cell? ⟨g, o + 3, none⟩ = some (.int .u64 u)
  c4 : w.cell? ⟨g, o + 4, none⟩ = some (.string ByteArray.empty)
  c5 : w.cell? ⟨g, o + 5, none⟩ = some (.complex .f64 p q)
theorem cell_lt {w : World} {g o : Nat} {v : Value} (h : w.cell? ⟨g, o, none⟩ = some v) : g < w.heap.size := by
  unfold World.cell? at h
  split at h
  · rename_i heq; exact (Array.getElem?_eq_some_iff.1 heq).1
  · cases h
theorem At6.below {w w' : World} {g o : Nat} {x u : Int} {p q : Nat} (h : At6 w g o x u p q) {B : Nat} (hb : Below B w w') (hg : g < B) : At6 w' g o x u p q :=
  ⟨(hb.cell (p := ⟨g, _, none⟩) hg).trans h.c0, (hb.cell (p := ⟨g, _, none⟩) hg).trans h.c1, (hb.cell (p := ⟨g, _, none⟩) hg).trans h.c2, (hb.cell (p := ⟨g, _, none⟩) hg).trans h.c3, (hb.cell (p := ⟨g, _, none⟩) hg).trans h.c4, (hb.cell (p := ⟨g, _, none⟩) hg).trans h.c5⟩
def set6 (w : World) (L : Nat) (x u : Int) (p q : Nat) : World :=
  (((((w.setCell ⟨L, 0, none⟩ (.bool false)).setCell ⟨L, 1, none⟩ (.bool false)).setCell ⟨L, 2, none⟩ (.int .i64 x)).setCell ⟨L, 3, none⟩ (.int .u64 u)).setCell ⟨L, 4, none⟩ (.string ByteArray.empty)).setCell ⟨L, 5, none⟩ (.complex .f64 p q)
theorem Fr.set {a b : World} {L : Nat} (h : Fr a b (fun k => k = L)) (i : Nat) (v : Value) : Fr a (b.setCell ⟨L, i, none⟩ v) (fun k => k = L) := h.trans (Fr.setCell b ⟨L, i, none⟩ v) (fun _ _ h => h)
theorem set6_fr (w : World) (L : Nat) (x u : Int) (p q : Nat) : Fr w (set6 w L x u p q) (fun k => k = L) :=
  ((((((Fr.refl w _).set 0 _).set 1 _).set 2 _).set 3 _).set 4 _).set 5 _
theorem set6_blk {w : World} {L : Nat} {t : TypeId} {x0 u0 : Int} {p0 q0 : Nat} (h : Blk w L t (cla x0 u0 p0 q0)) (x u : Int) (p q : Nat) : Blk (set6 w L x u p q) L t (cla x u p q) := by
  have := (((((h.set 0 (.bool false)).set 1 (.bool false)).set 2 (.int .i64 x)).set 3 (.int .u64 u)).set 4 (.string ByteArray.empty)).set 5 (.complex .f64 p q)
  exact this
/-- What a round does. -/
def Rnd (kind : Int) (I U : Nat → Int) (P Q : Nat → Nat) (S : Nat → Int) (dP dQ : Nat → Nat) (F : Nat → List Nat) (i : Nat) : Prop :=
  (∀ w, Calls Tryz.prog 136 #[.int .i64 kind, cl (I i) (U i) (P i) (Q i), cl (I (i + 1)) (U (i + 1)) (P (i + 1)) (Q (i + 1))] w fun e w' => e = .returned (.tuple #[cl (S i) 0 (dP i) (dQ i), .int .i64 0]) ∧ Below w.heap.size w w') ∧
  ((kind ≠ 6 ∧ F (i + 1) = F i ++ uvar (zz (S i)) ∧ -9223372036854775808 ≤ S i ∧ S i ≤ 9223372036854775807) ∨
   (kind = 6 ∧
      (∀ w, Calls Tryz.prog 138 #[.complex .f64 (P (i + 1)) (Q (i + 1))] w fun e w' => e = .returned (.bool true) ∧ w = w') ∧
      (∀ w, Calls Tryz.prog 139 #[.complex .f64 (P (i + 1)) (Q (i + 1)), .complex .f64 (Op.negFloat .f64 (P i)) (Op.negFloat .f64 (Q i))] w fun e w' => e = .returned (.bool true) ∧ w = w') ∧
      (∀ (w : World) (W B : Nat) (sv : Value), Wr w W B sv (F i) → B ≤ w.heap.size → Calls Tryz.prog 74 #[.pointer (some ⟨W, 0, none⟩), .int .i64 6, cl (S i) 0 (dP i) (dQ i)] w (WPost W B w sv (F (i + 1))))))
set_option maxHeartbeats 2000000 in
set_option maxRecDepth 100000 in
theorem encode_any (kind : Int) (hk : kind = 2 ∨ kind = 3 ∨ kind = 6) (n : Nat) (hn0 : 0 < n) (hn : n ≤ 100) (I U : Nat → Int) (P Q : Nat → Nat) (S : Nat → Int) (dP dQ : Nat → Nat) (F : Nat → List Nat)
    (hz : I 0 = 0 ∧ U 0 = 0 ∧ P 0 = 0 ∧ Q 0 = 0 ∧ F 0 = []) (hF : ∀ i, i ≤ n → (F i).length ≤ 1000)
    (hr : ∀ i, i < n → Rnd kind I U P Q S dP dQ F i) (g c : Nat) (hc : n ≤ c) (w : World) (hcell : ∀ i, i < n → At6 w g (i * 6) (I (i + 1)) (U (i + 1)) (P (i + 1)) (Q (i + 1))) :
    Calls Tryz.prog 91 #[.int .i64 kind, .slice (some ⟨g, 0, none⟩) n c] w fun e w' => e = .returned (.tuple #[.string (strN (F n)), .int .i64 0]) ∧ Below w.heap.size w w' := by
  have hg := hide (cell_lt (hcell 0 hn0).c0)
  have KH := hide (has_any kind hk)
  obtain ⟨z1, z2, z3, z4, z5⟩ := hz
  have Z1 := hide z1
  have Z2 := hide z2
  have Z3 := hide z3
  have Z4 := hide z4
  have Z5 := hide z5
  have HC := hide hcell
  have HR := hide hr
  have HF := hide hF
  have hkk : Hid (kind = 2 ∨ kind = 3 ∨ kind = 6) := hk
  clear z1 z2 z3 z4 z5 hcell hr hk hF
  have hst := fun (w1 : World) (a1 : Addr) (m : Mode) (x y : Nat) => run_store Tryz.prog w1 a1 (.complex .f64 x y) m rfl
  go_enter Tryz.func91, Tryz.ntmps91
  go_wp2_with fail
  refine (KH.out _).mono ?_
  rintro e w1 ⟨rfl, rfl⟩
  go_wp2_with fail
  go_loopw [17] (fun iv wr => ∃ i : Nat, i ≤ n ∧ iv = .int .i64 (i : Int) ∧ ∃ sv', Wr wr w.heap.size w.heap.size sv' (F i) ∧ Blk wr (w.heap.size + 1) 45 (cla (I i) (U i) (P i) (Q i)) ∧ Below w.heap.size w wr) (fun iv _ => n - (intOf iv).toNat)
  case atStart =>
    refine ⟨0, by omega, rfl, .slice none 0 0, ⟨(Blk.new _ _ _).alloc _, ?_, Nat.le_refl _⟩, ?_, ((Below.refl _ _).alloc (Nat.le_refl _) _).alloc (by simp) _⟩
    · rw [Z5.out]; exact ownU8_nil _ _
    · rw [Z1.out, Z2.out, Z3.out, Z4.out]
      have := Blk.new (w.alloc (.cells #[.slice none 0 0] 77)) (cla 0 0 0 0) 45
      unfold cla at this ⊢
      rwa [show (w.alloc (.cells #[.slice none 0 0] 77)).heap.size = w.heap.size + 1 by simp] at this
  case round =>
    obtain ⟨i, hi, rfl, sv', hw, hbl, hb⟩ := hrel
    by_cases hlt : i < n
    · have HA := HC.out i hlt
      have HA' := HA.below hb hg.out
      obtain ⟨hS, hE⟩ := HR.out i hlt
      have HE := hide hE
      have HS := hide hS
      have HW := hide hw
      have HL := hide hbl
      have HBW := hide hb
      have hl0 := fun o => (hbl.alloc o).cell 0
      have hl1 := fun o => (hbl.alloc o).cell 1
      have hl2 := fun o => (hbl.alloc o).cell 2
      have hl3 := fun o => (hbl.alloc o).cell 3
      have hl4 := fun o => (hbl.alloc o).cell 4
      have hl5 := fun o => (hbl.alloc o).cell 5
      simp [cla] at hl0 hl1 hl2 hl3 hl4 hl5
      obtain ⟨a0, a1, a2, a3, a4, a5⟩ := HA'
      clear hE hS hw hbl HA hb
      have hi0 : (0 : Int) ≤ (i : Int) := by omega
      have hi1 : (i : Int) < (n : Int) := by omega
      go_wp2_with fail
      refine (HS.out _).mono ?_
      rintro e w1 ⟨rfl, hb1⟩
      clear a0 a1 a2 a3 a4 a5 hl0 hl1 hl2 hl3 hl4 hl5
      have hL1 := hide ((HL.out.alloc _).below hb1 (HL.out.alloc _).lt)
      have h91 := hide ((Blk.new _ _ _).below hb1 (Blk.new _ _ _).lt)
      have hW1 := hide ((HW.out.below ((Below.refl _ _).alloc (Nat.le_refl _) _)).below hb1)
      have hB1 := hide ((HBW.out.alloc HBW.out.size _).trans (hb1.mono (by simp; exact Nat.le_succ_of_le HBW.out.size)))
      clear hb1
      unfold cl
      have hWa := hide (fun o => hW1.out.below ((Below.refl w1.heap.size w1).alloc (Nat.le_refl _) o))
      have hBa := hide (fun o => hB1.out.alloc hB1.out.size o)
      have hb9 := hide (Nat.ne_of_gt HW.out.blk.lt)
      have hn9 := hide (OwnU8.ne hW1.out.own h91.out (by decide))
      have hnL := hide (OwnU8.ne hW1.out.own hL1.out (by decide))
      rcases HE.out with ⟨hk6, hFi, hS1, hS2⟩ | ⟨rfl, hM, hRe, hP⟩
      · have hk6' : (kind != 6) = true := by simpa using hk6
        have hFi' := hide hFi
        have KS := hide (fun o => wsvar_any _ _ _ _ (S i) hS1 hS2 _ (hWa.out o) (by have := HF.out i hi; omega) (hBa.out o).size)
        clear hk6 hFi hS1 hS2
        go_wp2_with fail
        refine (KS.out _).mono ?_
        rintro e w2 ⟨rfl, sv2, hw2, hs2⟩
        rw [← hFi'.out] at hw2
        have H9 := (h91.out.alloc _).fr hs2.fr (by
          rintro (h | h)
          · exact hb9.out h
          · exact hn9.out h.symm)
        have HL2 := hide ((hL1.out.alloc _).fr hs2.fr (by
          rintro (h | h)
          · omega
          · exact hnL.out h.symm))
        have HB2 := hide ((hBa.out _).trans (hs2.below (hWa.out _) (hBa.out _).size))
        have HW2 := hide hw2
        clear hw2 hs2
        have d0 := H9.cell 0
        have d1 := H9.cell 1
        have d2 := H9.cell 2
        have d3 := H9.cell 3
        have d4 := H9.cell 4
        have d5 := H9.cell 5
        have e0 := HL2.out.cell 0
        have e1 := HL2.out.cell 1
        have e2 := HL2.out.cell 2
        have e3 := HL2.out.cell 3
        have e4 := HL2.out.cell 4
        have e5 := HL2.out.cell 5
        have f0 := HL2.out.frozen 0
        have f1 := HL2.out.frozen 1
        have f2 := HL2.out.frozen 2
        have f3 := HL2.out.frozen 3
        have f4 := HL2.out.frozen 4
        have f5 := HL2.out.frozen 5
        simp [cla] at d0 d1 d2 d3 d4 d5 e0 e1 e2 e3 e4 e5
        clear H9
        go_wp2_with fail
        go_roundw
        case rel =>
          have hfs := set6_fr w2 (w.heap.size + 1) (I (i + 1)) (U (i + 1)) (P (i + 1)) (Q (i + 1))
          refine ⟨i + 1, by omega, by go_num, sv2, ⟨?_, ?_, Nat.le_refl _⟩, ?_, ?_⟩
          · exact HW2.out.blk.fr hfs (by omega)
          · exact HW2.out.own.fr hfs (fun k hk h => OwnU8.ne HW2.out.own HL2.out (by decide) (by rw [hk, h]))
          · exact set6_blk HL2.out _ _ _ _
          · exact HB2.out.trans (hfs.below HB2.out.size (fun k hk => by omega))
        case measure => simp [intOf] <;> omega
      · have g9 := fun o => (h91.out.alloc o).cell 5
        have gL := fun o => (hL1.out.alloc o).cell 5
        simp [cla] at g9 gL
        have hneg : ∀ x y : Nat, Op.unary .neg (.complex .f64 x y) = pure (.complex .f64 (Op.negFloat .f64 x) (Op.negFloat .f64 y)) := fun _ _ => rfl
        have KP := hide (fun o => hP _ _ _ _ (hWa.out o) (hBa.out o).size)
        have HM := hide hM
        have HRe := hide hRe
        clear hM hRe hP
        unfold cl at KP
        go_wp2_with fail
        refine (HM.out _).mono ?_
        rintro e w0 ⟨rfl, rfl⟩
        go_wp2_with fail
        refine (HRe.out _).mono ?_
        rintro e w0 ⟨rfl, rfl⟩
        go_wp2_with fail
        clear g9 gL
        refine (KP.out _).mono ?_
        rintro e w2 ⟨rfl, sv2, hw2, hs2⟩
        have H9 := (h91.out.alloc _).fr hs2.fr (by
          rintro (h | h)
          · exact hb9.out h
          · exact hn9.out h.symm)
        have HL2 := hide ((hL1.out.alloc _).fr hs2.fr (by
          rintro (h | h)
          · omega
          · exact hnL.out h.symm))
        have HB2 := hide ((hBa.out _).trans (hs2.below (hWa.out _) (hBa.out _).size))
        have HW2 := hide hw2
        clear hw2 hs2
        have d0 := H9.cell 0
        have d1 := H9.cell 1
        have d2 := H9.cell 2
        have d3 := H9.cell 3
        have d4 := H9.cell 4
        have d5 := H9.cell 5
        have e0 := HL2.out.cell 0
        have e1 := HL2.out.cell 1
        have e2 := HL2.out.cell 2
        have e3 := HL2.out.cell 3
        have e4 := HL2.out.cell 4
        have e5 := HL2.out.cell 5
        have f0 := HL2.out.frozen 0
        have f1 := HL2.out.frozen 1
        have f2 := HL2.out.frozen 2
        have f3 := HL2.out.frozen 3
        have f4 := HL2.out.frozen 4
        have f5 := HL2.out.frozen 5
        simp [cla] at d0 d1 d2 d3 d4 d5 e0 e1 e2 e3 e4 e5
        clear H9
        go_wp2_with fail
        go_roundw
        case rel =>
          have hfs := set6_fr w2 (w.heap.size + 1) (I (i + 1)) (U (i + 1)) (P (i + 1)) (Q (i + 1))
          refine ⟨i + 1, by omega, by go_num, sv2, ⟨?_, ?_, Nat.le_refl _⟩, ?_, ?_⟩
          · exact HW2.out.blk.fr hfs (by omega)
          · exact HW2.out.own.fr hfs (fun k hk h => OwnU8.ne HW2.out.own HL2.out (by decide) (by rw [hk, h]))
          · exact set6_blk HL2.out _ _ _ _
          · exact HB2.out.trans (hfs.below HB2.out.size (fun k hk => by omega))
        case measure => simp [intOf] <;> omega
    · have hin : i = n := by omega
      subst hin
      have K := hide (dwstring_any _ _ _ _ _ hw)
      have HB := hide hb
      clear hw hbl hb
      go_wp2_with fail
      refine K.out.mono ?_
      rintro e w2 ⟨rfl, rfl⟩
      go_wp2_with fail
      go_ret2
      exact ⟨rfl, HB.out⟩
end Go.Proofs.YtfkgmodgkifelaaGreatDoor
namespace Go.Proofs.YtfkgmodgkifelaaGreatDoor
open Go.RowKit

theorem take_snoc {α : Type} {l : List α} {i : Nat} {x : α} (h : l[i]? = some x) : l.take (i + 1) = l.take i ++ [x] := by
  rw [List.take_add_one, h]; rfl
theorem enc_int (l : List Int) (h0 : 0 < l.length) (hn : l.length ≤ 60) (g c : Nat) (hc : l.length ≤ c) (w : World) (hcell : ∀ i x, l[i]? = some x → At6 w g (i * 6) x 0 0 0) :
    Calls Tryz.prog 91 #[.int .i64 2, .slice (some ⟨g, 0, none⟩) l.length c] w fun e w' => e = .returned (.tuple #[.string (strN (encD 0 l)), .int .i64 0]) ∧ Below w.heap.size w w' := by
  have hx : ∀ i, i < l.length → ∃ x, l[i]? = some x := fun i hi => ⟨_, List.getElem?_eq_getElem hi⟩
  have hla : ∀ i x, l[i]? = some x → lastD 0 (l.take (i + 1)) = x := fun i x h => by rw [take_snoc h, lastD_snoc]
  have H := encode_any 2 (.inl rfl) l.length h0 (by omega) (fun i => lastD 0 (l.take i)) (fun _ => 0) (fun _ => 0) (fun _ => 0) (fun i => wrap64 (lastD 0 (l.take (i + 1)) - lastD 0 (l.take i))) (fun _ => 0) (fun _ => 0) (fun i => encD 0 (l.take i))
    ⟨rfl, rfl, rfl, rfl, rfl⟩ (fun i hi => by
      have := encD_len (l.take i) 0
      rw [List.length_take] at this
      show (encD 0 (l.take i)).length ≤ 1000
      omega)
    (fun i hi => by
      obtain ⟨x, hx⟩ := hx i hi
      refine ⟨fun w => step_int _ _ _ _ _ _ _ _ w, .inl ⟨by decide, ?_, (wrap64_range _).1, (wrap64_range _).2⟩⟩
      show encD 0 (l.take (i + 1)) = encD 0 (l.take i) ++ uvar (zz (wrap64 (lastD 0 (l.take (i + 1)) - lastD 0 (l.take i))))
      rw [hla i x hx, take_snoc hx, encD_snoc])
    g c hc w (fun i hi => by
      obtain ⟨x, hx⟩ := hx i hi
      show At6 w g (i * 6) (lastD 0 (l.take (i + 1))) 0 0 0
      rw [hla i x hx]
      exact hcell i x hx)
  simpa using H
theorem at6_blk {w : World} {g : Nat} {t : TypeId} {cs : Array Value} (h : Blk w g t cs) {o : Nat} {x u : Int} {p q : Nat}
    (h0 : cs[o]? = some (.bool false)) (h1 : cs[o + 1]? = some (.bool false)) (h2 : cs[o + 2]? = some (.int .i64 x)) (h3 : cs[o + 3]? = some (.int .u64 u)) (h4 : cs[o + 4]? = some (.string ByteArray.empty)) (h5 : cs[o + 5]? = some (.complex .f64 p q)) : At6 w g o x u p q :=
  ⟨(h.cell _).trans h0, (h.cell _).trans h1, (h.cell _).trans h2, (h.cell _).trans h3, (h.cell _).trans h4, (h.cell _).trans h5⟩
theorem uv_of (n : Nat) (h : n < 128) : uvar n = [n] := uvar_small h
theorem uv0 : uvar (zz 0) = [0] := uv_of 0 (by decide)
theorem uv1 : uvar (zz 1) = [2] := uv_of 2 (by decide)
theorem uvm1 : uvar (zz (-1)) = [1] := uv_of 1 (by decide)
theorem uv574 : encD 0 [5, 7, 4] = [10, 4, 5] := by
  have h1 : zz (wrap64 (5 - 0)) = 10 := by rw [show wrap64 (5 - 0) = 5 by unfold wrap64; omega]; rfl
  have h2 : zz (wrap64 (7 - 5)) = 4 := by rw [show wrap64 (7 - 5) = 2 by unfold wrap64; omega]; rfl
  have h3 : zz (wrap64 (4 - 7)) = 5 := by rw [show wrap64 (4 - 7) = -3 by unfold wrap64; omega]; rfl
  rw [encD, encD, encD, encD, h1, h2, h3, uv_of 10 (by decide), uv_of 4 (by decide), uv_of 5 (by decide)]
  rfl
theorem bn_inj' {s t : ByteArray} (h : bn s = bn t) : s = t := by
  have hs := h
  unfold bn at hs
  have h1 : s.data.toList = t.data.toList := by
    have inj : ∀ (a b : List UInt8), a.map (·.toNat) = b.map (·.toNat) → a = b := by
      intro a
      induction a with
      | nil => intro b hb; cases b with
        | nil => rfl
        | cons _ _ => simp at hb
      | cons x a ih => intro b hb; cases b with
        | nil => simp at hb
        | cons y b =>
          simp only [List.map_cons, List.cons.injEq] at hb
          rw [UInt8.toNat_inj.1 hb.1, ih b hb.2]
    exact inj _ _ hs
  exact ByteArray.ext (Array.ext' h1)
theorem bn_lt' (s : ByteArray) : ∀ b ∈ bn s, b < 256 := by
  intro b hb
  unfold bn at hb
  obtain ⟨x, _, rfl⟩ := List.mem_map.1 hb
  exact x.toNat_lt
theorem strN_bn' (s : ByteArray) : strN (bn s) = s := bn_inj' (bn_strN _ (bn_lt' s))
theorem s574 : strN [10, 4, 5] = ⟨#[10, 4, 5]⟩ := strN_bn' ⟨#[10, 4, 5]⟩
theorem s01 : strN [0, 1] = ⟨#[0, 1]⟩ := strN_bn' ⟨#[0, 1]⟩
theorem s2002 : strN [2, 0, 0, 2] = ⟨#[2, 0, 0, 2]⟩ := strN_bn' ⟨#[2, 0, 0, 2]⟩
theorem enc_three (w : World) (g : Nat) (t : TypeId) (h : Blk w g t (cla 5 0 0 0 ++ cla 7 0 0 0 ++ cla 4 0 0 0)) :
    Calls Tryz.prog 91 #[.int .i64 2, .slice (some ⟨g, 0, none⟩) 3 3] w fun e w' => e = .returned (.tuple #[.string ⟨#[10, 4, 5]⟩, .int .i64 0]) ∧ Below w.heap.size w w' := by
  have H := enc_int [5, 7, 4] (by decide) (by decide) g 3 (by decide) w (fun i x hx => by
    match i, hx with
    | 0, hx => cases hx; exact at6_blk h rfl rfl rfl rfl rfl rfl
    | 1, hx => cases hx; exact at6_blk h rfl rfl rfl rfl rfl rfl
    | 2, hx => cases hx; exact at6_blk h rfl rfl rfl rfl rfl rfl
    | i + 3, hx => simp at hx)
  rw [uv574, s574] at H
  exact H
theorem enc_uint (w : World) (g : Nat) (t : TypeId) (h : Blk w g t (cla 0 0 0 0 ++ cla 0 18446744073709551615 0 0)) :
    Calls Tryz.prog 91 #[.int .i64 3, .slice (some ⟨g, 0, none⟩) 2 2] w fun e w' => e = .returned (.tuple #[.string ⟨#[0, 1]⟩, .int .i64 0]) ∧ Below w.heap.size w w' := by
  have H := encode_any 3 (.inr (.inl rfl)) 2 (by decide) (by decide) (fun _ => 0) (fun i => if i = 2 then 18446744073709551615 else 0) (fun _ => 0) (fun _ => 0) (fun i => if i = 1 then -1 else 0) (fun _ => 0) (fun _ => 0) (fun i => ([0, 1] : List Nat).take i)
    ⟨rfl, rfl, rfl, rfl, rfl⟩ (fun i hi => by simp; omega)
    (fun i hi => by
      match i, hi with
      | 0, _ => exact ⟨fun w => by have := step_uint 0 0 0 0 0 0 0 0 w; rw [show wrap64 ((0 - 0) % 18446744073709551616) = 0 by unfold wrap64; omega] at this; exact this, .inl ⟨by decide, by show [0] = [] ++ uvar (zz 0); rw [uv0]; rfl, by decide, by decide⟩⟩
      | 1, _ => exact ⟨fun w => by have := step_uint 0 0 0 18446744073709551615 0 0 0 0 w; rw [show wrap64 ((18446744073709551615 - 0) % 18446744073709551616) = -1 by unfold wrap64; omega] at this; exact this, .inl ⟨by decide, by show [0, 1] = [0] ++ uvar (zz (-1)); rw [uvm1]; rfl, by decide, by decide⟩⟩)
    g 2 (by decide) w (fun i hi => by
      match i, hi with
      | 0, _ => exact at6_blk h rfl rfl rfl rfl rfl rfl
      | 1, _ => exact at6_blk h rfl rfl rfl rfl rfl rfl)
  have H2 : Calls Tryz.prog 91 #[.int .i64 3, .slice (some ⟨g, 0, none⟩) 2 2] w fun e w' => e = .returned (.tuple #[.string (strN [0, 1]), .int .i64 0]) ∧ Below w.heap.size w w' := H
  rw [s01] at H2
  exact H2
theorem enc_point (w : World) (g : Nat) (t : TypeId) (h : Blk w g t (cla 0 0 4607182418800017408 0 ++ cla 0 0 4607182418800017408 4607182418800017408)) :
    Calls Tryz.prog 91 #[.int .i64 6, .slice (some ⟨g, 0, none⟩) 2 2] w fun e w' => e = .returned (.tuple #[.string ⟨#[2, 0, 0, 2]⟩, .int .i64 0]) ∧ Below w.heap.size w w' := by
  have H := encode_any 6 (.inr (.inr rfl)) 2 (by decide) (by decide) (fun _ => 0) (fun _ => 0) (fun i => if i = 0 then 0 else 4607182418800017408) (fun i => if i = 2 then 4607182418800017408 else 0) (fun _ => 0)
    (fun i => if i = 0 then 4607182418800017408 else 0) (fun i => if i = 1 then 4607182418800017408 else 0) (fun i => ([2, 0, 0, 2] : List Nat).take (2 * i))
    ⟨rfl, rfl, rfl, rfl, rfl⟩ (fun i hi => by simp; omega)
    (fun i hi => by
      match i, hi with
      | 0, _ => exact ⟨fun w => step_point _ _ _ _ _ _ _ _ _ _ step01 w, .inr ⟨rfl, fun w => may_any _ _ 1 0 wh1 wh0 w, fun w => reach_any _ _ _ _ 1 0 0 0 wh1.ti wh0.ti to_m0 to_m0 (by decide) (by decide) (by decide) (by decide) w,
          fun w W B sv hw hB => by have := pput_any W B sv _ _ _ 1 0 wh1 wh0 (by decide) (by decide) w hw (by decide) hB; rw [uv1, uv0] at this; exact this⟩⟩
      | 1, _ => exact ⟨fun w => step_point _ _ _ _ _ _ _ _ _ _ step12 w, .inr ⟨rfl, fun w => may_any _ _ 1 1 wh1 wh1 w, fun w => reach_any _ _ _ _ 1 1 (-1) 0 wh1.ti wh1.ti to_m1 to_m0 (by decide) (by decide) (by decide) (by decide) w,
          fun w W B sv hw hB => by have := pput_any W B sv _ _ _ 0 1 wh0 wh1 (by decide) (by decide) w hw (by decide) hB; rw [uv1, uv0] at this; exact this⟩⟩)
    g 2 (by decide) w (fun i hi => by
      match i, hi with
      | 0, _ => exact at6_blk h rfl rfl rfl rfl rfl rfl
      | 1, _ => exact at6_blk h rfl rfl rfl rfl rfl rfl)
  have H2 : Calls Tryz.prog 91 #[.int .i64 6, .slice (some ⟨g, 0, none⟩) 2 2] w fun e w' => e = .returned (.tuple #[.string (strN [2, 0, 0, 2]), .int .i64 0]) ∧ Below w.heap.size w w' := H
  rw [s2002] at H2
  exact H2
end Go.Proofs.YtfkgmodgkifelaaGreatDoor
