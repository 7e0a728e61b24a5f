/- The walk of FrameTold. -/
import Derived.Test.YtkeaijocjbldmaaFrameP3
import Derived.Test.YtkeaijocjbldmaaFrameO
namespace Go.Proofs.Ytkeaijocjbldmaa
open Go.RowKit Go.ChangeShapes Go.WideShapes

/-- '[]byte(s)', its world a letter. -/
theorem bytes_of (w : World) (s : ByteArray) : ∃ (C : Nat) (W2 : World), (convert 9 31 (.string s)).run Try.prog w = .ok (.slice (some ⟨w.heap.size, 0, none⟩) s.size C) W2 ∧ Row8 W2 w.heap.size (bn s) ∧ Below w.heap.size w W2 := by
  have h := run_bytes_of_string (P := Try.prog) w 9 31 5 s Try.underlying9 Try.underlying31 Try.underlying5
  exact ⟨_, _, h, row8_made w s _ 5 _ _ (by unfold bytesRow; simp), ((Below.refl _ _).alloc (Nat.le_refl _) _).drew⟩
set_option maxHeartbeats 2000000 in
set_option maxRecDepth 100000 in
theorem frameTold_walk (w : World) (b : ByteArray) (hb : b.size ≤ maxLen) (at0 : Int) (w1 : (Lit.int .i64 at0).wf = true) (v2 : Value) (w2 : ∃ k t : Nat, k < 256 ∧ t < 256 ∧ v2 = .agg #[.int .u8 (k : Nat), .int .u8 (t : Nat)]) :
    Calls Try.prog 12 #[.string b, .int .i64 at0, v2] w fun e w' => e = .returned (.bool true) ∧ Below w.heap.size w w' := by
  obtain ⟨k, t, hk, ht, rfl⟩ := w2
  have hat := bounds_i64 w1
  clear w1
  have KA := hide (fun w => awake05 w)
  have K1 := hide (fun w => seal_any k b hk hb w)
  unfold maxLen at hb
  have hbl := bn_len b
  have b0 : Below w.heap.size w (w.alloc (.cells #[.int .u8 (k : Nat), .int .u8 (t : Nat)] 70)) := (Below.refl _ _).alloc (Nat.le_refl _) _
  by_cases hbad : k = 0 ∨ 100 < b.size
  · generalize (if k = 0 ∨ 1048576 < b.size then ({ data := #[] } : ByteArray) else strN (sealN k (bn b))) = SV at K1
    by_cases hk0 : k = 0
    · subst hk0
      clear hbad
      go_enter Try.func12, Try.ntmps12
      go_wp2_with fail
      refine (K1.out _).mono ?_
      rintro e w1 ⟨rfl, hb1⟩
      have hb2 := b0.trans (hb1.mono b0.size)
      go_wp2_with fail
      refine (KA.out _).mono ?_
      rintro e w2 ⟨rfl, hb3⟩
      go_wp2_with fail
      go_ret
      exact ⟨rfl, hb2.trans (hb3.mono hb2.size)⟩
    · have hkb : ((k : Int) == 0) = false := by rw [beq_eq_false_iff_ne]; omega
      have h100 : 100 < b.size := by omega
      clear hbad
      go_enter Try.func12, Try.ntmps12
      go_wp2_with fail
      refine (K1.out _).mono ?_
      rintro e w1 ⟨rfl, hb1⟩
      have hb2 := b0.trans (hb1.mono b0.size)
      go_wp2_with fail
      refine (KA.out _).mono ?_
      rintro e w2 ⟨rfl, hb3⟩
      go_wp2_with fail
      go_ret
      exact ⟨rfl, hb2.trans (hb3.mono hb2.size)⟩
  have hk0 : k ≠ 0 := by omega
  have hkb : ((k : Int) == 0) = false := by rw [beq_eq_false_iff_ne]; omega
  have h100 : b.size ≤ 100 := by omega
  have hd1 : decide (100 < (b.size : Int)) = false := by rw [decide_eq_false_iff_not]; omega
  rw [if_neg (by omega)] at K1
  obtain ⟨L, HL⟩ : ∃ L, Hid (L = sealN k (bn b)) := ⟨_, rfl⟩
  have HLT : Hid (∀ x ∈ L, x < 256) := by rw [HL.out]; exact sealN_lt hk (bn_lt b)
  have hul := uvar_len10 (x := b.size) (by omega)
  have HLL : Hid (L.length = sizeN b.size) := by show _ = _; rw [HL.out, sealN_len, hbl]
  have hll : L.length ≤ 200 := by rw [HLL.out]; unfold sizeN; omega
  rw [← HL.out] at K1
  obtain ⟨SV, HSV⟩ : ∃ SV, Hid (SV = strN L) := ⟨_, rfl⟩
  have HSZ : Hid (SV.size = L.length) := by show _ = _; rw [HSV.out, strN_size]
  have hsz := HSZ.out
  have hs200 : SV.size ≤ 200 := by omega
  have HBN : Hid (bn SV = L) := by show _ = _; rw [HSV.out, bn_strN L HLT.out]
  rw [← HSV.out] at K1
  clear hsz hbl hbad
  by_cases hneg : at0 < 0
  · go_enter Try.func12, Try.ntmps12
    go_wp2_with fail
    refine (K1.out _).mono ?_
    rintro e w1 ⟨rfl, hb1⟩
    have hb2 := b0.trans (hb1.mono b0.size)
    go_wp2_with fail
    refine (KA.out _).mono ?_
    rintro e w2 ⟨rfl, hb3⟩
    go_wp2_with fail
    go_ret
    exact ⟨rfl, hb2.trans (hb3.mono hb2.size)⟩
  obtain ⟨p, rfl⟩ : ∃ p : Nat, at0 = p := ⟨at0.toNat, by omega⟩
  have hd2 : decide ((p : Int) < 0) = false := by rw [decide_eq_false_iff_not]; omega
  by_cases hge : SV.size ≤ p
  · go_enter Try.func12, Try.ntmps12
    go_wp2_with fail
    refine (K1.out _).mono ?_
    rintro e w1 ⟨rfl, hb1⟩
    have hb2 := b0.trans (hb1.mono b0.size)
    go_wp2_with fail
    refine (KA.out _).mono ?_
    rintro e w2 ⟨rfl, hb3⟩
    go_wp2_with fail
    go_ret
    exact ⟨rfl, hb2.trans (hb3.mono hb2.size)⟩
  have hd3 : decide (SV.size ≤ p) = false := by rw [decide_eq_false_iff_not]; exact hge
  have hpl : p < SV.size := by omega
  by_cases ht0 : t = 0
  · subst ht0
    clear hneg hge
    go_enter Try.func12, Try.ntmps12
    go_wp2_with fail
    refine (K1.out _).mono ?_
    rintro e w1 ⟨rfl, hb1⟩
    have hb2 := b0.trans (hb1.mono b0.size)
    go_wp2_with fail
    refine (KA.out _).mono ?_
    rintro e w2 ⟨rfl, hb3⟩
    go_wp2_with fail
    go_ret
    exact ⟨rfl, hb2.trans (hb3.mono hb2.size)⟩
  have htb : ((t : Int) == 0) = false := by rw [beq_eq_false_iff_ne]; omega
  have HPL : Hid (p < L.length) := by have := HSZ.out; show _ < _; omega
  have HN1 : Hid (p ≠ 1 → (nextN (turn1 L p t)).2.2.2 ≠ 0) := fun h => by
    have h2 := HPL.out
    rw [HL.out] at h2 ⊢
    exact told_none hk hk0 (bn_lt b) (by rw [bn_len]; exact h100) ht ht0 h2 h
  have HN2 : Hid (p = 1 → (nextN (turn1 L p t)).2.2.2 = 0 → (nextN (turn1 L p t)).1 = k ∧ (nextN (turn1 L p t)).2.1 ≠ bn b) := fun h he => by
    subst h
    rw [HL.out] at he ⊢
    exact told_one hk (bn_lt b) (by rw [bn_len]; exact h100) ht ht0 he
  have HTL := hide (turn1_lt (p := p) HLT.out ht)
  have HTS : Hid ((turn1 L p t).length = L.length) := turn1_len _ _ _
  have KN : Hid (∀ w, Calls Try.prog 36 #[.string (strN (turn1 L p t))] w fun e w' => e = .returned (.tuple #[.int .u8 ((nextN (turn1 L p t)).1 : Nat), .string (strN (nextN (turn1 L p t)).2.1), .int .i64 ((nextN (turn1 L p t)).2.2.1 : Nat), .int .i64 ((nextN (turn1 L p t)).2.2.2 : Nat)]) ∧ Below w.heap.size w w') := fun w => by
    have := fnext_any (strN (turn1 L p t)) (by rw [strN_size, HTS.out]; unfold maxLen; omega) w
    rw [bn_strN _ HTL.out] at this
    exact this
  have hNL := (nextN_lt HTL.out).2.1
  have HNN := hide (nextN_none (D := turn1 L p t))
  have HTT : Hid (turn1 L p t = L.set p (L.getD p 0 ^^^ t)) := rfl
  clear hneg hge hk0 ht0
  go_enter Try.func12, Try.ntmps12
  go_wp2_with fail
  refine (K1.out _).mono ?_
  rintro e w1 ⟨rfl, hb1⟩
  have hb2 := b0.trans (hb1.mono b0.size)
  obtain ⟨C, W2, hcv, HR, HB⟩ := bytes_of w1 SV
  have hb3 := hb2.trans (HB.mono hb2.size)
  have hlt : p < (bn SV).length := by rw [HBN.out]; exact HPL.out
  have hc := HR.cell hlt
  have hf := HR.frozen hlt
  have hx0 : (bn SV).getD p 0 < 256 := by
    rw [List.getD_eq_getElem?_getD, List.getElem?_eq_getElem hlt]
    exact bn_lt SV _ (List.getElem_mem hlt)
  obtain ⟨x, HX⟩ : ∃ x, Hid (x = (bn SV).getD p 0) := ⟨_, rfl⟩
  rw [← HX.out] at hc hx0
  have hxor : bits .xor .u8 (x : Int) ((t : Nat) : Int) = ((x ^^^ t : Nat) : Int) := u8_xor_nat x t hx0 ht
  have HR2 := HR.set p (x ^^^ t) hlt
  have hcv2 := row8_string HR2 C
  rw [List.length_set, bn_len, HX.out, HBN.out, ← HTT.out, ← HBN.out, ← HX.out, HBN.out] at hcv2
  have hb4 := hb3.setCell (p := ⟨w1.heap.size, p, none⟩) hb2.size (.int .u8 ((x ^^^ t : Nat) : Int))
  have hpi : (p : Int) < (SV.size : Int) := by omega
  generalize strN (turn1 L p t) = ST at hcv2 KN
  generalize nextN (turn1 L p t) = T at *
  obtain ⟨kk, bb, nn, er⟩ := T
  simp only at KN HN1 HN2 HNN hNL
  clear HR HB HR2 hlt
  by_cases hp1 : p = 1
  · have h2 := HN2.out hp1
    subst hp1
    by_cases he : er = 0
    · subst he
      obtain ⟨hkk, hbb⟩ := h2 rfl
      subst hkk
      have hns : strN bb ≠ b := fun h => hbb (by rw [← bn_strN bb hNL, h])
      have hy := hide (str_ne hns)
      clear h2 hbb hns hNL HN1 HN2 HNN
      go_wp2_with fail
      refine (KN.out _).mono ?_
      rintro e w3 ⟨rfl, hb5⟩
      have hb6 := hb4.trans (hb5.mono hb4.size)
      have hy1 := hy.out.1
      have hy2 := hy.out.2
      clear hcv hc hf hcv2 hxor
      go_wp2_with fail
      refine (KA.out _).mono ?_
      rintro e w4 ⟨rfl, hb7⟩
      go_wp2_with fail
      go_ret
      exact ⟨rfl, hb6.trans (hb7.mono hb6.size)⟩
    · have hnn : nn = 0 := by
        have := HNN.out he
        injection this with _ h
        injection h with _ h
        injection h
      subst hnn
      have hne : ((er : Int) != 0) = true := by rw [bne_iff_ne]; omega
      clear h2 hNL HN1 HN2 HNN
      go_wp2_with fail
      refine (KN.out _).mono ?_
      rintro e w3 ⟨rfl, hb5⟩
      have hb6 := hb4.trans (hb5.mono hb4.size)
      clear hcv hc hf hcv2 hxor
      go_wp2_with fail
      refine (KA.out _).mono ?_
      rintro e w4 ⟨rfl, hb7⟩
      go_wp2_with fail
      go_ret
      exact ⟨rfl, hb6.trans (hb7.mono hb6.size)⟩
  · have he := HN1.out hp1
    have hnn : nn = 0 := by
      have := HNN.out he
      injection this with _ h
      injection h with _ h
      injection h
    subst hnn
    have hne : ((er : Int) != 0) = true := by rw [bne_iff_ne]; omega
    have hpb : ((p : Int) != 1) = true := by rw [bne_iff_ne]; omega
    clear hNL HN1 HN2 HNN
    go_wp2_with fail
    refine (KN.out _).mono ?_
    rintro e w3 ⟨rfl, hb5⟩
    have hb6 := hb4.trans (hb5.mono hb4.size)
    clear hcv hc hf hcv2 hxor
    go_wp2_with fail
    refine (KA.out _).mono ?_
    rintro e w4 ⟨rfl, hb7⟩
    go_wp2_with fail
    go_ret
    exact ⟨rfl, hb6.trans (hb7.mono hb6.size)⟩
end Go.Proofs.Ytkeaijocjbldmaa
