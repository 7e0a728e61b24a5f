/- Readers: a text behind its length. -/
import Derived.Test.YtihbcojmonlcgaaDoorWireR7
namespace Go.Proofs.YtihbcojmonlcgaaDoor
open Go.RowKit
set_option maxHeartbeats 1000000 in
set_option maxRecDepth 100000 in
theorem rtext_any (R : Nat) (s : ByteArray) (p e : Nat) (m : Int) (hm63 : m ≤ 9223372036854775807) (hm0 : -9223372036854775808 ≤ m) (hs : s.size ≤ maxLen) (hp : p ≤ s.size) (w : World) (h : Rd w R s p e) :
    Calls Tryd.prog 88 #[.pointer (some ⟨R, 0, none⟩), .int .i64 m] w (RPost R w s (.string (strN (stT s p e (textS m)).1)) (stT s p e (textS m)).2.1 (stT s p e (textS m)).2.2) := by
  have K1 := hide (rat_any R s p e w h)
  have K2 := hide (ruvar_any R s p e hs hp w h)
  have hs' := hs
  unfold maxLen at hs'
  by_cases he : e = 0
  · subst he
    unfold st at K2
    rw [if_pos rfl] at K2
    unfold stT
    rw [if_pos rfl]
    have hle := few_le ((bn s).drop p) 0
    have h64 := few_lt64 ((bn s).drop p)
    have hfe := few_err ((bn s).drop p) 0
    rw [List.length_drop, bn_len] at hle
    unfold textS
    rw [List.length_drop, bn_len]
    simp only at K2
    generalize few ((bn s).drop p) 0 = T at *
    obtain ⟨x, c, er⟩ := T
    simp only at K2 hle h64 hfe ⊢
    by_cases h0 : er = 0
    · subst h0
      rw [if_pos rfl]
      have hc := hle rfl
      by_cases hbig : m < 0 ∨ m < x
      · rw [if_pos hbig, strN_nil]
        have K3 : Hid (∀ w1, Rd w1 R s (p + c) 0 → Calls Tryd.prog 38 #[.pointer (some ⟨R, 0, none⟩)] w1 fun r w' => r = .returned (.int .i64 (0 : Nat)) ∧ w1 = w') := fun w1 h1 => rerr_any R s _ 0 w1 h1
        have K4 : Hid (∀ w1, Rd w1 R s (p + c) 0 → Calls Tryd.prog 108 #[.pointer (some ⟨R, 0, none⟩), .int .i64 (12 : Nat), .int .i64 (p : Nat)] w1 (RPost R w1 s (.tuple #[]) p 12)) := fun w1 h1 => rfail_any R s _ 0 p 12 w1 h1
        clear h
        rcases (show m < 0 ∨ 0 ≤ m by omega) with hneg | hpos
        · clear hbig
          go_enter Tryd.func88, Tryd.ntmps88
          go_wp2_with fail
          refine K1.out.mono ?_
          rintro e w1 ⟨rfl, rfl⟩
          go_wp2_with fail
          refine K2.out.mono ?_
          rintro e w1 ⟨rfl, hr1, hf1⟩
          have HR1 := hide hr1
          have HF1 := hide hf1
          clear hr1 hf1
          go_wp2_with fail
          refine (K3.out _ HR1.out).mono ?_
          rintro e w2 ⟨rfl, rfl⟩
          go_wp2_with fail
          refine (K4.out _ HR1.out).mono ?_
          rintro e w2 ⟨rfl, hr2, hf2⟩
          have HR2 := hide hr2
          have HF2 := hide hf2
          clear hr2 hf2
          go_wp2_with fail
          go_ret
          exact ⟨rfl, HR2.out, HF1.out.trans HF2.out (fun _ _ h => h)⟩
        · have hmx : m < x := by omega
          obtain ⟨mm, rfl⟩ : ∃ mm : Nat, m = mm := ⟨m.toNat, by omega⟩
          clear hbig
          go_enter Tryd.func88, Tryd.ntmps88
          go_wp2_with fail
          refine K1.out.mono ?_
          rintro e w1 ⟨rfl, rfl⟩
          go_wp2_with fail
          refine K2.out.mono ?_
          rintro e w1 ⟨rfl, hr1, hf1⟩
          have HR1 := hide hr1
          have HF1 := hide hf1
          clear hr1 hf1
          go_wp2_with fail
          refine (K3.out _ HR1.out).mono ?_
          rintro e w2 ⟨rfl, rfl⟩
          go_wp2_with fail
          refine (K4.out _ HR1.out).mono ?_
          rintro e w2 ⟨rfl, hr2, hf2⟩
          have HR2 := hide hr2
          have HF2 := hide hf2
          clear hr2 hf2
          go_wp2_with fail
          go_ret
          exact ⟨rfl, HR2.out, HF1.out.trans HF2.out (fun _ _ h => h)⟩
      · rw [if_neg hbig]
        have hpos : 0 ≤ m := by omega
        obtain ⟨mm, rfl⟩ : ∃ mm : Nat, m = mm := ⟨m.toNat, by omega⟩
        have hxm : x ≤ mm := by omega
        have K3 : Hid (∀ w1, Rd w1 R s (p + c) 0 → Calls Tryd.prog 38 #[.pointer (some ⟨R, 0, none⟩)] w1 fun r w' => r = .returned (.int .i64 (0 : Nat)) ∧ w1 = w') := fun w1 h1 => rerr_any R s _ 0 w1 h1
        have K5 : Hid (∀ w1, Rd w1 R s (p + c) 0 → Calls Tryd.prog 55 #[.pointer (some ⟨R, 0, none⟩)] w1 fun r w' => r = .returned (.int .i64 ((s.size - (p + c) : Nat) : Int)) ∧ Below w1.heap.size w1 w') := fun w1 h1 => rleft_any R s (p + c) 0 hs (by omega) w1 h1
        by_cases hsh : s.size - p - c < x
        · rw [if_pos hsh, strN_nil]
          have K4 : Hid (∀ w1, Rd w1 R s (p + c) 0 → Calls Tryd.prog 108 #[.pointer (some ⟨R, 0, none⟩), .int .i64 (10 : Nat), .int .i64 (p : Nat)] w1 (RPost R w1 s (.tuple #[]) p 10)) := fun w1 h1 => rfail_any R s _ 0 p 10 w1 h1
          have hz : s.size - (p + c) < x := by omega
          have hz' : s.size - (p + c) ≤ 9223372036854775807 := by omega
          generalize s.size - (p + c) = z at *
          clear h hbig hsh hfe
          go_enter Tryd.func88, Tryd.ntmps88
          go_wp2_with fail
          refine K1.out.mono ?_
          rintro e w1 ⟨rfl, rfl⟩
          go_wp2_with fail
          refine K2.out.mono ?_
          rintro e w1 ⟨rfl, hr1, hf1⟩
          have HR1 := hide hr1
          have HF1 := hide hf1
          clear hr1 hf1
          go_wp2_with fail
          refine (K3.out _ HR1.out).mono ?_
          rintro e w2 ⟨rfl, rfl⟩
          go_wp2_with fail
          refine (K5.out _ HR1.out).mono ?_
          rintro e w2 ⟨rfl, hb2⟩
          have HB2 := hide hb2
          have HR2 := hide (Rd.below HR1.out hb2)
          clear hb2
          go_wp2_with fail
          refine (K4.out _ HR2.out).mono ?_
          rintro e w3 ⟨rfl, hr2, hf2⟩
          have HR3 := hide hr2
          have HF3 := hide hf2
          clear hr2 hf2
          go_wp2_with fail
          go_ret
          exact ⟨rfl, HR3.out, (HF1.out.trans (Fr.of_below HB2.out _) (fun _ _ h => h)).trans HF3.out (fun _ _ h => h)⟩
        · rw [if_neg hsh]
          have K4 : Hid (∀ w1, Rd w1 R s (p + c) 0 → Calls Tryd.prog 109 #[.pointer (some ⟨R, 0, none⟩), .int .i64 (x : Nat)] w1 (RPost R w1 s (.string (s.extract (p + c) (p + c + x))) (p + c + x) 0)) := fun w1 h1 => take_ok R s (p + c) x hs (by omega) w1 h1
          have hx := hide (extract_strN s (p + c) x (by omega))
          have hz : ¬ s.size - (p + c) < x := by omega
          have hz' : s.size - (p + c) ≤ 9223372036854775807 := by omega
          generalize s.size - (p + c) = z at *
          clear h hbig hsh hfe
          go_enter Tryd.func88, Tryd.ntmps88
          go_wp2_with fail
          refine K1.out.mono ?_
          rintro e w1 ⟨rfl, rfl⟩
          go_wp2_with fail
          refine K2.out.mono ?_
          rintro e w1 ⟨rfl, hr1, hf1⟩
          have HR1 := hide hr1
          have HF1 := hide hf1
          clear hr1 hf1
          go_wp2_with fail
          refine (K3.out _ HR1.out).mono ?_
          rintro e w2 ⟨rfl, rfl⟩
          go_wp2_with fail
          refine (K5.out _ HR1.out).mono ?_
          rintro e w2 ⟨rfl, hb2⟩
          have HB2 := hide hb2
          have HR2 := hide (Rd.below HR1.out hb2)
          clear hb2
          go_wp2_with fail
          refine (K4.out _ HR2.out).mono ?_
          rintro e w3 ⟨rfl, hr2, hf2⟩
          have HR3 := hide hr2
          have HF3 := hide hf2
          clear hr2 hf2
          go_wp2_with fail
          go_ret
          refine ⟨?_, by rw [← Nat.add_assoc]; exact HR3.out, (HF1.out.trans (Fr.of_below HB2.out _) (fun _ _ h => h)).trans HF3.out (fun _ _ h => h)⟩
          rw [List.drop_drop, ← hx.out]; rfl
    · rw [if_neg h0, strN_nil]
      have hne : ((er : Int) != 0) = true := by rw [bne_iff_ne]; omega
      have K3 : Hid (∀ w1, Rd w1 R s (p + c) er → Calls Tryd.prog 38 #[.pointer (some ⟨R, 0, none⟩)] w1 fun r w' => r = .returned (.int .i64 (er : Nat)) ∧ w1 = w') := fun w1 h1 => rerr_any R s _ er w1 h1
      have hc0 : c = 0 := by
        rcases hfe with h1 | h1 | h1
        · exact absurd h1 h0
        · injection h1 with _ h1; injection h1
        · injection h1 with _ h1; injection h1
      subst hc0
      clear h hfe
      go_enter Tryd.func88, Tryd.ntmps88
      go_wp2_with fail
      refine K1.out.mono ?_
      rintro e w1 ⟨rfl, rfl⟩
      go_wp2_with fail
      refine K2.out.mono ?_
      rintro e w1 ⟨rfl, hr1, hf1⟩
      have HR1 := hide hr1
      have HF1 := hide hf1
      clear hr1 hf1
      go_wp2_with fail
      refine (K3.out _ HR1.out).mono ?_
      rintro e w2 ⟨rfl, rfl⟩
      go_wp2_with fail
      go_ret
      exact ⟨rfl, HR1.out, HF1.out⟩
  · unfold st at K2
    rw [if_neg he] at K2
    unfold stT
    rw [if_neg he, strN_nil]
    have hne : ((e : Int) != 0) = true := by rw [bne_iff_ne]; omega
    have K3 : Hid (∀ w1, Rd w1 R s p e → Calls Tryd.prog 38 #[.pointer (some ⟨R, 0, none⟩)] w1 fun r w' => r = .returned (.int .i64 (e : Nat)) ∧ w1 = w') := fun w1 h1 => rerr_any R s _ e w1 h1
    clear h
    go_enter Tryd.func88, Tryd.ntmps88
    go_wp2_with fail
    refine K1.out.mono ?_
    rintro e w1 ⟨rfl, rfl⟩
    go_wp2_with fail
    refine K2.out.mono ?_
    rintro e w1 ⟨rfl, hr1, hf1⟩
    have HR1 := hide hr1
    have HF1 := hide hf1
    clear hr1 hf1
    go_wp2_with fail
    refine (K3.out _ HR1.out).mono ?_
    rintro e w2 ⟨rfl, rfl⟩
    go_wp2_with fail
    go_ret
    exact ⟨rfl, HR1.out, HF1.out⟩
end Go.Proofs.YtihbcojmonlcgaaDoor
