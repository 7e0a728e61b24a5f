/- Readers: a number of few bytes. Readers: the rest. Readers: the rest. Readers: texts. -/
import Derived.Test.YtfkgmodgkifelaaGreatDoorJ03
import Derived.Laws.DeepNot64
namespace Go.Proofs.YtfkgmodgkifelaaGreatDoor
open Go.RowKit
/-- So many bytes of a number are read. -/
def Few1 (D : List Nat) (k y : Nat) : Prop := few D 0 = if (few (D.drop k) k).2.2 = 0 then (y + 128 ^ k * (few (D.drop k) k).1, k + (few (D.drop k) k).2.1, 0) else (0, 0, (few (D.drop k) k).2.2)
theorem few1_0 (D : List Nat) : Few1 D 0 0 := by
  unfold Few1
  rw [List.drop_zero]
  rcases few_err D 0 with h | h | h
  · rw [if_pos h]; simp only [Nat.pow_zero, Nat.one_mul, Nat.zero_add]; exact Prod.ext rfl (Prod.ext rfl h)
  · rw [h]; rfl
  · rw [h]; rfl
theorem few1_nil {D : List Nat} {k y : Nat} (h : Few1 D k y) (hd : D.drop k = []) : few D 0 = (0, 0, 10) := by
  unfold Few1 at h; rw [h, hd]; rfl
theorem few1_bad {D : List Nat} {k y b : Nat} {bs : List Nat} (h : Few1 D k y) (hd : D.drop k = b :: bs) (hb : (k = 9 ∧ 1 < b) ∨ (0 < k ∧ b = 0)) : few D 0 = (0, 0, 12) := by
  unfold Few1 at h; rw [h, hd, few_bad hb]; rfl
theorem few1_last {D : List Nat} {k y b : Nat} {bs : List Nat} (h : Few1 D k y) (hd : D.drop k = b :: bs) (hb : ¬ ((k = 9 ∧ 1 < b) ∨ (0 < k ∧ b = 0))) (h128 : b < 128) : few D 0 = (y + 128 ^ k * b, k + 1, 0) := by
  unfold Few1 at h; rw [h, hd, few_last hb h128]; rfl
theorem few1_on {D : List Nat} {k y b : Nat} {bs : List Nat} (h : Few1 D k y) (hd : D.drop k = b :: bs) (hb : ¬ ((k = 9 ∧ 1 < b) ∨ (0 < k ∧ b = 0))) (h128 : ¬ b < 128) : Few1 D (k + 1) (y + 128 ^ k * (b % 128)) := by
  have hd' : D.drop (k + 1) = bs := by rw [← List.drop_drop, hd]; rfl
  unfold Few1 at h ⊢
  rw [h, hd, few_on hb h128, hd']
  by_cases e : (few bs (k + 1)).2.2 = 0
  · rw [if_pos e, if_pos e, if_pos rfl]
    simp only [Nat.pow_succ]
    rw [Nat.mul_add, Nat.mul_assoc]
    refine Prod.ext ?_ (Prod.ext ?_ rfl)
    · show y + (_ + _) = y + _ + _
      omega
    · show k + (_ + 1) = k + 1 + _
      omega
  · rw [if_neg e, if_neg e, if_neg e]
theorem and127 (b : Nat) (hb : b < 256) : bits .and .u8 (b : Int) 127 = ((b % 128 : Nat) : Int) := by
  have := u8_and_nat b 127 hb (by omega)
  rw [show b &&& 127 = b % 128 from Nat.and_two_pow_sub_one_eq_mod b 7] at this
  exact this
theorem or_shift7 (y c k : Nat) (hk : k ≤ 9) (hy : y < 128 ^ k) (hc : c < 128) (h9 : k = 9 → c ≤ 1) : bits .or .u64 (y : Int) (IntKind.u64.wrap ((c : Int) * 2 ^ (7 * k))) = ((y + 128 ^ k * c : Nat) : Int) ∧ y + 128 ^ k * c < 128 ^ (k + 1) ∧ y + 128 ^ k * c < 18446744073709551616 := by
  have e : 128 ^ k = 2 ^ (7 * k) := by rw [Nat.pow_mul]
  have h1 : y + 128 ^ k * c < 128 ^ (k + 1) := by
    have := Nat.mul_le_mul_left (128 ^ k) (show c + 1 ≤ 128 by omega)
    rw [Nat.pow_succ]
    rw [Nat.mul_add] at this
    omega
  have h2 : y + 128 ^ k * c < 18446744073709551616 := by
    by_cases hk9 : k = 9
    · subst hk9
      have hc1 := h9 rfl
      have h3 : (128 : Nat) ^ 9 = 9223372036854775808 := by decide
      rw [h3] at hy ⊢
      omega
    · have h3 : 128 ^ (k + 1) ≤ 128 ^ 9 := Nat.pow_le_pow_right (by omega) (by omega)
      have h4 : (128 : Nat) ^ 9 = 9223372036854775808 := by decide
      omega
  refine ⟨?_, h1, h2⟩
  rw [e] at hy h2 ⊢
  rw [Nat.mul_comm (2 ^ (7 * k)) c] at h2 ⊢
  exact or_shift y c (7 * k) hy (by omega) (by omega)
theorem ru8_nil (R : Nat) (s : ByteArray) (q : Nat) (hs : s.size ≤ maxLen) (hq : q ≤ s.size) (hd : (bn s).drop q = []) (w : World) (h : Rd w R s q 0) :
    Calls Tryz.prog 50 #[.pointer (some ⟨R, 0, none⟩)] w (RPost R w s (.int .u8 0) q 10) := by
  have := ru8_any R s q 0 hs hq w h
  unfold st num at this
  rw [if_pos rfl, hd] at this
  exact this
theorem ru8_cons (R : Nat) (s : ByteArray) (q b : Nat) (bs : List Nat) (hs : s.size ≤ maxLen) (hq : q ≤ s.size) (hd : (bn s).drop q = b :: bs) (w : World) (h : Rd w R s q 0) :
    Calls Tryz.prog 50 #[.pointer (some ⟨R, 0, none⟩)] w (RPost R w s (.int .u8 (b : Nat)) (q + 1) 0) := by
  have := ru8_any R s q 0 hs hq w h
  unfold st num at this
  rw [if_pos rfl, hd] at this
  simpa [le] using this
theorem drop_cons_lt {l : List Nat} {q b : Nat} {bs : List Nat} (h : l.drop q = b :: bs) : q < l.length ∧ b ∈ l := by
  have h1 := congrArg List.length h
  rw [List.length_drop, List.length_cons] at h1
  exact ⟨by omega, List.mem_of_mem_drop (i := q) (by rw [h]; simp)⟩

theorem exu (a : Act) (f : (Nat → Value) → Act) (h : a = f (fun i => a.tmps.getD i undef)) : ∃ u, a = f u := ⟨_, h⟩
/-- What holds at a label of Uvar. -/
def JU (R : Nat) (s : ByteArray) (p : Nat) (w : World) (l : Nat) (a : Act) (w' : World) : Prop :=
  Fr w w' (fun k => k = R) ∧
  ((l = 0 ∧ ∃ k y : Nat, k ≤ 9 ∧ y < 128 ^ k ∧ y < 18446744073709551616 ∧ Few1 ((bn s).drop p) k y ∧ p + k ≤ s.size ∧ Rd w' R s (p + k) 0 ∧
    ∃ u : Nat → Value, a = { tmps := #[.pointer (some ⟨R, 0, none⟩), undef, .int .u64 0, .int .u64 y, .int .i64 (p : Nat), .int .i64 (k : Nat), u 6, u 7, u 8, u 9, u 10, u 11, u 12, u 13, u 14, u 15, u 16, u 17, u 18, u 19, u 20, u 21, u 22, u 23, u 24, u 25, u 26, u 27, u 28, u 29, u 30, u 31, u 32, u 33, u 34, u 35, u 36, u 37, u 38, u 39, u 40, u 41, u 42, u 43, u 44, u 45, u 46, u 47, u 48, u 49, u 50, u 51, u 52, u 53, u 54, u 55, u 56, u 57, u 58, u 59, u 60, u 61, u 62, u 63, u 64, u 65, u 66], defers := [] }) ∨
   (l = 1 ∧ few ((bn s).drop p) 0 = (0, 0, 10) ∧ (∃ q, Rd w' R s q 10) ∧
    ∃ u : Nat → Value, a = { tmps := #[.pointer (some ⟨R, 0, none⟩), undef, .int .u64 0, u 3, .int .i64 (p : Nat), u 5, u 6, u 7, u 8, u 9, u 10, u 11, u 12, u 13, u 14, u 15, u 16, u 17, u 18, u 19, u 20, u 21, u 22, u 23, u 24, u 25, u 26, u 27, u 28, u 29, u 30, u 31, u 32, u 33, u 34, u 35, u 36, u 37, u 38, u 39, u 40, u 41, u 42, u 43, u 44, u 45, u 46, u 47, u 48, u 49, u 50, u 51, u 52, u 53, u 54, u 55, u 56, u 57, u 58, u 59, u 60, u 61, u 62, u 63, u 64, u 65, u 66], defers := [] }) ∨
   (l = 2 ∧ few ((bn s).drop p) 0 = (0, 0, 12) ∧ (∃ q, Rd w' R s q 0) ∧
    ∃ u : Nat → Value, a = { tmps := #[.pointer (some ⟨R, 0, none⟩), undef, .int .u64 0, u 3, .int .i64 (p : Nat), u 5, u 6, u 7, u 8, u 9, u 10, u 11, u 12, u 13, u 14, u 15, u 16, u 17, u 18, u 19, u 20, u 21, u 22, u 23, u 24, u 25, u 26, u 27, u 28, u 29, u 30, u 31, u 32, u 33, u 34, u 35, u 36, u 37, u 38, u 39, u 40, u 41, u 42, u 43, u 44, u 45, u 46, u 47, u 48, u 49, u 50, u 51, u 52, u 53, u 54, u 55, u 56, u 57, u 58, u 59, u 60, u 61, u 62, u 63, u 64, u 65, u 66], defers := [] }))
def muU (l : Nat) (a : Act) (_ : World) : Nat := if l = 0 then 20 - (intOf (a.tmps.getD 5 undef)).toNat else 0
set_option maxHeartbeats 1000000 in
set_option maxRecDepth 100000 in
theorem ruvar_0 (R : Nat) (s : ByteArray) (p : Nat) (hs : s.size ≤ maxLen) (hp : p ≤ s.size) (w : World) (h : Rd w R s p 0) :
    Calls Tryz.prog 47 #[.pointer (some ⟨R, 0, none⟩)] w (RPost R w s (.int .u64 ((st s p 0 (fun D => few D 0)).1 : Nat)) (st s p 0 (fun D => few D 0)).2.1 (st s p 0 (fun D => few D 0)).2.2) := by
  have hc1 := h.c1
  have hc2 : w.cell? ⟨R, 2, none⟩ = some (.int .i64 0) := h.c2
  unfold st
  rw [if_pos rfl]
  have H0 := hide h
  have hf0 := few1_0 ((bn s).drop p)
  have HF0 := hide hf0
  clear h hf0
  go_enter Tryz.func47, Tryz.ntmps47
  go_wp2_with fail
  refine wp_scope_labels2 (JU R s p w) muU ?_ ?_
  · rintro l a w' ⟨hfr, ⟨rfl, k, y, hk, hy, hy64, hfew, hpk, hr, u, rfl⟩ | ⟨rfl, hfew, ⟨q, hr⟩, u, rfl⟩ | ⟨rfl, hfew, ⟨q, hr⟩, u, rfl⟩⟩
    · refine ⟨_, rfl, ?_⟩
      have hdd : (bn s).drop (p + k) = ((bn s).drop p).drop k := by rw [List.drop_drop]
      have HFR := hide hfr
      have HFEW := hide hfew
      clear hfr hfew
      cases hD : (bn s).drop (p + k) with
      | nil =>
        have K := hide (ru8_nil R s (p + k) hs hpk hD w' hr)
        have HF := hide (few1_nil HFEW.out (hdd ▸ hD))
        clear hD hr hdd
        go_wp2_with fail
        refine K.out.mono ?_
        rintro e w1 ⟨rfl, hr1, hf1⟩
        have hc : w1.cell? ⟨R, 2, none⟩ = some (.int .i64 10) := hr1.c2
        have HR1 := hide hr1
        have HF1 := hide hf1
        clear hr1 hf1
        go_wp2_with fail
        go_step3
        exact ⟨⟨HFR.out.trans HF1.out (fun _ _ h => h), .inr (.inl ⟨rfl, HF.out, ⟨_, HR1.out⟩, exu _ _ rfl⟩)⟩, by simp [muU, intOf]; omega⟩
      | cons b bs =>
        obtain ⟨hql, hbm⟩ := drop_cons_lt hD
        rw [bn_len] at hql
        have hb256 := bn_lt s b hbm
        have K := hide (ru8_cons R s (p + k) b bs hs hpk hD w' hr)
        have hDk := hdd ▸ hD
        by_cases hbad : (k = 9 ∧ 1 < b) ∨ (0 < k ∧ b = 0)
        · have HF := hide (few1_bad HFEW.out hDk hbad)
          clear hD hr hdd hDk
          rcases hbad with ⟨rfl, hb1⟩ | ⟨hk0, rfl⟩
          · go_wp2_with fail
            refine K.out.mono ?_
            rintro e w1 ⟨rfl, hr1, hf1⟩
            have hc : w1.cell? ⟨R, 2, none⟩ = some (.int .i64 0) := hr1.c2
            have HR1 := hide hr1
            have HF1 := hide hf1
            clear hr1 hf1
            go_wp2_with fail
            go_step3
            exact ⟨⟨HFR.out.trans HF1.out (fun _ _ h => h), .inr (.inr ⟨rfl, HF.out, ⟨_, HR1.out⟩, exu _ _ rfl⟩)⟩, by simp [muU, intOf]⟩
          · by_cases hk9 : k = 9
            · subst hk9
              go_wp2_with fail
              refine K.out.mono ?_
              rintro e w1 ⟨rfl, hr1, hf1⟩
              have hc : w1.cell? ⟨R, 2, none⟩ = some (.int .i64 0) := hr1.c2
              have HR1 := hide hr1
              have HF1 := hide hf1
              clear hr1 hf1
              go_wp2_with fail
              go_step3
              exact ⟨⟨HFR.out.trans HF1.out (fun _ _ h => h), .inr (.inr ⟨rfl, HF.out, ⟨_, HR1.out⟩, exu _ _ rfl⟩)⟩, by simp [muU, intOf]⟩
            · have hk9' : ((k : Int) == 9) = false := by rw [beq_eq_false_iff_ne]; omega
              go_wp2_with fail
              refine K.out.mono ?_
              rintro e w1 ⟨rfl, hr1, hf1⟩
              have hc : w1.cell? ⟨R, 2, none⟩ = some (.int .i64 0) := hr1.c2
              have HR1 := hide hr1
              have HF1 := hide hf1
              clear hr1 hf1
              go_wp2_with fail
              go_step3
              exact ⟨⟨HFR.out.trans HF1.out (fun _ _ h => h), .inr (.inr ⟨rfl, HF.out, ⟨_, HR1.out⟩, exu _ _ rfl⟩)⟩, by simp [muU, intOf]; omega⟩
        · have h9b : k = 9 → b ≤ 1 := fun h => by omega
          have h0b : 0 < k → 0 < b := fun h => by omega
          have hand := and127 b hb256
          by_cases h128 : b < 128
          · have HF := hide (few1_last HFEW.out hDk hbad h128)
            have hb' : b % 128 = b := by omega
            rw [hb'] at hand
            obtain ⟨hor, _, h64⟩ := or_shift7 y b k hk hy h128 h9b
            obtain ⟨z, HZ⟩ : ∃ z, Hid (z = y + 128 ^ k * b) := ⟨_, rfl⟩
            rw [← HZ.out] at hor h64
            have H64 := hide h64
            clear hD hr hdd hDk h64 hbad hb'
            by_cases hk9 : k = 9
            · subst hk9
              have hb1 := h9b rfl
              have hb0 := h0b (by omega)
              obtain rfl : b = 1 := by omega
              have hor9 : bits .or .u64 (y : Int) 9223372036854775808 = (z : Int) := by
                rw [← hor, IntKind.wrap_u64]
                rfl
              have hand' : bits .and .u8 1 127 = 1 := hand
              clear hor hand
              go_wp2_with fail
              refine K.out.mono ?_
              rintro e w1 ⟨rfl, hr1, hf1⟩
              have hc : w1.cell? ⟨R, 2, none⟩ = some (.int .i64 0) := hr1.c2
              have HR1 := hide hr1
              have HF1 := hide hf1
              clear hr1 hf1
              go_wp2_with fail
              go_ret
              rw [HF.out]
              exact ⟨by rw [HZ.out]; rfl, HR1.out, HFR.out.trans HF1.out (fun _ _ h => h)⟩
            · have hk9' : ((k : Int) == 9) = false := by rw [beq_eq_false_iff_ne]; omega
              go_wp2_with fail
              refine K.out.mono ?_
              rintro e w1 ⟨rfl, hr1, hf1⟩
              have hc : w1.cell? ⟨R, 2, none⟩ = some (.int .i64 0) := hr1.c2
              have HR1 := hide hr1
              have HF1 := hide hf1
              clear hr1 hf1
              go_wp2_with fail
              all_goals
                go_ret
                rw [HF.out]
                exact ⟨by rw [HZ.out]; rfl, HR1.out, HFR.out.trans HF1.out (fun _ _ h => h)⟩
          · have HF := hide (few1_on HFEW.out hDk hbad h128)
            obtain ⟨hor, hlt2, h64⟩ := or_shift7 y (b % 128) k hk hy (by omega) (fun h => by omega)
            have hk9 : k ≠ 9 := fun h => by have := h9b h; omega
            have hk9' : ((k : Int) == 9) = false := by rw [beq_eq_false_iff_ne]; omega
            obtain ⟨z, HZ⟩ : ∃ z, Hid (z = y + 128 ^ k * (b % 128)) := ⟨_, rfl⟩
            rw [← HZ.out] at hor h64 hlt2
            obtain ⟨c, HC⟩ : ∃ c, Hid (c = b % 128) := ⟨_, rfl⟩
            rw [← HC.out] at hor hand
            have hc128 : c < 128 := by rw [HC.out]; omega
            rw [← HZ.out] at HF
            have HLT := hide hlt2
            have H64 := hide h64
            clear hD hr hdd hDk h64 hlt2 hbad
            go_wp2_with fail
            refine K.out.mono ?_
            rintro e w1 ⟨rfl, hr1, hf1⟩
            have hc : w1.cell? ⟨R, 2, none⟩ = some (.int .i64 0) := hr1.c2
            have HR1 := hide hr1
            have HF1 := hide hf1
            clear hr1 hf1
            go_wp2_with fail
            all_goals
              go_step3
              exact ⟨⟨HFR.out.trans HF1.out (fun _ _ h => h), .inl ⟨rfl, k + 1, z, by omega, HLT.out, H64.out, HF.out, by omega, HR1.out, exu _ _ rfl⟩⟩, by simp [muU, intOf]; omega⟩
    · refine ⟨_, rfl, ?_⟩
      have hc := hr.c2
      have K := hide (rfail_any R s q 10 p 10 w' hr)
      have HF := hide hfew
      have HFR := hide hfr
      clear hr hfew hfr
      go_wp2_with fail
      refine K.out.mono ?_
      rintro e w1 ⟨rfl, hr1, hf1⟩
      have HR1 := hide hr1
      have HF1 := hide hf1
      clear hr1 hf1
      go_wp2_with fail
      go_ret
      rw [HF.out]
      exact ⟨rfl, HR1.out, HFR.out.trans HF1.out (fun _ _ h => h)⟩
    · refine ⟨_, rfl, ?_⟩
      have K := hide (rfail_any R s q 0 p 12 w' hr)
      have HF := hide hfew
      have HFR := hide hfr
      clear hr hfew hfr
      go_wp2_with fail
      refine K.out.mono ?_
      rintro e w1 ⟨rfl, hr1, hf1⟩
      have HR1 := hide hr1
      have HF1 := hide hf1
      clear hr1 hf1
      go_wp2_with fail
      go_ret
      rw [HF.out]
      exact ⟨rfl, HR1.out, HFR.out.trans HF1.out (fun _ _ h => h)⟩
  · intro hp0
    go_wp2_with fail
    go_step3
    rename_i hK
    refine hK _ _ ?_
    exact hp0 0 _ _ _ ⟨Fr.refl _ _, .inl ⟨rfl, 0, 0, by omega, by simp, by omega, HF0.out, hp, H0.out, exu _ _ rfl⟩⟩ rfl
end Go.Proofs.YtfkgmodgkifelaaGreatDoor
namespace Go.Proofs.YtfkgmodgkifelaaGreatDoor
open Go.RowKit
set_option maxHeartbeats 1000000 in
set_option maxRecDepth 100000 in
theorem ruvar_e (R : Nat) (s : ByteArray) (p e : Nat) (he : 0 < e) (w : World) (h : Rd w R s p e) :
    Calls Tryz.prog 47 #[.pointer (some ⟨R, 0, none⟩)] w fun r w' => r = .returned (.int .u64 0) ∧ w = w' := by
  have hc2 := h.c2
  have hne : ((e : Int) != 0) = true := by rw [bne_iff_ne]; omega
  clear h
  go_enter Tryz.func47, Tryz.ntmps47
  go_wp2_with fail
  refine wp_scope_straight ?_
  go_wp2_with fail
  rw [Exit.noGoto_ret]
  go_ret
  exact ⟨rfl, rfl⟩
theorem ruvar_any (R : Nat) (s : ByteArray) (p e : Nat) (hs : s.size ≤ maxLen) (hp : p ≤ s.size) (w : World) (h : Rd w R s p e) :
    Calls Tryz.prog 47 #[.pointer (some ⟨R, 0, none⟩)] w (RPost R w s (.int .u64 ((st s p e (fun D => few D 0)).1 : Nat)) (st s p e (fun D => few D 0)).2.1 (st s p e (fun D => few D 0)).2.2) := by
  by_cases he : e = 0
  · subst he; exact ruvar_0 R s p hs hp w h
  · unfold st
    rw [if_neg he]
    refine (ruvar_e R s p e (by omega) w h).mono ?_
    rintro r w' ⟨rfl, rfl⟩
    exact ⟨rfl, h, Fr.refl _ _⟩
end Go.Proofs.YtfkgmodgkifelaaGreatDoor
namespace Go.Proofs.YtfkgmodgkifelaaGreatDoor
open Go.RowKit
theorem xor_m1 (a : Nat) (h : a < 9223372036854775808) : bits .xor .i64 (a : Int) (-1) = -1 - (a : Int) := by
  have h0 : bits .xor .i64 (a : Int) (-1) = bits .xor .i64 (-1) (a : Int) := by
    show IntKind.i64.wrap ((BitVec.ofInt 64 (a : Int) ^^^ BitVec.ofInt 64 (-1)).toNat : Int) = IntKind.i64.wrap ((BitVec.ofInt 64 (-1) ^^^ BitVec.ofInt 64 (a : Int)).toNat : Int)
    rw [BitVec.xor_comm]
  rw [h0, i64_not a h]
theorem xor_z (a : Nat) (h : a < 9223372036854775808) : bits .xor .i64 (a : Int) 0 = (a : Int) := by
  show IntKind.i64.wrap ((BitVec.ofInt 64 (a : Int) ^^^ BitVec.ofInt 64 0).toNat : Int) = _
  have h1 : BitVec.ofInt 64 0 = 0#64 := by decide
  rw [h1, BitVec.xor_zero, ofInt_u64 a (by omega)]
  simp [IntKind.wrap, IntKind.bits, IntKind.signed]
  omega
theorem and_1 (x : Nat) (hx : x < 18446744073709551616) : bits .and .u64 (x : Int) 1 = ((x % 2 : Nat) : Int) := by
  have := u64_and_nat x 1 hx (by omega)
  rw [Nat.and_one_is_mod] at this
  exact this
theorem back_bits (x : Nat) (hx : x < 18446744073709551616) : bits .xor .i64 ((x : Int) / 2) (wrap64 (-wrap64 (bits .and .u64 (x : Int) 1))) = back x := by
  rw [and_1 x hx]
  unfold back
  rcases Nat.mod_two_eq_zero_or_one x with h | h
  · rw [h, if_neg (by omega), show (x : Int) / 2 = ((x / 2 : Nat) : Int) by omega]
    have : wrap64 (-wrap64 ((0 : Nat) : Int)) = 0 := by unfold wrap64; omega
    rw [this]
    exact xor_z (x / 2) (by omega)
  · rw [h, if_pos rfl, show (x : Int) / 2 = ((x / 2 : Nat) : Int) by omega]
    have : wrap64 (-wrap64 ((1 : Nat) : Int)) = -1 := by unfold wrap64; omega
    rw [this]
    exact xor_m1 (x / 2) (by omega)
set_option maxHeartbeats 1000000 in
set_option maxRecDepth 100000 in
theorem rsvar_any (R : Nat) (s : ByteArray) (p e : Nat) (hs : s.size ≤ maxLen) (hp : p ≤ s.size) (w : World) (h : Rd w R s p e) :
    Calls Tryz.prog 158 #[.pointer (some ⟨R, 0, none⟩)] w (RPost R w s (.int .i64 (back (st s p e (fun D => few D 0)).1)) (st s p e (fun D => few D 0)).2.1 (st s p e (fun D => few D 0)).2.2) := by
  have K := hide (ruvar_any R s p e hs hp w h)
  have hx : (st s p e (fun D => few D 0)).1 < 18446744073709551616 := by
    unfold st; split
    · exact few_lt64 _
    · show 0 < _; omega
  generalize st s p e (fun D => few D 0) = T at *
  obtain ⟨x, p', e'⟩ := T
  simp only at *
  go_enter Tryz.func158, Tryz.ntmps158
  go_wp2_with fail
  refine K.out.mono ?_
  rintro e w1 ⟨rfl, hr1, hf1⟩
  have HR1 := hide hr1
  have HF1 := hide hf1
  clear hr1 hf1 h
  have hb := hide (back_bits x hx)
  go_wp2_with fail
  go_ret
  exact ⟨congrArg (fun n => Ending.returned (.int .i64 n)) hb.out, HR1.out, HF1.out⟩
set_option maxHeartbeats 1000000 in
theorem rat_any (R : Nat) (s : ByteArray) (p e : Nat) (w : World) (h : Rd w R s p e) :
    Calls Tryz.prog 108 #[.pointer (some ⟨R, 0, none⟩)] w fun r w' => r = .returned (.int .i64 (p : Nat)) ∧ w = w' := by
  have hc := h.c1
  go_enter Tryz.func108, Tryz.ntmps108
  go_wp2_with fail
  go_ret
  exact ⟨rfl, rfl⟩
set_option maxHeartbeats 1000000 in
theorem rerr_any (R : Nat) (s : ByteArray) (p e : Nat) (w : World) (h : Rd w R s p e) :
    Calls Tryz.prog 48 #[.pointer (some ⟨R, 0, none⟩)] w fun r w' => r = .returned (.int .i64 (e : Nat)) ∧ w = w' := by
  have hc := h.c2
  go_enter Tryz.func48, Tryz.ntmps48
  go_wp2_with fail
  go_ret
  exact ⟨rfl, rfl⟩
set_option maxHeartbeats 1000000 in
theorem rleft_any (R : Nat) (s : ByteArray) (p e : Nat) (hs : s.size ≤ maxLen) (hp : p ≤ s.size) (w : World) (h : Rd w R s p e) :
    Calls Tryz.prog 53 #[.pointer (some ⟨R, 0, none⟩)] w fun r w' => r = .returned (.int .i64 ((s.size - p : Nat) : Int)) ∧ Below w.heap.size w w' := by
  unfold maxLen at hs
  have hc0 := h.c0
  have hc1 := h.c1
  go_enter Tryz.func53, Tryz.ntmps53
  have he : (((s.size - p : Nat)) : Int) = (s.size : Int) - p := by omega
  have HE := hide he
  clear he
  go_wp2_with fail
  go_quiet (fail)
  go_wp2_with fail
  go_ret
  exact ⟨congrArg (fun n => Ending.returned (.int .i64 n)) HE.out.symm, below_drewN (Below.refl _ _) _⟩
set_option maxHeartbeats 1000000 in
theorem rdone_any (R : Nat) (s : ByteArray) (p e : Nat) (hs : s.size ≤ maxLen) (hp : p ≤ s.size) (w : World) (h : Rd w R s p e) :
    Calls Tryz.prog 29 #[.pointer (some ⟨R, 0, none⟩)] w fun r w' => r = .returned (.int .i64 ((if e = 0 then (if p < s.size then 11 else 0) else e : Nat) : Int)) ∧ Below w.heap.size w w' := by
  have hs' := hs
  unfold maxLen at hs
  have K := hide (rerr_any R s p e w h)
  have K2 := hide (rleft_any R s p e hs' hp w h)
  clear h hs'
  by_cases he : e = 0
  · rw [if_pos he]
    subst he
    by_cases hlt : p < s.size
    · rw [if_pos hlt]
      go_enter Tryz.func29, Tryz.ntmps29
      go_wp2_with fail
      refine K.out.mono ?_
      rintro e w1 ⟨rfl, rfl⟩
      go_wp2_with fail
      refine K2.out.mono ?_
      rintro e w1 ⟨rfl, hb1⟩
      go_wp2_with fail
      go_ret
      exact ⟨rfl, hb1⟩
    · rw [if_neg hlt]
      go_enter Tryz.func29, Tryz.ntmps29
      go_wp2_with fail
      refine K.out.mono ?_
      rintro e w1 ⟨rfl, rfl⟩
      go_wp2_with fail
      refine K2.out.mono ?_
      rintro e w1 ⟨rfl, hb1⟩
      go_wp2_with fail
      go_ret
      exact ⟨rfl, hb1⟩
  · rw [if_neg he]
    have hne : ((e : Int) != 0) = true := by rw [bne_iff_ne]; omega
    go_enter Tryz.func29, Tryz.ntmps29
    go_wp2_with fail
    refine K.out.mono ?_
    rintro e w1 ⟨rfl, rfl⟩
    go_wp2_with fail
    go_ret
    exact ⟨rfl, Below.refl _ _⟩
end Go.Proofs.YtfkgmodgkifelaaGreatDoor
namespace Go.Proofs.YtfkgmodgkifelaaGreatDoor
open Go.RowKit
theorem bn_inj {a b : ByteArray} (h : bn a = bn b) : a = b := by
  unfold bn at h
  have h1 : a.data.toList = b.data.toList := by
    have : Function.Injective UInt8.toNat := fun x y e => UInt8.toNat_inj.1 e
    exact (List.map_inj_right (fun x y e => UInt8.toNat_inj.1 e)).1 h
  obtain ⟨⟨x⟩⟩ := a
  obtain ⟨⟨y⟩⟩ := b
  simp at h1
  rw [h1]
theorem strN_bn (s : ByteArray) : strN (bn s) = s := bn_inj (bn_strN _ (bn_lt s))
theorem strN_nil : strN [] = { data := #[] } := strN_bn { data := #[] }
theorem extract_strN (s : ByteArray) (p n : Nat) (h : p + n ≤ s.size) : s.extract p (p + n) = strN (((bn s).drop p).take n) := by
  rw [← strN_bn (s.extract p (p + n)), bn_extract _ _ _ h, Nat.add_sub_cancel_left]
/-- So many bytes as a text. -/
def rawS (n : Int) (D : List Nat) : List Nat × Nat × Nat := if n < 0 then ([], 0, 1) else if (D.length : Int) < n then ([], 0, 10) else (D.take n.toNat, n.toNat, 0)
/-- A text behind its length. -/
def textS (most : Int) (D : List Nat) : List Nat × Nat × Nat :=
  if (few D 0).2.2 = 0 then
    if most < 0 ∨ most < (few D 0).1 then ([], 0, 12)
    else if D.length - (few D 0).2.1 < (few D 0).1 then ([], 0, 10)
    else ((D.drop (few D 0).2.1).take (few D 0).1, (few D 0).2.1 + (few D 0).1, 0)
  else ([], 0, (few D 0).2.2)
def stT (s : ByteArray) (p e : Nat) (f : List Nat → List Nat × Nat × Nat) : List Nat × Nat × Nat :=
  if e = 0 then ((f ((bn s).drop p)).1, p + (f ((bn s).drop p)).2.1, (f ((bn s).drop p)).2.2) else ([], p, e)
set_option maxHeartbeats 1000000 in
set_option maxRecDepth 100000 in
theorem rraw_any (R : Nat) (s : ByteArray) (p e : Nat) (n : Int) (hn63 : n ≤ 9223372036854775807) (hs : s.size ≤ maxLen) (hp : p ≤ s.size) (w : World) (h : Rd w R s p e) :
    Calls Tryz.prog 52 #[.pointer (some ⟨R, 0, none⟩), .int .i64 n] w (RPost R w s (.string (strN (stT s p e (rawS n)).1)) (stT s p e (rawS n)).2.1 (stT s p e (rawS n)).2.2) := by
  unfold stT
  by_cases he : e = 0
  · rw [if_pos he]
    subst he
    unfold rawS
    by_cases hn : n < 0
    · rw [if_pos hn, strN_nil]
      have K := hide (rerr_any R s p 0 w h)
      have K2 := hide (rfail_any R s p 0 p 1 w h)
      have hc := h.c1
      clear h
      go_enter Tryz.func52, Tryz.ntmps52
      go_wp2_with fail
      refine K.out.mono ?_
      rintro e w1 ⟨rfl, rfl⟩
      go_wp2_with fail
      refine K2.out.mono ?_
      rintro e w1 ⟨rfl, hr1, hf1⟩
      have K3 := hide (take_err R s p 1 n (by omega) w1 hr1)
      have HR1 := hide hr1
      have HF1 := hide hf1
      clear hr1 hf1
      go_wp2_with fail
      refine K3.out.mono ?_
      rintro e w2 ⟨rfl, rfl⟩
      go_wp2_with fail
      go_ret
      exact ⟨rfl, HR1.out, HF1.out⟩
    · obtain ⟨m, rfl⟩ : ∃ m : Nat, n = m := ⟨n.toNat, by omega⟩
      rw [if_neg hn, List.length_drop, bn_len, Int.toNat_natCast]
      by_cases hm : ((s.size - p : Nat) : Int) < m
      · rw [if_pos hm, strN_nil]
        have K := hide (take_short R s p m hp hs (by omega) w h)
        clear h
        go_enter Tryz.func52, Tryz.ntmps52
        go_wp2_with fail
        refine K.out.mono ?_
        rintro e w1 ⟨rfl, hr1, hf1⟩
        have HR1 := hide hr1
        have HF1 := hide hf1
        clear hr1 hf1
        go_wp2_with fail
        go_ret
        exact ⟨rfl, HR1.out, HF1.out⟩
      · rw [if_neg hm]
        have K := hide (take_ok R s p m hs (by omega) w h)
        have hx := hide (extract_strN s p m (by omega))
        clear h
        go_enter Tryz.func52, Tryz.ntmps52
        go_wp2_with fail
        refine K.out.mono ?_
        rintro e w1 ⟨rfl, hr1, hf1⟩
        have HR1 := hide hr1
        have HF1 := hide hf1
        clear hr1 hf1
        go_wp2_with fail
        go_ret
        exact ⟨by rw [← hx.out]; rfl, HR1.out, HF1.out⟩
  · rw [if_neg he, strN_nil]
    have K := hide (rerr_any R s p e w h)
    have K3 := hide (take_err R s p e n (by omega) w h)
    have hne : ((e : Int) == 0) = false := by rw [beq_eq_false_iff_ne]; omega
    have H := hide h
    clear h
    by_cases hn : n < 0
    · go_enter Tryz.func52, Tryz.ntmps52
      go_wp2_with fail
      refine K.out.mono ?_
      rintro e w1 ⟨rfl, rfl⟩
      go_wp2_with fail
      refine K3.out.mono ?_
      rintro e w2 ⟨rfl, rfl⟩
      go_wp2_with fail
      go_ret
      exact ⟨rfl, H.out, Fr.refl _ _⟩
    · go_enter Tryz.func52, Tryz.ntmps52
      go_wp2_with fail
      refine K3.out.mono ?_
      rintro e w2 ⟨rfl, rfl⟩
      go_wp2_with fail
      go_ret
      exact ⟨rfl, H.out, Fr.refl _ _⟩
end Go.Proofs.YtfkgmodgkifelaaGreatDoor
