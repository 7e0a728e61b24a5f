/- Frames: Seal, Size, Next. -/
import Derived.Test.YtkeaijocjbldmaaWireL
import Derived.Test.YtkeaijocjbldmaaFrameP
import Derived.Test.YtkeaijocjbldmaaSums
namespace Go.Proofs.Ytkeaijocjbldmaa
open Go.RowKit

set_option maxHeartbeats 1000000 in
set_option maxRecDepth 100000 in
theorem seal_any (k : Nat) (b : ByteArray) (hk : k < 256) (hs : b.size ≤ maxLen) (w : World) :
    Calls Try.prog 33 #[.int .u8 k, .string b] w fun e w' => e = .returned (.string (if k = 0 ∨ 1048576 < b.size then { data := #[] } else strN (sealN k (bn b)))) ∧ Below w.heap.size w w' := by
  unfold maxLen at hs
  by_cases h0 : k = 0
  · subst h0
    rw [if_pos (.inl rfl)]
    go_enter Try.func33, Try.ntmps33
    go_wp2_with fail
    go_ret
    exact ⟨rfl, Below.refl _ _⟩
  have hk0 : ((k : Int) == 0) = false := by rw [beq_eq_false_iff_ne]; omega
  by_cases hbig : 1048576 < b.size
  · rw [if_pos (.inr hbig)]
    go_enter Try.func33, Try.ntmps33
    go_wp2_with fail
    go_ret
    exact ⟨rfl, Below.refl _ _⟩
  rw [if_neg (by omega)]
  have hbl := bn_len b
  have HBN := hide (bn_lt b)
  have hul := uvar_len10 (x := b.size) (by omega)
  obtain ⟨L, HL⟩ : ∃ L, Hid (L = headN k (bn b)) := ⟨_, rfl⟩
  have HLT : Hid (∀ x ∈ L, x < 256) := by rw [HL.out]; exact headN_lt hk HBN.out
  have hll : L.length ≤ 1048600 := by rw [HL.out]; unfold headN; rw [List.length_cons, List.length_append, hbl]; omega
  have HF : Hid (sealN k (bn b) = L ++ fixN (crc L) 4) := by show _ = _; rw [HL.out]; rfl
  have HL1 : Hid ([k] ++ (uvar b.size ++ bn b) = L) := by show _ = _; rw [HL.out]; unfold headN; rw [hbl]; rfl
  have hcl := crc_lt HLT.out
  have KC : Hid (∀ w1, Calls Try.prog 60 #[.string (strN L)] w1 fun e w' => e = .returned (.int .u32 (crc L)) ∧ Below w1.heap.size w1 w') := fun w1 => by
    have := crc_any (strN L) (by rw [strN_size]; unfold maxLen; omega) w1
    rw [bn_strN L HLT.out] at this
    exact this
  rw [HF.out]
  have b0 : Below w.heap.size w (w.alloc (.cells #[.slice none 0 0] 33)) := (Below.refl _ _).alloc (Nat.le_refl _) _
  clear hbl h0
  go_enter Try.func33, Try.ntmps33
  go_wp2_with fail
  refine (wu8_any w.heap.size w.heap.size _ [] k _ (wr_new w) (by simp) (by simp)).mono ?_
  rintro e w1 ⟨rfl, s1, h1, x1⟩
  have b1 := b0.trans (x1.below (wr_new w) (by simp))
  have H1 := hide h1
  clear h1 x1
  go_wp2_with fail
  refine (wtext_any _ _ _ _ b (by omega) _ H1.out (by simp) b1.size).mono ?_
  rintro e w2 ⟨rfl, s2, h2, x2⟩
  have b2 := b1.trans (x2.below H1.out b1.size)
  have H2 := hide h2
  rw [List.nil_append, HL1.out] at H2
  clear h2 x2
  go_wp2_with fail
  refine (wstring_any _ _ _ _ _ H2.out).mono ?_
  rintro e w3 ⟨rfl, rfl⟩
  go_wp2_with fail
  refine (KC.out _).mono ?_
  rintro e w3 ⟨rfl, hb3⟩
  have b3 := b2.trans (hb3.mono b2.size)
  have H3 := hide (H2.out.below hb3)
  go_wp2_with fail
  refine (wu32_any _ _ _ _ (crc L) hcl _ H3.out (by omega) b3.size).mono ?_
  rintro e w4 ⟨rfl, s4, h4, x4⟩
  have b4 := b3.trans (x4.below H3.out b3.size)
  have H4 := hide h4
  clear h4 x4
  go_wp2_with fail
  refine (wstring_any _ _ _ _ _ H4.out).mono ?_
  rintro e w5 ⟨rfl, rfl⟩
  go_wp2_with fail
  go_ret
  exact ⟨rfl, b4⟩
set_option maxHeartbeats 1000000 in
set_option maxRecDepth 100000 in
theorem fsize_any (n : Int) (h1 : -9223372036854775808 ≤ n) (h2 : n ≤ 9223372036854775807) (w : World) :
    Calls Try.prog 35 #[.int .i64 n] w fun e w' => e = .returned (.int .i64 ((if n < 0 ∨ 1048576 < n then 0 else sizeN n.toNat : Nat) : Int)) ∧ Below w.heap.size w w' := by
  by_cases h0 : n < 0
  · rw [if_pos (.inl h0)]
    go_enter Try.func35, Try.ntmps35
    go_wp2_with fail
    go_ret
    exact ⟨rfl, Below.refl _ _⟩
  by_cases hbig : 1048576 < n
  · rw [if_pos (.inr hbig)]
    go_enter Try.func35, Try.ntmps35
    go_wp2_with fail
    go_ret
    exact ⟨rfl, Below.refl _ _⟩
  obtain ⟨m, rfl⟩ : ∃ m : Nat, n = m := ⟨n.toNat, by omega⟩
  rw [if_neg (by omega), Int.toNat_natCast]
  have hul := uvar_len10 (x := m) (by omega)
  have b0 : Below w.heap.size w (w.alloc (.cells #[.slice none 0 0] 33)) := (Below.refl _ _).alloc (Nat.le_refl _) _
  have HS : Hid (((sizeN m : Nat) : Int) = 1 + ((uvar m).length : Int) + m + 4) := by show _ = _; unfold sizeN; omega
  rw [HS.out]
  go_enter Try.func35, Try.ntmps35
  go_wp2_with fail
  refine (wuvar_any w.heap.size w.heap.size _ [] m (by omega) _ (wr_new w) (by simp) (by simp)).mono ?_
  rintro e w1 ⟨rfl, s1, hw1, x1⟩
  have b1 := b0.trans (x1.below (wr_new w) (by simp))
  have H1 := hide hw1
  rw [List.nil_append] at H1
  clear hw1 x1
  go_wp2_with fail
  refine (wlen_any _ _ _ _ _ H1.out).mono ?_
  rintro e w2 ⟨rfl, rfl⟩
  go_wp2_with fail
  go_ret
  exact ⟨rfl, b1⟩
/-- Four results, of which the last is the error. -/
def N4 (t : Nat × List Nat × Nat × Nat) : Value := .tuple #[.int .u8 (t.1 : Nat), .string (strN t.2.1), .int .i64 (t.2.2.1 : Nat), .int .i64 (t.2.2.2 : Nat)]
set_option maxHeartbeats 2000000 in
set_option maxRecDepth 100000 in
theorem fnext_any (s : ByteArray) (hs : s.size ≤ maxLen) (w : World) :
    Calls Try.prog 36 #[.string s] w fun e w' => e = .returned (.tuple #[.int .u8 ((nextN (bn s)).1 : Nat), .string (strN (nextN (bn s)).2.1), .int .i64 ((nextN (bn s)).2.2.1 : Nat), .int .i64 ((nextN (bn s)).2.2.2 : Nat)]) ∧ Below w.heap.size w w' := by
  have hs' := hs
  unfold maxLen at hs
  have hbl := bn_len s
  cases hD : bn s with
  | nil =>
    rw [nextN_nil, strN_nil]
    have K1 : Hid (∀ R w1, Rd w1 R s 0 0 → Calls Try.prog 41 #[.pointer (some ⟨R, 0, none⟩)] w1 (RPost R w1 s (.int .u8 0) 0 10)) := fun R w1 h1 => ru8_nil R s 0 hs' (by omega) (by rw [List.drop_zero]; exact hD) w1 h1
    clear hD hbl
    go_enter Try.func36, Try.ntmps36
    go_wp2_with fail
    refine (newr_any _ _).mono ?_
    rintro e w1 ⟨R, rfl, hR, hr1, hb1⟩
    have HR1 := hide hr1
    clear hr1
    go_wp2_with fail
    refine (K1.out R _ HR1.out).mono ?_
    rintro e w2 ⟨rfl, hr2, hf2⟩
    have b2 := hb1.trans (hf2.belowR hb1.size hR)
    have HR2 := hide hr2
    clear hr2 hf2
    go_wp2_with fail
    refine (rerr_any _ _ _ _ _ HR2.out).mono ?_
    rintro e w3 ⟨rfl, rfl⟩
    go_wp2_with fail
    refine (rerr_any _ _ _ _ _ HR2.out).mono ?_
    rintro e w3 ⟨rfl, rfl⟩
    go_wp2_with fail
    refine bodyPost_ret (res4 rfl _ _ _) rfl ?_
    exact ⟨rfl, b2⟩
  | cons k D =>
    have hlt := bn_lt s
    rw [hD] at hlt hbl
    have hk := hlt k (by simp)
    rw [List.length_cons] at hbl
    rw [nextN_cons]
    have K1 : Hid (∀ R w1, Rd w1 R s 0 0 → Calls Try.prog 41 #[.pointer (some ⟨R, 0, none⟩)] w1 (RPost R w1 s (.int .u8 (k : Nat)) 1 0)) := fun R w1 h1 => ru8_cons R s 0 k D hs' (by omega) (by rw [List.drop_zero]; exact hD) w1 h1
    unfold nextC
    by_cases hk0 : k = 0
    · subst hk0
      rw [if_pos rfl, strN_nil]
      clear hD hlt hbl
      go_enter Try.func36, Try.ntmps36
      go_wp2_with fail
      refine (newr_any _ _).mono ?_
      rintro e w1 ⟨R, rfl, hR, hr1, hb1⟩
      have HR1 := hide hr1
      clear hr1
      go_wp2_with fail
      refine (K1.out R _ HR1.out).mono ?_
      rintro e w2 ⟨rfl, hr2, hf2⟩
      have b2 := hb1.trans (hf2.belowR hb1.size hR)
      have HR2 := hide hr2
      clear hr2 hf2
      go_wp2_with fail
      refine (rerr_any _ _ _ _ _ HR2.out).mono ?_
      rintro e w3 ⟨rfl, rfl⟩
      go_wp2_with fail
      refine bodyPost_ret (res4 rfl _ _ _) rfl ?_
      exact ⟨rfl, b2⟩
    rw [if_neg hk0]
    have hkb : ((k : Int) == 0) = false := by rw [beq_eq_false_iff_ne]; omega
    have K2 : Hid (∀ R w1, Rd w1 R s 1 0 → Calls Try.prog 54 #[.pointer (some ⟨R, 0, none⟩), .int .i64 1048576] w1 (RPost R w1 s (.string (strN (textS 1048576 D).1)) (1 + (textS 1048576 D).2.1) (textS 1048576 D).2.2)) := fun R w1 h1 => by
      have := rtext_any R s 1 0 1048576 (by omega) (by omega) hs' (by omega) w1 h1
      unfold stT at this
      rw [if_pos rfl, hD] at this
      exact this
    have hpos := textS_pos (m := 1048576) (D := D)
    have hbad := textS_bad (m := 1048576) (D := D)
    have herr := textS_err 1048576 D
    have HD := hide hD
    have HLT := hide hlt
    clear hD hlt
    by_cases he : (textS 1048576 D).2.2 = 0
    · rw [if_pos he]
      have hp := hpos he
      rw [he] at K2
      generalize textS 1048576 D = T at *
      obtain ⟨t, n, er⟩ := T
      simp only at he hp K2 ⊢
      subst he
      clear hpos hbad herr
      have HDR : Hid ((bn s).drop (1 + n) = D.drop n) := by show _ = _; rw [HD.out, Nat.add_comm]; rfl
      by_cases hsh : D.length < n + 4
      · rw [if_pos hsh, strN_nil]
        have K3 : Hid (∀ R w1, Rd w1 R s (1 + n) 0 → Calls Try.prog 52 #[.pointer (some ⟨R, 0, none⟩)] w1 (RPost R w1 s (.int .u32 0) (1 + n) 10)) := fun R w1 h1 => by
          have := ru32_any R s (1 + n) 0 hs' (by omega) w1 h1
          unfold st num at this
          rw [if_pos rfl, HDR.out, List.length_drop, if_pos (by omega)] at this
          exact this
        clear hbl
        go_enter Try.func36, Try.ntmps36
        go_wp2_with fail
        refine (newr_any _ _).mono ?_
        rintro e w1 ⟨R, rfl, hR, hr1, hb1⟩
        have HR1 := hide hr1
        clear hr1
        go_wp2_with fail
        refine (K1.out R _ HR1.out).mono ?_
        rintro e w2 ⟨rfl, hr2, hf2⟩
        have b2 := hb1.trans (hf2.belowR hb1.size hR)
        have HR2 := hide hr2
        clear hr2 hf2
        go_wp2_with fail
        refine (rerr_any _ _ _ _ _ HR2.out).mono ?_
        rintro e w3 ⟨rfl, rfl⟩
        go_wp2_with fail
        refine (K2.out R _ HR2.out).mono ?_
        rintro e w3 ⟨rfl, hr3, hf3⟩
        have b3 := b2.trans (hf3.belowR b2.size hR)
        have HR3 := hide hr3
        clear hr3 hf3
        go_wp2_with fail
        refine (rat_any _ _ _ _ _ HR3.out).mono ?_
        rintro e w4 ⟨rfl, rfl⟩
        go_wp2_with fail
        refine (K3.out R _ HR3.out).mono ?_
        rintro e w4 ⟨rfl, hr4, hf4⟩
        have b4 := b3.trans (hf4.belowR b3.size hR)
        have HR4 := hide hr4
        clear hr4 hf4
        go_wp2_with fail
        refine (rerr_any _ _ _ _ _ HR4.out).mono ?_
        rintro e w5 ⟨rfl, rfl⟩
        go_wp2_with fail
        refine (rerr_any _ _ _ _ _ HR4.out).mono ?_
        rintro e w5 ⟨rfl, rfl⟩
        go_wp2_with fail
        refine bodyPost_ret (res4 rfl _ _ _) rfl ?_
        exact ⟨rfl, b4⟩
      rw [if_neg hsh]
      have K3 : Hid (∀ R w1, Rd w1 R s (1 + n) 0 → Calls Try.prog 52 #[.pointer (some ⟨R, 0, none⟩)] w1 (RPost R w1 s (.int .u32 (le ((D.drop n).take 4) : Nat)) (1 + n + 4) 0)) := fun R w1 h1 => by
        have := ru32_any R s (1 + n) 0 hs' (by omega) w1 h1
        unfold st num at this
        rw [if_pos rfl, HDR.out, List.length_drop, if_neg (by omega)] at this
        exact this
      have HX : Hid (s.extract 0 (1 + n) = strN ((k :: D).take (1 + n))) := by
        show _ = _
        have := extract_strN s 0 (1 + n) (by omega)
        rw [Nat.zero_add, List.drop_zero, HD.out] at this
        exact this
      have KC : Hid (∀ w1, Calls Try.prog 60 #[.string (s.extract 0 (1 + n))] w1 fun e w' => e = .returned (.int .u32 (crc ((k :: D).take (1 + n)))) ∧ Below w1.heap.size w1 w') := fun w1 => by
        have := crc_any (s.extract 0 (1 + n)) (by rw [ByteArray.size_extract]; unfold maxLen; omega) w1
        rw [HX.out, bn_strN _ (fun b hb => HLT.out b (List.mem_of_mem_take hb))] at this
        rw [HX.out]
        exact this
      generalize le ((D.drop n).take 4) = sm at *
      generalize crc ((k :: D).take (1 + n)) = cr at *
      have hni : (1 : Int) + (n : Int) ≤ (s.size : Int) := by omega
      by_cases hsum : sm = cr
      · rw [if_pos hsum]
        subst hsum
        clear hbl
        go_enter Try.func36, Try.ntmps36
        go_wp2_with fail
        refine (newr_any _ _).mono ?_
        rintro e w1 ⟨R, rfl, hR, hr1, hb1⟩
        have HR1 := hide hr1
        clear hr1
        go_wp2_with fail
        refine (K1.out R _ HR1.out).mono ?_
        rintro e w2 ⟨rfl, hr2, hf2⟩
        have b2 := hb1.trans (hf2.belowR hb1.size hR)
        have HR2 := hide hr2
        clear hr2 hf2
        go_wp2_with fail
        refine (rerr_any _ _ _ _ _ HR2.out).mono ?_
        rintro e w3 ⟨rfl, rfl⟩
        go_wp2_with fail
        refine (K2.out R _ HR2.out).mono ?_
        rintro e w3 ⟨rfl, hr3, hf3⟩
        have b3 := b2.trans (hf3.belowR b2.size hR)
        have HR3 := hide hr3
        clear hr3 hf3
        go_wp2_with fail
        refine (rat_any _ _ _ _ _ HR3.out).mono ?_
        rintro e w4 ⟨rfl, rfl⟩
        go_wp2_with fail
        refine (K3.out R _ HR3.out).mono ?_
        rintro e w4 ⟨rfl, hr4, hf4⟩
        have b4 := b3.trans (hf4.belowR b3.size hR)
        have HR4 := hide hr4
        clear hr4 hf4
        go_wp2_with fail
        refine (rerr_any _ _ _ _ _ HR4.out).mono ?_
        rintro e w5 ⟨rfl, rfl⟩
        go_wp2_with fail
        refine (KC.out _).mono ?_
        rintro e w5 ⟨rfl, hb5⟩
        have b5 := b4.trans (hb5.mono b4.size)
        have HR5 := hide (HR4.out.below hb5)
        go_wp2_with fail
        refine (rat_any _ _ _ _ _ HR5.out).mono ?_
        rintro e w6 ⟨rfl, rfl⟩
        go_wp2_with fail
        refine bodyPost_ret (res4 rfl _ _ _) rfl ?_
        exact ⟨rfl, b5⟩
      · rw [if_neg hsum, strN_nil]
        have hne : ((sm : Int) != (cr : Int)) = true := by rw [bne_iff_ne]; omega
        clear hbl
        go_enter Try.func36, Try.ntmps36
        go_wp2_with fail
        refine (newr_any _ _).mono ?_
        rintro e w1 ⟨R, rfl, hR, hr1, hb1⟩
        have HR1 := hide hr1
        clear hr1
        go_wp2_with fail
        refine (K1.out R _ HR1.out).mono ?_
        rintro e w2 ⟨rfl, hr2, hf2⟩
        have b2 := hb1.trans (hf2.belowR hb1.size hR)
        have HR2 := hide hr2
        clear hr2 hf2
        go_wp2_with fail
        refine (rerr_any _ _ _ _ _ HR2.out).mono ?_
        rintro e w3 ⟨rfl, rfl⟩
        go_wp2_with fail
        refine (K2.out R _ HR2.out).mono ?_
        rintro e w3 ⟨rfl, hr3, hf3⟩
        have b3 := b2.trans (hf3.belowR b2.size hR)
        have HR3 := hide hr3
        clear hr3 hf3
        go_wp2_with fail
        refine (rat_any _ _ _ _ _ HR3.out).mono ?_
        rintro e w4 ⟨rfl, rfl⟩
        go_wp2_with fail
        refine (K3.out R _ HR3.out).mono ?_
        rintro e w4 ⟨rfl, hr4, hf4⟩
        have b4 := b3.trans (hf4.belowR b3.size hR)
        have HR4 := hide hr4
        clear hr4 hf4
        go_wp2_with fail
        refine (rerr_any _ _ _ _ _ HR4.out).mono ?_
        rintro e w5 ⟨rfl, rfl⟩
        go_wp2_with fail
        refine (KC.out _).mono ?_
        rintro e w5 ⟨rfl, hb5⟩
        have b5 := b4.trans (hb5.mono b4.size)
        go_wp2_with fail
        refine bodyPost_ret (res4 rfl _ _ _) rfl ?_
        exact ⟨rfl, b5⟩
    · rw [if_neg he, strN_nil]
      have hb0 := hbad he
      generalize textS 1048576 D = T at *
      obtain ⟨t, n, er⟩ := T
      simp only at he hb0 herr K2 ⊢
      obtain ⟨rfl, rfl⟩ := hb0
      have hne : ((er : Int) != 0) = true := by rw [bne_iff_ne]; omega
      have her : er < 256 := by omega
      have K3 : Hid (∀ R w1, Rd w1 R s 1 er → Calls Try.prog 52 #[.pointer (some ⟨R, 0, none⟩)] w1 (RPost R w1 s (.int .u32 0) 1 er)) := fun R w1 h1 => by
        have := ru32_any R s 1 er hs' (by omega) w1 h1
        unfold st at this
        rw [if_neg he] at this
        exact this
      clear hbl hpos hbad herr he
      go_enter Try.func36, Try.ntmps36
      go_wp2_with fail
      refine (newr_any _ _).mono ?_
      rintro e w1 ⟨R, rfl, hR, hr1, hb1⟩
      have HR1 := hide hr1
      clear hr1
      go_wp2_with fail
      refine (K1.out R _ HR1.out).mono ?_
      rintro e w2 ⟨rfl, hr2, hf2⟩
      have b2 := hb1.trans (hf2.belowR hb1.size hR)
      have HR2 := hide hr2
      clear hr2 hf2
      go_wp2_with fail
      refine (rerr_any _ _ _ _ _ HR2.out).mono ?_
      rintro e w3 ⟨rfl, rfl⟩
      go_wp2_with fail
      refine (K2.out R _ HR2.out).mono ?_
      rintro e w3 ⟨rfl, hr3, hf3⟩
      have b3 := b2.trans (hf3.belowR b2.size hR)
      have HR3 := hide hr3
      clear hr3 hf3
      go_wp2_with fail
      refine (rat_any _ _ _ _ _ HR3.out).mono ?_
      rintro e w4 ⟨rfl, rfl⟩
      go_wp2_with fail
      refine (K3.out R _ HR3.out).mono ?_
      rintro e w4 ⟨rfl, hr4, hf4⟩
      have b4 := b3.trans (hf4.belowR b3.size hR)
      have HR4 := hide hr4
      clear hr4 hf4
      go_wp2_with fail
      refine (rerr_any _ _ _ _ _ HR4.out).mono ?_
      rintro e w5 ⟨rfl, rfl⟩
      go_wp2_with fail
      refine (rerr_any _ _ _ _ _ HR4.out).mono ?_
      rintro e w5 ⟨rfl, rfl⟩
      go_wp2_with fail
      refine bodyPost_ret (res4 rfl _ _ _) rfl ?_
      exact ⟨rfl, b4⟩
end Go.Proofs.Ytkeaijocjbldmaa
