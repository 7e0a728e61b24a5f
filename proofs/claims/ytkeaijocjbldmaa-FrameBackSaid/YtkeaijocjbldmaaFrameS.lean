/- Frames as the document has them: Seal, Next. -/
import Derived.Test.YtkeaijocjbldmaaFrameW
import Derived.IntWalk
namespace Go.Proofs.Ytkeaijocjbldmaa
open Go.RowKit

theorem le_alloc_drew (w : World) (o : Obj) : w.heap.size ≤ (w.alloc o).drew.heap.size := by
  show w.heap.size ≤ (w.alloc o).heap.size
  simp
theorem str_ne {a b : ByteArray} (h : a ≠ b) : (a.toList == b.toList) = false ∧ (a.toList != b.toList) = true := by
  have h1 : a.toList ≠ b.toList := by
    rw [ByteArray.toList_eq, ByteArray.toList_eq]
    exact fun e => h (Go.WideShapes.bytes_inj e)
  exact ⟨by rw [beq_eq_false_iff_ne]; exact h1, by rw [bne_iff_ne]; exact h1⟩
theorem str_some {a : ByteArray} (h : 0 < a.size) : a.toList.isEmpty = false := by
  rw [ByteArray.toList_eq]
  cases hl : a.data.toList with
  | nil =>
    have : a.size = 0 := by
      show a.data.size = 0
      rw [← Array.length_toList, hl]; rfl
    omega
  | cons x xs => rfl
set_option maxHeartbeats 2000000 in
set_option maxRecDepth 100000 in
theorem refseal_any (k : Nat) (b : ByteArray) (hk : k < 256) (hs : b.size ≤ maxLen) (w : World) :
    Calls Try.prog 34 #[.int .u8 k, .string b] w fun e w' => e = .returned (.string (if k = 0 ∨ 1048576 < b.size then { data := #[] } else strN (sealN k (bn b)))) ∧ Below w.heap.size w w' := by
  unfold maxLen at hs
  by_cases h0 : k = 0
  · subst h0
    rw [if_pos (.inl rfl)]
    go_enter Try.func34, Try.ntmps34
    go_wp2_with fail
    go_ret
    exact ⟨rfl, Below.refl _ _⟩
  have hk0 : ((k : Int) == 0) = false := by rw [beq_eq_false_iff_ne]; omega
  by_cases hbig : 1048576 < b.size
  · rw [if_pos (.inr hbig)]
    go_enter Try.func34, Try.ntmps34
    go_wp2_with fail
    go_ret
    exact ⟨rfl, Below.refl _ _⟩
  rw [if_neg (by omega)]
  have hbl := bn_len b
  have HBN := hide (bn_lt b)
  have hul := uvar_len10 (x := b.size) (by omega)
  obtain ⟨L, HL⟩ : ∃ L, Hid (L = headN k (bn b)) := ⟨_, rfl⟩
  have HLT : Hid (∀ x ∈ L, x < 256) := by rw [HL.out]; exact headN_lt hk HBN.out
  have hll : L.length ≤ 1048600 := by rw [HL.out]; unfold headN; rw [List.length_cons, List.length_append, hbl]; omega
  have HF : Hid (sealN k (bn b) = L ++ fixN (crc L) 4) := by show _ = _; rw [HL.out]; rfl
  have hcat : strN [k] ++ strN (uvar b.size) ++ b = strN L := by
    rw [HL.out]
    unfold headN
    rw [← strN_bn b, ← strN_append, ← strN_append, strN_bn, hbl]
    rfl
  have hcl := crc_lt HLT.out
  have KC : Hid (∀ w1, Calls Try.prog 61 #[.string (strN L)] w1 fun e w' => e = .returned (.int .u32 (crc L)) ∧ w1 = w') := fun w1 => by
    have := refcrc_any (strN L) (by rw [strN_size]; unfold maxLen; omega) w1
    rw [bn_strN L HLT.out] at this
    exact this
  have KU : Hid (∀ w1, Calls Try.prog 50 #[.int .u64 (b.size : Nat)] w1 fun e w' => e = .returned (.string (strN (uvar b.size))) ∧ Below w1.heap.size w1 w') := fun w1 => suvar_any b.size (by omega) w1
  have KX : Hid (∀ w1, Calls Try.prog 49 #[.int .u64 (crc L : Nat), .int .i64 (4 : Nat)] w1 fun e w' => e = .returned (.string (strN (fixN (crc L) 4))) ∧ Below w1.heap.size w1 w') := fun w1 => sfixed_any (crc L) 4 (by omega) (by omega) w1
  have HFS : Hid (strN L ++ strN (fixN (crc L) 4) = strN (sealN k (bn b))) := by show _ = _; rw [HF.out, strN_append]
  have hcv : ∀ (w' : World) (g : Nat), w'.cell? ⟨g, 0, none⟩ = some (.int .u8 k) → (convert 31 9 (.slice (some ⟨g, 0, none⟩) 1 1)).run Try.prog w' = .ok (.string (strN [k])) w' := fun w' g h => by
    have := run_convert_bytes_arg w' 31 5 Try.underlying31 Try.underlying5 g 0 1 1 [(k : Int)] rfl (fun i hi => by
      have : i = 0 := by omega
      subst this
      simpa using h) 9 Try.underlying9
    rw [this]; unfold strN; rfl
  have hadd1 := fun w1 => run_string_add_sum (P := Try.prog) w1 (strN [k]) (strN (uvar b.size)) (by rw [strN_size, strN_size]; simp; omega)
  have hadd2 := fun w1 => run_string_add_sum (P := Try.prog) w1 (strN [k] ++ strN (uvar b.size)) b (by rw [ByteArray.size_append, strN_size, strN_size]; simp; omega)
  have hadd3 := fun w1 => run_string_add_sum (P := Try.prog) w1 (strN L) (strN (fixN (crc L) 4)) (by rw [strN_size, strN_size, fixN_len]; omega)
  have hsz : IntKind.u64.wrap (b.size : Int) = (b.size : Int) := by rw [IntKind.wrap_u64]; omega
  clear hbl h0
  go_enter Try.func34, Try.ntmps34
  go_wp2_with fail
  go_region_with (first | (go_at_call 50; refine (KU.out _).mono ?_; rintro e w2 ⟨rfl, hb2⟩; have hck := fun h => (hb2.cell (p := ⟨w.heap.size, 0, none⟩) h)))
  all_goals
    have hbw : Below w.heap.size w w2 := by
      first
        | exact (((Below.refl _ _).alloc (Nat.le_refl _) _).drew).trans (hb2.mono (le_alloc_drew _ _))
        | exact (Below.refl _ _).drew.trans (hb2.mono (Nat.le_refl _))
    clear hck hb2 hcv hadd1 hadd2 hsz hcat
    go_wp2_with fail
    refine (KC.out _).mono ?_
    rintro e w3 ⟨rfl, rfl⟩
    go_wp2_with fail
    refine (KX.out _).mono ?_
    rintro e w4 ⟨rfl, hb4⟩
    go_wp2_with fail
    go_ret
    exact ⟨by rw [← HFS.out]; rfl, by
      first
        | exact hbw.trans (hb4.mono hbw.size)
        | exact (hbw.alloc hbw.size _).trans (hb4.mono (by simpa using Nat.le_succ_of_le hbw.size))⟩
set_option maxHeartbeats 2000000 in
set_option maxRecDepth 100000 in
theorem refnext_any (s : ByteArray) (hs : s.size ≤ 1000000000) (w : World) :
    Calls Try.prog 37 #[.string s] w fun e w' => e = .returned (.tuple #[.int .u8 ((nextN (bn s)).1 : Nat), .string (strN (nextN (bn s)).2.1), .int .i64 ((nextN (bn s)).2.2.1 : Nat), .int .i64 ((nextN (bn s)).2.2.2 : Nat)]) ∧ Below w.heap.size w w' := by
  have hbl := bn_len s
  cases hD : bn s with
  | nil =>
    rw [nextN_nil, strN_nil]
    have hse : s = { data := #[] } := by rw [← strN_bn s, hD, strN_nil]
    subst hse
    clear hD hbl
    go_enter Try.func37, Try.ntmps37
    go_wp2_with fail
    refine bodyPost_ret (res4 rfl _ _ _) rfl ?_
    exact ⟨rfl, Below.refl _ _⟩
  | cons k D =>
    have hlt := bn_lt s
    rw [hD] at hlt hbl
    have hk := hlt k (by simp)
    rw [List.length_cons] at hbl
    rw [nextN_cons]
    have hs0 : 0 < s.size := by omega
    have hsk : s[0].toNat = k := by
      have := bn_cons s 0 hs0
      rw [List.drop_zero, hD] at this
      injection this with h1 _
      exact h1.symm
    have hse := str_some hs0
    unfold nextC
    by_cases hk0 : k = 0
    · subst hk0
      rw [if_pos rfl, strN_nil]
      clear hD hlt hbl
      go_enter Try.func37, Try.ntmps37
      go_wp2_with fail
      refine bodyPost_ret (res4 rfl _ _ _) rfl ?_
      exact ⟨rfl, Below.refl _ _⟩
    rw [if_neg hk0]
    have hkb : ((k : Int) == 0) = false := by rw [beq_eq_false_iff_ne]; omega
    have HR1 : Hid (bn (s.extract 1 s.size) = D) := by show _ = _; rw [bn_drop, hD]; rfl
    have K2 : Hid (∀ w1, Calls Try.prog 59 #[.string (s.extract 1 s.size), .int .i64 1048576] w1 fun e w' => e = .returned (.tuple #[.string (strN (textS 1048576 D).1), .int .i64 ((textS 1048576 D).2.1 : Nat), .int .i64 ((textS 1048576 D).2.2 : Nat)]) ∧ w1 = w') := fun w1 => by
      have := stext_any (s.extract 1 s.size) 1048576 (by omega) (by omega) (by rw [ByteArray.size_extract]; unfold maxLen; omega) w1
      rw [HR1.out] at this
      exact this
    have hpos := textS_pos (m := 1048576) (D := D)
    have hbad := textS_bad (m := 1048576) (D := D)
    have herr := textS_err 1048576 D
    have HD := hide hD
    have HLT := hide hlt
    clear hD hlt
    by_cases he : (textS 1048576 D).2.2 = 0
    · rw [if_pos he]
      have hp := hpos he
      generalize textS 1048576 D = T at *
      obtain ⟨t, n, er⟩ := T
      simp only at he hp K2 ⊢
      subst he
      clear hpos hbad herr
      obtain ⟨hp0, hpn⟩ := hp
      have hn5 : n ≤ 1000000000 := by omega
      by_cases hsh : D.length < n + 4
      · rw [if_pos hsh, strN_nil]
        have hsz : s.size < 1 + n + 4 := by omega
        clear hbl
        go_enter Try.func37, Try.ntmps37
        go_wp2_with fail
        refine (K2.out _).mono ?_
        rintro e w1 ⟨rfl, rfl⟩
        go_wp2_with fail
        refine bodyPost_ret (res4 rfl _ _ _) rfl ?_
        exact ⟨rfl, Below.refl _ _⟩
      rw [if_neg hsh]
      have hnz : 1 + n + 4 ≤ s.size := by omega
      have HX : Hid (s.extract 0 (1 + n) = strN ((k :: D).take (1 + n))) := by
        show _ = _
        have := extract_strN s 0 (1 + n) (by omega)
        rw [Nat.zero_add, List.drop_zero, HD.out] at this
        exact this
      have KC : Hid (∀ w1, Calls Try.prog 61 #[.string (s.extract 0 (1 + n))] w1 fun e w' => e = .returned (.int .u32 (crc ((k :: D).take (1 + n)))) ∧ w1 = w') := fun w1 => by
        have := refcrc_any (s.extract 0 (1 + n)) (by rw [ByteArray.size_extract]; unfold maxLen; omega) w1
        rw [HX.out, bn_strN _ (fun b hb => HLT.out b (List.mem_of_mem_take hb))] at this
        rw [HX.out]
        exact this
      have hcl : crc ((k :: D).take (1 + n)) < 4294967296 := crc_lt (fun b hb => HLT.out b (List.mem_of_mem_take hb))
      have HY : Hid (s.extract (1 + n) (1 + n + 4) = strN ((D.drop n).take 4)) := by
        show _ = _
        have := extract_strN s (1 + n) 4 (by omega)
        rw [HD.out, Nat.add_comm 1 n, List.drop_succ_cons, Nat.add_comm n 1] at this
        exact this
      have ht4 : ((D.drop n).take 4).length = 4 := by rw [List.length_take, List.length_drop]; omega
      have htl : ∀ b ∈ (D.drop n).take 4, b < 256 := fun b hb => HLT.out b (by simp [List.mem_of_mem_drop (List.mem_of_mem_take hb)])
      have hiff := fix_eq_iff hcl ht4 htl
      generalize (D.drop n).take 4 = tl at *
      generalize crc ((k :: D).take (1 + n)) = cr at *
      have KX : Hid (∀ w1, Calls Try.prog 49 #[.int .u64 (cr : Nat), .int .i64 (4 : Nat)] w1 fun e w' => e = .returned (.string (strN (fixN cr 4))) ∧ Below w1.heap.size w1 w') := fun w1 => sfixed_any cr 4 (by omega) (by omega) w1
      have hni : (1 : Int) + (n : Int) ≤ (s.size : Int) := by omega
      have hni0 : (0 : Int) ≤ (1 : Int) + (n : Int) := by omega
      have hnj : (1 : Int) + (n : Int) + 4 ≤ (s.size : Int) := by omega
      have hnj0 : (1 : Int) + (n : Int) ≤ (1 : Int) + (n : Int) + 4 := by omega
      have HW1 := hide (show IntKind.i64.wrap (1 + (n : Int)) = 1 + (n : Int) from IntWalk.i64_in _ (by omega))
      have HW2 := hide (show IntKind.i64.wrap (1 + (n : Int) + 4) = 1 + (n : Int) + 4 from IntWalk.i64_in _ (by omega))
      have HT1 := hide (show ((1 : Int) + (n : Int)).toNat = 1 + n by omega)
      have HT2 := hide (show ((1 : Int) + (n : Int) + 4).toNat = 1 + n + 4 by omega)
      have HCW := hide (show IntKind.u64.wrap (cr : Int) = (cr : Int) by rw [IntKind.wrap_u64]; omega)
      by_cases hsum : le tl = cr
      · rw [if_pos hsum]
        have hfx := hiff.2 hsum
        have HEQ : Hid (s.extract (1 + n) (1 + n + 4) = strN (fixN cr 4)) := by show _ = _; rw [HY.out, hfx]
        clear hbl hiff hfx hsum
        go_enter Try.func37, Try.ntmps37
        go_wp2_with fail
        refine (K2.out _).mono ?_
        rintro e w1 ⟨rfl, rfl⟩
        go_wp2_with fail
        have hw1 := HW1.out
        have hw2 := HW2.out
        have ht1 := HT1.out
        have ht2 := HT2.out
        have hcw := HCW.out
        have heq := HEQ.out
        go_region_held3 (fun _ => True) (trivial) (first | (go_at_call 61; refine (KC.out _).mono ?_; rintro e w2 ⟨rfl, rfl⟩) | (go_at_call 49; refine (KX.out _).mono ?_; rintro e w2 ⟨rfl, hb2⟩))
        all_goals
          have hbw : Below w.heap.size w w2 := (Below.refl _ _).drew.trans (hb2.mono (Nat.le_refl _))
          clear hw1 hw2 ht1 ht2 hcw
          go_wp2_with fail
          refine bodyPost_ret (res4 rfl _ _ _) rfl ?_
          exact ⟨rfl, hbw⟩
      · rw [if_neg hsum, strN_nil]
        have hne : strN (fixN cr 4) ≠ s.extract (1 + n) (1 + n + 4) := by
          rw [HY.out]
          intro h
          have h2 := congrArg bn h
          rw [bn_strN _ (fixN_lt _ _), bn_strN _ htl] at h2
          exact hsum (hiff.1 h2)
        have HNE := hide (str_ne hne)
        clear hbl hiff hne hsum
        go_enter Try.func37, Try.ntmps37
        go_wp2_with fail
        refine (K2.out _).mono ?_
        rintro e w1 ⟨rfl, rfl⟩
        go_wp2_with fail
        have hw1 := HW1.out
        have hw2 := HW2.out
        have ht1 := HT1.out
        have ht2 := HT2.out
        have hcw := HCW.out
        have hne1 := HNE.out.1
        have hne2 := HNE.out.2
        go_region_held3 (fun _ => True) (trivial) (first | (go_at_call 61; refine (KC.out _).mono ?_; rintro e w2 ⟨rfl, rfl⟩) | (go_at_call 49; refine (KX.out _).mono ?_; rintro e w2 ⟨rfl, hb2⟩))
        all_goals
          have hbw : Below w.heap.size w w2 := (Below.refl _ _).drew.trans (hb2.mono (Nat.le_refl _))
          clear hw1 hw2 ht1 ht2 hcw
          go_wp2_with fail
          refine bodyPost_ret (res4 rfl _ _ _) rfl ?_
          exact ⟨rfl, hbw⟩
    · rw [if_neg he, strN_nil]
      have hb0 := hbad he
      generalize textS 1048576 D = T at *
      obtain ⟨t, n, er⟩ := T
      simp only at he hb0 herr K2 ⊢
      obtain ⟨rfl, rfl⟩ := hb0
      have hne : ((er : Int) != 0) = true := by rw [bne_iff_ne]; omega
      clear hbl hpos hbad herr he
      go_enter Try.func37, Try.ntmps37
      go_wp2_with fail
      refine (K2.out _).mono ?_
      rintro e w1 ⟨rfl, rfl⟩
      go_wp2_with fail
      refine bodyPost_ret (res4 rfl _ _ _) rfl ?_
      exact ⟨rfl, Below.refl _ _⟩
end Go.Proofs.Ytkeaijocjbldmaa
