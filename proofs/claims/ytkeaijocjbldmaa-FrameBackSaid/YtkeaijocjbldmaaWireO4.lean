/- The statements' calls: what each reads. -/
import Derived.Test.YtkeaijocjbldmaaWireO3
namespace Go.Proofs.Ytkeaijocjbldmaa
open Go.RowKit

/-- What a call reads of bytes: the number, the text, how many bytes, the error. -/
def opR (o : OpD) (D : List Nat) : Nat × List Nat × Nat × Nat :=
  if o.k = 0 then ((num 1 D).1, [], (num 1 D).2.1, (num 1 D).2.2)
  else if o.k = 1 then ((num 4 D).1, [], (num 4 D).2.1, (num 4 D).2.2)
  else if o.k = 2 then ((num 8 D).1, [], (num 8 D).2.1, (num 8 D).2.2)
  else if o.k = 3 then ((few D 0).1, [], (few D 0).2.1, (few D 0).2.2)
  else if o.k = 4 then (toU (back (few D 0).1), [], (few D 0).2.1, (few D 0).2.2)
  else if o.k = 5 then (0, (textS o.m D).1, (textS o.m D).2.1, (textS o.m D).2.2)
  else (0, (rawS o.m D).1, (rawS o.m D).2.1, (rawS o.m D).2.2)
/-- .. of a reader: its new place and its error behind the number and the text. -/
def stO (s : ByteArray) (p e : Nat) (o : OpD) : Nat × List Nat × Nat × Nat :=
  if e = 0 then ((opR o ((bn s).drop p)).1, (opR o ((bn s).drop p)).2.1, p + (opR o ((bn s).drop p)).2.2.1, (opR o ((bn s).drop p)).2.2.2) else (0, [], p, e)
theorem stO_n {s : ByteArray} {p e : Nat} {o : OpD} {f : List Nat → Nat × Nat × Nat} (h : ∀ D, opR o D = ((f D).1, [], (f D).2.1, (f D).2.2)) : stO s p e o = ((st s p e f).1, [], (st s p e f).2.1, (st s p e f).2.2) := by
  unfold stO st
  rw [h]
  split <;> rfl
theorem stO_s {s : ByteArray} {p e : Nat} {o : OpD} {f : List Nat → Nat × Nat × Nat} (h : ∀ D, opR o D = (toU (back (f D).1), [], (f D).2.1, (f D).2.2)) : stO s p e o = (toU (back (st s p e f).1), [], (st s p e f).2.1, (st s p e f).2.2) := by
  unfold stO st
  rw [h]
  split
  · rfl
  · have h0 : toU (back 0) = 0 := by decide
    simp [h0]
theorem stO_t {s : ByteArray} {p e : Nat} {o : OpD} {f : List Nat → List Nat × Nat × Nat} (h : ∀ D, opR o D = (0, (f D).1, (f D).2.1, (f D).2.2)) : stO s p e o = (0, (stT s p e f).1, (stT s p e f).2.1, (stT s p e f).2.2) := by
  unfold stO stT
  rw [h]
  split <;> rfl
theorem rcon {P : Program} {f : FuncId} {args : Array Value} {R : Nat} {w : World} {s : ByteArray} {p e p' e' : Nat} {v : Value} (h : Rd w R s p e)
    (C : ∀ w1, Rd w1 R s p e → Calls P f args w1 (RPost R w1 s v p' e')) : Hid (∀ w1, Below w.heap.size w w1 → Calls P f args w1 (RPost R w s v p' e')) := by
  intro w1 hb
  refine (C w1 (h.below hb)).mono ?_
  rintro r w' ⟨he, h1, h2⟩
  exact ⟨he, h1, (Fr.of_below hb _).trans h2 (fun _ _ h => h)⟩
theorem res4 {fn : Func} {a b c d : Tmp} (h : fn.results = #[.tmp a, .tmp b, .tmp c, .tmp d]) (ts : Array Value) (P : Program) (w : World) :
    (results fn ts).run P w = .ok (.tuple #[ts.getD a undef, ts.getD b undef, ts.getD c undef, ts.getD d undef]) w := by simp [results, h]

set_option maxHeartbeats 2000000 in
set_option maxRecDepth 100000 in
theorem read_any (R : Nat) (s : ByteArray) (p e : Nat) (hs : s.size ≤ maxLen) (hp : p ≤ s.size) (o : OpD) (ho : o.Wf) (w : World) (h : Rd w R s p e) :
    Calls Try.prog 28 #[.pointer (some ⟨R, 0, none⟩), .agg #[.int .i64 o.k, .int .u64 (o.x : Nat), .string o.s, .int .i64 o.m]] w (RPost R w s (.tuple #[.int .u64 ((stO s p e o).1 : Nat), .string (strN (stO s p e o).2.1)]) (stO s p e o).2.2.1 (stO s p e o).2.2.2) := by
  obtain ⟨k, x, os, m⟩ := o
  have hm1 := ho.m1
  have hm2 := ho.m2
  clear ho
  simp only at hm1 hm2
  show Calls _ _ #[_, .agg #[.int .i64 k, .int .u64 (x : Nat), .string os, .int .i64 m]] _ _
  by_cases e0 : k = 0
  · subst e0
    rw [stO_n (f := num 1) (fun D => rfl)]
    have K := rcon h (fun w1 h1 => ru8_any R s p e hs hp w1 h1)
    have hlt := st_num_lt s p e 1
    generalize st s p e (num 1) = T at *
    obtain ⟨a, q, e'⟩ := T
    simp only at K hlt ⊢
    rw [strN_nil]
    clear h
    go_enter Try.func28, Try.ntmps28
    go_wp2_with fail
    refine (K.out _ ((Below.refl _ _).alloc (Nat.le_refl _) _)).mono ?_
    rintro e w1 ⟨rfl, hr1, hf1⟩
    have HR1 := hide hr1
    have HF1 := hide hf1
    clear hr1 hf1
    go_wp2_with fail
    go_ret2
    exact ⟨rfl, HR1.out, HF1.out⟩
  have b0 : (k == 0) = false := by rw [beq_eq_false_iff_ne]; exact e0
  by_cases e1 : k = 1
  · subst e1
    rw [stO_n (f := num 4) (fun D => rfl)]
    have K := rcon h (fun w1 h1 => ru32_any R s p e hs hp w1 h1)
    have hlt := st_num_lt s p e 4
    generalize st s p e (num 4) = T at *
    obtain ⟨a, q, e'⟩ := T
    simp only at K hlt ⊢
    rw [strN_nil]
    clear h
    go_enter Try.func28, Try.ntmps28
    go_wp2_with fail
    refine (K.out _ ((Below.refl _ _).alloc (Nat.le_refl _) _)).mono ?_
    rintro e w1 ⟨rfl, hr1, hf1⟩
    have HR1 := hide hr1
    have HF1 := hide hf1
    clear hr1 hf1
    go_wp2_with fail
    go_ret2
    exact ⟨rfl, HR1.out, HF1.out⟩
  have b1 : (k == 1) = false := by rw [beq_eq_false_iff_ne]; exact e1
  by_cases e2 : k = 2
  · subst e2
    rw [stO_n (f := num 8) (fun D => rfl)]
    have K := rcon h (fun w1 h1 => ru64_any R s p e hs hp w1 h1)
    have hlt := st_num_lt s p e 8
    generalize st s p e (num 8) = T at *
    obtain ⟨a, q, e'⟩ := T
    simp only at K hlt ⊢
    rw [strN_nil]
    clear h
    go_enter Try.func28, Try.ntmps28
    go_wp2_with fail
    refine (K.out _ ((Below.refl _ _).alloc (Nat.le_refl _) _)).mono ?_
    rintro e w1 ⟨rfl, hr1, hf1⟩
    have HR1 := hide hr1
    have HF1 := hide hf1
    clear hr1 hf1
    go_wp2_with fail
    go_ret2
    exact ⟨rfl, HR1.out, HF1.out⟩
  have b2 : (k == 2) = false := by rw [beq_eq_false_iff_ne]; exact e2
  by_cases e3 : k = 3
  · subst e3
    rw [stO_n (f := fun D => few D 0) (fun D => rfl)]
    have K := rcon h (fun w1 h1 => ruvar_any R s p e hs hp w1 h1)
    generalize st s p e (fun D => few D 0) = T at *
    obtain ⟨a, q, e'⟩ := T
    simp only at K ⊢
    rw [strN_nil]
    clear h
    go_enter Try.func28, Try.ntmps28
    go_wp2_with fail
    refine (K.out _ ((Below.refl _ _).alloc (Nat.le_refl _) _)).mono ?_
    rintro e w1 ⟨rfl, hr1, hf1⟩
    have HR1 := hide hr1
    have HF1 := hide hf1
    clear hr1 hf1
    go_wp2_with fail
    go_ret2
    exact ⟨rfl, HR1.out, HF1.out⟩
  have b3 : (k == 3) = false := by rw [beq_eq_false_iff_ne]; exact e3
  by_cases e4 : k = 4
  · subst e4
    rw [stO_s (f := fun D => few D 0) (fun D => rfl)]
    have K := rcon h (fun w1 h1 => rsvar_any R s p e hs hp w1 h1)
    generalize st s p e (fun D => few D 0) = T at *
    obtain ⟨a, q, e'⟩ := T
    simp only at K ⊢
    have HU : Hid ((toU (back a) : Int) = back a % 18446744073709551616) := by show _ = _; unfold toU; omega
    rw [strN_nil, HU.out]
    generalize back a = z at *
    clear HU
    clear h
    go_enter Try.func28, Try.ntmps28
    go_wp2_with fail
    refine (K.out _ ((Below.refl _ _).alloc (Nat.le_refl _) _)).mono ?_
    rintro e w1 ⟨rfl, hr1, hf1⟩
    have HR1 := hide hr1
    have HF1 := hide hf1
    clear hr1 hf1
    go_wp2_with fail
    go_ret2
    exact ⟨rfl, HR1.out, HF1.out⟩
  have b4 : (k == 4) = false := by rw [beq_eq_false_iff_ne]; exact e4
  by_cases e5 : k = 5
  · subst e5
    rw [stO_t (f := textS m) (fun D => rfl)]
    have K := rcon h (fun w1 h1 => rtext_any R s p e m hm2 hm1 hs hp w1 h1)
    generalize stT s p e (textS m) = T at *
    obtain ⟨a, q, e'⟩ := T
    simp only at K ⊢
    clear h
    go_enter Try.func28, Try.ntmps28
    go_wp2_with fail
    refine (K.out _ ((Below.refl _ _).alloc (Nat.le_refl _) _)).mono ?_
    rintro e w1 ⟨rfl, hr1, hf1⟩
    have HR1 := hide hr1
    have HF1 := hide hf1
    clear hr1 hf1
    go_wp2_with fail
    go_ret2
    exact ⟨rfl, HR1.out, HF1.out⟩
  have b5 : (k == 5) = false := by rw [beq_eq_false_iff_ne]; exact e5
  have hdef : ∀ D, opR ⟨k, x, os, m⟩ D = (0, (rawS m D).1, (rawS m D).2.1, (rawS m D).2.2) := fun D => by unfold opR; simp only; rw [if_neg e0, if_neg e1, if_neg e2, if_neg e3, if_neg e4, if_neg e5]
  clear e0 e1 e2 e3 e4 e5
  rw [stO_t (f := rawS m) (hdef)]
  clear hdef
  have K := rcon h (fun w1 h1 => rraw_any R s p e m hm2 hs hp w1 h1)
  generalize stT s p e (rawS m) = T at *
  obtain ⟨a, q, e'⟩ := T
  simp only at K ⊢
  clear h
  go_enter Try.func28, Try.ntmps28
  go_wp2_with fail
  refine (K.out _ ((Below.refl _ _).alloc (Nat.le_refl _) _)).mono ?_
  rintro e w1 ⟨rfl, hr1, hf1⟩
  have HR1 := hide hr1
  have HF1 := hide hf1
  clear hr1 hf1
  go_wp2_with fail
  go_ret2
  exact ⟨rfl, HR1.out, HF1.out⟩

set_option maxHeartbeats 2000000 in
set_option maxRecDepth 100000 in
theorem asked_any (s : ByteArray) (hs : s.size ≤ maxLen) (o : OpD) (ho : o.Wf) (w : World) :
    Calls Try.prog 29 #[.string s, .agg #[.int .i64 o.k, .int .u64 (o.x : Nat), .string o.s, .int .i64 o.m]] w fun e w' => e = .returned (.tuple #[.int .u64 ((opR o (bn s)).1 : Nat), .string (strN (opR o (bn s)).2.1), .int .i64 ((opR o (bn s)).2.2.1 : Nat), .int .i64 ((opR o (bn s)).2.2.2 : Nat)]) ∧ Below w.heap.size w w' := by
  obtain ⟨k, x, os, m⟩ := o
  have hm1 := ho.m1
  have hm2 := ho.m2
  clear ho
  simp only at hm1 hm2
  by_cases e0 : k = 0
  · subst e0
    show Calls _ _ _ _ fun e w' => e = .returned (.tuple #[.int .u64 ((num 1 (bn s)).1 : Nat), .string (strN []), .int .i64 ((num 1 (bn s)).2.1 : Nat), .int .i64 ((num 1 (bn s)).2.2 : Nat)]) ∧ _
    have K := hide (fun w1 => snum_any s 1 (by omega) (by omega) hs w1)
    generalize num 1 (bn s) = T at *
    obtain ⟨a, q, e'⟩ := T
    simp only at K ⊢
    rw [strN_nil]
    go_enter Try.func29, Try.ntmps29
    go_wp2_with fail
    refine (K.out _).mono ?_
    rintro e w1 ⟨rfl, rfl⟩
    go_wp2_with fail
    refine bodyPost_ret (res4 rfl _ _ _) rfl ?_
    exact ⟨rfl, ((Below.refl _ _).alloc (Nat.le_refl _) _)⟩
  have b0 : (k == 0) = false := by rw [beq_eq_false_iff_ne]; exact e0
  by_cases e1 : k = 1
  · subst e1
    show Calls _ _ _ _ fun e w' => e = .returned (.tuple #[.int .u64 ((num 4 (bn s)).1 : Nat), .string (strN []), .int .i64 ((num 4 (bn s)).2.1 : Nat), .int .i64 ((num 4 (bn s)).2.2 : Nat)]) ∧ _
    have K := hide (fun w1 => snum_any s 4 (by omega) (by omega) hs w1)
    generalize num 4 (bn s) = T at *
    obtain ⟨a, q, e'⟩ := T
    simp only at K ⊢
    rw [strN_nil]
    go_enter Try.func29, Try.ntmps29
    go_wp2_with fail
    refine (K.out _).mono ?_
    rintro e w1 ⟨rfl, rfl⟩
    go_wp2_with fail
    refine bodyPost_ret (res4 rfl _ _ _) rfl ?_
    exact ⟨rfl, ((Below.refl _ _).alloc (Nat.le_refl _) _)⟩
  have b1 : (k == 1) = false := by rw [beq_eq_false_iff_ne]; exact e1
  by_cases e2 : k = 2
  · subst e2
    show Calls _ _ _ _ fun e w' => e = .returned (.tuple #[.int .u64 ((num 8 (bn s)).1 : Nat), .string (strN []), .int .i64 ((num 8 (bn s)).2.1 : Nat), .int .i64 ((num 8 (bn s)).2.2 : Nat)]) ∧ _
    have K := hide (fun w1 => snum_any s 8 (by omega) (by omega) hs w1)
    generalize num 8 (bn s) = T at *
    obtain ⟨a, q, e'⟩ := T
    simp only at K ⊢
    rw [strN_nil]
    go_enter Try.func29, Try.ntmps29
    go_wp2_with fail
    refine (K.out _).mono ?_
    rintro e w1 ⟨rfl, rfl⟩
    go_wp2_with fail
    refine bodyPost_ret (res4 rfl _ _ _) rfl ?_
    exact ⟨rfl, ((Below.refl _ _).alloc (Nat.le_refl _) _)⟩
  have b2 : (k == 2) = false := by rw [beq_eq_false_iff_ne]; exact e2
  by_cases e3 : k = 3
  · subst e3
    show Calls _ _ _ _ fun e w' => e = .returned (.tuple #[.int .u64 ((few (bn s) 0).1 : Nat), .string (strN []), .int .i64 ((few (bn s) 0).2.1 : Nat), .int .i64 ((few (bn s) 0).2.2 : Nat)]) ∧ _
    have K := hide (fun w1 => sfew_any s hs w1)
    generalize few (bn s) 0 = T at *
    obtain ⟨a, q, e'⟩ := T
    simp only at K ⊢
    rw [strN_nil]
    go_enter Try.func29, Try.ntmps29
    go_wp2_with fail
    refine (K.out _).mono ?_
    rintro e w1 ⟨rfl, rfl⟩
    go_wp2_with fail
    refine bodyPost_ret (res4 rfl _ _ _) rfl ?_
    exact ⟨rfl, ((Below.refl _ _).alloc (Nat.le_refl _) _)⟩
  have b3 : (k == 3) = false := by rw [beq_eq_false_iff_ne]; exact e3
  by_cases e4 : k = 4
  · subst e4
    show Calls _ _ _ _ fun e w' => e = .returned (.tuple #[.int .u64 (toU (back (few (bn s) 0).1) : Nat), .string (strN []), .int .i64 ((few (bn s) 0).2.1 : Nat), .int .i64 ((few (bn s) 0).2.2 : Nat)]) ∧ _
    have K := hide (fun w1 => sfew_any s hs w1)
    have h64 := few_lt64 (bn s)
    generalize few (bn s) 0 = T at *
    obtain ⟨a, q, e'⟩ := T
    simp only at K h64 ⊢
    have K2 := hide (fun w1 => sback_any a h64 w1)
    have HU : Hid ((toU (back a) : Int) = back a % 18446744073709551616) := by show _ = _; unfold toU; omega
    rw [strN_nil, HU.out]
    generalize back a = z at *
    clear HU
    go_enter Try.func29, Try.ntmps29
    go_wp2_with fail
    refine (K.out _).mono ?_
    rintro e w1 ⟨rfl, rfl⟩
    go_wp2_with fail
    refine (K2.out _).mono ?_
    rintro e w1 ⟨rfl, rfl⟩
    go_wp2_with fail
    refine bodyPost_ret (res4 rfl _ _ _) rfl ?_
    exact ⟨rfl, ((Below.refl _ _).alloc (Nat.le_refl _) _)⟩
  have b4 : (k == 4) = false := by rw [beq_eq_false_iff_ne]; exact e4
  by_cases e5 : k = 5
  · subst e5
    show Calls _ _ _ _ fun e w' => e = .returned (.tuple #[.int .u64 (0 : Nat), .string (strN (textS m (bn s)).1), .int .i64 ((textS m (bn s)).2.1 : Nat), .int .i64 ((textS m (bn s)).2.2 : Nat)]) ∧ _
    have K := hide (fun w1 => stext_any s m hm2 hm1 hs w1)
    generalize textS m (bn s) = T at *
    obtain ⟨a, q, e'⟩ := T
    simp only at K ⊢
    go_enter Try.func29, Try.ntmps29
    go_wp2_with fail
    refine (K.out _).mono ?_
    rintro e w1 ⟨rfl, rfl⟩
    go_wp2_with fail
    refine bodyPost_ret (res4 rfl _ _ _) rfl ?_
    exact ⟨rfl, ((Below.refl _ _).alloc (Nat.le_refl _) _)⟩
  have b5 : (k == 5) = false := by rw [beq_eq_false_iff_ne]; exact e5
  have hdef : opR ⟨k, x, os, m⟩ (bn s) = (0, (rawS m (bn s)).1, (rawS m (bn s)).2.1, (rawS m (bn s)).2.2) := by unfold opR; simp only; rw [if_neg e0, if_neg e1, if_neg e2, if_neg e3, if_neg e4, if_neg e5]
  rw [hdef]
  clear hdef e0 e1 e2 e3 e4 e5
  simp only
  unfold rawS
  rw [bn_len]
  unfold maxLen at hs
  by_cases hneg : m < 0
  · rw [if_pos hneg, strN_nil]
    go_enter Try.func29, Try.ntmps29
    go_wp2_with fail
    refine bodyPost_ret (res4 rfl _ _ _) rfl ?_
    exact ⟨rfl, ((Below.refl _ _).alloc (Nat.le_refl _) _)⟩
  rw [if_neg hneg]
  obtain ⟨mm, rfl⟩ : ∃ mm : Nat, m = mm := ⟨m.toNat, by omega⟩
  by_cases hbig : (s.size : Int) < mm
  · rw [if_pos hbig, strN_nil]
    go_enter Try.func29, Try.ntmps29
    go_wp2_with fail
    refine bodyPost_ret (res4 rfl _ _ _) rfl ?_
    exact ⟨rfl, ((Below.refl _ _).alloc (Nat.le_refl _) _)⟩
  rw [if_neg hbig, Int.toNat_natCast]
  have HX := hide (extract_strN s 0 mm (by omega))
  have hmm : (mm : Int) ≤ (s.size : Int) := by omega
  go_enter Try.func29, Try.ntmps29
  go_wp2_with fail
  go_quiet (fail)
  go_wp2_with fail
  refine bodyPost_ret (res4 rfl _ _ _) rfl ?_
  exact ⟨by rw [show ((bn s).take mm) = ((bn s).drop 0).take mm from rfl, ← HX.out, Nat.zero_add]; rfl, below_drewN ((Below.refl _ _).alloc (Nat.le_refl _) _) _⟩
end Go.Proofs.Ytkeaijocjbldmaa
