/- The walk of WireReads. -/
import Derived.Test.YtkeaijocjbldmaaWireL2
namespace Go.Proofs.Ytkeaijocjbldmaa
open Go.RowKit

theorem num_le (n : Nat) (D : List Nat) : (num n D).2.1 ≤ D.length := by unfold num; split <;> simp; omega
theorem few_le' (D : List Nat) : (few D 0).2.1 ≤ D.length := by
  rcases few_err D 0 with h | h | h
  · exact (few_le D 0 h).1
  · rw [h]; simp
  · rw [h]; simp
theorem textS_le (m : Int) (D : List Nat) : (textS m D).2.1 ≤ D.length := by
  have h1 := few_le' D
  unfold textS
  split
  · split
    · simp
    · split
      · simp
      · show (few D 0).2.1 + (few D 0).1 ≤ _
        omega
  · simp
theorem rawS_le (m : Int) (D : List Nat) : (rawS m D).2.1 ≤ D.length := by
  unfold rawS
  split
  · simp
  · split
    · simp
    · show m.toNat ≤ _
      omega
theorem opR_le (o : OpD) (D : List Nat) : (opR o D).2.2.1 ≤ D.length := by
  unfold opR
  repeat' split
  all_goals first | exact num_le _ _ | exact few_le' _ | exact textS_le _ _ | exact rawS_le _ _
theorem num_e (n : Nat) (D : List Nat) : (num n D).2.2 < 256 := by unfold num; split <;> simp
theorem few_e (D : List Nat) : (few D 0).2.2 < 256 := by
  rcases few_err D 0 with h | h | h
  · rw [h]; omega
  · rw [h]; simp
  · rw [h]; simp
theorem opR_e (o : OpD) (D : List Nat) : (opR o D).2.2.2 < 256 := by
  have h1 := few_e D
  unfold opR textS rawS
  repeat' split
  all_goals first | exact num_e _ _ | exact h1 | simp
theorem rleft_int (R : Nat) (s : ByteArray) (p e : Nat) (hs : s.size ≤ maxLen) (hp : p ≤ s.size) (w : World) (h : Rd w R s p e) :
    Calls Try.prog 30 #[.pointer (some ⟨R, 0, none⟩)] w fun r w' => r = .returned (.int .i64 ((s.size : Int) - (p : Int))) ∧ Below w.heap.size w w' := by
  have := rleft_any R s p e hs hp w h
  rw [show (((s.size - p : Nat)) : Int) = (s.size : Int) - p by omega] at this
  exact this
set_option maxHeartbeats 2000000 in
set_option maxRecDepth 100000 in
theorem wireReads_walk (w : World) (s : ByteArray) (hs : s.size ≤ maxLen) (v : Value) (w0 : ∃ (A : Option Addr) (c : Nat) (l : List OpD), v = .slice A l.length c ∧ l.length ≤ maxLen ∧ InOps w A l) :
    Calls Try.prog 5 #[.string s, v] w fun e w' => e = .returned (.bool true) ∧ Below w.heap.size w w' := by
  obtain ⟨A, c, l, rfl, hl, hin⟩ := w0
  have KA := hide (fun w => awake04 w)
  have KF := hide (few_any A c l hl w hin)
  have hs' := hs
  unfold maxLen at hl hs
  have HIN := hide hin
  clear hin
  by_cases h500 : 500 < s.size
  · go_enter Try.func5, Try.ntmps5
    go_wp2_with fail
    refine (KA.out _).mono ?_
    rintro e w1 ⟨rfl, hb1⟩
    go_wp2_with fail
    go_ret
    exact ⟨rfl, hb1⟩
  have hd5 : decide (500 < (s.size : Int)) = false := by rw [decide_eq_false_iff_not]; omega
  go_enter Try.func5, Try.ntmps5
  go_wp2_with fail
  refine KF.out.mono ?_
  rintro e w1 ⟨rfl, rfl⟩
  cases hfew : fewB l with
  | false =>
    clear hfew
    go_wp2_with fail
    refine (KA.out _).mono ?_
    rintro e w2 ⟨rfl, hb2⟩
    go_wp2_with fail
    go_ret
    exact ⟨rfl, hb2⟩
  | true =>
    have HFW := hide (fewB_true hfew)
    clear hfew
    go_wp2_with fail
    refine (newr_any _ _).mono ?_
    rintro e w1 ⟨R, rfl, hR, hr1, hb1⟩
    have HR1 := hide hr1
    have HB1 := hide hb1
    clear hr1 hb1
    go_wp2_with fail
    go_loopw [6, 7, 8] (fun av ev iv wr => ∃ (k p er : Nat), k ≤ l.length ∧ iv = .int .i64 (k : Int) ∧ av = .int .i64 (p : Int) ∧ ev = .int .i64 (er : Int) ∧ p ≤ s.size ∧ er < 256 ∧ Hid (Rd wr R s p er) ∧ Below w.heap.size w wr) (fun _ _ iv _ => l.length - (intOf iv).toNat)
    case atStart => exact ⟨0, 0, 0, by omega, rfl, rfl, rfl, by omega, by omega, HR1, HB1.out⟩
    case round =>
      obtain ⟨k, p, er, hk, rfl, rfl, rfl, hp, her, HR, hb⟩ := hrel
      by_cases hlt : k < l.length
      · obtain ⟨o, ho⟩ : ∃ o, l[k]? = some o := ⟨_, List.getElem?_eq_getElem hlt⟩
        have hom := List.mem_of_getElem? ho
        have howf := HIN.out.1 o hom
        obtain ⟨b, of, rfl, hcl⟩ := HIN.out.cells ho
        have HCL := hide hcl
        clear hcl ho hom
        have KR := hide (read_any R s p er hs' hp o howf wr HR.out)
        by_cases he : er = 0
        · subst he
          unfold stO at KR
          rw [if_pos rfl] at KR
          have KQ : Hid (∀ w1, Calls Try.prog 29 #[.string (s.extract p s.size), .agg #[.int .i64 o.k, .int .u64 (o.x : Nat), .string o.s, .int .i64 o.m]] w1 fun e w' => e = .returned (.tuple #[.int .u64 ((opR o ((bn s).drop p)).1 : Nat), .string (strN (opR o ((bn s).drop p)).2.1), .int .i64 ((opR o ((bn s).drop p)).2.2.1 : Nat), .int .i64 ((opR o ((bn s).drop p)).2.2.2 : Nat)]) ∧ Below w1.heap.size w1 w') := fun w1 => by
            have := asked_any (s.extract p s.size) (by rw [ByteArray.size_extract]; unfold maxLen; omega) o howf w1
            rw [bn_drop] at this
            exact this
          have hle := opR_le o ((bn s).drop p)
          have hle2 := opR_e o ((bn s).drop p)
          rw [List.length_drop, bn_len] at hle
          generalize opR o ((bn s).drop p) = T at *
          obtain ⟨a, t, n, e'⟩ := T
          simp only at KR KQ hle hle2
          clear howf
          have hpn : p + n ≤ s.size := by omega
          obtain ⟨c0, c1, c2, c3⟩ := HCL.out wr hb
          go_wp2_with fail
          refine KR.out.mono ?_
          rintro e w2 ⟨rfl, hr2, hf2⟩
          have hb2 := hb.trans (hf2.belowR hb.size hR)
          have HR2 := hide hr2
          clear hr2 hf2 c0 c1 c2 c3
          obtain ⟨c0, c1, c2, c3⟩ := HCL.out w2 hb2
          have hki : (0 : Int) ≤ (k : Int) := by omega
          have hki2 : (k : Int) < (l.length : Int) := by omega
          have hpi : (p : Int) ≤ (s.size : Int) := by omega
          have hpi0 : (0 : Int) ≤ (p : Int) := by omega
          go_wp2_with fail
          go_region_held3 (fun w' => w'.cell? ⟨b, of + k * 4, none⟩ = some (.int .i64 o.k) ∧ w'.cell? ⟨b, of + k * 4 + 1, none⟩ = some (.int .u64 (o.x : Nat)) ∧ w'.cell? ⟨b, of + k * 4 + 2, none⟩ = some (.string o.s) ∧ w'.cell? ⟨b, of + k * 4 + 3, none⟩ = some (.int .i64 o.m)) (first | go_keep | assumption) (first | (go_at_call 29; refine (KQ.out _).mono ?_; rintro e w3 ⟨rfl, hb3⟩; have hcc := HCL.out w3 (hb2.drew.trans (hb3.mono hb2.drew.size))))
          all_goals
            have hb4 := hb2.drew.trans (hb3.mono hb2.drew.size)
            have HR4 := hide (HR2.out.below ((Below.refl _ _).drew.trans (hb3.mono (Nat.le_refl _))))
            clear c0 c1 c2 c3 hki hki2 hpi hpi0
            have hp2 : Hid (s.size - (p + n) = s.size - (p + n)) := rfl
            go_wp2_with fail
            refine (rat_any _ _ _ _ _ HR4.out).mono ?_
            rintro e w4 ⟨rfl, rfl⟩
            go_wp2_with fail
            refine (rleft_int _ _ _ _ hs' hpn _ HR4.out).mono ?_
            rintro e w4 ⟨rfl, hb5⟩
            have hb6 := hb4.trans (hb5.mono hb4.size)
            have HR6 := hide (HR4.out.below hb5)
            go_wp2_with fail
            refine (rerr_any _ _ _ _ _ HR6.out).mono ?_
            rintro e w5 ⟨rfl, rfl⟩
            go_wp2_with fail
            go_roundw
            case rel => exact ⟨k + 1, p + n, e', by omega, by go_num, by go_num, rfl, hpn, hle2, HR6, hb6⟩
            case measure => simp [intOf] <;> omega
        · unfold stO at KR
          rw [if_neg he, strN_nil] at KR
          simp only at KR
          have hne : ((er : Int) == 0) = false := by rw [beq_eq_false_iff_ne]; omega
          clear howf
          obtain ⟨c0, c1, c2, c3⟩ := HCL.out wr hb
          go_wp2_with fail
          refine KR.out.mono ?_
          rintro e w2 ⟨rfl, hr2, hf2⟩
          have hb2 := hb.trans (hf2.belowR hb.size hR)
          have HR2 := hide hr2
          clear hr2 hf2 c0 c1 c2 c3
          go_wp2_with fail
          refine (rat_any _ _ _ _ _ HR2.out).mono ?_
          rintro e w4 ⟨rfl, rfl⟩
          go_wp2_with fail
          refine (rleft_int _ _ _ _ hs' hp _ HR2.out).mono ?_
          rintro e w4 ⟨rfl, hb5⟩
          have hb6 := hb2.trans (hb5.mono hb2.size)
          have HR6 := hide (HR2.out.below hb5)
          go_wp2_with fail
          refine (rerr_any _ _ _ _ _ HR6.out).mono ?_
          rintro e w5 ⟨rfl, rfl⟩
          go_wp2_with fail
          go_roundw
          case rel => exact ⟨k + 1, p, er, by omega, by go_num, rfl, rfl, hp, her, HR6, hb6⟩
          case measure => simp [intOf] <;> omega
      · have hk8 : k = l.length := by omega
        have KD := hide (rdone_any R s p er hs' hp wr HR.out)
        by_cases he : er = 0
        · subst he
          rw [if_pos rfl] at KD
          by_cases hlt2 : p < s.size
          · rw [if_pos hlt2] at KD
            go_wp2_with fail
            refine KD.out.mono ?_
            rintro e w3 ⟨rfl, hb3⟩
            have hb4 := hb.trans (hb3.mono hb.size)
            go_wp2_with fail
            refine (KA.out _).mono ?_
            rintro e w4 ⟨rfl, hb5⟩
            go_wp2_with fail
            go_ret
            exact ⟨rfl, hb4.trans (hb5.mono hb4.size)⟩
          · rw [if_neg hlt2] at KD
            go_wp2_with fail
            refine KD.out.mono ?_
            rintro e w3 ⟨rfl, hb3⟩
            have hb4 := hb.trans (hb3.mono hb.size)
            go_wp2_with fail
            refine (KA.out _).mono ?_
            rintro e w4 ⟨rfl, hb5⟩
            go_wp2_with fail
            go_ret
            exact ⟨rfl, hb4.trans (hb5.mono hb4.size)⟩
        · rw [if_neg he] at KD
          have hne : ((er : Int) == 0) = false := by rw [beq_eq_false_iff_ne]; omega
          go_wp2_with fail
          refine KD.out.mono ?_
          rintro e w3 ⟨rfl, hb3⟩
          have hb4 := hb.trans (hb3.mono hb.size)
          go_wp2_with fail
          refine (KA.out _).mono ?_
          rintro e w4 ⟨rfl, hb5⟩
          go_wp2_with fail
          go_ret
          exact ⟨rfl, hb4.trans (hb5.mono hb4.size)⟩
end Go.Proofs.Ytkeaijocjbldmaa
