/- The walks of WireWrites and WireOne. -/
import Derived.Test.YtkeaijocjbldmaaWireL
namespace Go.Proofs.Ytkeaijocjbldmaa
open Go.RowKit

theorem Wr.other {w w' : World} {W1 B1 W2 B2 : Nat} {v1 v1' v2 : Value} {l1 l2 : List Nat} (h2 : Wr w W2 B2 v2 l2) (h1 : Wr w W1 B1 v1 l1) (hs : WS W1 w v1 w' v1') (hne : W2 ≠ W1)
    (hd : ∀ k, v2.ownBlock = some k → v1.ownBlock ≠ some k) : Wr w' W2 B2 v2 l2 := by
  refine ⟨h2.blk.fr hs.fr ?_, h2.own.fr hs.fr ?_, h2.leW⟩
  · rintro (e | e)
    · exact hne e
    · exact h1.own.ne h2.blk (by decide) e.symm
  · rintro k hk (e | e)
    · subst e
      exact h2.own.ne h1.blk (by decide) hk
    · exact hd k hk e.symm
theorem wr_newB (w : World) {B : Nat} (hB : B ≤ w.heap.size) : Wr (w.alloc (.cells #[.slice none 0 0] 33)) w.heap.size B (.slice none 0 0) [] :=
  ⟨Blk.new w _ _, ownU8_nil _ _, hB⟩
/-- What calls write. -/
def opTs (l : List OpD) : List Nat := l.flatMap opT
theorem opTs_snoc (l : List OpD) (o : OpD) : opTs (l ++ [o]) = opTs l ++ opT o := by simp [opTs]
theorem opT_len {o : OpD} (ho : o.Wf) (hs : o.s.size ≤ 300) : (opT o).length ≤ 310 := by
  have h1 := uvar_len10 ho.x1
  have h2 := uvar_len10 (zz_lt (toI_ge ho.x1).1 (toI_ge ho.x1).2)
  have h3 := uvar_len10 (x := o.s.size) (by omega)
  have h4 := bn_len o.s
  unfold opT
  repeat' split
  all_goals first | (rw [fixN_len]; omega) | (rw [List.length_append]; omega) | omega
theorem opTs_len (l : List OpD) (h : ∀ o ∈ l, o.Wf ∧ o.s.size ≤ 300) : (opTs l).length ≤ 310 * l.length := by
  induction l with
  | nil => simp [opTs]
  | cons o l ih =>
    have h1 := opT_len (h o (by simp)).1 (h o (by simp)).2
    have h2 := ih (fun q hq => h q (by simp [hq]))
    simp only [opTs, List.flatMap_cons, List.length_append, List.length_cons] at h2 ⊢
    omega
theorem opTs_take {l : List OpD} {A : Option Addr} {w : World} (h : InOps w A l) (hf : l.length ≤ 60 ∧ ∀ o ∈ l, o.s.size ≤ 300) (k : Nat) : (opTs (l.take k)).length ≤ 18600 := by
  have h1 := opTs_len (l.take k) (fun o ho => ⟨h.1 o (List.mem_of_mem_take ho), hf.2 o (List.mem_of_mem_take ho)⟩)
  have h2 : (l.take k).length ≤ l.length := by rw [List.length_take]; omega
  omega
theorem take_op {l : List OpD} {k : Nat} {o : OpD} (h : l[k]? = some o) : l.take (k + 1) = l.take k ++ [o] := by rw [List.take_add_one, h]; rfl
theorem InOps.cells {w : World} {A : Option Addr} {l : List OpD} (h : InOps w A l) {k : Nat} {o : OpD} (ho : l[k]? = some o) : ∃ b of : Nat, A = some ⟨b, of, none⟩ ∧ ∀ w', Below w.heap.size w w' →
    w'.cell? ⟨b, of + k * 4, none⟩ = some (.int .i64 o.k) ∧ w'.cell? ⟨b, of + k * 4 + 1, none⟩ = some (.int .u64 (o.x : Nat)) ∧ w'.cell? ⟨b, of + k * 4 + 2, none⟩ = some (.string o.s) ∧ w'.cell? ⟨b, of + k * 4 + 3, none⟩ = some (.int .i64 o.m) := by
  obtain ⟨b, of, hA, hlt, h0, h1, h2, h3⟩ := h.2 k o ho
  exact ⟨b, of, hA, fun w' hb => ⟨(hb.cell (p := ⟨b, _, none⟩) hlt).trans h0, (hb.cell (p := ⟨b, _, none⟩) hlt).trans h1, (hb.cell (p := ⟨b, _, none⟩) hlt).trans h2, (hb.cell (p := ⟨b, _, none⟩) hlt).trans h3⟩⟩
set_option maxHeartbeats 1000000 in
set_option maxRecDepth 100000 in
theorem wireWrites_walk (w : World) (v : Value) (w0 : ∃ (A : Option Addr) (c : Nat) (l : List OpD), v = .slice A l.length c ∧ l.length ≤ maxLen ∧ InOps w A l) :
    Calls Try.prog 4 #[v] w fun e w' => e = .returned (.bool true) ∧ Below w.heap.size w w' := by
  obtain ⟨A, c, l, rfl, hl, hin⟩ := w0
  have KA := hide (fun w => awake04 w)
  have KF := hide (few_any A c l hl w hin)
  unfold maxLen at hl
  have HIN := hide hin
  clear hin
  go_enter Try.func4, Try.ntmps4
  go_wp2_with fail
  refine KF.out.mono ?_
  rintro e w1 ⟨rfl, rfl⟩
  cases hfew : fewB l with
  | false =>
    clear hfew
    go_wp2_with fail
    refine (KA.out _).mono ?_
    rintro e w2 ⟨rfl, hb2⟩
    go_wp2_with fail
    go_ret
    exact ⟨rfl, hb2⟩
  | true =>
    have HFW := hide (fewB_true hfew)
    clear hfew
    have hB0 : w.heap.size ≤ (w.alloc (.cells #[.slice none 0 0] 33)).heap.size := by simp
    have b0 : Below w.heap.size w (w.alloc (.cells #[.slice none 0 0] 33)) := (Below.refl _ _).alloc (Nat.le_refl _) _
    go_wp2_with fail
    go_loopw [4, 5] (fun av iv wr => ∃ (k : Nat) (sv : Value), k ≤ l.length ∧ iv = .int .i64 (k : Int) ∧ av = .string (strN (opTs (l.take k))) ∧ Hid (Wr wr w.heap.size w.heap.size sv (opTs (l.take k))) ∧ Below w.heap.size w wr) (fun _ iv _ => l.length - (intOf iv).toNat)
    case atStart => exact ⟨0, _, by omega, rfl, congrArg Value.string strN_nil.symm, wr_new w, b0⟩
    case round =>
      obtain ⟨k, sv, hk, rfl, rfl, HW, hb⟩ := hrel
      have hlen := opTs_take HIN.out HFW.out k
      by_cases hlt : k < l.length
      · obtain ⟨o, ho⟩ : ∃ o, l[k]? = some o := ⟨_, List.getElem?_eq_getElem hlt⟩
        have hom := List.mem_of_getElem? ho
        have hlen2 := opTs_take HIN.out HFW.out (k + 1)
        obtain ⟨L2, HL2⟩ : ∃ L2, Hid (L2 = opTs (l.take (k + 1))) := ⟨_, rfl⟩
        rw [← HL2.out] at hlen2
        have HT : Hid (L2 = opTs (l.take k) ++ opT o) := by show _ = _; rw [HL2.out, take_op ho, opTs_snoc]
        obtain ⟨b, of, rfl, hcl⟩ := HIN.out.cells ho
        have HCL := hide hcl
        obtain ⟨c0, c1, c2, c3⟩ := hcl wr hb
        clear hcl
        have howf := HIN.out.1 o hom
        have hos := HFW.out.2 o hom
        have KW := hide (write_any w.heap.size w.heap.size sv (opTs (l.take k)) o howf (by omega) wr HW.out (by omega) hb.size)
        have KT := hide (fun w => text_any o howf (by omega) w)
        rw [← HT.out] at KW
        generalize opTs (l.take k) = L at *
        have HST : strN L ++ strN (opT o) = strN L2 := by rw [HT.out, strN_append]
        have hadd := fun w1 => run_string_add_sum (P := Try.prog) w1 (strN L) (strN (opT o)) (by rw [strN_size, strN_size]; have := congrArg List.length HT.out; rw [List.length_append] at this; omega)
        have hsz : (strN L2).size = L2.length := strN_size L2
        clear ho hom howf hos
        go_wp2_with fail
        refine KW.out.mono ?_
        rintro e w1 ⟨rfl, sv1, hw1, hs1⟩
        have hb1 := hb.trans (hs1.below HW.out hb.size)
        have HW1 := hide hw1
        clear hw1 hs1 c0 c1 c2 c3
        obtain ⟨c0, c1, c2, c3⟩ := HCL.out w1 hb1
        go_wp2_with fail
        refine (KT.out _).mono ?_
        rintro e w2 ⟨rfl, hb2⟩
        have hb3 := hb1.trans (hb2.mono hb1.size)
        have HW2 := hide (HW1.out.below hb2)
        clear c0 c1 c2 c3
        go_wp2_with fail
        refine (wlen_any _ _ _ _ _ HW2.out).mono ?_
        rintro e w3 ⟨rfl, rfl⟩
        go_wp2_with fail
        go_roundw
        case rel => exact ⟨k + 1, sv1, by omega, by go_num, by rw [← HL2.out], by rw [← HL2.out]; exact HW2.out, hb3⟩
        case measure => simp [intOf] <;> omega
      · have hk8 : k = l.length := by omega
        subst hk8
        go_wp2_with fail
        refine (wstring_any _ _ _ _ _ HW.out).mono ?_
        rintro e w3 ⟨rfl, rfl⟩
        go_wp2_with fail
        refine (KA.out _).mono ?_
        rintro e w4 ⟨rfl, hb4⟩
        go_wp2_with fail
        go_ret
        exact ⟨rfl, hb.trans (hb4.mono hb.size)⟩
end Go.Proofs.Ytkeaijocjbldmaa
