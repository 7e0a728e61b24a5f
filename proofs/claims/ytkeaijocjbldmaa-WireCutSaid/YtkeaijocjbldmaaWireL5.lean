/- What was written is read: plain laws, and the walk of WireBack. -/
import Derived.Test.YtkeaijocjbldmaaWireL2
namespace Go.Proofs.Ytkeaijocjbldmaa
open Go.RowKit

/-- The number that is read again. -/
def wantX (o : OpD) : Nat := if o.k = 0 then o.x % 256 else if o.k = 1 then o.x % 4294967296 else if o.k = 2 then o.x else if o.k = 3 then o.x else if o.k = 4 then o.x else 0
def wantS (o : OpD) : List Nat := if 0 ≤ o.k ∧ o.k ≤ 4 then [] else bn o.s
/-- A call that asks for as much as was written. -/
def askO (o : OpD) : OpD := ⟨o.k, o.x, o.s, (o.s.size : Int)⟩
theorem num_back (x n : Nat) (rest : List Nat) : num n (fixN x n ++ rest) = (x % 256 ^ n, n, 0) := by
  unfold num
  rw [if_neg (by rw [List.length_append, fixN_len]; omega), List.take_append_of_le_length (by rw [fixN_len]; omega), List.take_of_length_le (by rw [fixN_len]; omega), le_fixN]
theorem opR_back (o : OpD) (ho : o.Wf) (rest : List Nat) : opR (askO o) (opT o ++ rest) = (wantX o, wantS o, (opT o).length, 0) := by
  obtain ⟨k, x, s, m⟩ := o
  have hx := ho.x1
  have hs := ho.s1
  clear ho
  unfold maxLen at hs
  simp only at hx hs
  unfold opR opT wantX wantS askO
  simp only
  by_cases e0 : k = 0
  · subst e0
    simp only [if_true, num_back, fixN_len]
    rfl
  simp only [if_neg e0]
  by_cases e1 : k = 1
  · subst e1
    simp only [if_true, num_back, fixN_len]
    rfl
  simp only [if_neg e1]
  by_cases e2 : k = 2
  · subst e2
    simp only [if_true, num_back, fixN_len]
    rw [Nat.mod_eq_of_lt (by simpa using hx)]
    rfl
  simp only [if_neg e2]
  by_cases e3 : k = 3
  · subst e3
    simp only [if_true, few_uvar0 x hx]
    rfl
  simp only [if_neg e3]
  by_cases e4 : k = 4
  · subst e4
    simp only [if_true, few_uvar0 _ (zz_lt (toI_ge hx).1 (toI_ge hx).2), back_zz, toU_toI hx]
    rfl
  simp only [if_neg e4]
  rw [if_neg (show ¬ (0 ≤ k ∧ k ≤ 4) by omega)]
  by_cases e5 : k = 5
  · subst e5
    simp only [if_true]
    unfold textS
    rw [List.append_assoc, few_uvar0 _ (by omega)]
    simp only [if_true]
    have hb := bn_len s
    rw [if_neg (by omega), if_neg (by rw [List.length_append, List.length_append]; omega), List.drop_left, List.take_append_of_le_length (by omega), List.take_of_length_le (by omega), List.length_append]
    rw [hb]
  simp only [if_neg e5]
  unfold rawS
  have hb := bn_len s
  rw [if_neg (by omega), if_neg (by rw [List.length_append]; omega)]
  simp only [Int.toNat_natCast]
  rw [List.take_append_of_le_length (by omega), List.take_of_length_le (by omega), hb]
/-- A beginning of it is short. -/
theorem num_cut (x n c : Nat) (h : c < n) : (num n ((fixN x n).take c)).2.2 = 10 := by
  unfold num
  rw [if_pos (by rw [List.length_take, fixN_len]; omega)]
theorem opR_cut (o : OpD) (ho : o.Wf) (c : Nat) (hc : c < (opT o).length) : (opR (askO o) ((opT o).take c)).2.2.2 = 10 := by
  obtain ⟨k, x, s, m⟩ := o
  have hx := ho.x1
  have hs := ho.s1
  clear ho
  unfold maxLen at hs
  simp only at hx hs
  unfold opT at hc
  unfold opR opT askO
  simp only at hc ⊢
  by_cases e0 : k = 0
  · subst e0
    simp only [if_true] at hc ⊢
    rw [fixN_len] at hc
    exact num_cut x 1 c hc
  simp only [if_neg e0] at hc ⊢
  by_cases e1 : k = 1
  · subst e1
    simp only [if_true] at hc ⊢
    rw [fixN_len] at hc
    exact num_cut x 4 c hc
  simp only [if_neg e1] at hc ⊢
  by_cases e2 : k = 2
  · subst e2
    simp only [if_true] at hc ⊢
    rw [fixN_len] at hc
    exact num_cut x 8 c hc
  simp only [if_neg e2] at hc ⊢
  by_cases e3 : k = 3
  · subst e3
    simp only [if_true] at hc ⊢
    rw [few_cut0 x c hx hc]
  simp only [if_neg e3] at hc ⊢
  by_cases e4 : k = 4
  · subst e4
    simp only [if_true] at hc ⊢
    rw [few_cut0 _ c (zz_lt (toI_ge hx).1 (toI_ge hx).2) hc]
  simp only [if_neg e4] at hc ⊢
  have hb := bn_len s
  by_cases e5 : k = 5
  · subst e5
    simp only [if_true] at hc ⊢
    rw [List.length_append] at hc
    unfold textS
    by_cases h1 : c < (uvar s.size).length
    · rw [List.take_append_of_le_length (by omega), few_cut0 _ c (by omega) h1]
      rfl
    · have h2 : (uvar s.size ++ bn s).take c = uvar s.size ++ (bn s).take (c - (uvar s.size).length) := by
        rw [List.take_append]
        rw [List.take_of_length_le (by omega)]
      rw [h2, few_uvar0 _ (by omega)]
      simp only [if_true]
      rw [if_neg (by omega), if_pos (by rw [List.length_append, List.length_take]; omega)]
  simp only [if_neg e5] at hc ⊢
  unfold rawS
  rw [if_neg (by omega), if_pos (by rw [List.length_take]; omega)]
theorem opTs_split (l : List OpD) (k : Nat) (o : OpD) (ho : l[k]? = some o) : ∃ rest, opTs l = opTs (l.take k) ++ (opT o ++ rest) := by
  refine ⟨opTs (l.drop (k + 1)), ?_⟩
  have h1 : l = l.take k ++ (o :: l.drop (k + 1)) := by
    have h2 := (List.take_append_drop k l).symm
    have hk : k < l.length := (List.getElem?_eq_some_iff.1 ho).1
    rw [List.drop_eq_getElem_cons hk] at h2
    rw [List.getElem?_eq_getElem hk] at ho
    injection ho with ho
    rw [ho] at h2
    exact h2
  conv => lhs; rw [h1]
  simp [opTs]
theorem opTs_lt {l : List OpD} {A : Option Addr} {w : World} (h : InOps w A l) : ∀ b ∈ opTs l, b < 256 := by
  intro b hb
  simp only [opTs, List.mem_flatMap] at hb
  obtain ⟨o, ho, hb⟩ := hb
  have hx := (h.1 o ho).x1
  unfold opT at hb
  repeat' split at hb
  all_goals first
    | exact fixN_lt _ _ b hb
    | exact uvar_lt _ b hb
    | exact bn_lt _ b hb
    | (rcases List.mem_append.1 hb with hb | hb
       · exact uvar_lt _ b hb
       · exact bn_lt _ b hb)
/-- What a reader of all of it reads at the place of a call. -/
theorem stO_back {L pre rest : List Nat} {o : OpD} (ho : o.Wf) (hL : ∀ b ∈ L, b < 256) (h : L = pre ++ (opT o ++ rest)) : stO (strN L) pre.length 0 (askO o) = (wantX o, wantS o, (pre ++ opT o).length, 0) := by
  unfold stO
  rw [if_pos rfl, bn_strN L hL, h, List.drop_left, opR_back o ho rest, List.length_append]
end Go.Proofs.Ytkeaijocjbldmaa
