/- A frame of which one byte is another one, in plain lists. -/
import Derived.Test.YtkeaijocjbldmaaFrameL
import Derived.Test.YtkeaijocjbldmaaToldPlain
namespace Go.Proofs.Ytkeaijocjbldmaa

def turn1 (l : List Nat) (p t : Nat) : List Nat := l.set p (l.getD p 0 ^^^ t)
theorem turn1_len (l : List Nat) (p t : Nat) : (turn1 l p t).length = l.length := by simp [turn1]
theorem turn1_lt {l : List Nat} {p t : Nat} (h : ∀ b ∈ l, b < 256) (ht : t < 256) : ∀ b ∈ turn1 l p t, b < 256 := by
  have := turnN_lt l p (fun _ => t) 1 h (fun _ => ht)
  simpa [turnN, turn1] using this
theorem told1 {l : List Nat} {p t : Nat} (ht : t < 256) (h0 : t ≠ 0) (hp : p < l.length) : crc (turn1 l p t) ≠ crc l := by
  have h := told l p (fun _ => t) (fun _ => ht) 1 (by omega) (by omega)
  have h2 : turnN l p (fun _ => t) 1 = turn1 l p t := by simp [turnN, turn1]
  rw [h2] at h
  have h3 : anyN (fun _ => t) 1 = true := by simp [anyN, h0]
  rw [h3] at h
  simpa using h
theorem turn1_ne {l : List Nat} {p t : Nat} (ht : t < 256) (h0 : t ≠ 0) (hp : p < l.length) : turn1 l p t ≠ l := fun h => told1 ht h0 hp (by rw [h])
theorem turn1_app1 (l m : List Nat) {p t : Nat} (h : p < l.length) : turn1 (l ++ m) p t = turn1 l p t ++ m := by
  unfold turn1
  rw [List.set_append_left _ _ h, List.getD_eq_getElem?_getD, List.getElem?_append_left h, ← List.getD_eq_getElem?_getD]
theorem turn1_app2 (l m : List Nat) {p t : Nat} (h : l.length ≤ p) : turn1 (l ++ m) p t = l ++ turn1 m (p - l.length) t := by
  unfold turn1
  rw [List.set_append_right _ _ h, List.getD_eq_getElem?_getD, List.getElem?_append_right h, ← List.getD_eq_getElem?_getD]
/-- Bytes in a frame's form. -/
theorem nextN_form (k : Nat) (b T : List Nat) (hb : b.length ≤ 100) (hT : T.length = 4) : nextN ((k :: b.length :: b) ++ T) =
    if k = 0 then (0, [], 0, 14) else if le T = crc (k :: b.length :: b) then (k, b, 1 + (1 + b.length) + 4, 0) else (0, [], 0, 13) := by
  have hu : uvar b.length = [b.length] := uvar_small (by omega)
  have he : (k :: b.length :: b) ++ T = k :: (uvar b.length ++ (b ++ T)) := by rw [hu]; rfl
  rw [he, nextN_cons]
  unfold nextC
  rw [textS_seal b T (by omega)]
  simp only [if_true, hu, List.length_cons, List.length_nil, Nat.zero_add]
  by_cases h0 : k = 0
  · rw [if_pos h0, if_pos h0]
  rw [if_neg h0, if_neg h0, if_neg (by simp only [List.length_append, List.length_cons, List.length_nil]; omega)]
  have h1 : ((k :: ([b.length] ++ (b ++ T))).take (1 + (1 + b.length))) = k :: b.length :: b := by
    rw [show 1 + (1 + b.length) = b.length + 1 + 1 by omega]
    simp
  have h2 : (([b.length] ++ (b ++ T)).drop (1 + b.length)).take 4 = T := by
    rw [show 1 + b.length = ([b.length] ++ b).length by rw [List.length_append]; rfl, ← List.append_assoc, List.drop_left, List.take_of_length_le (by omega)]
  rw [h1, h2]
theorem nextN_none {D : List Nat} (h : (nextN D).2.2.2 ≠ 0) : nextN D = (0, [], 0, (nextN D).2.2.2) := by
  cases D with
  | nil => rfl
  | cons k R =>
    rw [nextN_cons] at h ⊢
    unfold nextC at h ⊢
    split
    · rfl
    · rename_i h1
      rw [if_neg h1] at h
      split
      · rename_i h2
        rw [if_pos h2] at h
        split
        · rfl
        · rename_i h3
          rw [if_neg h3] at h
          split
          · rename_i h4
            rw [if_pos h4] at h
            exact absurd rfl h
          · rfl
      · rfl
/-- A byte that does not tell how long it is: no frame. -/
theorem told_none {k : Nat} {b : List Nat} {p t : Nat} (hk : k < 256) (h0 : k ≠ 0) (hb : ∀ x ∈ b, x < 256) (hl : b.length ≤ 100) (ht : t < 256) (ht0 : t ≠ 0) (hp : p < (sealN k b).length) (hp1 : p ≠ 1) :
    (nextN (turn1 (sealN k b) p t)).2.2.2 ≠ 0 := by
  have hu : uvar b.length = [b.length] := uvar_small (by omega)
  have hH : headN k b = k :: b.length :: b := by unfold headN; rw [hu]; rfl
  have hc := crc_lt (headN_lt hk hb)
  have hlc : le (fixN (crc (headN k b)) 4) = crc (headN k b) := by rw [le_fixN]; exact Nat.mod_eq_of_lt (by simpa using hc)
  have hlen : (headN k b).length = b.length + 2 := by rw [hH]; rfl
  have hpl : p < b.length + 6 := by
    unfold sealN at hp
    rw [List.length_append, hlen, fixN_len] at hp
    omega
  unfold sealN
  by_cases hph : p < b.length + 2
  · rw [turn1_app1 _ _ (by rw [hlen]; exact hph)]
    have hne := told1 (l := headN k b) ht ht0 (p := p) (by rw [hlen]; exact hph)
    by_cases hp0 : p = 0
    · subst hp0
      have e : turn1 (headN k b) 0 t = (k ^^^ t) :: b.length :: b := by rw [hH]; rfl
      rw [e] at hne ⊢
      rw [nextN_form _ b _ hl (fixN_len _ _)]
      split
      · simp
      · rw [if_neg (by rw [hlc]; exact fun h => hne h.symm)]; simp
    · have e : turn1 (headN k b) p t = k :: b.length :: turn1 b (p - 2) t := by
        rw [hH, show k :: b.length :: b = [k, b.length] ++ b from rfl, turn1_app2 _ _ (by simp; omega)]
        rfl
      have el : (turn1 b (p - 2) t).length = b.length := turn1_len _ _ _
      have e2 : k :: b.length :: turn1 b (p - 2) t = k :: (turn1 b (p - 2) t).length :: turn1 b (p - 2) t := by rw [el]
      rw [e, e2] at hne ⊢
      rw [nextN_form _ _ _ (by rw [el]; exact hl) (fixN_len _ _), if_neg h0, if_neg (by rw [hlc]; exact fun h => hne h.symm)]
      simp
  · rw [turn1_app2 _ _ (by rw [hlen]; omega)]
    have hT4 : (turn1 (fixN (crc (headN k b)) 4) (p - (headN k b).length) t).length = 4 := by rw [turn1_len, fixN_len]
    have hne := turn1_ne (l := fixN (crc (headN k b)) 4) (p := p - (headN k b).length) ht ht0 (by rw [fixN_len, hlen]; omega)
    have hlt := turn1_lt (l := fixN (crc (headN k b)) 4) (p := p - (headN k b).length) (fixN_lt _ _) ht
    have hle : le (turn1 (fixN (crc (headN k b)) 4) (p - (headN k b).length) t) ≠ crc (headN k b) := fun h => hne ((fix_eq_iff hc hT4 hlt).2 h).symm
    generalize turn1 (fixN (crc (headN k b)) 4) (p - (headN k b).length) t = T at *
    rw [hH] at hle ⊢
    rw [nextN_form _ _ _ hl hT4, if_neg h0, if_neg hle]
    simp
/-- The one that tells how long it is: none, or another body. -/
theorem told_one {k : Nat} {b : List Nat} {t : Nat} (_hk : k < 256) (hb : ∀ x ∈ b, x < 256) (hl : b.length ≤ 100) (ht : t < 256) (ht0 : t ≠ 0)
    (he : (nextN (turn1 (sealN k b) 1 t)).2.2.2 = 0) : (nextN (turn1 (sealN k b) 1 t)).1 = k ∧ (nextN (turn1 (sealN k b) 1 t)).2.1 ≠ b := by
  have hu : uvar b.length = [b.length] := uvar_small (by omega)
  have hS : turn1 (sealN k b) 1 t = k :: ((b.length ^^^ t) :: (b ++ fixN (crc (headN k b)) 4)) := by
    unfold sealN
    have hH : headN k b = k :: b.length :: b := by unfold headN; rw [hu]; rfl
    conv => lhs; rw [hH]
    rw [hH]
    rfl
  have hx : b.length ^^^ t ≠ b.length := fun h => ht0 (by have := congrArg (b.length ^^^ ·) h; simp only [xor_cancel, Nat.xor_self] at this; exact this)
  rw [hS] at he ⊢
  have hRlt : ∀ x ∈ ((b.length ^^^ t) :: (b ++ fixN (crc (headN k b)) 4)), x < 256 := by
    intro x hx
    rcases List.mem_cons.1 hx with rfl | hx
    · exact Nat.xor_lt_two_pow (n := 8) (by omega) ht
    · rcases List.mem_append.1 hx with hx | hx
      · exact hb x hx
      · exact fixN_lt _ _ x hx
  generalize hRR : (b.length ^^^ t) :: (b ++ fixN (crc (headN k b)) 4) = R at *
  rw [nextN_cons] at he ⊢
  unfold nextC at he ⊢
  split at he
  · simp at he
  · rename_i h1
    rw [if_neg h1]
    split at he
    · rename_i h2
      rw [if_pos h2]
      split at he
      · simp at he
      · rename_i h3
        rw [if_neg h3]
        split at he
        · rename_i h4
          rw [if_pos h4]
          refine ⟨rfl, fun hbb => ?_⟩
          replace hbb : (textS 1048576 R).1 = b := hbb
          unfold textS at hbb h2
          split at h2
          · rename_i hf
            rw [if_pos hf] at hbb
            split at h2
            · simp at h2
            · rename_i h5
              rw [if_neg h5] at hbb
              split at h2
              · simp at h2
              · rename_i h6
                rw [if_neg h6] at hbb
                have hll := congrArg List.length hbb
                have h7 : ((R.drop (few R 0).2.1).take (few R 0).1).length = (few R 0).1 := by rw [List.length_take, List.length_drop]; omega
                rw [h7] at hll
                have h8 := (few_one R 0 hRlt hf).1
                rw [hll, hu] at h8
                have h9 : R.take (few R 0).2.1 = [b.length] := h8
                rw [← hRR] at h9
                cases hn : (few ((b.length ^^^ t) :: (b ++ fixN (crc (headN k b)) 4)) 0).2.1 with
                | zero => rw [hn] at h9; simp at h9
                | succ m =>
                  rw [hn, List.take_succ_cons] at h9
                  injection h9 with h9 _
                  exact hx h9
          · rename_i hf
            exact absurd h2 hf
        · simp at he
    · rename_i h2
      exact absurd he h2
end Go.Proofs.Ytkeaijocjbldmaa
