/- Frames one behind the other, and their beginnings, in plain lists. -/
import Derived.Test.YtkeaijocjbldmaaFrameL
namespace Go.Proofs.Ytkeaijocjbldmaa

/-- A frame to be sealed: its kind, its body. -/
abbrev FrK := Nat × List Nat
def FrK.Ok (f : FrK) : Prop := 0 < f.1 ∧ f.1 < 256 ∧ (∀ x ∈ f.2, x < 256) ∧ f.2.length ≤ 1048576
def sealsN (l : List FrK) : List Nat := l.flatMap fun f => sealN f.1 f.2
def placed : List FrK → Nat → List (Nat × List Nat × Nat)
  | [], _ => []
  | f :: l, a => (f.1, f.2, a) :: placed l (a + sizeN f.2.length)
theorem sealsN_cons (f : FrK) (l : List FrK) : sealsN (f :: l) = sealN f.1 f.2 ++ sealsN l := by simp [sealsN]
theorem sealsN_app (l m : List FrK) : sealsN (l ++ m) = sealsN l ++ sealsN m := by simp [sealsN]
theorem sealsN_snoc (l : List FrK) (f : FrK) : sealsN (l ++ [f]) = sealsN l ++ sealN f.1 f.2 := by simp [sealsN]
theorem placed_len (l : List FrK) : ∀ a, (placed l a).length = l.length := by
  induction l with
  | nil => intro a; rfl
  | cons f l ih => intro a; simp [placed, ih]
theorem placed_shift (l : List FrK) (s : Nat) : ∀ a, (placed l a).map (shiftF s) = placed l (s + a) := by
  induction l with
  | nil => intro a; rfl
  | cons f l ih =>
    intro a
    rw [placed, List.map_cons, ih, placed, Nat.add_assoc]
    rfl
theorem placed_get (l : List FrK) : ∀ (i a : Nat) (f : FrK), l[i]? = some f → (placed l a)[i]? = some (f.1, f.2, a + (sealsN (l.take i)).length) := by
  induction l with
  | nil => intro i a f h; simp at h
  | cons g l ih =>
    intro i a f h
    cases i with
    | zero =>
      obtain rfl : g = f := by simpa using h
      simp [placed, sealsN]
    | succ i =>
      rw [placed, List.getElem?_cons_succ, ih i _ f (by simpa using h), List.take_succ_cons, sealsN_cons, List.length_append, sealN_len, Nat.add_assoc]
theorem sealsN_lt {l : List FrK} (h : ∀ f ∈ l, f.Ok) : ∀ x ∈ sealsN l, x < 256 := by
  intro x hx
  simp only [sealsN, List.mem_flatMap] at hx
  obtain ⟨f, hf, hx⟩ := hx
  exact sealN_lt (h f hf).2.1 (h f hf).2.2.1 x hx
theorem shift_shift (s t : Nat) (l : List (Nat × List Nat × Nat)) : (l.map (shiftF s)).map (shiftF t) = l.map (shiftF (t + s)) := by
  rw [List.map_map]
  refine List.map_congr_left fun f _ => ?_
  simp [shiftF, Nat.add_assoc]
theorem scan_seals (l : List FrK) (h : ∀ f ∈ l, f.Ok) (R : List Nat) : scanN (sealsN l ++ R) 0 = (placed l 0 ++ (scanN R 0).1.map (shiftF (sealsN l).length), (sealsN l).length + (scanN R 0).2.1, (scanN R 0).2.2) := by
  induction l with
  | nil =>
    show scanN R 0 = _
    have : (scanN R 0).1.map (shiftF 0) = (scanN R 0).1 := by
      conv => rhs; rw [← List.map_id (scanN R 0).1]
      refine List.map_congr_left fun f _ => ?_
      simp [shiftF]
    simp only [sealsN, List.flatMap_nil, List.length_nil, placed, List.nil_append, Nat.zero_add, this]
  | cons f l ih =>
    have hf := h f (by simp)
    rw [sealsN_cons, List.append_assoc, scanN_seal hf.2.1 hf.1 hf.2.2.1 hf.2.2.2, ih (fun g hg => h g (by simp [hg]))]
    simp only [List.map_append, placed_shift, shift_shift, List.length_append, placed, Nat.zero_add, Nat.add_zero, sealN_len, Nat.add_assoc, List.cons_append]
theorem nextN_short {k : Nat} {b : List Nat} (h0 : 0 < k) (hl : b.length ≤ 1048576) {c : Nat} (hc0 : 0 < c) (hc : c < (sealN k b).length) : nextN ((sealN k b).take c) = (0, [], 0, 10) := by
  have he : sealN k b = k :: (uvar b.length ++ (b ++ fixN (crc (headN k b)) 4)) := by
    unfold sealN headN
    simp [List.append_assoc]
  have hF : (fixN (crc (headN k b)) 4).length = 4 := fixN_len _ _
  generalize fixN (crc (headN k b)) 4 = F at *
  obtain ⟨d, rfl⟩ : ∃ d, c = d + 1 := ⟨c - 1, by omega⟩
  rw [he] at hc ⊢
  simp only [List.length_cons, List.length_append, hF] at hc
  rw [List.take_succ_cons, nextN_cons]
  unfold nextC
  rw [if_neg (by omega)]
  by_cases h1 : d < (uvar b.length).length
  · rw [List.take_append_of_le_length (by omega)]
    have ht : textS 1048576 ((uvar b.length).take d) = ([], 0, 10) := by
      unfold textS
      rw [few_cut0 _ d (by omega) h1]
      rfl
    rw [ht]
    rfl
  · have hu : (uvar b.length ++ (b ++ F)).take d = uvar b.length ++ (b ++ F).take (d - (uvar b.length).length) := by
      rw [List.take_append, List.take_of_length_le (by omega)]
    rw [hu]
    by_cases h2 : d - (uvar b.length).length < b.length
    · rw [List.take_append_of_le_length (by omega)]
      have ht : textS 1048576 (uvar b.length ++ b.take (d - (uvar b.length).length)) = ([], 0, 10) := by
        unfold textS
        rw [few_uvar0 _ (by omega)]
        simp only [if_true]
        rw [if_neg (by omega), if_pos (by rw [List.length_append, List.length_take]; omega)]
      rw [ht]
      rfl
    · have hb : (b ++ F).take (d - (uvar b.length).length) = b ++ F.take (d - (uvar b.length).length - b.length) := by
        rw [List.take_append, List.take_of_length_le (by omega)]
      rw [hb, textS_seal b _ hl]
      simp only [if_true]
      rw [if_pos (by simp only [List.length_append, List.length_take, hF]; omega)]
theorem scan_cut (l : List FrK) (h : ∀ f ∈ l, f.Ok) (N c : Nat) (hc : c ≤ (sealsN l).length) (hN : (sealsN (l.take N)).length ≤ c)
    (hn : N = l.length ∨ (N < l.length ∧ c < (sealsN (l.take (N + 1))).length)) :
    scanN ((sealsN l).take c) 0 = (placed (l.take N) 0, (sealsN (l.take N)).length, if (sealsN (l.take N)).length = c then 0 else 10) := by
  have hsp : sealsN l = sealsN (l.take N) ++ sealsN (l.drop N) := by rw [← sealsN_app, List.take_append_drop]
  have hok : ∀ f ∈ l.take N, f.Ok := fun f hf => h f (List.mem_of_mem_take hf)
  have h1 : (sealsN l).take c = sealsN (l.take N) ++ (sealsN (l.drop N)).take (c - (sealsN (l.take N)).length) := by
    conv => lhs; rw [hsp]
    rw [List.take_append, List.take_of_length_le hN]
  rw [h1, scan_seals _ hok]
  by_cases he : (sealsN (l.take N)).length = c
  · rw [if_pos he, he, Nat.sub_self, List.take_zero, scanN_done (by simp)]
    simp
  · rw [if_neg he]
    have hR : scanN ((sealsN (l.drop N)).take (c - (sealsN (l.take N)).length)) 0 = ([], 0, 10) := by
      rcases hn with rfl | ⟨hlt, hcut⟩
      · rw [List.take_length] at hN he
        omega
      · obtain ⟨f, hf⟩ : ∃ f, l[N]? = some f := ⟨_, List.getElem?_eq_getElem hlt⟩
        have hfo := h f (List.mem_of_getElem? hf)
        have hd : l.drop N = f :: l.drop (N + 1) := by
          rw [List.drop_eq_getElem_cons hlt]
          rw [List.getElem?_eq_getElem hlt] at hf
          injection hf with hf
          rw [hf]
        have ht : l.take (N + 1) = l.take N ++ [f] := by rw [List.take_add_one, hf]; rfl
        rw [ht, sealsN_snoc, List.length_append] at hcut
        rw [hd, sealsN_cons, List.take_append_of_le_length (by omega)]
        have hs := nextN_short hfo.1 hfo.2.2.2 (c := c - (sealsN (l.take N)).length) (b := f.2) (by omega) (by omega)
        rw [scanN_bad (by rw [List.length_take]; omega) (by rw [List.drop_zero, hs]; simp), List.drop_zero, hs]
    rw [hR]
    simp
end Go.Proofs.Ytkeaijocjbldmaa
