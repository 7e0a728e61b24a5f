/- Columns: what cells a Decode gives: of their kind alone, and as many as are asked for. Schema: whether a cell may be of a column. -/
import Derived.Test.YtfkgmodgkifelaaGreatDoorJ23
import Derived.Test.YtfkgmodgkifelaaGreatDoorJ25
import Derived.Test.YtfkgmodgkifelaaGreatDoorJ26
import Derived.Test.YtfkgmodgkifelaaGreatDoorJ14
import Derived.Test.YtfkgmodgkifelaaGreatDoorJ07
import Derived.Laws.EntriesVeiled
import Derived.Test.YtfkgmodgkifelaaGreatDoorJ09
import Derived.Shelf.Abstract
namespace Go.Proofs.YtfkgmodgkifelaaGreatDoor
open Go.RowKit

/-- A cell of a kind: nothing of it but what is of the kind. -/
structure Pur (k : Int) (c : CD) : Prop where
  kg : KG c
  tb : c.t.size ≤ 600
  b : k ≠ 1 → c.b = false
  x : k ≠ 2 → c.x = 0
  u : k ≠ 3 → c.u = 0
  t : ¬ (k = 4 ∨ k = 5) → c.t = ByteArray.empty
  v : k = 5 → Lib.validD c.t.data.toList = true
  p : k ≠ 6 → c.p = 0
  q : k ≠ 6 → c.q = 0
theorem pur_z (k : Int) : Pur k CD.z := ⟨kg_z, by show (0 : Nat) ≤ 600; omega, fun _ => rfl, fun _ => rfl, fun _ => rfl, fun _ => rfl, fun _ => by kernel_rfl, fun _ => rfl, fun _ => rfl⟩
theorem pur_ite {k : Int} {c : Prop} [Decidable c] {a b : CD × Nat × Nat × Nat} (ha : c → Pur k a.1) (hb : ¬ c → Pur k b.1) : Pur k (if c then a else b).1 := by
  by_cases h : c
  · rw [if_pos h]; exact ha h
  · rw [if_neg h]; exact hb h
/-- Bytes that are few. -/
structure Bys (D : List Nat) : Prop where
  lt : ∀ b ∈ D, b < 256
  le : D.length ≤ 600
theorem Bys.drop {D : List Nat} (h : Bys D) (p : Nat) : Bys (D.drop p) := ⟨fun b hb => h.lt b (List.mem_of_mem_drop hb), by rw [List.length_drop]; have := h.le; omega⟩
theorem bys_bn (s : ByteArray) (h : s.size ≤ 600) : Bys (bn s) := ⟨fun b hb => by
  unfold bn at hb
  obtain ⟨x, _, rfl⟩ := List.mem_map.1 hb
  exact x.toNat_lt, by rw [bn_len]; exact h⟩
theorem e_sz : (ByteArray.empty).size ≤ maxLen := by simp [maxLen, ByteArray.size]
theorem e_sz6 : (ByteArray.empty).size ≤ 600 := by simp [ByteArray.size]
theorem gp_pur (k : Int) (h1 : 1 ≤ k) (h6 : k ≤ 6) (D : List Nat) (hD : Bys D) : Pur k (gp k D).1 := by
  have h8 := num8_lt hD.lt
  have ht6 : (strN (textS 1048576 D).1).size ≤ 600 := by
    have := (textS_le 1048576 D).2
    have := hD.le
    rw [strN_size]; omega
  have ht : (strN (textS 1048576 D).1).size ≤ maxLen := Nat.le_trans ht6 (by simp [maxLen])
  have hk : k = 1 ∨ k = 2 ∨ k = 3 ∨ k = 4 ∨ k = 5 ∨ k = 6 := by omega
  rcases hk with rfl | rfl | rfl | rfl | rfl | rfl
  · show Pur 1 (gp1 D).1
    unfold gp1
    exact pur_ite (fun _ => pur_ite (fun _ => ⟨kg_mk0 _ _ _ _ (by omega) (by omega) (by omega) (by omega) e_sz, e_sz6, fun h => absurd rfl h, fun _ => rfl, fun _ => rfl, fun _ => rfl, fun h => by omega, fun _ => rfl, fun _ => rfl⟩) (fun _ => pur_z 1)) (fun _ => pur_z 1)
  · show Pur 2 (gp2 D).1
    unfold gp2
    exact pur_ite (fun _ => ⟨kg_mk0 _ _ _ _ (wrap_lo _) (wrap_hi _) (by omega) (by omega) e_sz, e_sz6, fun _ => rfl, fun h => absurd rfl h, fun _ => rfl, fun _ => rfl, fun h => by omega, fun _ => rfl, fun _ => rfl⟩) (fun _ => pur_z 2)
  · show Pur 3 (gp3 D).1
    unfold gp3
    exact pur_ite (fun _ => ⟨kg_mk0 _ _ _ _ (by omega) (by omega) (by omega) (by omega) e_sz, e_sz6, fun _ => rfl, fun _ => rfl, fun h => absurd rfl h, fun _ => rfl, fun h => by omega, fun _ => rfl, fun _ => rfl⟩) (fun _ => pur_z 3)
  · show Pur 4 (gp4 D).1
    unfold gp4
    exact pur_ite (fun _ => ⟨kg_mk0 _ _ _ _ (by omega) (by omega) (by omega) (by omega) ht, ht6, fun _ => rfl, fun _ => rfl, fun _ => rfl, fun h => absurd (.inl rfl) h, fun h => by omega, fun _ => rfl, fun _ => rfl⟩) (fun _ => pur_z 4)
  · show Pur 5 (gp5 D).1
    unfold gp5
    exact pur_ite (fun _ => pur_ite (fun hv => ⟨kg_mk0 _ _ _ _ (by omega) (by omega) (by omega) (by omega) ht, ht6, fun _ => rfl, fun _ => rfl, fun _ => rfl, fun h => absurd (.inr rfl) h, fun _ => hv, fun _ => rfl, fun _ => rfl⟩) (fun _ => pur_z 5)) (fun _ => pur_z 5)
  · show Pur 6 (gp6 D).1
    unfold gp6
    refine pur_ite (fun _ => pur_ite (fun _ => pur_ite (fun _ => pur_z 6) (fun hf => ?_)) (fun _ => pur_z 6)) (fun _ => pur_z 6)
    rw [not_or] at hf
    exact ⟨kg_mk _ _ _ _ _ _ (by omega) (by omega) (by omega) (by omega) e_sz (far_abs hf.1) (far_abs hf.2), e_sz6, fun _ => rfl, fun _ => rfl, fun _ => rfl, fun _ => rfl, fun h => by omega, fun h => absurd rfl h, fun h => absurd rfl h⟩
theorem bc_pur (b : Bool) : Pur 1 (bc b) := ⟨kg_mk0 _ _ _ _ (by omega) (by omega) (by omega) (by omega) e_sz, e_sz6, fun h => absurd rfl h, fun _ => rfl, fun _ => rfl, fun _ => rfl, fun h => by omega, fun _ => rfl, fun _ => rfl⟩
/-- What a Decode answers: cells of the kind; where nothing is wrong as many as are asked for, else none. -/
structure Dec (k : Int) (n : Int) (r : Nat × List CD) : Prop where
  pur : ∀ c ∈ r.2, Pur k c
  len : r.1 = 0 → (r.2.length : Int) = n
  le : r.2.length ≤ 10000
  er : r.1 < 100
theorem dec_err {k n : Int} {e : Nat} (h : e ≠ 0) (he : e < 100) : Dec k n (e, []) := ⟨(fun _ hx => by cases hx), (fun h2 => absurd h2 h), (by simp), he⟩
theorem few_e (D : List Nat) (a : Nat) : (few D a).2.2 < 100 := by
  rcases few_err D a with h | h | h
  · omega
  · rw [h]; simp
  · rw [h]; simp
theorem num_e (n : Nat) (D : List Nat) : (num n D).2.2 < 100 := by
  rcases num_err n D with h | h
  · omega
  · rw [h]; simp
theorem textS_e (m : Int) (D : List Nat) : (textS m D).2.2 < 100 := by
  unfold textS
  split
  · split
    · simp
    · split <;> simp
  · exact few_e D 0
theorem gp_er (k : Int) (D : List Nat) : (gp k D).2.2.2 < 100 := by
  have n1 := num_e 1 D
  have n8 := num_e 8 D
  have ht := textS_e 1048576 D
  have f0 := few_e D 0
  have f1 := few_e (D.drop (few D 0).2.1) 0
  unfold gp
  repeat' split
  · unfold gp1; repeat' split
    all_goals first | exact n1 | exact Nat.zero_lt_succ 99 | exact (by decide : (12 : Nat) < 100)
  · unfold gp2; repeat' split
    all_goals first | exact n8 | exact Nat.zero_lt_succ 99
  · unfold gp3; repeat' split
    all_goals first | exact n8 | exact Nat.zero_lt_succ 99
  · unfold gp4; repeat' split
    all_goals first | exact ht | exact Nat.zero_lt_succ 99 | exact (by decide : (12 : Nat) < 100)
  · unfold gp5; repeat' split
    all_goals first | exact ht | exact Nat.zero_lt_succ 99 | exact (by decide : (12 : Nat) < 100)
  · unfold gp6; repeat' split
    all_goals first | exact f0 | exact f1 | exact Nat.zero_lt_succ 99 | exact (by decide : (12 : Nat) < 100)
theorem errN_e (k : Int) (D : List Nat) : ∀ n, errN k D n < 100
  | 0 => by unfold errN; omega
  | n + 1 => by
    unfold errN
    split
    · exact gp_er _ _
    · exact errN_e k D n
theorem unR_e (s : List Nat) (n : Int) : (unR s n).1 < 100 := by
  unfold unR
  repeat' split
  all_goals first | exact Nat.zero_lt_succ 99 | exact (by decide : (1 : Nat) < 100) | exact (by decide : (10 : Nat) < 100) | exact (by decide : (11 : Nat) < 100) | exact (by decide : (12 : Nat) < 100)
theorem dspec_dec (k : Int) (h1 : 1 ≤ k) (h6 : k ≤ 6) (D : List Nat) (hD : Bys D) (n : Int) : Dec k n (dspec k D n) := by
  unfold dspec
  rw [if_neg (by omega)]
  by_cases hn : n < 0 ∨ 10000 < n
  · rw [if_pos hn]; exact dec_err (by decide) (by decide)
  rw [if_neg hn]
  obtain ⟨m, rfl⟩ : ∃ m : Nat, n = m := ⟨n.toNat, by omega⟩
  by_cases hk : k = 1
  · subst hk
    rw [if_pos rfl]
    refine ⟨fun c hc => ?_, fun h => ?_, ?_, unR_e D m⟩
    · obtain ⟨b, _, rfl⟩ := List.mem_map.1 hc; exact bc_pur b
    · show ((((unR D m).2).map bc).length : Int) = m
      rw [List.length_map, unR_len D m h]
    · show (((unR D m).2).map bc).length ≤ 10000
      rw [List.length_map]
      by_cases h0 : (unR D m).1 = 0
      · rw [unR_len D m h0]; omega
      · rw [unR_err D m h0]; simp
  · rw [if_neg hk]
    unfold decR
    by_cases he : errN k D m = 0
    · rw [show (m : Int).toNat = m from rfl, if_pos he]
      by_cases hp : posn k D m < D.length
      · rw [if_pos hp]; exact dec_err (by decide) (by decide)
      · rw [if_neg hp]
        refine ⟨fun c hc => ?_, (fun _ => by show ((cellsN k D m).length : Int) = m; rw [cellsN_len]), by show (cellsN k D m).length ≤ 10000; rw [cellsN_len]; omega, Nat.zero_lt_succ 99⟩
        obtain ⟨i, _, rfl⟩ := List.mem_map.1 hc
        exact gp_pur k h1 h6 _ (hD.drop _)
    · rw [show (m : Int).toNat = m from rfl, if_neg he]; exact dec_err he (errN_e _ _ _)
theorem dcell_pur (k : Int) (D : List Nat) (i : Nat) (h : eN (dferr k D) i = 0) (hk : k = 2 ∨ k = 3 ∨ k = 6) : Pur k (dcell k (dsq k D i)) := by
  unfold dcell
  rcases hk with rfl | rfl | rfl
  · exact ⟨kg_mk0 _ _ _ _ (wrap_lo _) (wrap_hi _) (by omega) (by omega) e_sz, e_sz6, fun _ => rfl, fun h => absurd rfl h, fun _ => rfl, fun _ => rfl, fun h => by omega, fun _ => rfl, fun _ => rfl⟩
  · have := dnow_lt 3 D i
    exact ⟨kg_mk0 _ _ _ _ (by omega) (by omega) (by omega) (by omega) e_sz, e_sz6, fun _ => rfl, fun _ => rfl, fun h => absurd rfl h, fun _ => rfl, fun h => by omega, fun _ => rfl, fun _ => rfl⟩
  · obtain ⟨n1, n2⟩ := dnear D i h
    exact ⟨kg_mk _ _ _ _ _ _ (by omega) (by omega) (by omega) (by omega) e_sz n1 n2, e_sz6, fun _ => rfl, fun _ => rfl, fun _ => rfl, fun _ => rfl, fun h => by omega, fun h => absurd rfl h, fun h => absurd rfl h⟩
theorem dferr_e (k : Int) (D : List Nat) (i : Nat) : dferr k D i < 100 := by
  unfold dferr derr
  repeat' split
  all_goals first | exact gp_er _ _ | exact few_e _ _ | decide
theorem eN_e (f : Nat → Nat) (hf : ∀ i, f i < 100) : ∀ n, eN f n < 100
  | 0 => by unfold eN; omega
  | n + 1 => by
    unfold eN
    split
    · exact hf _
    · exact eN_e f hf n
theorem lspec_dec (k : Int) (D : List Nat) (n : Int) : Dec k n (lspec k D n) := by
  unfold lspec
  by_cases hk : ¬ (k = 2 ∨ k = 3 ∨ k = 6)
  · rw [if_pos hk]; exact dec_err (by decide) (by decide)
  rw [if_neg hk]
  by_cases hn : n < 0 ∨ 10000 < n
  · rw [if_pos hn]; exact dec_err (by decide) (by decide)
  rw [if_neg hn]
  obtain ⟨m, rfl⟩ : ∃ m : Nat, n = m := ⟨n.toNat, by omega⟩
  unfold decD outR
  by_cases he : eN (dferr k D) (m : Int).toNat = 0
  · rw [if_pos he]
    split
    · exact dec_err (by decide) (by decide)
    · refine ⟨fun c hc => ?_, (fun _ => by simp), (by simp; omega), Nat.zero_lt_succ 99⟩
      obtain ⟨i, hi, rfl⟩ := List.mem_map.1 hc
      rw [List.mem_range] at hi
      have := eN_le _ _ he i hi
      exact dcell_pur k D (i + 1) ((eN_succ _ i this.2).trans this.1) (Decidable.not_not.1 hk)
  · rw [if_neg he]; exact dec_err he (eN_e _ (dferr_e k D) _)
theorem rgo_dec (k : Int) (h1 : 1 ≤ k) (h6 : k ≤ 6) (D : List Nat) (hD : Bys D) (n : Nat) : ∀ (f p : Nat) (L : List (CD × Nat)), D.length < f + p → p ≤ D.length → tot L ≤ n → (∀ x ∈ L, Pur k x.1) →
    tot (rgo k D n f p L).2 ≤ n ∧ (∀ x ∈ (rgo k D n f p L).2, Pur k x.1) ∧ ((rgo k D n f p L).1 = 0 → tot (rgo k D n f p L).2 = n) ∧ (rgo k D n f p L).1 < 100 := by
  intro f
  induction f with
  | zero => intro p L hf hp _ _; omega
  | succ f ih =>
    intro p L hf hpd g1 g2
    have hz : ∀ e : Nat, e ≠ 0 → e < 100 → tot ([] : List (CD × Nat)) ≤ n ∧ (∀ x ∈ ([] : List (CD × Nat)), Pur k x.1) ∧ (e = 0 → tot ([] : List (CD × Nat)) = n) ∧ e < 100 := fun e he h => ⟨by simp [tot], by simp, fun h => absurd h he, h⟩
    unfold rgo
    split
    · split
      · exact hz 10 (by decide) (by decide)
      · exact ⟨g1, g2, fun _ => by show tot L = n; omega, by show 0 < 100; omega⟩
    · split
      · split
        · split
          · exact hz 12 (by decide) (by decide)
          · rename_i hlt hfe hge hc
            have hfl := few_le (D.drop p) 0 hfe
            have hgl := gp_le k (D.drop (p + (few (D.drop p) 0).2.1))
            rw [List.length_drop] at hfl hgl
            refine ih _ _ ?_ ?_ ?_ ?_
            · have := hfl.2
              omega
            · have := hfl.1
              omega
            · rw [tot_snoc]
              by_cases hb : n - tot L < (few (D.drop p) 0).1
              · exact absurd (Or.inr (Or.inl hb)) hc
              · show tot L + (few (D.drop p) 0).1 ≤ n
                omega
            · intro x hx
              rcases List.mem_append.1 hx with h | h
              · exact g2 x h
              · rw [List.mem_singleton] at h; rw [h]; exact gp_pur k h1 h6 _ (hD.drop _)
        · rename_i h; exact hz _ h (gp_er _ _)
      · rename_i h; exact hz _ h (few_e _ _)
theorem rspec_dec (k : Int) (h1 : 1 ≤ k) (h6 : k ≤ 6) (D : List Nat) (hD : Bys D) (n : Int) : Dec k n (rspec k D n) := by
  unfold rspec
  rw [if_neg (by omega)]
  by_cases hn : n < 0 ∨ 10000 < n
  · rw [if_pos hn]; exact dec_err (by decide) (by decide)
  rw [if_neg hn]
  obtain ⟨m, rfl⟩ : ∃ m : Nat, n = m := ⟨n.toNat, by omega⟩
  obtain ⟨a, b, c, d⟩ := rgo_dec k h1 h6 D hD m (D.length + 1) 0 [] (by omega) (by omega) (by simp [tot]) (by simp)
  refine ⟨fun x hx => ?_, fun h => ?_, ?_, d⟩
  · unfold cellsL at hx
    obtain ⟨y, hy, hcx⟩ := List.mem_flatMap.1 hx
    rw [(List.mem_replicate.1 hcx).2]
    exact b y hy
  · show ((cellsL _).length : Int) = m
    rw [cellsL_len]
    have := c h
    show ((tot (rgo k D m (D.length + 1) 0 []).2 : Nat) : Int) = m
    omega
  · show (cellsL _).length ≤ 10000
    rw [cellsL_len]
    show tot (rgo k D m (D.length + 1) 0 []).2 ≤ 10000
    omega
theorem dgo_dec (k : Int) (h1 : 1 ≤ k) (h6 : k ≤ 6) (D : List Nat) (hD : Bys D) : ∀ (m p : Nat) (l : List CD), (∀ c ∈ l, Pur k c) → (∀ c ∈ (dgo k D m p l).2.2, Pur k c) ∧ (dgo k D m p l).1 < 100 := by
  intro m
  induction m with
  | zero => intro p l h; exact ⟨h, by show 0 < 100; omega⟩
  | succ m ih =>
    intro p l h
    rw [dgo]
    split
    · split
      · exact ⟨by simp, by show 12 < 100; omega⟩
      · refine ih _ _ ?_
        intro c hc
        rcases List.mem_append.1 hc with h2 | h2
        · exact h c h2
        · rw [List.mem_singleton] at h2; rw [h2]; exact gp_pur k h1 h6 _ (hD.drop _)
    · exact ⟨by simp, gp_er _ _⟩
theorem pgo_dec (k : Int) (D : List Nat) (dl : List CD) (hd : ∀ c ∈ dl, Pur k c) : ∀ (m p seen : Nat) (out : List CD), (∀ c ∈ out, Pur k c) →
    (∀ c ∈ (pgo D dl m p seen out).2, Pur k c) ∧ ((pgo D dl m p seen out).1 = 0 → (pgo D dl m p seen out).2.length = out.length + m) ∧ (pgo D dl m p seen out).2.length ≤ out.length + m ∧ (pgo D dl m p seen out).1 < 100 := by
  intro m
  induction m with
  | zero =>
    intro p seen out h
    rw [pgo]
    split
    · exact ⟨(by simp), (fun h => by cases h), (by simp), (by show _ < 100; first | exact Nat.zero_lt_succ 99 | exact (by decide : (11 : Nat) < 100) | exact (by decide : (12 : Nat) < 100))⟩
    · split
      · exact ⟨(by simp), (fun h => by cases h), (by simp), (by show _ < 100; first | exact Nat.zero_lt_succ 99 | exact (by decide : (11 : Nat) < 100) | exact (by decide : (12 : Nat) < 100))⟩
      · exact ⟨h, fun _ => rfl, Nat.le_refl _, by show 0 < 100; omega⟩
  | succ m ih =>
    intro p seen out h
    rw [pgo]
    split
    · split
      · exact ⟨(by simp), (fun h => by cases h), (by simp), (by show _ < 100; first | exact Nat.zero_lt_succ 99 | exact (by decide : (11 : Nat) < 100) | exact (by decide : (12 : Nat) < 100))⟩
      · have h2 := ih (p + (few (D.drop p) 0).2.1) (if (few (D.drop p) 0).1 = seen then seen + 1 else seen) (out ++ [dl.getD (few (D.drop p) 0).1 CD.z]) (by
          intro c hc
          rcases List.mem_append.1 hc with h2 | h2
          · exact h c h2
          · rw [List.mem_singleton] at h2
            rw [h2, List.getD]
            cases hq : dl[(few (D.drop p) 0).1]? with
            | none => exact pur_z k
            | some x => exact hd x (List.mem_of_getElem? hq))
        refine ⟨h2.1, fun h3 => ?_, ?_, h2.2.2.2⟩
        · have := h2.2.1 h3; rw [this]; simp; omega
        · have := h2.2.2.1; rw [List.length_append, List.length_singleton] at this; omega
    · rename_i he
      exact ⟨by simp, fun h => absurd h he, by simp, few_e _ _⟩
theorem xspec_dec (k : Int) (h1 : 1 ≤ k) (h6 : k ≤ 6) (D : List Nat) (hD : Bys D) (n : Int) : Dec k n (xspec k D n) := by
  unfold xspec
  rw [if_neg (by omega)]
  by_cases hn : n < 0 ∨ 10000 < n
  · rw [if_pos hn]; exact dec_err (by decide) (by decide)
  rw [if_neg hn]
  obtain ⟨m, rfl⟩ : ∃ m : Nat, n = m := ⟨n.toNat, by omega⟩
  unfold dspecD
  split
  · split
    · exact dec_err (by decide) (by decide)
    · have hg := dgo_dec k h1 h6 D hD (few D 0).1 (few D 0).2.1 [] (by simp)
      split
      · obtain ⟨a, b, c, d⟩ := pgo_dec k D (dgo k D (few D 0).1 (few D 0).2.1 []).2.2 hg.1 (m : Int).toNat (dgo k D (few D 0).1 (few D 0).2.1 []).2.1 0 [] (by simp)
        refine ⟨a, fun h => ?_, ?_, d⟩
        · have := b h; rw [this]; simp
        · refine Nat.le_trans c ?_; simp; omega
      · rename_i h; exact dec_err h hg.2
  · rename_i h; exact dec_err h (few_e _ _)
end Go.Proofs.YtfkgmodgkifelaaGreatDoor
namespace Go.Proofs.YtfkgmodgkifelaaGreatDoor
open Go.RowKit

set_option maxHeartbeats 1000000 in
set_option maxRecDepth 100000 in
theorem every_any (c : Value) (hc : ∃ a0 a1 a2 a3 a4 a5 : Value, c = .agg #[a0, a1, a2, a3, a4, a5]) (w : World) : Calls Tryz.prog 114 #[c] w fun e w' => e = .returned (.bool true) ∧ Below w.heap.size w w' := by
  obtain ⟨a0, a1, a2, a3, a4, a5, rfl⟩ := hc
  go_enter Tryz.func114, Tryz.ntmps114
  go_wp2_with fail
  go_ret
  first | exact ⟨rfl, Below.refl _ _⟩ | exact ⟨rfl, (Below.refl _ _).alloc (Nat.le_refl _) _⟩
theorem blk_n2 (w : World) (a : Obj) (cs : Array Value) (t : TypeId) : Blk ((w.alloc a).alloc (.cells cs t)) (w.heap.size + 1) t cs := by
  have := Blk.new (w.alloc a) cs t
  rwa [show (w.alloc a).heap.size = w.heap.size + 1 by simp] at this
theorem blk_n3 (w : World) (a b : Obj) (cs : Array Value) (t : TypeId) : Blk (((w.alloc a).alloc b).alloc (.cells cs t)) (w.heap.size + 1 + 1) t cs := by
  have := Blk.new ((w.alloc a).alloc b) cs t
  rwa [show ((w.alloc a).alloc b).heap.size = w.heap.size + 1 + 1 by simp] at this
theorem below_st6 {B : Nat} {a w : World} (h : Below B a w) {L : Nat} (hL : B ≤ L) (a0 a1 a2 a3 a4 a5 : Value) : Below B a (st6 w L a0 a1 a2 a3 a4 a5) :=
  (((((h.setCell hL _).setCell hL _).setCell hL _).setCell hL _).setCell hL _).setCell hL _
set_option maxHeartbeats 1000000 in
set_option maxRecDepth 100000 in
theorem noText_any (x : Int) (t : ByteArray) (w : World) : Calls Tryz.prog 121 #[clV false x 0 t 0 0] w fun e w' => e = .returned (clV false x 0 ByteArray.empty 0 0) ∧ Below w.heap.size w w' := by
  have hst := fun (w1 : World) (a1 : Addr) (m : Mode) (x y : Nat) => run_store Tryz.prog w1 a1 (.complex .f64 x y) m rfl
  unfold clV clA
  go_enter Tryz.func121, Tryz.ntmps121
  go_wp2_with fail
  exact bodyPost_ret (results_cell_row rfl _ _ (w.heap.size + 1) 45 #[.bool false, .bool false, .int .i64 x, .int .u64 0, .string ByteArray.empty, .complex .f64 0 0] (0, 0) _ rfl (blk_n2 _ _ _ _).out Tryz.underlying45 rfl info_c) rfl ⟨rfl, ((Below.refl _ _).alloc (Nat.le_refl _) _).alloc (by simp) _⟩
set_option maxHeartbeats 1000000 in
set_option maxRecDepth 100000 in
theorem noInt_any (x : Int) (t : ByteArray) (w : World) : Calls Tryz.prog 117 #[clV false x 0 t 0 0] w fun e w' => e = .returned (clV false 0 0 t 0 0) ∧ Below w.heap.size w w' := by
  have hst := fun (w1 : World) (a1 : Addr) (m : Mode) (x y : Nat) => run_store Tryz.prog w1 a1 (.complex .f64 x y) m rfl
  unfold clV clA
  go_enter Tryz.func117, Tryz.ntmps117
  go_wp2_with fail
  exact bodyPost_ret (results_cell_row rfl _ _ (w.heap.size + 1) 45 #[.bool false, .bool false, .int .i64 0, .int .u64 0, .string t, .complex .f64 0 0] (0, 0) _ rfl (blk_n2 _ _ _ _).out Tryz.underlying45 rfl info_c) rfl ⟨rfl, ((Below.refl _ _).alloc (Nat.le_refl _) _).alloc (by simp) _⟩
set_option maxHeartbeats 4000000 in
set_option maxRecDepth 100000 in
theorem may_of (F : FuncId) (G : Value) (nm : ByteArray) (k : Int) (nu : Bool) (x x0 : Int) (t t0 : ByteArray) (r : Bool)
    (hE : ∀ args w, (callFunc 114 args).run Tryz.prog w = .ok (.enter 114 args) w)
    (hF : ∀ args w, (callFunc F args).run Tryz.prog w = .ok (.enter F args) w)
    (hr : Hid ((x0 = 0 ∧ t0 = ByteArray.empty ∧ r = true) ∨ (x0 = 0 ∧ t0.toList.isEmpty = false ∧ r = false)))
    (hK : ∀ w, Calls Tryz.prog F #[clV false x 0 t 0 0] w fun e w' => e = .returned (clV false x0 0 t0 0 0) ∧ Below w.heap.size w w') (w : World) :
    Calls Tryz.prog 78 #[.agg #[.string nm, .int .i64 k, .bool nu], .agg #[.func (.func 114) #[] #[], .func (.func F) #[] #[], G], clV false x 0 t 0 0] w fun e w' => e = .returned (.bool r) ∧ Below w.heap.size w w' := by
  have KE := hide (every_any (clV false x 0 t 0 0) ⟨_, _, _, _, _, _, rfl⟩)
  have KK := hide hK
  clear hK
  unfold clV clA
  unfold clV clA at KE KK
  have HB := hide (fun o1 o2 o3 => (((Below.refl w.heap.size w).alloc (Nat.le_refl _) o1).alloc (by simp) o2).alloc (by simp; omega) o3)
  go_enter Tryz.func78, Tryz.ntmps78
  go_wp2_with fail
  refine KE.out _ |>.mono ?_
  rintro e w1 ⟨rfl, hb1⟩
  have b1 : Blk w1 (w.heap.size + 1) 131 #[.func (.func 114) #[] #[], .func (.func F) #[] #[], G] := Blk.below ((blk_n2 w _ _ _).alloc _) hb1 (by simp)
  have b2 : Blk w1 (w.heap.size + 1 + 1) 45 #[.bool false, .bool false, .int .i64 x, .int .u64 0, .string t, .complex .f64 0 0] := Blk.below (blk_n3 _ _ _ _ _) hb1 (by simp)
  obtain ⟨c0, c1, c2, c3, c4, c5, f0, f1, f2, f3, f4, f5⟩ := Blk.six b2
  have d1 := b1.cell 1
  simp at d1
  have HB1 := hide ((HB.out _ _ _).trans (hb1.mono (by simp; omega)))
  clear b1 b2 hb1
  go_wp2_with fail
  refine KK.out _ |>.mono ?_
  rintro e w2 ⟨rfl, hb2⟩
  have HB2 := hide (HB1.out.trans (hb2.mono HB1.out.size))
  clear hb2
  rcases hr.out with ⟨rfl, rfl, rfl⟩ | ⟨rfl, ht, rfl⟩
  · have hq : ∀ w, (binOp .eql 45 (.agg #[.bool false, .bool false, .int .i64 0, .int .u64 0, .string ByteArray.empty, .complex .f64 0 0]) (.agg #[.bool false, .bool false, .int .i64 0, .int .u64 0, .string { data := #[] }, .complex .f64 0 0])).run Tryz.prog w = .ok (.bool true) w := fun _ => by kernel_rfl
    go_wp2_with fail
    go_ret
    exact ⟨rfl, HB2.out⟩
  · go_wp2_with fail
    go_ret
    exact ⟨rfl, HB2.out⟩
end Go.Proofs.YtfkgmodgkifelaaGreatDoor
