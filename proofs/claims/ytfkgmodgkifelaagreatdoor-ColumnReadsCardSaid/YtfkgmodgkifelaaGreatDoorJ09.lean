/- A cell at the beginning of bytes: one plain function, and that plain.Get and the document's Read both give it. Numbers by their steps, in plain lists. Steps of cells: what each call gives. -/
import Derived.Test.YtfkgmodgkifelaaGreatDoorJ07
import Derived.Test.YtfkgmodgkifelaaGreatDoorJ08
import Derived.Test.YtfkgmodgkifelaaGreatDoorJ02
import Derived.WalkKit
import Derived.Test.YtfkgmodgkifelaaGreatDoorJ03
import Derived.WalkLawsBesides
namespace Go.Proofs.YtfkgmodgkifelaaGreatDoor
open Go.RowKit

/-- The cell, how many bytes it has, the reader's error, what is answered. -/
def gp1 (D : List Nat) : CD × Nat × Nat × Nat :=
  if (num 1 D).2.2 = 0 then (if (num 1 D).1 ≤ 1 then (⟨((num 1 D).1 : Int) == 1, 0, 0, ByteArray.empty, 0, 0⟩, (num 1 D).2.1, 0, 0) else (CD.z, (num 1 D).2.1, 0, 12)) else (CD.z, (num 1 D).2.1, (num 1 D).2.2, (num 1 D).2.2)
def gp2 (D : List Nat) : CD × Nat × Nat × Nat :=
  if (num 8 D).2.2 = 0 then (⟨false, wrap64 ((num 8 D).1 : Nat), 0, ByteArray.empty, 0, 0⟩, (num 8 D).2.1, 0, 0) else (CD.z, (num 8 D).2.1, (num 8 D).2.2, (num 8 D).2.2)
def gp3 (D : List Nat) : CD × Nat × Nat × Nat :=
  if (num 8 D).2.2 = 0 then (⟨false, 0, ((num 8 D).1 : Nat), ByteArray.empty, 0, 0⟩, (num 8 D).2.1, 0, 0) else (CD.z, (num 8 D).2.1, (num 8 D).2.2, (num 8 D).2.2)
def gp4 (D : List Nat) : CD × Nat × Nat × Nat :=
  if (textS 1048576 D).2.2 = 0 then (⟨false, 0, 0, strN (textS 1048576 D).1, 0, 0⟩, (textS 1048576 D).2.1, 0, 0) else (CD.z, (textS 1048576 D).2.1, (textS 1048576 D).2.2, (textS 1048576 D).2.2)
def gp5 (D : List Nat) : CD × Nat × Nat × Nat :=
  if (textS 1048576 D).2.2 = 0 then (if Lib.validD (strN (textS 1048576 D).1).data.toList = true then (⟨false, 0, 0, strN (textS 1048576 D).1, 0, 0⟩, (textS 1048576 D).2.1, 0, 0) else (CD.z, (textS 1048576 D).2.1, 0, 12))
  else (CD.z, (textS 1048576 D).2.1, (textS 1048576 D).2.2, (textS 1048576 D).2.2)
def gp6 (D : List Nat) : CD × Nat × Nat × Nat :=
  if (few D 0).2.2 = 0 then
    (if (few (D.drop (few D 0).2.1) 0).2.2 = 0 then
      (if farB (back (few D 0).1) = true ∨ farB (back (few (D.drop (few D 0).2.1) 0).1) = true then (CD.z, (few D 0).2.1 + (few (D.drop (few D 0).2.1) 0).2.1, 0, 12)
       else (⟨false, 0, 0, ByteArray.empty, floatOfInt .f64 (back (few D 0).1), floatOfInt .f64 (back (few (D.drop (few D 0).2.1) 0).1)⟩, (few D 0).2.1 + (few (D.drop (few D 0).2.1) 0).2.1, 0, 0))
     else (CD.z, (few D 0).2.1, (few (D.drop (few D 0).2.1) 0).2.2, (few (D.drop (few D 0).2.1) 0).2.2))
  else (CD.z, 0, (few D 0).2.2, (few D 0).2.2)
def gp (k : Int) (D : List Nat) : CD × Nat × Nat × Nat :=
  if k = 1 then gp1 D else if k = 2 then gp2 D else if k = 3 then gp3 D else if k = 4 then gp4 D else if k = 5 then gp5 D else gp6 D
theorem num_err (n : Nat) (D : List Nat) : (num n D).2.2 = 0 ∨ num n D = (0, 0, 10) := by
  unfold num; split
  · exact .inr rfl
  · exact .inl rfl
theorem num_le (n : Nat) (D : List Nat) : (num n D).2.1 ≤ D.length := by unfold num; split <;> simp <;> omega
theorem textS_err (m : Int) (D : List Nat) : (textS m D).2.2 = 0 ∨ (0 < (textS m D).2.2 ∧ (textS m D).1 = [] ∧ (textS m D).2.1 = 0) := by
  unfold textS
  split
  · split
    · exact .inr ⟨by simp, rfl, rfl⟩
    · split
      · exact .inr ⟨by simp, rfl, rfl⟩
      · exact .inl rfl
  · exact .inr ⟨by simp; omega, rfl, rfl⟩
theorem few_le0 (D : List Nat) : (few D 0).2.1 ≤ D.length := by
  rcases few_err D 0 with h | h | h
  · exact (few_le D 0 h).1
  · rw [h]; simp
  · rw [h]; simp
theorem textS_le (m : Int) (D : List Nat) : (textS m D).2.1 ≤ D.length ∧ (textS m D).1.length ≤ D.length := by
  unfold textS
  have := few_le0 D
  split
  · split
    · simp
    · split
      · simp
      · simp; omega
  · simp
theorem gp_le (k : Int) (D : List Nat) : (gp k D).2.1 ≤ D.length := by
  unfold gp
  split
  · unfold gp1; have := num_le 1 D; split
    · split <;> exact this
    · exact this
  · split
    · unfold gp2; have := num_le 8 D; split <;> exact this
    · split
      · unfold gp3; have := num_le 8 D; split <;> exact this
      · split
        · unfold gp4; have := (textS_le 1048576 D).1; split <;> exact this
        · split
          · unfold gp5; have := (textS_le 1048576 D).1; split
            · split <;> exact this
            · exact this
          · unfold gp6
            have h1 := few_le0 D
            have h2 := few_le0 (D.drop (few D 0).2.1)
            rw [List.length_drop] at h2
            split
            · split
              · split
                · show _ + _ ≤ _; omega
                · show _ + _ ≤ _; omega
              · exact h1
            · show 0 ≤ _; omega
theorem gp_z (k : Int) (D : List Nat) : (gp k D).2.2.2 = 0 ∨ (gp k D).1 = CD.z := by
  unfold gp
  repeat' split
  · unfold gp1; repeat' split
    all_goals first | exact .inl rfl | exact .inr rfl
  · unfold gp2; repeat' split
    all_goals first | exact .inl rfl | exact .inr rfl
  · unfold gp3; repeat' split
    all_goals first | exact .inl rfl | exact .inr rfl
  · unfold gp4; repeat' split
    all_goals first | exact .inl rfl | exact .inr rfl
  · unfold gp5; repeat' split
    all_goals first | exact .inl rfl | exact .inr rfl
  · unfold gp6; repeat' split
    all_goals first | exact .inl rfl | exact .inr rfl
theorem e_ite {c : Prop} [Decidable c] {a b : CD × Nat × Nat × Nat} (ha : a.2.2.2 = 0 → a.2.2.1 = 0) (hb : b.2.2.2 = 0 → b.2.2.1 = 0) : (if c then a else b).2.2.2 = 0 → (if c then a else b).2.2.1 = 0 := by
  by_cases h : c
  · rw [if_pos h]; exact ha
  · rw [if_neg h]; exact hb
theorem gp_e (k : Int) (D : List Nat) : (gp k D).2.2.2 = 0 → (gp k D).2.2.1 = 0 := by
  unfold gp gp1 gp2 gp3 gp4 gp5 gp6
  repeat' (apply e_ite)
  all_goals (intro h; first | rfl | exact h)
/-- The parts of a point are themselves (no NaN). -/
def CD.num (c : CD) : Prop := FloatKind.f64.format.order c.p c.p = some .eq ∧ FloatKind.f64.format.order c.q c.q = some .eq
theorem far_abs {x : Int} (h : ¬ farB x = true) : x.natAbs ≤ 9007199254740992 := by
  unfold farB at h
  rw [decide_eq_true_eq] at h
  omega
theorem num_mk (b : Bool) (x u : Int) (t : ByteArray) (p q : Nat) (h1 : FloatKind.f64.format.order p p = some .eq) (h2 : FloatKind.f64.format.order q q = some .eq) : (⟨b, x, u, t, p, q⟩ : CD).num := ⟨h1, h2⟩
theorem num_z : CD.z.num := num_mk _ _ _ _ _ _ order_zero order_zero
theorem num_ite {c : Prop} [Decidable c] {a b : CD × Nat × Nat × Nat} (ha : c → a.1.num) (hb : ¬ c → b.1.num) : (if c then a else b).1.num := by
  by_cases h : c
  · rw [if_pos h]; exact ha h
  · rw [if_neg h]; exact hb h
theorem gp6_num (D : List Nat) : (gp6 D).1.num := by
  unfold gp6
  refine num_ite (fun _ => num_ite (fun _ => num_ite (fun _ => num_z) (fun hf => ?_)) (fun _ => num_z)) (fun _ => num_z)
  rw [not_or] at hf
  exact num_mk _ _ _ _ _ _ (order_self _ (far_abs hf.1)) (order_self _ (far_abs hf.2))
theorem gp_num (k : Int) (D : List Nat) : (gp k D).1.num := by
  unfold gp
  refine num_ite (fun _ => ?_) (fun _ => num_ite (fun _ => ?_) (fun _ => num_ite (fun _ => ?_) (fun _ => num_ite (fun _ => ?_) (fun _ => num_ite (fun _ => ?_) (fun _ => gp6_num D)))))
  · unfold gp1; exact num_ite (fun _ => num_ite (fun _ => num_mk _ _ _ _ _ _ order_zero order_zero) (fun _ => num_z)) (fun _ => num_z)
  · unfold gp2; exact num_ite (fun _ => num_mk _ _ _ _ _ _ order_zero order_zero) (fun _ => num_z)
  · unfold gp3; exact num_ite (fun _ => num_mk _ _ _ _ _ _ order_zero order_zero) (fun _ => num_z)
  · unfold gp4; exact num_ite (fun _ => num_mk _ _ _ _ _ _ order_zero order_zero) (fun _ => num_z)
  · unfold gp5; exact num_ite (fun _ => num_ite (fun _ => num_mk _ _ _ _ _ _ order_zero order_zero) (fun _ => num_z)) (fun _ => num_z)
theorem wrap0 : wrap64 ((0 : Nat) : Int) = 0 := by simp [wrap64]
/-- The document's answer, at any kind. -/
theorem sread_all (k : Int) (h1 : 1 ≤ k) (h6 : k ≤ 6) (s : ByteArray) (hs : s.size ≤ maxLen) (w : World) (hT : Tabs w) :
    Calls Tryz.prog 97 #[.int .i64 k, .string s] w (SPost w (gp k (bn s)).1.v (gp k (bn s)).2.1 (gp k (bn s)).2.2.2) := by
  have hk : k = 1 ∨ k = 2 ∨ k = 3 ∨ k = 4 ∨ k = 5 ∨ k = 6 := by omega
  rcases hk with rfl | rfl | rfl | rfl | rfl | rfl
  · have e : gp 1 (bn s) = gp1 (bn s) := rfl
    rw [e]
    unfold gp1
    have he := num_err 1 (bn s)
    rcases hn : num 1 (bn s) with ⟨x, n, er⟩
    rw [hn] at he
    simp only [Prod.mk.injEq] at he ⊢
    by_cases h0 : er = 0
    · rw [if_pos h0]
      by_cases hx : x ≤ 1
      · rw [if_pos hx]; exact sread_bool s hs x n er hn _ _ (.inl ⟨h0, hx, rfl, rfl⟩) w
      · rw [if_neg hx]; exact sread_bool s hs x n er hn _ _ (.inr (.inl ⟨h0, by omega, rfl, rfl⟩)) w
    · rw [if_neg h0]; exact sread_bool s hs x n er hn _ _ (.inr (.inr ⟨by omega, (he.resolve_left h0).1, rfl, rfl⟩)) w
  · have e : gp 2 (bn s) = gp2 (bn s) := rfl
    rw [e]
    unfold gp2
    have he := num_err 8 (bn s)
    rcases hn : num 8 (bn s) with ⟨x, n, er⟩
    rw [hn] at he
    simp only [Prod.mk.injEq] at he ⊢
    have K := sread_int s hs x n er hn w
    by_cases h0 : er = 0
    · rw [if_pos h0]; subst h0; exact K
    · rw [if_neg h0]; obtain ⟨rfl, rfl, rfl⟩ := he.resolve_left h0; rw [wrap0] at K; exact K
  · have e : gp 3 (bn s) = gp3 (bn s) := rfl
    rw [e]
    unfold gp3
    have he := num_err 8 (bn s)
    rcases hn : num 8 (bn s) with ⟨x, n, er⟩
    rw [hn] at he
    simp only [Prod.mk.injEq] at he ⊢
    have K := sread_uint s hs x n er hn w
    by_cases h0 : er = 0
    · rw [if_pos h0]; subst h0; exact K
    · rw [if_neg h0]; obtain ⟨rfl, rfl, rfl⟩ := he.resolve_left h0; exact K
  · have e : gp 4 (bn s) = gp4 (bn s) := rfl
    rw [e]
    unfold gp4
    have he := textS_err 1048576 (bn s)
    rcases hn : textS 1048576 (bn s) with ⟨x, n, er⟩
    rw [hn] at he
    simp only at he ⊢
    have K := sread_bytes s hs x n er hn w
    by_cases h0 : er = 0
    · rw [if_pos h0]; subst h0; exact K
    · rw [if_neg h0]
      obtain ⟨_, rfl, _⟩ := he.resolve_left h0
      rw [strN_nil] at K
      exact K
  · have e : gp 5 (bn s) = gp5 (bn s) := rfl
    rw [e]
    unfold gp5
    have he := textS_err 1048576 (bn s)
    have hl := (textS_le 1048576 (bn s)).2
    rw [bn_len] at hl
    rcases hn : textS 1048576 (bn s) with ⟨x, n, er⟩
    rw [hn] at he hl
    simp only at he hl ⊢
    by_cases h0 : er = 0
    · rw [if_pos h0]
      by_cases hv : Lib.validD (strN x).data.toList = true
      · rw [if_pos hv]; exact sread_text s hs x hl n er hn _ _ (.inl ⟨h0, hv, rfl, rfl⟩) w hT
      · rw [if_neg hv]; exact sread_text s hs x hl n er hn _ _ (.inr (.inl ⟨h0, by simpa using hv, rfl, rfl⟩)) w hT
    · rw [if_neg h0]
      obtain ⟨hp, hx, _⟩ := he.resolve_left h0
      exact sread_text s hs x hl n er hn _ _ (.inr (.inr ⟨hp, hx, rfl, rfl⟩)) w hT
  · have e : gp 6 (bn s) = gp6 (bn s) := rfl
    rw [e]
    unfold gp6
    rcases hn : few (bn s) 0 with ⟨x, n, er⟩
    simp only
    rcases hm : few ((bn s).drop n) 0 with ⟨y, m, fr⟩
    simp only
    by_cases h0 : er = 0
    · rw [if_pos h0]
      by_cases h00 : fr = 0
      · rw [if_pos h00]
        by_cases hf : farB (back x) = true ∨ farB (back y) = true
        · rw [if_pos hf]
          refine sread_point s hs x n er y m fr hn hm _ _ _ (.inr (.inr (.inr ⟨h0, h00, ?_, rfl, rfl, rfl⟩))) w
          cases ha : farB (back x)
          · exact .inr ⟨rfl, by rw [ha] at hf; simpa using hf⟩
          · exact .inl rfl
        · rw [if_neg hf]
          rw [not_or] at hf
          exact sread_point s hs x n er y m fr hn hm _ _ _ (.inr (.inr (.inl ⟨h0, h00, by simpa using hf.1, by simpa using hf.2, rfl, rfl, rfl⟩))) w
      · rw [if_neg h00]; exact sread_point s hs x n er y m fr hn hm _ _ _ (.inr (.inl ⟨h0, by omega, rfl, rfl, rfl⟩)) w
    · rw [if_neg h0]; exact sread_point s hs x n er y m fr hn hm _ _ _ (.inl ⟨by omega, rfl, rfl, rfl⟩) w
theorem st_at (s : ByteArray) (p : Nat) (f : List Nat → Nat × Nat × Nat) : st s p 0 f = ((f ((bn s).drop p)).1, p + (f ((bn s).drop p)).2.1, (f ((bn s).drop p)).2.2) := by
  unfold st; rw [if_pos rfl]
theorem stT_at (s : ByteArray) (p : Nat) (f : List Nat → List Nat × Nat × Nat) : stT s p 0 f = ((f ((bn s).drop p)).1, p + (f ((bn s).drop p)).2.1, (f ((bn s).drop p)).2.2) := by
  unfold stT; rw [if_pos rfl]
theorem rd_alloc {w : World} {R : Nat} {s : ByteArray} {p : Nat} (h : Rd w R s p 0) (o : Obj) : Rd (w.alloc o) R s p 0 := h.below ((Below.refl _ _).alloc (Nat.le_refl _) _)
/-- plain.Get, at any kind. -/
theorem gget_all (k : Int) (h1 : 1 ≤ k) (h6 : k ≤ 6) (R : Nat) (s : ByteArray) (p : Nat) (hs : s.size ≤ maxLen) (hp : p ≤ s.size) (w : World) (h : Rd w R s p 0) (hT : Tabs w) :
    Calls Tryz.prog 109 #[.pointer (some ⟨R, 0, none⟩), .int .i64 k] w
      (GPost R w s (gp k ((bn s).drop p)).1.v (gp k ((bn s).drop p)).2.2.2 (p + (gp k ((bn s).drop p)).2.1) (gp k ((bn s).drop p)).2.2.1) := by
  have hk : k = 1 ∨ k = 2 ∨ k = 3 ∨ k = 4 ∨ k = 5 ∨ k = 6 := by omega
  rcases hk with rfl | rfl | rfl | rfl | rfl | rfl
  · have e : gp 1 ((bn s).drop p) = gp1 ((bn s).drop p) := rfl
    rw [e]
    unfold gp1
    have HK := fun o => pread_bool R s p hs hp (w.alloc o) (rd_alloc h o)
    rw [st_at] at HK
    have he := num_err 1 ((bn s).drop p)
    rcases hn : num 1 ((bn s).drop p) with ⟨x, n, er⟩
    rw [hn] at he HK
    simp only [Prod.mk.injEq] at he HK ⊢
    by_cases h0 : er = 0
    · rw [if_pos h0]
      subst h0
      by_cases hx : x ≤ 1
      · rw [if_pos hx]
        rw [show decide ((x : Int) ≤ 1) = true by rw [decide_eq_true_eq]; omega] at HK
        exact pget_of 1 h1 h6 R s p _ _ _ _ _ _ _ _ _ w h _ _ (.inl ⟨rfl, rfl, rfl, rfl⟩) HK
      · rw [if_neg hx]
        rw [show decide ((x : Int) ≤ 1) = false by rw [decide_eq_false_iff_not]; omega] at HK
        exact pget_of 1 h1 h6 R s p _ _ _ _ _ _ _ _ _ w h _ _ (.inr (.inl ⟨rfl, rfl, rfl, rfl⟩)) HK
    · rw [if_neg h0]
      have hpos : 0 < er := by omega
      exact pget_of 1 h1 h6 R s p _ _ _ _ _ _ _ _ _ w h _ _ (.inr (.inr ⟨hpos, rfl, rfl⟩)) HK
  · have e : gp 2 ((bn s).drop p) = gp2 ((bn s).drop p) := rfl
    rw [e]
    unfold gp2
    have HK := fun o => pread_int R s p hs hp (w.alloc o) (rd_alloc h o)
    rw [st_at] at HK
    rcases hn : num 8 ((bn s).drop p) with ⟨x, n, er⟩
    rw [hn] at HK
    simp only at HK ⊢
    by_cases h0 : er = 0
    · rw [if_pos h0]
      subst h0
      exact pget_of 2 h1 h6 R s p _ _ _ _ _ _ _ _ _ w h _ _ (.inl ⟨rfl, rfl, rfl, rfl⟩) HK
    · rw [if_neg h0]
      have hpos : 0 < er := by omega
      exact pget_of 2 h1 h6 R s p _ _ _ _ _ _ _ _ _ w h _ _ (.inr (.inr ⟨hpos, rfl, rfl⟩)) HK
  · have e : gp 3 ((bn s).drop p) = gp3 ((bn s).drop p) := rfl
    rw [e]
    unfold gp3
    have HK := fun o => pread_uint R s p hs hp (w.alloc o) (rd_alloc h o)
    rw [st_at] at HK
    rcases hn : num 8 ((bn s).drop p) with ⟨x, n, er⟩
    rw [hn] at HK
    simp only at HK ⊢
    by_cases h0 : er = 0
    · rw [if_pos h0]
      subst h0
      exact pget_of 3 h1 h6 R s p _ _ _ _ _ _ _ _ _ w h _ _ (.inl ⟨rfl, rfl, rfl, rfl⟩) HK
    · rw [if_neg h0]
      have hpos : 0 < er := by omega
      exact pget_of 3 h1 h6 R s p _ _ _ _ _ _ _ _ _ w h _ _ (.inr (.inr ⟨hpos, rfl, rfl⟩)) HK
  · have e : gp 4 ((bn s).drop p) = gp4 ((bn s).drop p) := rfl
    rw [e]
    unfold gp4
    have HK := fun o => pread_bytes R s p hs hp (w.alloc o) (rd_alloc h o)
    rw [stT_at] at HK
    rcases hn : textS 1048576 ((bn s).drop p) with ⟨x, n, er⟩
    rw [hn] at HK
    simp only at HK ⊢
    by_cases h0 : er = 0
    · rw [if_pos h0]
      subst h0
      exact pget_of 4 h1 h6 R s p _ _ _ _ _ _ _ _ _ w h _ _ (.inl ⟨rfl, rfl, rfl, rfl⟩) HK
    · rw [if_neg h0]
      have hpos : 0 < er := by omega
      exact pget_of 4 h1 h6 R s p _ _ _ _ _ _ _ _ _ w h _ _ (.inr (.inr ⟨hpos, rfl, rfl⟩)) HK
  · have e : gp 5 ((bn s).drop p) = gp5 ((bn s).drop p) := rfl
    rw [e]
    unfold gp5
    have hl := (textS_le 1048576 ((bn s).drop p)).2
    rw [List.length_drop, bn_len] at hl
    have hst := stT_at s p (textS 1048576)
    rcases hn : textS 1048576 ((bn s).drop p) with ⟨x, n, er⟩
    rw [hn] at hl hst
    simp only at hl hst ⊢
    have HK := fun o => pread_text R s p hs hp (w.alloc o) (rd_alloc h o) (hT.below ((Below.refl _ _).alloc (Nat.le_refl _) _)) x (by omega) _ _ hst
    by_cases h0 : er = 0
    · rw [if_pos h0]
      subst h0
      by_cases hv : Lib.validD (strN x).data.toList = true
      · rw [if_pos hv]
        rw [hv] at HK
        exact pget_of 5 h1 h6 R s p _ _ _ _ _ _ _ _ _ w h _ _ (.inl ⟨rfl, rfl, rfl, rfl⟩) HK
      · rw [if_neg hv]
        rw [show Lib.validD (strN x).data.toList = false by simpa using hv] at HK
        exact pget_of 5 h1 h6 R s p _ _ _ _ _ _ _ _ _ w h _ _ (.inr (.inl ⟨rfl, rfl, rfl, rfl⟩)) HK
    · rw [if_neg h0]
      have hpos : 0 < er := by omega
      exact pget_of 5 h1 h6 R s p _ _ _ _ _ _ _ _ _ w h _ _ (.inr (.inr ⟨hpos, rfl, rfl⟩)) HK
  · have e : gp 6 ((bn s).drop p) = gp6 ((bn s).drop p) := rfl
    rw [e]
    unfold gp6
    have hst := st_at s p (fun D => few D 0)
    have hle := few_le0 ((bn s).drop p)
    have herr := few_err ((bn s).drop p) 0
    rw [List.length_drop, bn_len] at hle
    rcases hn : few ((bn s).drop p) 0 with ⟨x, n, er⟩
    rw [hn] at hle herr
    simp only [hn] at hst
    simp only [Prod.mk.injEq] at hle herr ⊢
    have hst2 := st_at s (p + n) (fun D => few D 0)
    rcases hm : few (((bn s).drop p).drop n) 0 with ⟨y, m, fr⟩
    rw [List.drop_drop] at hm
    simp only [hm] at hst2
    simp only
    have back0 : back 0 = 0 := by decide
    have far0 : farB 0 = false := by decide
    by_cases h0 : er = 0
    · rw [if_pos h0]
      subst h0
      have HA : Hid (back (st s p 0 (fun D => few D 0)).1 = back x ∧ (st s p 0 (fun D => few D 0)).2.1 = p + n ∧ (st s p 0 (fun D => few D 0)).2.2 = 0) := by show _ ∧ _; rw [hst]; exact ⟨rfl, rfl, rfl⟩
      have HB : Hid (back (st s (p + n) 0 (fun D => few D 0)).1 = back y ∧ (st s (p + n) 0 (fun D => few D 0)).2.1 = p + n + m ∧ (st s (p + n) 0 (fun D => few D 0)).2.2 = fr) := by show _ ∧ _; rw [hst2]; exact ⟨rfl, rfl, rfl⟩
      by_cases hf : farB (back x) = true ∨ farB (back y) = true
      · have hf' : farB (back x) = true ∨ farB (back x) = false ∧ farB (back y) = true := by
          cases ha : farB (back x)
          · exact .inr ⟨rfl, by rw [ha] at hf; simpa using hf⟩
          · exact .inl rfl
        have HK := fun o => pread_point R s p (p + n) 0 (p + n + m) fr (back x) (back y) hs hp (by omega) (w.alloc o) (rd_alloc h o) HA HB clZ false (.inr ⟨hf', rfl, rfl⟩)
        by_cases h00 : fr = 0
        · rw [if_pos h00, if_pos hf, ← Nat.add_assoc]
          subst h00
          exact pget_of 6 h1 h6 R s p _ _ _ _ _ _ _ _ _ w h _ _ (.inr (.inl ⟨rfl, rfl, rfl, rfl⟩)) HK
        · rw [if_neg h00]
          have hpos : 0 < fr := by omega
          have hm0 : m = 0 := by
            rcases few_err ((bn s).drop (p + n)) 0 with q | q | q
            · rw [hm] at q; exact absurd q h00
            · rw [hm] at q; simp only [Prod.mk.injEq] at q; exact q.2.1
            · rw [hm] at q; simp only [Prod.mk.injEq] at q; exact q.2.1
          subst hm0
          exact pget_of 6 h1 h6 R s p _ _ _ _ _ _ _ _ _ w h _ _ (.inr (.inr ⟨hpos, rfl, rfl⟩)) HK
      · have hf2 := hf
        rw [not_or] at hf2
        have HK := fun o => pread_point R s p (p + n) 0 (p + n + m) fr (back x) (back y) hs hp (by omega) (w.alloc o) (rd_alloc h o) HA HB _ true (.inl ⟨by simpa using hf2.1, by simpa using hf2.2, rfl, rfl⟩)
        by_cases h00 : fr = 0
        · rw [if_pos h00, if_neg hf, ← Nat.add_assoc]
          subst h00
          exact pget_of 6 h1 h6 R s p _ _ _ _ _ _ _ _ _ w h _ _ (.inl ⟨rfl, rfl, rfl, rfl⟩) HK
        · rw [if_neg h00]
          have hpos : 0 < fr := by omega
          have hm0 : m = 0 := by
            rcases few_err ((bn s).drop (p + n)) 0 with q | q | q
            · rw [hm] at q; exact absurd q h00
            · rw [hm] at q; simp only [Prod.mk.injEq] at q; exact q.2.1
            · rw [hm] at q; simp only [Prod.mk.injEq] at q; exact q.2.1
          subst hm0
          exact pget_of 6 h1 h6 R s p _ _ _ _ _ _ _ _ _ w h _ _ (.inr (.inr ⟨hpos, rfl, rfl⟩)) HK
    · rw [if_neg h0]
      have hpos : 0 < er := by omega
      have hxn : x = 0 ∧ n = 0 := by
        rcases herr with q | q | q
        · exact absurd q h0
        · exact ⟨q.1, q.2.1⟩
        · exact ⟨q.1, q.2.1⟩
      obtain ⟨rfl, rfl⟩ := hxn
      have hst3 : st s (p + 0) er (fun D => few D 0) = (0, p + 0, er) := by unfold st; rw [if_neg h0]
      have HA : Hid (back (st s p 0 (fun D => few D 0)).1 = back 0 ∧ (st s p 0 (fun D => few D 0)).2.1 = p + 0 ∧ (st s p 0 (fun D => few D 0)).2.2 = er) := by show _ ∧ _; rw [hst]; exact ⟨rfl, rfl, rfl⟩
      have HB : Hid (back (st s (p + 0) er (fun D => few D 0)).1 = back 0 ∧ (st s (p + 0) er (fun D => few D 0)).2.1 = p + 0 ∧ (st s (p + 0) er (fun D => few D 0)).2.2 = er) := by show _ ∧ _; rw [hst3]; exact ⟨rfl, rfl, rfl⟩
      have HK := fun o => pread_point R s p (p + 0) er (p + 0) er (back 0) (back 0) hs hp (by omega) (w.alloc o) (rd_alloc h o) HA HB _ true (.inl ⟨by rw [back0]; exact far0, by rw [back0]; exact far0, rfl, rfl⟩)
      exact pget_of 6 h1 h6 R s p _ _ _ _ _ _ _ _ _ w h _ _ (.inr (.inr ⟨hpos, rfl, rfl⟩)) HK
end Go.Proofs.YtfkgmodgkifelaaGreatDoor
namespace Go.Proofs.YtfkgmodgkifelaaGreatDoor
open Go Go.RowKit
theorem wrap64_range (x : Int) : -9223372036854775808 ≤ wrap64 x ∧ wrap64 x ≤ 9223372036854775807 := by unfold wrap64; omega
/-- Numbers, each told by how far it is from the one ahead. -/
def encD : Int → List Int → List Nat
  | _, [] => []
  | p, x :: l => uvar (zz (wrap64 (x - p))) ++ encD x l
/-- .. the number behind some. -/
def lastD (p : Int) (l : List Int) : Int := (l.getLast?).getD p
theorem lastD_snoc (p : Int) (l : List Int) (x : Int) : lastD p (l ++ [x]) = x := by simp [lastD]
theorem encD_snoc (l : List Int) : ∀ (p x : Int), encD p (l ++ [x]) = encD p l ++ uvar (zz (wrap64 (x - lastD p l))) := by
  induction l with
  | nil => intro p x; simp [encD, lastD]
  | cons y l ih =>
    intro p x
    rw [List.cons_append, encD, ih, encD, List.append_assoc]
    congr 4
    unfold lastD
    cases l with
    | nil => rfl
    | cons z l => simp [List.getLast?_cons]
def mv (d x : Int) : Int := wrap64 (x + d)
theorem mv_step (d x y : Int) : wrap64 (mv d x - mv d y) = wrap64 (x - y) := by unfold mv wrap64; omega
theorem encD_mv (d : Int) (l : List Int) : ∀ p, encD (mv d p) (l.map (mv d)) = encD p l := by
  induction l with
  | nil => intro p; rfl
  | cons x l ih => intro p; rw [List.map_cons, encD, ih, encD, mv_step]
theorem step_len (x : Int) : (uvar (zz (wrap64 x))).length ≤ 10 := uvar_len10 (zz_lt (wrap64_range x).1 (wrap64_range x).2)
theorem encD_len (l : List Int) : ∀ p, (encD p l).length ≤ 10 * l.length := by
  induction l with
  | nil => intro p; simp [encD]
  | cons x l ih =>
    intro p
    have h1 := step_len (x - p)
    have h2 := ih x
    rw [encD, List.length_append, List.length_cons]
    omega
theorem encD_lt (l : List Int) : ∀ p, ∀ b ∈ encD p l, b < 256 := by
  induction l with
  | nil => intro p b hb; simp [encD] at hb
  | cons x l ih =>
    intro p b hb
    rw [encD] at hb
    rcases List.mem_append.1 hb with hb | hb
    · exact uvar_lt _ b hb
    · exact ih x b hb
end Go.Proofs.YtfkgmodgkifelaaGreatDoor
namespace Go.Proofs.YtfkgmodgkifelaaGreatDoor
open Go.RowKit

/-- A cell whose string is empty, nothing missing. -/
def cl (x : Int) (u : Int) (p q : Nat) : Value := .agg #[.bool false, .bool false, .int .i64 x, .int .u64 u, .string ByteArray.empty, .complex .f64 p q]
theorem row3 (w : World) (a b c : Obj) : (((w.alloc a).alloc b).alloc c).heap[w.heap.size + 1 + 1]? = some c := by
  have h := heap_alloc_new ((w.alloc a).alloc b) c
  rwa [show ((w.alloc a).alloc b).heap.size = w.heap.size + 1 + 1 by simp] at h
theorem results_cell_tmp_row {fn : Func} {p u : Tmp} {ty : TypeId} (h : fn.results = #[.cell p ty, .tmp u]) (tmps : Array Value) (P : Program) (w : World) (g : Nat) (t : TypeId) (cs : Array Value) (fr : Nat × Nat) {fs : Array Field}
    (hp : tmps.getD p undef = .pointer (some ⟨g, 0, none⟩)) (hg : w.heap[g]? = some (.cells cs t fr))
    (hu : P.underlying ty = some (.struct fs)) (hi : (P.info? ty).map (·.size) = some cs.size) :
    (results fn tmps).run P w = .ok (.tuple #[.agg cs, tmps.getD u undef]) w := by
  rw [results_cell_tmp h, hp]
  simp [asAddr, run_loadVar_row w g t ty cs fr _ hg hu rfl hi, Result.andThen]
theorem setRow3 (w : World) (a b : Obj) (c c' : Array Value) (t : TypeId) : (((w.alloc a).alloc b).alloc (.cells c t)).setRow (w.heap.size + 1 + 1) c' = ((w.alloc a).alloc b).alloc (.cells c' t) := by
  have h := World.setRow_alloc_new ((w.alloc a).alloc b) c c' t
  simpa using h
theorem info_cell : (Tryz.prog.info? 45).map (·.size) = some 6 := by kernel_rfl
theorem below3 (w : World) (a b c : Obj) : Below w.heap.size w (((w.alloc a).alloc b).alloc c) := (((Below.refl _ _).alloc (Nat.le_refl _) _).alloc (by simp) _).alloc (by simp; omega) _
set_option maxHeartbeats 1000000 in
set_option maxRecDepth 100000 in
theorem step_int (a b u v : Int) (p q p1 q1 : Nat) (w : World) :
    Calls Tryz.prog 136 #[.int .i64 2, cl a u p q, cl b v p1 q1] w fun e w' => e = .returned (.tuple #[cl (wrap64 (b - a)) 0 0 0, .int .i64 0]) ∧ Below w.heap.size w w' := by
  unfold cl
  have H3 := hide (row3 w)
  have HB := hide (below3 w)
  go_enter Tryz.func136, Tryz.ntmps136
  have hst := fun (w1 : World) (a1 : Addr) (m : Mode) (x y : Nat) => run_store Tryz.prog w1 a1 (.complex .f64 x y) m rfl
  go_wp2_with fail
  refine bodyPost_ret (results_cell_tmp_row rfl _ _ _ (w.heap.size + 1 + 1) 45 #[.bool false, .bool false, .int .i64 (wrap64 (b - a)), .int .u64 0, .string ByteArray.empty, .complex .f64 0 0] (0, 0) rfl (H3.out _ _ _) Tryz.underlying45 (by exact info_cell)) rfl ?_
  exact ⟨rfl, HB.out _ _ _⟩
set_option maxHeartbeats 1000000 in
set_option maxRecDepth 100000 in
theorem step_uint (a b u v : Int) (p q p1 q1 : Nat) (w : World) :
    Calls Tryz.prog 136 #[.int .i64 3, cl a u p q, cl b v p1 q1] w fun e w' => e = .returned (.tuple #[cl (wrap64 ((v - u) % 18446744073709551616)) 0 0 0, .int .i64 0]) ∧ Below w.heap.size w w' := by
  unfold cl
  have H3 := hide (row3 w)
  have HB := hide (below3 w)
  go_enter Tryz.func136, Tryz.ntmps136
  have hst := fun (w1 : World) (a1 : Addr) (m : Mode) (x y : Nat) => run_store Tryz.prog w1 a1 (.complex .f64 x y) m rfl
  go_wp2_with fail
  refine bodyPost_ret (results_cell_tmp_row rfl _ _ _ (w.heap.size + 1 + 1) 45 #[.bool false, .bool false, .int .i64 (wrap64 ((v - u) % 18446744073709551616)), .int .u64 0, .string ByteArray.empty, .complex .f64 0 0] (0, 0) rfl (H3.out _ _ _) Tryz.underlying45 (by exact info_cell)) rfl ?_
  exact ⟨rfl, HB.out _ _ _⟩
set_option maxHeartbeats 1000000 in
set_option maxRecDepth 100000 in
theorem step_point (a b u v : Int) (p q p1 q1 re im : Nat) (hc : cSumBits .sub .f64 p1 q1 p q = some (re, im)) (w : World) :
    Calls Tryz.prog 136 #[.int .i64 6, cl a u p q, cl b v p1 q1] w fun e w' => e = .returned (.tuple #[cl 0 0 re im, .int .i64 0]) ∧ Below w.heap.size w w' := by
  unfold cl
  have H3 := hide (row3 w)
  have HB := hide (below3 w)
  have hsub := fun w => run_complex_sum (P := Tryz.prog) (w := w) .sub (.inr rfl) 43 .f64 p1 q1 p q re im hc
  clear hc
  go_enter Tryz.func136, Tryz.ntmps136
  have hst := fun (w1 : World) (a1 : Addr) (m : Mode) (x y : Nat) => run_store Tryz.prog w1 a1 (.complex .f64 x y) m rfl
  go_wp2_with fail
  refine bodyPost_ret (results_cell_tmp_row rfl _ _ _ (w.heap.size + 1 + 1) 45 #[.bool false, .bool false, .int .i64 (0), .int .u64 0, .string ByteArray.empty, .complex .f64 re im] (0, 0) rfl (H3.out _ _ _) Tryz.underlying45 (by exact info_cell)) rfl ?_
  exact ⟨rfl, HB.out _ _ _⟩
set_option maxHeartbeats 1000000 in
set_option maxRecDepth 100000 in
theorem has_any (k : Int) (hk : k = 2 ∨ k = 3 ∨ k = 6) (w : World) :
    Calls Tryz.prog 135 #[.int .i64 k] w fun e w' => e = .returned (.bool true) ∧ w = w' := by
  rcases hk with rfl | rfl | rfl <;>
  · go_enter Tryz.func135, Tryz.ntmps135
    go_wp2_with fail
    go_ret
    exact ⟨rfl, rfl⟩
set_option maxHeartbeats 1000000 in
set_option maxRecDepth 100000 in
theorem dwstring_any (W B : Nat) (sv : Value) (l : List Nat) (w : World) (h : Wr w W B sv l) :
    Calls Tryz.prog 34 #[.pointer (some ⟨W, 0, none⟩)] w fun e w' => e = .returned (.string (strN l)) ∧ w = w' := by
  have hc : w.cell? ⟨W, 0, none⟩ = some sv := h.blk.cell 0
  have hs := ownU8_string h.own
  clear h
  go_enter Tryz.func34, Tryz.ntmps34
  go_wp2_with fail
  go_ret
  exact ⟨rfl, rfl⟩
end Go.Proofs.YtfkgmodgkifelaaGreatDoor
