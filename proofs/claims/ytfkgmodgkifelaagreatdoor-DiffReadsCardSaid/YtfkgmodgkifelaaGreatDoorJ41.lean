/- Which errors reading has. Columns: where one stands among others. -/
import Derived.Test.YtfkgmodgkifelaaGreatDoorJ40
namespace Go.Proofs.YtfkgmodgkifelaaGreatDoor
open Go.RowKit

/-- No error, or one that bytes may have. -/
def Eok (e : Nat) : Prop := e = 0 ∨ e = 10 ∨ e = 11 ∨ e = 12 ∨ e = 14 ∨ e = 30 ∨ e = 31
instance (e : Nat) : Decidable (Eok e) := inferInstanceAs (Decidable (_ ∨ _))
theorem few_k (D : List Nat) (a : Nat) : Eok (few D a).2.2 := by
  unfold Eok
  rcases few_err D a with h | h | h
  · omega
  · rw [h]; simp
  · rw [h]; simp
theorem num_k (n : Nat) (D : List Nat) : Eok (num n D).2.2 := by
  unfold Eok
  rcases num_err n D with h | h
  · omega
  · rw [h]; simp
theorem textS_k (m : Int) (D : List Nat) : Eok (textS m D).2.2 := by
  unfold textS
  split
  · split
    · exact (by decide : Eok 12)
    · split
      · exact (by decide : Eok 10)
      · exact (by decide : Eok 0)
  · exact few_k D 0
theorem gp_k (k : Int) (D : List Nat) (h1 : 1 ≤ k) (h6 : k ≤ 6) : Eok (gp k D).2.2.2 := by
  have n1 := num_k 1 D
  have n8 := num_k 8 D
  have ht := textS_k 1048576 D
  have f0 := few_k D 0
  have f1 := few_k (D.drop (few D 0).2.1) 0
  have z0 : Eok 0 := by decide
  have z12 : Eok 12 := by decide
  have hk : k = 1 ∨ k = 2 ∨ k = 3 ∨ k = 4 ∨ k = 5 ∨ k = 6 := by omega
  rcases hk with rfl | rfl | rfl | rfl | rfl | rfl
  · show Eok (gp1 D).2.2.2
    unfold gp1; repeat' split
    all_goals first | exact n1 | exact z0 | exact z12
  · show Eok (gp2 D).2.2.2
    unfold gp2; repeat' split
    all_goals first | exact n8 | exact z0
  · show Eok (gp3 D).2.2.2
    unfold gp3; repeat' split
    all_goals first | exact n8 | exact z0
  · show Eok (gp4 D).2.2.2
    unfold gp4; repeat' split
    all_goals first | exact ht | exact z0 | exact z12
  · show Eok (gp5 D).2.2.2
    unfold gp5; repeat' split
    all_goals first | exact ht | exact z0 | exact z12
  · show Eok (gp6 D).2.2.2
    unfold gp6; repeat' split
    all_goals first | exact f0 | exact f1 | exact z0 | exact z12
theorem errN_k (k : Int) (h1 : 1 ≤ k) (h6 : k ≤ 6) (D : List Nat) : ∀ n, Eok (errN k D n)
  | 0 => by unfold errN; decide
  | n + 1 => by
    unfold errN
    split
    · exact gp_k _ _ h1 h6
    · exact errN_k k h1 h6 D n
theorem unR_k (s : List Nat) (n : Nat) (hn : n ≤ 10000) : Eok (unR s n).1 := by
  unfold unR
  rw [if_neg (by omega)]
  repeat' split
  all_goals first | exact (by decide : Eok 0) | exact (by decide : Eok 10) | exact (by decide : Eok 11) | exact (by decide : Eok 12)
theorem dspec_k (k : Int) (h1 : 1 ≤ k) (h6 : k ≤ 6) (D : List Nat) (n : Nat) (hn : n ≤ 10000) : Eok (dspec k D n).1 := by
  unfold dspec
  rw [if_neg (by omega), if_neg (by omega)]
  split
  · exact unR_k D n hn
  · unfold decR
    split
    · split
      · exact (by decide : Eok 11)
      · exact (by decide : Eok 0)
    · exact errN_k k h1 h6 _ _
theorem dferr_k (k : Int) (D : List Nat) (i : Nat) : Eok (dferr k D i) := by
  unfold dferr derr
  repeat' split
  all_goals first | exact gp_k 6 _ (by decide) (by decide) | exact few_k _ _ | decide
theorem eN_k (f : Nat → Nat) (hf : ∀ i, Eok (f i)) : ∀ n, Eok (eN f n)
  | 0 => by unfold eN; decide
  | n + 1 => by
    unfold eN
    split
    · exact hf _
    · exact eN_k f hf n
theorem lspec_k (k : Int) (D : List Nat) (n : Nat) (hn : n ≤ 10000) : Eok (lspec k D n).1 := by
  unfold lspec
  split
  · exact (by decide : Eok 14)
  · rw [if_neg (by omega)]
    unfold decD outR
    split
    · split
      · exact (by decide : Eok 11)
      · exact (by decide : Eok 0)
    · exact eN_k _ (dferr_k k D) _
theorem rgo_k (k : Int) (h1 : 1 ≤ k) (h6 : k ≤ 6) (D : List Nat) (n : Nat) : ∀ (f p : Nat) (L : List (CD × Nat)), Eok (rgo k D n f p L).1 := by
  intro f
  induction f with
  | zero => intro p L; exact (by decide : Eok 0)
  | succ f ih =>
    intro p L
    unfold rgo
    split
    · split
      · exact (by decide : Eok 10)
      · exact (by decide : Eok 0)
    · split
      · split
        · split
          · exact (by decide : Eok 12)
          · exact ih _ _
        · exact gp_k _ _ h1 h6
      · exact few_k _ _
theorem rspec_k (k : Int) (h1 : 1 ≤ k) (h6 : k ≤ 6) (D : List Nat) (n : Nat) (hn : n ≤ 10000) : Eok (rspec k D n).1 := by
  unfold rspec
  rw [if_neg (by omega), if_neg (by omega)]
  exact rgo_k k h1 h6 D _ _ _ _
theorem dgo_k (k : Int) (h1 : 1 ≤ k) (h6 : k ≤ 6) (D : List Nat) : ∀ (m p : Nat) (l : List CD), Eok (dgo k D m p l).1 := by
  intro m
  induction m with
  | zero => intro p l; exact (by decide : Eok 0)
  | succ m ih =>
    intro p l
    rw [dgo]
    split
    · split
      · exact (by decide : Eok 12)
      · exact ih _ _
    · exact gp_k _ _ h1 h6
theorem pgo_k (D : List Nat) (dl : List CD) : ∀ (m p seen : Nat) (out : List CD), Eok (pgo D dl m p seen out).1 := by
  intro m
  induction m with
  | zero =>
    intro p seen out
    rw [pgo]
    split
    · exact (by decide : Eok 11)
    · split
      · exact (by decide : Eok 12)
      · exact (by decide : Eok 0)
  | succ m ih =>
    intro p seen out
    rw [pgo]
    split
    · split
      · exact (by decide : Eok 12)
      · exact ih _ _ _
    · exact few_k _ _
theorem xspec_k (k : Int) (h1 : 1 ≤ k) (h6 : k ≤ 6) (D : List Nat) (n : Nat) (hn : n ≤ 10000) : Eok (xspec k D n).1 := by
  unfold xspec
  rw [if_neg (by omega), if_neg (by omega)]
  unfold dspecD
  split
  · split
    · exact (by decide : Eok 12)
    · split
      · exact pgo_k _ _ _ _ _ _
      · exact dgo_k k h1 h6 _ _ _ _
  · exact few_k _ _
theorem backS_k (way : Nat) (k : Int) (h1 : 1 ≤ k) (h6 : k ≤ 6) (D : List Nat) (n : Nat) (hn : n ≤ 10000) : Eok (backS way k D n).1 := by
  unfold backS
  split
  · exact dspec_k k h1 h6 D n hn
  · split
    · exact rspec_k k h1 h6 D n hn
    · split
      · exact lspec_k k D n hn
      · split
        · exact xspec_k k h1 h6 D n hn
        · exact (by decide : Eok 14)
theorem missS_k (nl : Bool) (D : List Nat) (p n : Nat) (hn : n ≤ 10000) : Eok (missS nl D p n).1 := by
  unfold missS
  split
  · split
    · exact (by decide : Eok 10)
    · exact unR_k _ n hn
  · exact (by decide : Eok 0)
theorem cellsS_k (k : Int) (h1 : 1 ≤ k) (h6 : k ≤ 6) (nl : Bool) (D : List Nat) : Eok (cellsS k nl D).1 := by
  rcases hf : few D 0 with ⟨n, a, e0⟩
  by_cases he0 : e0 = 0
  · subst he0
    by_cases hn : 10000 < n
    · rw [cellsS_e2 hf hn]; exact (by decide : Eok 31)
    · rcases hm : missS nl D a n with ⟨em, bits, pm⟩
      by_cases hem : em = 0
      · subst hem
        by_cases hp : D.length ≤ pm
        · rw [cellsS_e4 hf hn hm hp]; exact (by decide : Eok 10)
        · rw [cellsS_e5 hf hn hm hp]
          have hl := missS_len (nl := nl) (D := D) (a := a) (n := n) (by omega) (by rw [hm])
          rw [hm] at hl
          simp only at hl
          have hcb : cnt bits ≤ bits.length := by unfold cnt; exact cntTo_le _ _
          obtain ⟨m, hmm⟩ : ∃ m : Nat, ((bits.length : Int) - (cnt bits : Int)) = m := ⟨bits.length - cnt bits, by omega⟩
          rw [hmm]
          have hb := backS_k (D.getD pm 0) k h1 h6 (D.drop (pm + 1)) m (by omega)
          split
          · exact hb
          · exact (by decide : Eok 0)
      · rw [cellsS_e3 hf hn hm hem]
        have := missS_k nl D a n (by omega)
        rw [hm] at this
        exact this
  · rw [cellsS_e1 hf he0]
    have := few_k D 0
    rw [hf] at this
    exact this
theorem cdecS_k (nm : ByteArray) (k : Int) (nl : Bool) (s : ByteArray) : Eok (cdecS nm k nl s).1 := by
  unfold cdecS
  split
  · exact (by decide : Eok 30)
  · rename_i hc
    have hc0 : colE nm k = 0 := Decidable.not_not.1 hc
    obtain ⟨h1, h6⟩ := colE_k hc0
    have := cellsS_k k h1 h6 nl (bn s)
    split
    · exact this
    · split
      · exact (by decide : Eok 12)
      · exact (by decide : Eok 0)
/-- Cells that are read of a stream may be of the column, and the stream is theirs. -/
theorem cdecS_ok {nm : ByteArray} {k : Int} {nl : Bool} {s : ByteArray} (hs : s.size ≤ 600) (h : (cdecS nm k nl s).1 = 0) : (cdecS nm k nl s).2.length ≤ 10000 ∧ (∀ c ∈ (cdecS nm k nl s).2, okM nl k c) ∧ tbm (cdecS nm k nl s).2 ≤ 1048576 ∧ encC k nl (cdecS nm k nl s).2 = s := by
  unfold cdecS at h ⊢
  split at h
  · cases h
  · rename_i hc
    have hc0 : colE nm k = 0 := Decidable.not_not.1 hc
    obtain ⟨h1, h6⟩ := colE_k hc0
    split at h
    · rename_i he; exact absurd h he
    · rename_i he
      split at h
      · cases h
      · rename_i ht
        rw [if_neg hc, if_neg he, if_neg ht]
        obtain ⟨a, b⟩ := cellsS_ok h1 h6 (bys_bn s hs) (Decidable.not_not.1 he)
        rw [not_or] at ht
        exact ⟨a, b, by show tbm (cellsS k nl (bn s)).2 ≤ 1048576; omega, Decidable.not_not.1 ht.2⟩
theorem colsE_k (l : List Col) : Eok (colsE l) := by
  by_cases h : colsE l = 0
  · rw [h]; decide
  · rw [colsE_30 rfl h]; decide
theorem getGo_k : ∀ (n : Nat) (D : List Nat) (acc : List Col), Eok (getGo n D acc).1 := by
  intro n
  induction n with
  | zero => intro D acc; exact (by decide : Eok 0)
  | succ n ih =>
    intro D acc
    unfold getGo
    split
    · exact textS_k _ _
    · split
      · exact (by decide : Eok 10)
      · exact ih _ _
theorem getS_k (D : List Nat) : Eok (getS D).1 := by
  unfold getS
  split
  · exact few_k _ _
  · split
    · exact getGo_k _ _ _
    · split
      · exact (by decide : Eok 11)
      · split
        · exact (by decide : Eok 30)
        · exact (by decide : Eok 0)
theorem dcolS_k (D : List Nat) : Eok (dcolS D).1 := by
  unfold dcolS
  split
  · exact textS_k _ _
  · split
    · exact getS_k _
    · split
      · exact few_k _ _
      · split
        · exact (by decide : Eok 12)
        · exact (by decide : Eok 0)
theorem edGo_k (k : Int) (h1 : 1 ≤ k) (h6 : k ≤ 6) (rows : Nat) : ∀ (n : Nat) (D : List Nat) (next : Nat) (acc : List Ed), Eok (edGo k rows n D next acc).1 := by
  intro n
  induction n with
  | zero => intro D next acc; exact (by decide : Eok 0)
  | succ n ih =>
    intro D next acc
    unfold edGo
    split
    · exact few_k _ _
    · split
      · exact (by decide : Eok 10)
      · split
        · exact (by decide : Eok 12)
        · split
          · exact ih _ _ _
          · split
            · exact gp_k _ _ h1 h6
            · exact ih _ _ _
end Go.Proofs.YtfkgmodgkifelaaGreatDoor
namespace Go.Proofs.YtfkgmodgkifelaaGreatDoor
open Go.RowKit

theorem bytes_dec (a b : ByteArray) : (a.toList == b.toList) = decide (a = b) := by
  by_cases h : a = b
  · subst h; rw [decide_eq_true rfl]; exact beq_self_eq_true _
  · rw [decide_eq_false h]; exact str_ne h
theorem col_eql (a b : ByteArray) (k m : Int) (x y : Bool) (w : World) : (binOp .eql 23 (.agg #[.string a, .int .i64 k, .bool x]) (.agg #[.string b, .int .i64 m, .bool y])).run Tryz.prog w = .ok (.bool (decide ((a, k, x) = (b, m, y)))) w := by
  have hS : Tryz.prog.underlying 23 = some (.struct (Tryz.prog.fieldsOf 23)) := by kernel_rfl
  have hp : Tryz.prog.stoodInHeld 23 = false := by kernel_rfl
  have hd : decide ((a, k, x) = (b, m, y)) = (decide (a = b) && (k == m) && (x == y)) := by
    by_cases h1 : a = b <;> by_cases h2 : k = m <;> by_cases h3 : x = y <;> simp [h1, h2, h3]
  rw [hd, ← bytes_dec, run_eql_struct, show (10000 : Nat) = 9999 + 1 from rfl, run_equalIn_agg w 9999 _ _ _ hS hp]
  simp only [Program.fieldsOf, Tryz.underlying23]
  go_simp
  by_cases h1 : a.toList = b.toList <;> by_cases h2 : k = m <;> cases x <;> cases y <;> simp [h1, h2]
/-- Where a column stands: nowhere, or there. -/
def PlcP (l : List Col) (c : Col) (r : Int) : Prop := (r = -1 ∧ c ∉ l) ∨ ∃ i : Nat, r = i ∧ l[i]? = some c
theorem PlcP.dec {l : List Col} {c : Col} {r : Int} (h : PlcP l c r) : decide (0 ≤ r) = decide (c ∈ l) := by
  rcases h with ⟨rfl, h⟩ | ⟨i, rfl, h⟩
  · rw [decide_eq_false h]; rfl
  · rw [decide_eq_true (List.mem_of_getElem? h)]
    exact decide_eq_true (by omega)
theorem PlcP.rng {l : List Col} {c : Col} {r : Int} (h : PlcP l c r) : -1 ≤ r ∧ r < l.length + 1 := by
  rcases h with ⟨rfl, h⟩ | ⟨i, rfl, h⟩
  · omega
  · have := (List.getElem?_eq_some_iff.1 h).1; omega
theorem notin_take {l : List Col} {i : Nat} {c x : Col} (h : c ∉ l.take i) (hx : l[i]? = some x) (hne : ¬ c = x) : c ∉ l.take (i + 1) := by
  rw [take_at hx]
  intro hm
  rcases List.mem_append.1 hm with hm | hm
  · exact h hm
  · rw [List.mem_singleton] at hm; exact hne hm
set_option maxHeartbeats 4000000 in
set_option maxRecDepth 100000 in
theorem cindex_any (l : List Col) (hl : l.length ≤ 100000) (c : Col) (v : Value) (w : World) (hv : InK w v l) :
    Calls Tryz.prog 104 #[v, colV c.1 c.2.1 c.2.2] w fun e w' => (∃ r : Int, e = .returned (.int .i64 r) ∧ PlcP l c r) ∧ Below w.heap.size w w' := by
  obtain ⟨A, ca, rfl, _, hcell⟩ := hv
  have HC := hide hcell
  clear hcell
  generalize hn : l.length = n at *
  have HN := hide hn
  clear hn
  obtain ⟨nm, k, nl⟩ := c
  unfold colV
  simp only
  have HQ := hide (fun b m y => col_eql nm b k m nl y)
  have HK0 := hide (Blk.new w #[.string nm, .int .i64 k, .bool nl] 23)
  have HB0 := hide ((Below.refl w.heap.size w).alloc (Nat.le_refl _) (.cells #[.string nm, .int .i64 k, .bool nl] 23))
  go_enter Tryz.func104, Tryz.ntmps104
  go_wp2_with fail
  go_loopw [8] (fun iv wr => ∃ i : Nat, i ≤ n ∧ iv = .int .i64 (i : Int) ∧ Hid ((nm, k, nl) ∉ l.take i) ∧ Hid (Blk wr w.heap.size 23 #[.string nm, .int .i64 k, .bool nl]) ∧ Hid (Below w.heap.size w wr)) (fun iv _ => n - (intOf iv).toNat)
  case atStart => exact ⟨0, by omega, rfl, hide (by simp), HK0, HB0⟩
  case round =>
    obtain ⟨i, hi, rfl, hno, hk, hb⟩ := hrel
    by_cases hlt : i < n
    · obtain ⟨x, hx⟩ : ∃ x, l[i]? = some x := ⟨l[i]'(by rw [HN.out]; exact hlt), List.getElem?_eq_getElem _⟩
      obtain ⟨g, hA, hg, hat⟩ := HC.out i x hx
      subst hA
      obtain ⟨a0, a1, a2⟩ := hat.below hb.out hg
      have k0 := hk.out.cell 0
      have k1 := hk.out.cell 1
      have k2 := hk.out.cell 2
      have HX := hide hx
      have HNO := hide (notin_take hno.out hx)
      have HKD := hide (Blk.drew hk.out)
      have HBD := hide (Below.drew hb.out)
      obtain ⟨xn, xk, xl⟩ := x
      simp only at a0 a1 a2
      simp at k0 k1 k2
      have hq := HQ.out xn xk xl
      obtain ⟨r, hr⟩ : ∃ r, decide ((nm, k, nl) = (xn, xk, xl)) = r := ⟨_, rfl⟩
      have HR := hide hr
      rw [hr] at hq
      have hi0 : (0 : Int) ≤ (i : Int) := by omega
      have hi1 : (i : Int) < (n : Int) := by omega
      have HLT := hide hlt
      clear hx hat hr hno hk hb hlt
      cases r
      · go_wp2_with fail
        go_region
        go_wp2_with fail
        go_roundw
        case rel => exact ⟨i + 1, by have := HLT.out; omega, by go_num, hide (HNO.out (of_decide_eq_false HR.out)), HKD, HBD⟩
        case measure => have := HLT.out; simp [intOf]; omega
      · go_wp2_with fail
        go_region
        go_wp2_with fail
        go_ret
        exact ⟨⟨_, rfl, .inr ⟨i, rfl, by rw [of_decide_eq_true HR.out]; exact HX.out⟩⟩, HBD.out⟩
    · obtain rfl : n = i := by omega
      have hno' : (nm, k, nl) ∉ l := by have := hno.out; rwa [← HN.out, List.take_length] at this
      have HNN := hide hno'
      have HB := hide hb.out
      clear hno hno' hk hb hlt hi
      go_wp2_with fail
      go_ret
      exact ⟨⟨_, rfl, .inl ⟨rfl, HNN.out⟩⟩, HB.out⟩
set_option maxHeartbeats 4000000 in
set_option maxRecDepth 100000 in
theorem place_any (l : List Col) (hl : l.length ≤ 100000) (c : Col) (v : Value) (w : World) (hv : InK w v l) :
    Calls Tryz.prog 75 #[v, colV c.1 c.2.1 c.2.2] w fun e w' => (∃ r : Int, e = .returned (.int .i64 r) ∧ PlcP l c r) ∧ Below w.heap.size w w' := by
  obtain ⟨A, ca, rfl, _, hcell⟩ := hv
  have HC := hide hcell
  clear hcell
  generalize hn : l.length = n at *
  have HN := hide hn
  clear hn
  obtain ⟨nm, k, nl⟩ := c
  unfold colV
  simp only
  have HQ := hide (fun b m y => col_eql b nm m k y nl)
  have HK0 := hide (Blk.new w #[.string nm, .int .i64 k, .bool nl] 23)
  have HB0 := hide ((Below.refl w.heap.size w).alloc (Nat.le_refl _) (.cells #[.string nm, .int .i64 k, .bool nl] 23))
  go_enter Tryz.func75, Tryz.ntmps75
  go_wp2_with fail
  go_loopw [5] (fun iv wr => ∃ i : Nat, i ≤ n ∧ iv = .int .i64 (i : Int) ∧ Hid ((nm, k, nl) ∉ l.take i) ∧ Hid (Blk wr w.heap.size 23 #[.string nm, .int .i64 k, .bool nl]) ∧ Hid (Below w.heap.size w wr)) (fun iv _ => n - (intOf iv).toNat)
  case atStart => exact ⟨0, by omega, rfl, hide (by simp), HK0, HB0⟩
  case round =>
    obtain ⟨i, hi, rfl, hno, hk, hb⟩ := hrel
    by_cases hlt : i < n
    · obtain ⟨x, hx⟩ : ∃ x, l[i]? = some x := ⟨l[i]'(by rw [HN.out]; exact hlt), List.getElem?_eq_getElem _⟩
      obtain ⟨g, hA, hg, hat⟩ := HC.out i x hx
      subst hA
      obtain ⟨a0, a1, a2⟩ := hat.below hb.out hg
      have k0 := hk.out.cell 0
      have k1 := hk.out.cell 1
      have k2 := hk.out.cell 2
      have HX := hide hx
      have HNO := hide (notin_take hno.out hx)
      have HKD := hide (Blk.drew hk.out)
      have HBD := hide (Below.drew hb.out)
      obtain ⟨xn, xk, xl⟩ := x
      simp only at a0 a1 a2
      simp at k0 k1 k2
      have hq := HQ.out xn xk xl
      obtain ⟨r, hr⟩ : ∃ r, decide ((xn, xk, xl) = (nm, k, nl)) = r := ⟨_, rfl⟩
      have HR := hide hr
      rw [hr] at hq
      have hi0 : (0 : Int) ≤ (i : Int) := by omega
      have hi1 : (i : Int) < (n : Int) := by omega
      have HLT := hide hlt
      clear hx hat hr hno hk hb hlt
      cases r
      · go_wp2_with fail
        go_region
        go_wp2_with fail
        go_roundw
        case rel => exact ⟨i + 1, by have := HLT.out; omega, by go_num, hide (HNO.out (fun h => of_decide_eq_false HR.out h.symm)), HKD, HBD⟩
        case measure => have := HLT.out; simp [intOf]; omega
      · go_wp2_with fail
        go_region
        go_wp2_with fail
        go_ret
        exact ⟨⟨_, rfl, .inr ⟨i, rfl, by rw [← of_decide_eq_true HR.out]; exact HX.out⟩⟩, HBD.out⟩
    · obtain rfl : n = i := by omega
      have hno' : (nm, k, nl) ∉ l := by have := hno.out; rwa [← HN.out, List.take_length] at this
      have HNN := hide hno'
      have HB := hide hb.out
      clear hno hno' hk hb hlt hi
      go_wp2_with fail
      go_ret
      exact ⟨⟨_, rfl, .inl ⟨rfl, HNN.out⟩⟩, HB.out⟩
set_option maxHeartbeats 4000000 in
set_option maxRecDepth 100000 in
theorem contains_any (l : List Col) (hl : l.length ≤ 100000) (c : Col) (v : Value) (w : World) (hv : InK w v l) :
    Calls Tryz.prog 70 #[v, colV c.1 c.2.1 c.2.2] w fun e w' => e = .returned (.bool (decide (c ∈ l))) ∧ Below w.heap.size w w' := by
  have hform : ∃ A n ca, v = .slice A n ca := by obtain ⟨A, ca, h, _⟩ := hv; exact ⟨A, _, ca, h⟩
  obtain ⟨r0, hr0⟩ : ∃ r0, decide (c ∈ l) = r0 := ⟨_, rfl⟩
  rw [hr0]
  have HR := hide hr0
  have HB0 := hide (fun o => (Below.refl w.heap.size w).alloc (Nat.le_refl _) o)
  have K := hide (fun o => cindex_any l hl c v (w.alloc o) (hv.below (HB0.out o)))
  obtain ⟨A, n, ca, rfl⟩ := hform
  unfold colV at K ⊢
  clear hv hr0 hl
  go_enter Tryz.func70, Tryz.ntmps70
  go_wp2_with fail
  refine (K.out _).mono ?_
  rintro e w1 ⟨⟨r, rfl, hp⟩, hb1⟩
  have hd := hp.dec
  rw [HR.out] at hd
  have HB1 := hide ((HB0.out _).trans (hb1.mono (by simp)))
  clear hp hb1
  go_wp2_with fail
  go_ret
  exact ⟨rfl, HB1.out⟩
end Go.Proofs.YtfkgmodgkifelaaGreatDoor
