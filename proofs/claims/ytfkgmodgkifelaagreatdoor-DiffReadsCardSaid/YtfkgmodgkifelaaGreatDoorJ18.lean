/- Columns as bytes: the plain functions, and that they are each other's. Columns as bytes: schema.Get. Columns: the bytes of cells, each way: the plain functions. -/
import Derived.Test.YtfkgmodgkifelaaGreatDoorJ17
import Derived.Test.YtfkgmodgkifelaaGreatDoorJ09
import Derived.Test.YtfkgmodgkifelaaGreatDoorJ15
namespace Go.Proofs.YtfkgmodgkifelaaGreatDoor
open Go.RowKit

/-- A column as bytes. -/
def colB (c : Col) : List Nat := uvar c.1.size ++ bn c.1 ++ [c.2.1.toNat + if c.2.2 then 128 else 0]
def putS (l : List Col) : List Nat := uvar l.length ++ l.flatMap colB
/-- So many columns, read behind others: the error, what is left, all of them. -/
def getGo : Nat → List Nat → List Col → Nat × List Nat × List Col
  | 0, D, acc => (0, D, acc)
  | n + 1, D, acc =>
    if (textS 1048576 D).2.2 ≠ 0 then ((textS 1048576 D).2.2, [], [])
    else if D.length ≤ (textS 1048576 D).2.1 then (10, [], [])
    else getGo n (D.drop ((textS 1048576 D).2.1 + 1)) (acc ++ [(strN (textS 1048576 D).1, ((D.getD (textS 1048576 D).2.1 0 % 128 : Nat) : Int), decide (128 ≤ D.getD (textS 1048576 D).2.1 0))])
/-- The columns of bytes. -/
def getS (D : List Nat) : Nat × List Col :=
  if (few D 0).2.2 ≠ 0 then ((few D 0).2.2, [])
  else if (getGo (few D 0).1 (D.drop (few D 0).2.1) []).1 ≠ 0 then ((getGo (few D 0).1 (D.drop (few D 0).2.1) []).1, [])
  else if (getGo (few D 0).1 (D.drop (few D 0).2.1) []).2.1 ≠ [] then (11, [])
  else if colsE (getGo (few D 0).1 (D.drop (few D 0).2.1) []).2.2 ≠ 0 then (30, [])
  else (0, (getGo (few D 0).1 (D.drop (few D 0).2.1) []).2.2)
theorem textS_one {m : Int} {D t : List Nat} {c : Nat} (hD : ∀ b ∈ D, b < 256) (h : textS m D = (t, c, 0)) : D.take c = uvar t.length ++ t ∧ c ≤ D.length ∧ (∀ b ∈ t, b < 256) := by
  unfold textS at h
  by_cases h0 : (few D 0).2.2 = 0
  · rw [if_pos h0] at h
    split at h
    · cases h
    · split at h
      · cases h
      · rename_i h1 h2
        obtain ⟨f1, f2⟩ := few_le D 0 h0
        obtain ⟨g1, _⟩ := few_one D 0 hD h0
        injection h with ht h
        injection h with hc _
        have hlen : t.length = (few D 0).1 := by rw [← ht, List.length_take, List.length_drop]; omega
        refine ⟨?_, by omega, fun b hb => hD b (List.mem_of_mem_drop (List.mem_of_mem_take (by rw [ht]; exact hb)))⟩
        rw [← hc, hlen, ← ht, ← g1, List.take_add]
  · rw [if_neg h0] at h
    injection h with _ h
    injection h with _ h
    exact absurd h h0
theorem getGo_one : ∀ (n : Nat) (D : List Nat) (acc : List Col) (rest : List Nat) (l : List Col), (∀ b ∈ D, b < 256) → getGo n D acc = (0, rest, l) →
    ∃ l', l = acc ++ l' ∧ l'.length = n ∧ D = l'.flatMap colB ++ rest := by
  intro n
  induction n with
  | zero =>
    intro D acc rest l _ h
    injection h with _ h
    injection h with h1 h2
    exact ⟨[], by simp [h2], rfl, by simp [h1]⟩
  | succ n ih =>
    intro D acc rest l hD h
    obtain ⟨⟨t, c, e⟩, hT⟩ : ∃ x : List Nat × Nat × Nat, textS 1048576 D = x := ⟨_, rfl⟩
    unfold getGo at h
    rw [hT] at h
    simp only at h
    by_cases h1 : e = 0
    · subst h1
      rw [if_neg (by simp)] at h
      obtain ⟨o1, o2, o3⟩ := textS_one hD hT
      by_cases h2 : D.length ≤ c
      · rw [if_pos h2] at h; cases h
      · rw [if_neg h2] at h
        obtain ⟨l', rfl, hl', hd⟩ := ih _ _ _ _ (fun b hb => hD b (List.mem_of_mem_drop hb)) h
        refine ⟨_ :: l', by rw [List.append_assoc]; rfl, by rw [List.length_cons, hl'], ?_⟩
        have hlt : c < D.length := by omega
        have hg : D[c]? = some (D.getD c 0) := by simp [List.getD, List.getElem?_eq_getElem hlt]
        have hb : D.getD c 0 < 256 := hD _ (List.mem_of_getElem? hg)
        have hsz : (strN t).size = t.length := strN_size t
        have hbn : bn (strN t) = t := bn_strN t o3
        rw [List.flatMap_cons, List.append_assoc, ← hd]
        unfold colB
        simp only
        rw [hsz, hbn, ← o1]
        have hk : (((D.getD c 0 % 128 : Nat) : Int)).toNat + (if decide (128 ≤ D.getD c 0) = true then 128 else 0) = D.getD c 0 := by
          rw [Int.toNat_natCast]
          split
          · rename_i h; have := of_decide_eq_true h; omega
          · rename_i h; have : ¬ 128 ≤ D.getD c 0 := fun h' => h (decide_eq_true h'); omega
        rw [hk, List.append_assoc]
        show D = D.take c ++ ([D.getD c 0] ++ D.drop (c + 1))
        have h4 := dropK_at hg
        rw [List.singleton_append, ← h4, List.take_append_drop]
    · rw [if_pos h1] at h
      injection h with h _
      exact absurd h h1
/-- Bytes that tell columns are those columns' own, and the columns may be. -/
theorem getS_one {D : List Nat} {l : List Col} (hD : ∀ b ∈ D, b < 256) (h : getS D = (0, l)) : putS l = D ∧ colsE l = 0 := by
  obtain ⟨⟨n, a, e⟩, hf⟩ : ∃ x : Nat × Nat × Nat, few D 0 = x := ⟨_, rfl⟩
  unfold getS at h
  rw [hf] at h
  simp only at h
  by_cases he : e = 0
  · subst he
    rw [if_neg (by simp)] at h
    obtain ⟨⟨e2, rest, l2⟩, hg⟩ : ∃ x : Nat × List Nat × List Col, getGo n (D.drop a) [] = x := ⟨_, rfl⟩
    rw [hg] at h
    simp only at h
    by_cases he2 : e2 = 0
    · subst he2
      rw [if_neg (by simp)] at h
      by_cases hr : rest = []
      · subst hr
        rw [if_neg (by simp)] at h
        by_cases hc : colsE l2 = 0
        · rw [if_neg (by simp [hc])] at h
          injection h with _ h
          subst h
          obtain ⟨l', h1, h2, h3⟩ := getGo_one n _ _ _ _ (fun b hb => hD b (List.mem_of_mem_drop hb)) hg
          rw [List.nil_append] at h1
          subst h1
          refine ⟨?_, hc⟩
          obtain ⟨g1, _⟩ := few_one D 0 hD (by rw [hf])
          rw [hf] at g1
          simp only at g1
          rw [List.append_nil] at h3
          unfold putS
          rw [h2, ← h3, ← g1, List.take_append_drop]
        · rw [if_pos hc] at h; cases h
      · rw [if_pos hr] at h; cases h
    · rw [if_pos he2] at h
      injection h with h _
      exact absurd h he2
  · rw [if_pos he] at h
    injection h with h _
    exact absurd h he
end Go.Proofs.YtfkgmodgkifelaaGreatDoor
namespace Go.Proofs.YtfkgmodgkifelaaGreatDoor
open Go.RowKit

theorem info_cK : (Tryz.prog.info? 23).map (fun i => (i.zero, i.size, i.bytes)) = some (some (.agg #[.string ByteArray.empty, .int .i64 0, .bool false]), 3, 32) := by kernel_rfl
theorem textS_le3 (m : Int) (D : List Nat) : (textS m D).2.1 ≤ D.length ∧ (textS m D).1.length ≤ D.length ∧ ((textS m D).2.2 ≠ 0 → (textS m D).1 = [] ∧ (textS m D).2.1 = 0) := by
  unfold textS
  by_cases h0 : (few D 0).2.2 = 0
  · rw [if_pos h0]
    have := few_le0 D
    split
    · simp
    · split
      · simp
      · rename_i h1 h2
        refine ⟨by simp only; omega, by simp only [List.length_take, List.length_drop]; omega, fun h => absurd rfl h⟩
  · rw [if_neg h0]
    simp
/-- One more column is read. -/
theorem get_step (s : ByteArray) (hs : s.size ≤ maxLen) (p : Nat) (hp : p ≤ s.size) (m : Nat) (acc : List Col) (RES : Nat × List Nat × List Col) (h : getGo (m + 1) ((bn s).drop p) acc = RES) :
    ∃ (nm : ByteArray) (p1 e1 b p2 e2 : Nat), nm.size ≤ s.size ∧ b < 256 ∧ p1 ≤ s.size ∧ p2 ≤ s.size ∧ (e2 = 0 → p + 1 ≤ p2) ∧
      (∀ R w, Rd w R s p 0 → Calls Tryz.prog 68 #[.pointer (some ⟨R, 0, none⟩), .int .i64 1048576] w (RPost R w s (.string nm) p1 e1)) ∧
      (∀ R w, Rd w R s p1 e1 → Calls Tryz.prog 50 #[.pointer (some ⟨R, 0, none⟩)] w (RPost R w s (.int .u8 (b : Nat)) p2 e2)) ∧
      ((e2 = 0 ∧ getGo m ((bn s).drop p2) (acc ++ [(nm, ((b % 128 : Nat) : Int), decide (128 ≤ b))]) = RES) ∨ (e2 ≠ 0 ∧ RES = (e2, [], []))) := by
  have hlD : ((bn s).drop p).length = s.size - p := by rw [List.length_drop, bn_len]
  obtain ⟨l1, l2, l3⟩ := textS_le3 1048576 ((bn s).drop p)
  have K := fun R w (h : Rd w R s p 0) => rtext_any R s p 0 1048576 (by omega) (by omega) hs hp w h
  unfold stT at K
  simp only [if_true] at K
  unfold getGo at h
  rcases hT : textS 1048576 ((bn s).drop p) with ⟨t, c, e⟩
  rw [hT] at h K l1 l2 l3
  simp only at h K l1 l2 l3
  by_cases he : e = 0
  · subst he
    rw [if_neg (by simp)] at h
    by_cases h2 : ((bn s).drop p).length ≤ c
    · rw [if_pos h2] at h
      refine ⟨strN t, p + c, 0, 0, p + c, 10, by rw [strN_size]; omega, by omega, by omega, by omega, by omega, K, fun R w hr => ?_, .inr ⟨by omega, h.symm⟩⟩
      exact ru8_nil R s (p + c) hs (by omega) (by rw [← List.drop_drop]; exact List.drop_of_length_le h2) w hr
    · rw [if_neg h2] at h
      have hlt : c < ((bn s).drop p).length := by omega
      have hg : ((bn s).drop p)[c]? = some (((bn s).drop p).getD c 0) := by simp [List.getD, List.getElem?_eq_getElem hlt]
      have hb : ((bn s).drop p).getD c 0 < 256 := bn_lt s _ (List.mem_of_mem_drop (List.mem_of_getElem? hg))
      have hd := dropK_at hg
      rw [List.drop_drop, List.drop_drop] at hd
      rw [List.drop_drop] at h
      refine ⟨strN t, p + c, 0, ((bn s).drop p).getD c 0, p + c + 1, 0, by rw [strN_size]; omega, hb, by omega, by omega, by omega, K, fun R w hr => ?_, .inl ⟨rfl, by rw [Nat.add_assoc]; exact h⟩⟩
      exact ru8_cons R s (p + c) _ _ hs (by omega) hd w hr
  · rw [if_pos he] at h
    obtain ⟨rfl, rfl⟩ := l3 he
    refine ⟨strN [], p + 0, e, 0, p + 0, e, by rw [strN_size]; simp, by omega, by omega, by omega, fun h => absurd h he, K, fun R w hr => ?_, .inr ⟨he, h.symm⟩⟩
    have := ru8_any R s (p + 0) e hs (by omega) w hr
    unfold st at this
    rw [if_neg he] at this
    exact this
theorem andnot_128 : ∀ b : Nat, b < 256 → bits .andNot .u8 (b : Int) 128 = ((b % 128 : Nat) : Int) := by decide +kernel
theorem colsGo_30 : ∀ (l : List Col) (seen : List ByteArray), colsGo l seen ≠ 0 → colsGo l seen = 30 := by
  intro l
  induction l with
  | nil => intro seen h; exact absurd rfl h
  | cons c cs ih =>
    intro seen h
    by_cases hc : colE c.1 c.2.1 = 0 ∧ c.1 ∉ seen
    · rw [colsGo_ok hc.1 hc.2] at h ⊢
      exact ih _ h
    · exact colsGo_bad hc
theorem colsE_30 {l : List Col} {ce : Nat} (h : colsE l = ce) (h0 : ce ≠ 0) : ce = 30 := by
  subst h
  unfold colsE at h0 ⊢
  split
  · rfl
  · rename_i hc
    rw [if_neg hc] at h0
    exact colsGo_30 _ _ h0
/-- How the reading of columns ends. -/
def GetPost (w : World) (r : Nat × List Col) (e : Ending) (w' : World) : Prop := ∃ v, e = .returned (.tuple #[v, .int .i64 (r.1 : Nat)]) ∧ InK w' v r.2 ∧ Below w.heap.size w w'
set_option maxHeartbeats 4000000 in
set_option maxRecDepth 100000 in
theorem sget_any (s : ByteArray) (hs : s.size ≤ 100000) (w : World) (hT : Tabs w) :
    Calls Tryz.prog 69 #[.string s] w (GetPost w (getS (bn s))) := by
  have hsm : s.size ≤ maxLen := by unfold maxLen; omega
  obtain ⟨i0, hi, hz0, hz1, hz2⟩ := info_parts info_cK
  have HT := hide hT
  have KR := hide (rd_new s)
  have K1 := hide (fun R w (h : Rd w R s 0 0) => ruvar_any R s 0 0 hsm (by omega) w h)
  have KE := hide (fun R p e w (h : Rd w R s p e) => rerr_any R s p e w h)
  have KD := hide (fun R p e (hp : p ≤ s.size) w (h : Rd w R s p e) => rdone_any R s p e hsm hp w h)
  have KG := hide (fun p (hp : p ≤ s.size) m acc RES h => get_step s hsm p hp m acc RES h)
  rcases hf : few (bn s) 0 with ⟨n, a, e0⟩
  have hle := few_le0 (bn s)
  have h64 := few_lt64 (bn s)
  have hst : st s 0 0 (fun D => few D 0) = (n, a, e0) := by rw [st_at, List.drop_zero, hf]; simp
  rw [hst] at K1
  rw [hf] at hle h64
  rw [bn_len] at hle
  simp only at hle h64 K1
  obtain ⟨G, hG⟩ : ∃ G, (if e0 = 0 then getGo n ((bn s).drop a) [] else (e0, [], [])) = G := ⟨_, rfl⟩
  have hn0 : e0 ≠ 0 → n = 0 := by
    intro h
    rcases few_err (bn s) 0 with h1 | h1 | h1
    · rw [hf] at h1; exact absurd h1 h
    · rw [hf] at h1; injection h1
    · rw [hf] at h1; injection h1
  have hspec : getS (bn s) = if G.1 ≠ 0 then (G.1, []) else if G.2.1 ≠ [] then (11, []) else if colsE G.2.2 ≠ 0 then (30, []) else (0, G.2.2) := by
    unfold getS
    rw [hf]
    simp only
    by_cases h0 : e0 = 0
    · rw [if_pos h0] at hG
      rw [if_neg (by simp [h0]), hG]
    · rw [if_neg h0] at hG
      subst hG
      rw [if_pos h0]
      simp [h0]
  have HG := hide hG
  have HN := hide hn0
  have HSP := hide hspec
  generalize getS (bn s) = FIN at *
  have HN63 := hide (show (n : Int) < 18446744073709551616 by omega)
  clear hT hf hst hG hn0 hspec hsm h64
  go_enter Tryz.func69, Tryz.ntmps69
  go_wp2_with fail
  refine (KR.out _).mono ?_
  rintro e w1 ⟨R, rfl, hr1, hR1, hb1⟩
  have K1' := hide (K1.out R w1 hr1)
  have HB1 := hide hb1
  clear hr1 hb1
  go_wp2_with fail
  refine K1'.out.mono ?_
  rintro e w2 ⟨rfl, hr2, hf2⟩
  have HB2 := hide (HB1.out.trans (hf2.below HB1.out.size (fun j hj => by omega)))
  have HR2 := hide hr2
  have HRl := hide hR1
  clear hr2 hf2 K1' HB1 hR1
  go_wp2_with fail
  go_loopw [6, 7] (fun ov iv wr => ∃ (i p er : Nat) (acc : List Col), i ≤ n ∧ iv = .int .u64 (i : Int) ∧ p ≤ s.size ∧ (er = 0 → i ≤ p) ∧ i ≤ s.size + 1 ∧ Hid (acc.length = i) ∧ Hid ((er = 0 ∧ getGo (n - i) ((bn s).drop p) acc = G) ∨ (er ≠ 0 ∧ G = (er, [], []))) ∧ Hid (∀ c ∈ acc, c.1.size ≤ s.size) ∧ Hid (wr.ownsRow w.heap.size 23 3 ov i (acc.flatMap cellsK)) ∧ Hid (Rd wr R s p er) ∧ Hid (Below w.heap.size w wr)) (fun _ iv _ => n - (intOf iv).toNat)
  case atStart =>
    refine ⟨0, a, e0, [], by omega, rfl, hle, fun _ => by omega, by omega, rfl, ?_, fun c hc => by simp at hc, World.ownsRow_nil _ _ _ _, HR2.out, HB2.out⟩
    have := HG.out
    by_cases h0 : e0 = 0
    · rw [if_pos h0] at this
      exact .inl ⟨h0, this⟩
    · rw [if_neg h0] at this
      exact .inr ⟨h0, this.symm⟩
  case round =>
    obtain ⟨i, p, er, acc, hin, rfl, hp, hip, his, hal, hgo, hnm, how, hrd, hb⟩ := hrel
    obtain ⟨OA, oc, rfl⟩ := own_form3 how.out
    by_cases hlt : i < n
    · have hi1 : (i : Int) < (n : Int) := by omega
      have KE2 := hide (KE.out R p er _ hrd.out)
      by_cases he0 : er = 0
      · subst he0
        have hg1 : getGo (n - i) ((bn s).drop p) acc = G := by
          rcases hgo.out with ⟨_, h⟩ | ⟨h, _⟩
          · exact h
          · exact absurd rfl h
        rw [show n - i = (n - i - 1) + 1 by omega] at hg1
        obtain ⟨nm, p1, e1, b, p2, e2, hnmz, hb8, hp1, hp2, hpp, KT, KU, hnext⟩ := KG.out p hp _ acc G hg1
        have KT2 := hide (KT R _ hrd.out)
        have KU2 := hide (KU R)
        have HPP := hide hpp
        have hpi := hip rfl
        have HOW := hide how.out
        have HRD0 := hide hrd.out
        have HB := hide hb.out
        have hand := andnot_128 b hb8
        obtain ⟨kk, hkk⟩ : ∃ kk : Nat, b % 128 = kk := ⟨_, rfl⟩
        obtain ⟨bb, hbb⟩ : ∃ bb : Bool, decide (128 ≤ b) = bb := ⟨_, rfl⟩
        have hbb2 : decide ((128 : Int) ≤ (b : Int)) = bb := by rw [← hbb, decide_eq_decide]; omega
        have hkw : IntKind.i64.wrap ((kk : Nat) : Int) = ((kk : Nat) : Int) := by rw [IntKind.wrap_i64]; omega
        rw [hkk] at hand hnext
        rw [hbb] at hnext
        have HNX := hide hnext
        clear hkk hbb
        have hwi : IntKind.u64.wrap ((i : Int) + 1) = (i : Int) + 1 := by have := HN63.out; rw [IntKind.wrap_u64]; omega
        have HLT := hide hlt
        clear hgo hg1 KT KU hnext how hrd hb hlt hpp
        go_wp2_with fail
        refine KE2.out.mono ?_
        rintro e w3 ⟨rfl, rfl⟩
        go_wp2_with fail
        refine KT2.out.mono ?_
        rintro e w4 ⟨rfl, hr4, hf4⟩
        have KU3 := hide (KU2.out w4 hr4)
        have HF4 := hide hf4
        clear hr4 hf4
        go_wp2_with fail
        refine KU3.out.mono ?_
        rintro e w5 ⟨rfl, hr5, hf5⟩
        have HR5 := hide hr5
        have HF5 := hide (HF4.out.trans hf5 (fun _ _ h => h))
        clear hr5 hf5
        have HO5 := hide (own_fr HOW.out HF5.out (fun q hq h => own_ne_blk HOW.out HRD0.out (by decide) (by rw [hq, h])))
        have HO6 := hide (fun o => HO5.out.alloc o)
        have NB := hide (fun cs t => (Blk.new w5 cs t).out)
        have HB5 := hide (HB.out.trans (HF5.out.below HB.out.size (fun j hj => by have := HRl.out; omega)))
        have hi99 : i ≤ 100001 := by omega
        have hsz5 : w.heap.size ≤ w5.heap.size := HB5.out.size
        go_wp2_with (at_builtin; refine wpList_append_own_at _ rfl _ _ 31 rfl w.heap.size 23 i0 _ 3 32 Tryz.underlying31 hi hz0 hz1 hz2 rfl (by decide) _ _ _ rfl (HO6.out _) ⟨w5.heap.size, 0, none⟩ 1 1 [.string nm, .int .i64 ((kk : Nat) : Int), .bool bb] rfl rfl (World.news_of_block (NB.out _ _)) (by simp [Value.oneCell']) (by simp only [maxLen]; omega) (by omega) (by simp; omega) ?_; intro v1 w6 hown1 hgrow1 _ hat1)
        have HR6 := hide ((Blk.alloc HR5.out _).grown hgrow1 (fun h => own_ne_blk HO5.out HR5.out (by decide) h.symm))
        have HB6 := hide ((HB5.out.alloc HB5.out.size _).trans ((Fr.of_grown hgrow1).below (Nat.le_trans HB5.out.size (by simp)) (fun q hq => by have := (HO5.out.lt q hq.symm).1; omega)))
        have HW6 := hide hown1
        clear hown1 hgrow1 hat1
        go_roundw
        case rel =>
          refine ⟨i + 1, p2, e2, acc ++ [(nm, (kk : Int), bb)], by have := HLT.out; omega, by go_num, hp2, fun h => by have := HPP.out h; omega, by omega, ?_, ?_, ?_, ?_, HR6.out, HB6.out⟩
          · have := hal.out; show _ = _; simp; omega
          · rw [show n - (i + 1) = n - i - 1 by omega]; exact HNX.out
          · intro c hc
            rcases List.mem_append.1 hc with h | h
            · exact hnm.out c h
            · rw [List.mem_singleton] at h; rw [h]; exact hnmz
          · rw [cellsK_snoc]; exact HW6.out
        case measure => have := HLT.out; simp [intOf]; omega
      · have hne0 : ((er : Int) == 0) = false := by simp; omega
        have hge : G = (er, [], []) := by
          rcases hgo.out with ⟨h, _⟩ | ⟨_, h⟩
          · exact absurd h he0
          · exact h
        obtain rfl := hge
        obtain rfl : FIN = (er, []) := by rw [HSP.out, if_pos he0]
        have KD2 := hide (KD.out R p er hp _ hrd.out)
        rw [if_neg he0] at KD2
        have hne : ((er : Int) != 0) = true := by rw [bne_iff_ne]; omega
        have HB := hide hb.out
        clear HSP HG hgo hrd how hb hlt hin
        go_wp2_with fail
        refine KE2.out.mono ?_
        rintro e w3 ⟨rfl, rfl⟩
        go_wp2_with fail
        refine KD2.out.mono ?_
        rintro e w3 ⟨rfl, hb3⟩
        have HB3 := hide (HB.out.trans (hb3.mono HB.out.size))
        clear hb3
        go_wp2_with fail
        go_ret2
        exact ⟨_, rfl, inK_nil _, HB3.out⟩
    · obtain rfl : n = i := by omega
      clear hlt hin
      have HRD := hide hrd.out
      have HOW := hide how.out
      have HB := hide hb.out
      have KD2 := hide (KD.out R p er hp _ hrd.out)
      by_cases he : er = 0
      · subst he
        rw [if_pos rfl] at KD2
        have hg2 : getGo 0 ((bn s).drop p) acc = G := by
          rcases hgo.out with ⟨_, h⟩ | ⟨h, _⟩
          · have hii : n - n = 0 := by omega
            rwa [hii] at h
          · exact absurd rfl h
        obtain rfl : (0, (bn s).drop p, acc) = G := hg2
        by_cases hps : p < s.size
        · rw [if_pos hps] at KD2
          obtain rfl : FIN = (11, []) := by
            rw [HSP.out]
            have hne : (bn s).drop p ≠ [] := fun h => by have := congrArg List.length h; rw [List.length_drop, bn_len] at this; simp at this; omega
            simp [hne]
          clear HSP HG hgo hrd how hb hps
          go_wp2_with fail
          refine KD2.out.mono ?_
          rintro e w3 ⟨rfl, hb3⟩
          have HB3 := hide (HB.out.trans (hb3.mono HB.out.size))
          clear hb3
          go_wp2_with fail
          go_ret2
          exact ⟨_, rfl, inK_nil _, HB3.out⟩
        · rw [if_neg hps] at KD2
          have hsp2 := HSP.out
          rw [if_neg (by simp), if_neg (by simp; rw [bn_len]; omega)] at hsp2
          have HS2 := hide hsp2
          have KCC := hide (fun w' (h : Below _ _ w') => columns_any acc (by have := hal.out; omega) (fun c hc => Nat.le_trans (hnm.out c hc) (by unfold maxLen; omega)) _ w' (HT.out.below (HB.out.trans (h.mono HB.out.size))) (inK_own (own_below HOW.out h) hal.out.symm))
          have HIK := hide (fun w' (h : Below _ _ w') => inK_own (own_below HOW.out h) hal.out.symm)
          clear HSP HG hgo hrd how hb hps hsp2
          go_wp2_with fail
          refine KD2.out.mono ?_
          rintro e w3 ⟨rfl, hb3⟩
          have KC3 := hide (KCC.out w3 hb3)
          have HI3 := hide (HIK.out w3 hb3)
          have HB3 := hide (HB.out.trans (hb3.mono HB.out.size))
          clear hb3
          obtain ⟨ce, hce⟩ : ∃ ce, colsE acc = ce := ⟨_, rfl⟩
          rw [hce] at KC3 HS2
          have HCE := hide hce
          clear hce
          go_wp2_with fail
          refine KC3.out.mono ?_
          rintro e w4 ⟨rfl, hb4⟩
          have HI4 := hide (HI3.out.below hb4)
          have HB4 := hide (HB3.out.trans (hb4.mono HB3.out.size))
          clear hb4
          by_cases hc0 : ce = 0
          · subst hc0
            obtain rfl : FIN = (0, acc) := by rw [HS2.out, if_neg (by simp)]
            go_wp2_with fail
            go_ret2
            exact ⟨_, rfl, HI4.out, HB4.out⟩
          · obtain rfl : ce = 30 := colsE_30 HCE.out hc0
            obtain rfl : FIN = (30, []) := by rw [HS2.out, if_pos (by simp)]
            go_wp2_with fail
            go_ret2
            exact ⟨_, rfl, inK_nil _, HB4.out⟩
      · have hge : G = (er, [], []) := by
          rcases hgo.out with ⟨h, _⟩ | ⟨_, h⟩
          · exact absurd h he
          · exact h
        obtain rfl := hge
        obtain rfl : FIN = (er, []) := by rw [HSP.out, if_pos he]
        rw [if_neg he] at KD2
        have hne : ((er : Int) != 0) = true := by rw [bne_iff_ne]; omega
        clear HSP HG hgo hrd how hb
        go_wp2_with fail
        refine KD2.out.mono ?_
        rintro e w3 ⟨rfl, hb3⟩
        have HB3 := hide (HB.out.trans (hb3.mono HB.out.size))
        clear hb3
        go_wp2_with fail
        go_ret2
        exact ⟨_, rfl, inK_nil _, HB3.out⟩
end Go.Proofs.YtfkgmodgkifelaaGreatDoor
namespace Go.Proofs.YtfkgmodgkifelaaGreatDoor
open Go.RowKit

/-- A cell's bytes. -/
def cellB (k : Int) (c : CD) : List Nat :=
  if k = 1 then [if c.b = true then 1 else 0] else if k = 2 then fixN (c.x % 18446744073709551616).toNat 8 else if k = 3 then fixN c.u.toNat 8
  else if k = 4 ∨ k = 5 then uvar c.t.size ++ bn c.t else uvar (zz (fi c.p)) ++ uvar (zz (fi c.q))
theorem fixN_len' (x n : Nat) : (fixN x n).length = n := by
  induction n generalizing x with
  | zero => rfl
  | succ n ih => simp [fixN, ih]
theorem zz_lt53 {x : Int} (h : -9007199254740992 ≤ x ∧ x ≤ 9007199254740992) : zz x < 18446744073709551616 := by unfold zz; split <;> omega
theorem cellB_len (k : Int) {c : CD} (h : KG c) : (cellB k c).length ≤ 20 + c.t.size := by
  obtain ⟨a, ha, he⟩ := h.p1
  obtain ⟨b, hb, hf⟩ := h.q1
  have h1 := uvar_len10 (zz_lt53 (fi_le ha he))
  have h2 := uvar_len10 (zz_lt53 (fi_le hb hf))
  have h3 := uvar_len10 (x := c.t.size) (by have := h.t1; unfold maxLen at this; omega)
  unfold cellB
  by_cases k1 : k = 1
  · rw [if_pos k1, List.length_singleton]; omega
  rw [if_neg k1]
  by_cases k2 : k = 2
  · rw [if_pos k2, fixN_len']; omega
  rw [if_neg k2]
  by_cases k3 : k = 3
  · rw [if_pos k3, fixN_len']; omega
  rw [if_neg k3]
  by_cases k4 : k = 4 ∨ k = 5
  · rw [if_pos k4, List.length_append, bn_len]; omega
  · rw [if_neg k4, List.length_append]; omega
/-- Cells one behind the other. -/
def encP (k : Int) (l : List CD) : List Nat := if k = 1 then packL (l.map (·.b)) else l.flatMap (cellB k)
/-- How many cells at the beginning are equal, each to the next one. -/
def lng (k : Int) : List CD → Nat
  | [] => 0
  | c :: l => 1 + (match l with
    | [] => 0
    | d :: _ => if ceq k c d = true then lng k l else 0)
/-- The runs. -/
def rns (k : Int) : Nat → List CD → List (CD × Nat)
  | 0, _ => []
  | _ + 1, [] => []
  | f + 1, c :: l => (c, lng k (c :: l)) :: rns k f ((c :: l).drop (lng k (c :: l)))
def runB (k : Int) (r : CD × Nat) : List Nat := uvar r.2 ++ cellB k r.1
def encR (k : Int) (l : List CD) : List Nat := (rns k l.length l).flatMap (runB k)
theorem lng_pos (k : Int) (c : CD) (l : List CD) : 1 ≤ lng k (c :: l) := by unfold lng; omega
theorem lng_le (k : Int) : ∀ l : List CD, lng k l ≤ l.length := by
  intro l
  induction l with
  | nil => simp [lng]
  | cons c l ih =>
    cases l with
    | nil => simp [lng]
    | cons d l =>
      rw [lng]
      simp only [List.length_cons] at *
      split <;> omega
theorem lng_on (k : Int) (c d : CD) (l : List CD) (h : ceq k c d = true) : lng k (c :: d :: l) = 1 + lng k (d :: l) := by
  rw [lng]; simp [h]
theorem lng_off (k : Int) (c d : CD) (l : List CD) (h : ceq k c d = false) : lng k (c :: d :: l) = 1 := by
  rw [lng]; simp [h]
theorem lng_one (k : Int) (c : CD) : lng k [c] = 1 := by simp [lng]
theorem rns_fuel (k : Int) : ∀ (f g : Nat) (l : List CD), l.length ≤ f → l.length ≤ g → rns k f l = rns k g l := by
  intro f
  induction f with
  | zero =>
    intro g l hf _
    have : l = [] := List.eq_nil_of_length_eq_zero (by omega)
    subst this
    cases g <;> rfl
  | succ f ih =>
    intro g l hf hg
    cases l with
    | nil => cases g <;> rfl
    | cons c l =>
      cases g with
      | zero => simp at hg
      | succ g =>
        rw [rns, rns]
        have h1 := lng_pos k c l
        congr 1
        exact ih g _ (by simp at hf ⊢; omega) (by simp at hg ⊢; omega)
/-- The place of a cell among others. -/
def plcOf (k : Int) (d : List CD) (c : CD) : Option Nat := d.findIdx? (fun x => ceq k x c)
/-- The different cells, and which one each is. -/
def dmk (k : Int) : List CD → List CD → List Nat → List CD × List Nat
  | [], d, p => (d, p)
  | c :: l, d, p => match plcOf k d c with
    | some j => dmk k l d (p ++ [j])
    | none => dmk k l (d ++ [c]) (p ++ [d.length])
def encX (k : Int) (l : List CD) : List Nat := uvar (dmk k l [] []).1.length ++ (dmk k l [] []).1.flatMap (cellB k) ++ (dmk k l [] []).2.flatMap uvar
end Go.Proofs.YtfkgmodgkifelaaGreatDoor
