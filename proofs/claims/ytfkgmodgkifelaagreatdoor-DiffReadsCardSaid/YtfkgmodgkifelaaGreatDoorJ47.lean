/- Patches, read: diff.Decode. Patches, written: an edit. -/
import Derived.Test.YtfkgmodgkifelaaGreatDoorJ46
import Derived.Test.YtfkgmodgkifelaaGreatDoorJ19
namespace Go.Proofs.YtfkgmodgkifelaaGreatDoor
open Go.RowKit

theorem info_pt5 : (Tryz.prog.info? 34).map (·.size) = some 5 := by kernel_rfl
theorem InK.cells {w : World} {A : Option Addr} {n c : Nat} {l : List Col} (h : InK w (.slice A n c) l) : ∀ i x, l[i]? = some x → ∃ g, A = some ⟨g, 0, none⟩ ∧ g < w.heap.size ∧ AtK w g (i * 3) x.1 x.2.1 x.2.2 := by
  obtain ⟨A', c', he, _, hc⟩ := h
  injection he with h1 h2 h3
  subst h1
  exact hc
def noPat : Value := .agg #[.slice none 0 0, .int .i64 0, .slice none 0 0, .int .i64 0, .slice none 0 0]
/-- How Decode ends. -/
def DecPost (s : ByteArray) (w : World) (e : Ending) (w' : World) : Prop :=
  ((∃ er : Nat, er ≠ 0 ∧ Eok er ∧ e = .returned (.tuple #[noPat, .int .i64 (er : Nat)])) ∨
   (∃ (P : PD) (VB VA VP : Value), e = .returned (.tuple #[patV VB P.rows VA P.too VP, .int .i64 0]) ∧ PatOk P ∧ FitA P ∧ patB P = bn s ∧ InPat w' VB VA VP P)) ∧ Below w.heap.size w w'
theorem Fr.belowK {w w' : World} {R B : Nat} (h : Fr w w' (fun k => k = R)) (hB : B ≤ w.heap.size) (hR : B ≤ R) : Below B w w' := h.below hB (fun _ e => by rw [e]; exact hR)
set_option maxHeartbeats 8000000 in
set_option maxRecDepth 100000 in
theorem ddecode_all (s : ByteArray) (hs : s.size ≤ 600) (w : World) (hT : Tabs w) : Calls Tryz.prog 10 #[.string s] w (DecPost s w) := by
  have hsm : s.size ≤ maxLen := by unfold maxLen; omega
  obtain ⟨i0, hi, hz0, hz1, hz2⟩ := info_parts info_pt
  have HT := hide hT
  have HS := hide hs
  have KR := hide (rd_new s)
  have KDC := hide (fun R p (hp : p ≤ s.size) w hT hr => dcolumns_any R s (by omega) p hp w hT hr)
  have KDN := hide (fun R p (hp : p ≤ s.size) w hr => rdone_any R s p 0 hsm hp w hr)
  obtain ⟨W1, hW1⟩ : ∃ W1, w.alloc (.cells #[.slice none 0 0, .int .i64 0, .slice none 0 0, .int .i64 0, .slice none 0 0] 34) = W1 := ⟨_, rfl⟩
  have hb1 : Below w.heap.size w W1 := by rw [← hW1]; exact (Below.refl _ _).alloc (Nat.le_refl _) _
  have hz : Blk W1 w.heap.size 34 #[.slice none 0 0, .int .i64 0, .slice none 0 0, .int .i64 0, .slice none 0 0] := by rw [← hW1]; exact Blk.new _ _ _
  have HW1 := hide hW1
  have HB1 := hide hb1
  have HZ1 := hide hz
  have hzl := hz.lt
  clear hT hs hsm hW1 hb1 hz
  go_enter Tryz.func10, Tryz.ntmps10
  go_wp2_with fail
  rw [HW1.out]
  refine (KR.out W1).mono ?_
  rintro e w1 ⟨R, rfl, hr1, hR1, hb1⟩
  obtain ⟨W2, hW2⟩ : ∃ W2, w1.alloc (.cells #[.slice none 0 0, .int .i64 0, .slice none 0 0, .int .i64 0, .slice none 0 0] 34) = W2 := ⟨_, rfl⟩
  have hb2 : Below w1.heap.size w1 W2 := by rw [← hW2]; exact (Below.refl _ _).alloc (Nat.le_refl _) _
  have bp2 : Blk W2 w1.heap.size 34 #[.slice none 0 0, .int .i64 0, .slice none 0 0, .int .i64 0, .slice none 0 0] := by rw [← hW2]; exact Blk.new _ _ _
  have bz1 := HZ1.out.below hb1 HZ1.out.lt
  have bz2 := bz1.below hb2 bz1.lt
  have hr2 := hr1.below hb2
  have hRW : w.heap.size ≤ R := by have := HB1.out.size; omega
  have hzp : w.heap.size < w1.heap.size := bz1.lt
  have hbw2 := HB1.out.trans ((hb1.mono HB1.out.size).trans (hb2.mono (by omega)))
  have KC2 := hide (KDC.out R 0 (Nat.zero_le _) W2 (HT.out.below hbw2) hr2)
  have HW2 := hide hW2
  have HB2 := hide hbw2
  have BP2 := hide bp2
  have BZ2 := hide bz2
  have HR2 := hide hr2
  clear hr1 hR1 hb1 hW2 hb2 bp2 bz1 bz2 hr2 hbw2
  go_wp2_with fail
  rw [HW2.out]
  have hdk := dcolS_k ((bn s).drop 0)
  have hd1 := dcolS_one ((bys_bn s HS.out).drop 0)
  obtain ⟨⟨e1, a1, l1, n1⟩, hdc⟩ : ∃ x, dcolS ((bn s).drop 0) = x := ⟨_, rfl⟩
  rw [hdc] at hdk hd1 KC2
  simp only [List.drop_zero] at hdk hd1
  have HDK := hide hdk
  have HD1 := hide hd1
  clear hdk hd1 hdc
  refine KC2.out.mono ?_
  rintro e w3 ⟨v, rfl, hv, hrd, hf3⟩
  simp only at hv hrd
  obtain ⟨A1, c1, rfl⟩ := hv.form
  have bp3 := Blk.fr BP2.out hf3 (by exact fun h => blk_ne BP2.out HR2.out (by decide) h)
  have bz3 := Blk.fr BZ2.out hf3 (by exact fun h => blk_ne BZ2.out HR2.out (by decide) h)
  have f4 := (Fr.setCell w3 ⟨w1.heap.size, 0, none⟩ (.slice A1 l1.length c1)).trans (Fr.setCell (w3.setCell ⟨w1.heap.size, 0, none⟩ (.slice A1 l1.length c1)) ⟨w1.heap.size, 1, none⟩ (.int .i64 (n1 : Nat))) (P := fun k => k = w1.heap.size) (fun _ _ h => h)
  have hbw3 := HB2.out.trans (hf3.belowK HB2.out.size hRW)
  have hbw4 := hbw3.trans (f4.belowK hbw3.size (by omega))
  have bp4 := (bp3.set 0 (.slice A1 l1.length c1)).set 1 (.int .i64 (n1 : Nat))
  have bz4 := Blk.fr bz3 f4 (by show w.heap.size ≠ w1.heap.size; omega)
  have hk4 := hv.frq f4 (fun g hg x => by obtain rfl : g = w1.heap.size := hg; exact .inl ((slice_ne_str bp3).1 x))
  have x0 := bp3.cell 0
  have x1 := bp3.cell 1
  have x2 := bp3.frozen 0
  have x3 := bp3.frozen 1
  simp at x0 x1
  have HF4 := hide f4
  have HBP3 := hide bp3
  have HBW4 := hide hbw4
  have BP4 := hide bp4
  have BZ4 := hide bz4
  have HK4 := hide hk4
  have HRD := hide hrd
  clear hv hrd hf3 bp3 bz3 f4 hbw3 hbw4 bp4 bz4 hk4 BP2 BZ2 KC2
  by_cases he1 : e1 = 0
  · subst he1
    have hr4 : Rd _ R s a1 0 := Blk.fr (by have := HRD.out rfl; rwa [Nat.zero_add] at this) HF4.out (by exact fun h => blk_ne (HRD.out rfl) HBP3.out (by decide) h)
    obtain ⟨W4, hW4⟩ : ∃ W4, (w3.setCell ⟨w1.heap.size, 0, none⟩ (.slice A1 l1.length c1)).setCell ⟨w1.heap.size, 1, none⟩ (.int .i64 (n1 : Nat)) = W4 := ⟨_, rfl⟩
    rw [hW4] at hr4 HBW4 BP4 BZ4 HK4 HF4
    obtain ⟨q1, q2, q3, q4⟩ := HD1.out rfl
    rw [bn_len] at q4
    have KC4 := hide (KDC.out R a1 q4 W4 (HT.out.below HBW4.out) hr4)
    have hdk := dcolS_k ((bn s).drop a1)
    have hd2 := dcolS_one ((bys_bn s HS.out).drop a1)
    obtain ⟨⟨e2, a2, l2, n2⟩, hdc⟩ : ∃ x, dcolS ((bn s).drop a1) = x := ⟨_, rfl⟩
    rw [hdc] at hdk hd2 KC4
    simp only at hdk hd2
    have HDK2 := hide hdk
    have HD2 := hide hd2
    have HQ := hide (And.intro q1 (And.intro q2 q3))
    have HR4 := hide hr4
    have HW4 := hide hW4
    clear hdk hd2 hdc q1 q2 q3 hr4 hW4
    go_wp2_with fail
    rw [HW4.out]
    refine KC4.out.mono ?_
    rintro e w5 ⟨v, rfl, hv, hrd, hf5⟩
    simp only at hv hrd
    obtain ⟨A2, c2, rfl⟩ := hv.form
    have bp5 := Blk.fr BP4.out hf5 (by exact fun h => blk_ne BP4.out HR4.out (by decide) h)
    have bz5 := Blk.fr BZ4.out hf5 (by exact fun h => blk_ne BZ4.out HR4.out (by decide) h)
    have f6 := (Fr.setCell w5 ⟨w1.heap.size, 2, none⟩ (.slice A2 l2.length c2)).trans (Fr.setCell (w5.setCell ⟨w1.heap.size, 2, none⟩ (.slice A2 l2.length c2)) ⟨w1.heap.size, 3, none⟩ (.int .i64 (n2 : Nat))) (P := fun k => k = w1.heap.size) (fun _ _ h => h)
    have hbw5 := HBW4.out.trans (hf5.belowK HBW4.out.size hRW)
    have hbw6 := hbw5.trans (f6.belowK hbw5.size (by omega))
    have bp6 := (bp5.set 2 (.slice A2 l2.length c2)).set 3 (.int .i64 (n2 : Nat))
    have bz6 := Blk.fr bz5 f6 (by show w.heap.size ≠ w1.heap.size; omega)
    have hk5 := HK4.out.frq hf5 (fun g hg x => by obtain rfl : g = R := hg; exact .inr (rd_str_ne HR4.out).2.2)
    have hka := hv.frq f6 (fun g hg x => by obtain rfl : g = w1.heap.size := hg; exact .inl ((slice_ne_str bp5).1 x))
    have hkb := hk5.frq f6 (fun g hg x => by obtain rfl : g = w1.heap.size := hg; exact .inl ((slice_ne_str bp5).1 x))
    have x0 := bp5.cell 2
    have x1 := bp5.cell 3
    have x2 := bp5.frozen 2
    have x3 := bp5.frozen 3
    simp at x0 x1
    have HF6 := hide f6
    have HBP5 := hide bp5
    have HBW6 := hide hbw6
    have BP6 := hide bp6
    have BZ6 := hide bz6
    have HKA := hide hka
    have HKB := hide hkb
    have HRD2 := hide hrd
    clear hv hrd hf5 bp5 bz5 f6 hbw5 hbw6 bp6 bz6 hk5 hka hkb BP4 BZ4 KC4 HK4
    by_cases he2 : e2 = 0
    · subst he2
      have hr6 : Rd _ R s (a1 + a2) 0 := Blk.fr (HRD2.out rfl) HF6.out (by exact fun h => blk_ne (HRD2.out rfl) HBP5.out (by decide) h)
      obtain ⟨W6, hW6⟩ : ∃ W6, (w5.setCell ⟨w1.heap.size, 2, none⟩ (.slice A2 l2.length c2)).setCell ⟨w1.heap.size, 3, none⟩ (.int .i64 (n2 : Nat)) = W6 := ⟨_, rfl⟩
      rw [hW6] at hr6 HBW6 BP6 BZ6 HKA HKB HF6
      obtain ⟨q1, q2, q3⟩ := HQ.out
      obtain ⟨t1, t2, t3, t4⟩ := HD2.out rfl
      rw [List.length_drop, bn_len] at t4
      have hq6 : a1 + a2 ≤ s.size := by omega
      have hst6 : PSt W6 R w1.heap.size w.heap.size w.heap.size s (a1 + a2) l1 n1 l2 n2 (.slice A1 l1.length c1) (.slice A2 l2.length c2) (.slice none 0 0) [] :=
        ⟨hr6, BP6.out, BZ6.out, by omega, World.ownsRow_nil _ _ _ _, fun _ => rfl, (fun t ht => by cases ht), HKB.out, HKA.out⟩
      have hbe : bn s = colB2 l1 n1 ++ (colB2 l2 n2 ++ (bn s).drop (a1 + a2)) := by rw [← List.drop_drop, ← t1]; exact q1
      have HST6 := hide hst6
      have HBE := hide hbe
      have HCK1 := hide q2
      have HCK2 := hide t2
      have hl2 : l2.length ≤ 32 := (colsE_ok t2).le
      have hl1 : l1.length ≤ 100000 := by have := (colsE_ok q2).le; omega
      have KRD := hide (fun (c : Col) (hc : colE c.1 c.2.1 = 0) (A2 A3 : Option Addr) (n2' c2 n3 c3 : Nat) (q : Nat) (hq : q ≤ s.size) (w : World) (hT : Tabs w) (hr : Rd w R s q 0) (hB : InK w (.slice A1 l1.length c1) l1) => pread_part l1 hl1 n1 n2 q3 t3 c hc (.slice A1 l1.length c1) (.slice A2 n2' c2) (.slice A3 n3 c3) ⟨_, _, _, rfl⟩ ⟨_, _, _, rfl⟩ R s HS.out q hq w hT hr hB)
      have KCK := hide (fun (ts : List (PartD × Value × Value)) (h : PatOk ⟨l1, n1, l2, n2, ts.map (·.1)⟩) (VP : Value) (w : World) hT hP => dcheck_any ⟨l1, n1, l2, n2, ts.map (·.1)⟩ h (.slice A1 l1.length c1) (.slice A2 l2.length c2) VP w hT hP)
      unfold patV at KRD KCK
      simp only at KCK
      have HW6 := hide hW6
      have HQ6 := hide hq6
      have HN13 := hide (And.intro q3 t3)
      have HP2' : Hid (∀ (i : Nat) (c : Col), l2[i]? = some c → colE c.1 c.2.1 = 0) := hide (fun i c hc => (colsE_ok t2).one c (List.mem_of_getElem? hc))
      have b2 := BP6.out.cell 2
      simp at b2
      clear q1 q2 q3 t1 t2 t3 t4 hr6 hst6 hbe hq6 HQ HD2 HD1 HKA HKB BZ6 HRD2 HRD HF6 HF4 HBP5 HBP3 HDK HDK2 hl1
      generalize hn2 : l2.length = m at *
      have HM := hide hn2
      clear hn2
      rw [← hW6] at b2
      clear hW6
      go_wp2_with fail
      rw [HW6.out]
      clear b2
      go_loopw [41] (fun iv wr => ∃ (i q : Nat) (ts : List (PartD × Value × Value)) (VP : Value), i ≤ m ∧ iv = .int .i64 (i : Int) ∧ Hid (ts.length = i) ∧ q ≤ s.size ∧ Hid (PSt wr R w1.heap.size w.heap.size w.heap.size s q l1 n1 l2 n2 (.slice A1 l1.length c1) (.slice A2 m c2) VP ts) ∧ Hid (∀ (j : Nat) c x, l2[j]? = some c → (ts.map (·.1))[j]? = some x → PartOk l1 n1 n2 c x) ∧ Hid (bn s = colB2 l1 n1 ++ (colB2 l2 n2 ++ (partsB (l2.take i) (ts.map (·.1)) ++ (bn s).drop q))) ∧ Hid (Below w.heap.size w wr)) (fun iv _ => m - (intOf iv).toNat)
      case atStart => exact ⟨0, a1 + a2, [], _, by omega, rfl, hide rfl, HQ6.out, HST6, hide (fun j c x _ h => by simp at h), hide (by simpa [partsB] using HBE.out), HBW6⟩
      case round =>
        obtain ⟨i, q, ts, VP, him, rfl, hlen, hq, hst, hpk, hbe, hb⟩ := hrel
        obtain ⟨OA, oc, hVP⟩ := own_form3 hst.out.own
        rw [hlen.out] at hVP
        subst hVP
        by_cases hlt : i < m
        · obtain ⟨c, hc⟩ : ∃ c, l2[i]? = some c := ⟨l2[i]'(by rw [HM.out]; exact hlt), List.getElem?_eq_getElem _⟩
          obtain ⟨g, hA2, hg, hat⟩ := hst.out.ka.cells i c hc
          obtain ⟨k0, k1, k2⟩ := hat
          obtain ⟨W7, hW7⟩ : ∃ W7, wr.alloc (.cells #[.string c.1, .int .i64 c.2.1, .bool c.2.2] 23) = W7 := ⟨_, rfl⟩
          have hb7 : Below wr.heap.size wr W7 := by rw [← hW7]; exact (Below.refl _ _).alloc (Nat.le_refl _) _
          have hst7 := hst.out.below hb7
          have hbw7 := hb.out.trans (hb7.mono hb.out.size)
          have KR7 := hide (KRD.out c (HP2'.out i c hc) A2 OA m c2 i oc q hq W7 (HT.out.below hbw7) hst7.rd hst7.kb)
          have HST7 := hide hst7
          have HBW7 := hide hbw7
          have bp := hst.out.bp
          have bp7 := hst7.bp
          rw [← hW7] at bp7
          have v0 := bp7.cell 0
          have v1 := bp7.cell 1
          have v2 := bp7.cell 2
          have v3 := bp7.cell 3
          have v4 := bp7.cell 4
          simp at v0 v1 v2 v3 v4
          obtain ⟨nm, k, nl⟩ := c
          simp only at k0 k1 k2
          unfold colV at KR7
          simp only at KR7 hW7 v0 v1 v2 v3 v4
          have hi1 : (i : Int) < (m : Int) := by omega
          subst hA2
          have HC := hide hc
          have HLT := hide hlt
          have HW7 := hide hW7
          clear hc hlt hst7 hbw7 hb7 bp bp7 hW7
          go_wp2_with fail
          rw [HW7.out]
          refine KR7.out.mono ?_
          rintro e w8 ⟨sm, AE, nE, cE, AC, nC, cC, er, rfl, hek, hf8, hpd⟩
          have HEK := hide hek
          have HPD := hide hpd
          have hbw8 := HBW7.out.trans (hf8.belowK HBW7.out.size hRW)
          have HF8 := hide hf8
          have HBW8 := hide hbw8
          clear hek hpd hf8 hbw8 KR7 v0 v1 v2 v3 v4 k0 k1 k2
          obtain ⟨W9, hW9⟩ : ∃ W9, w8.alloc (.cells #[.bool sm, .slice AE nE cE, .slice AC nC cC] 65) = W9 := ⟨_, rfl⟩
          have hb9 : Below w8.heap.size w8 W9 := by rw [← hW9]; exact (Below.refl _ _).alloc (Nat.le_refl _) _
          have HBW9 := hide (HBW8.out.trans (hb9.mono HBW8.out.size))
          have HB9 := hide hb9
          by_cases her : er = 0
          · subst her
            obtain ⟨pd, rfl, hpok, hie, him2, q', hq', hrq', hdq⟩ := HPD.out rfl
            have hst8 := HST7.out.step HF8.out hrq'
            have hw8 : w.heap.size ≤ w8.heap.size := HBW8.out.size
            have HST8 := hide hst8
            have HOA := hide (fun o1 o2 => (hst8.own.alloc o1).alloc o2)
            have NB := hide (fun o cs t => (blk_n2 w8 o cs t).out)
            have HBO := hide (fun o1 o2 => ((Below.refl w8.heap.size w8).alloc (Nat.le_refl _) o1).alloc (by simp) o2)
            have HPOK := hide hpok
            have HIE := hide hie
            have HIM := hide him2
            have HDQ := hide hdq
            have bp9 := hst8.bp.below hb9 hst8.bp.lt
            rw [← hW9] at bp9
            have v4 := bp9.cell 4
            simp at v4
            have hpl : w1.heap.size < w8.heap.size := hst8.bp.lt
            have HBPX := hide (fun (w10 : World) (hg : World.grownBy _ w10 _) => Blk.fr (hst8.bp.below (HBO.out (.cells #[.bool pd.1, .slice AE nE cE, .slice AC nC cC] 65) (.cells #[.bool pd.1, .slice AE nE cE, .slice AC nC cC] 65)) hst8.bp.lt) (Fr.of_grown (row := (Value.slice OA i oc).ownBlock) hg) (fun hk => own_ne_blk hst8.own hst8.bp (by decide) hk.symm))
            have hi9 : i ≤ 32 := by omega
            rw [hlen.out] at HOA
            clear hst8 hpok hie him2 hdq bp9 hW9 hb9 hrq'
            go_wp2_with (at_builtin; refine wpList_append_own_at _ rfl _ _ 32 rfl w.heap.size 65 i0 _ 3 56 Tryz.underlying32 hi hz0 hz1 hz2 rfl (by decide) _ _ _ rfl (HOA.out _ _) ⟨w8.heap.size + 1, 0, none⟩ 1 1 [.bool pd.1, .slice AE nE cE, .slice AC nC cC] rfl rfl (World.news_of_block (NB.out _ _ _)) (by simp [Value.oneCell']) (by simp only [maxLen]; omega) (by omega) (by simp; omega) ?_; intro v9 w10 hown1 hgrow1 _ _; obtain ⟨OA9, oc9, hv9⟩ := own_form3 hown1; subst hv9; have hbx := HBPX.out w10 hgrow1; have g4 := hbx.cell 4; have g4f := hbx.frozen 4; simp at g4)
            have hpush := PSt.push (HST8.out.below (HBO.out _ _)) (t := (pd, .slice AE nE cE, .slice AC nC cC)) (HIE.out.below (HBO.out _ _)) (HIM.out.below (HBO.out _ _)) hgrow1 (by rw [hlen.out]; exact hown1)
            have hbw10 := (((HBW8.out.trans ((HBO.out _ _).mono HBW8.out.size)).trans ((Fr.of_grown hgrow1).below (Nat.le_trans HBW8.out.size (HBO.out _ _).size) (fun k hk => by have := (HST8.out.own.lt k hk.symm).1; omega))))
            have HPU := hide hpush
            have HBX := hide (hbw10.trans ((Fr.setCell w10 ⟨w1.heap.size, 4, none⟩ (.slice OA9 (i + 1) oc9)).below hbw10.size (fun k hk => by obtain rfl : k = w1.heap.size := hk; omega)))
            clear hpush hbw10 hown1 hgrow1 hbx g4 g4f
            go_roundw
            case rel =>
              refine ⟨i + 1, q', ts ++ [(pd, .slice AE nE cE, .slice AC nC cC)], _, by have := HLT.out; omega, by go_num, hide (by simp [hlen.out]), hq', HPU, hide ?_, hide ?_, HBX⟩
              · intro j c x hcj hxj
                rw [List.map_append] at hxj
                by_cases hji : j < i
                · rw [List.getElem?_append_left (by simp [hlen.out]; exact hji)] at hxj
                  exact hpk.out j c x hcj hxj
                · have hj2 := (List.getElem?_eq_some_iff.1 hxj).1
                  simp [hlen.out] at hj2
                  obtain rfl : j = i := by omega
                  have e1 := hcj.symm.trans HC.out
                  injection e1 with e1
                  subst e1
                  rw [List.getElem?_append_right (by simp [hlen.out])] at hxj
                  simp [hlen.out] at hxj
                  subst hxj
                  exact HPOK.out
              · have h1 := hbe.out
                rw [HDQ.out] at h1
                have h2 := partsB_snoc (after := l2) (parts := ts.map (·.1)) (c := (nm, k, nl)) (x := pd) (by rw [List.length_map, hlen.out]; exact HC.out)
                rw [List.length_map, hlen.out] at h2
                rw [List.map_append]
                show bn s = _ ++ (_ ++ (partsB (l2.take (i + 1)) (ts.map (·.1) ++ [pd]) ++ _))
                rw [h2, List.append_assoc]
                exact h1
            case measure => have := HLT.out; simp [intOf]; omega
          · have hne : ((er : Int) != 0) = true := by rw [bne_iff_ne]; omega
            have hz8 := Blk.fr HST7.out.bz HF8.out (by exact fun h => blk_ne HST7.out.bz HST7.out.rd (by decide) h)
            have hz9 := hz8.below hb9 hz8.lt
            have z0 := hz9.cell 0
            have z1 := hz9.cell 1
            have z2 := hz9.cell 2
            have z3 := hz9.cell 3
            have z4 := hz9.cell 4
            have y0 := hz9.frozen 0
            have y1 := hz9.frozen 1
            have y2 := hz9.frozen 2
            have y3 := hz9.frozen 3
            have y4 := hz9.frozen 4
            simp at z0 z1 z2 z3 z4
            have HBZ := hide (st5_blk hz9 (.slice none 0 0) (.int .i64 0) (.slice none 0 0) (.int .i64 0) (.slice none 0 0))
            have HBF := hide (HBW9.out.trans ((st5_fr _ w.heap.size (.slice none 0 0) (.int .i64 0) (.slice none 0 0) (.int .i64 0) (.slice none 0 0)).belowK HBW9.out.size (Nat.le_refl _)))
            have HW9 := hide hW9
            clear hb9 hz8 hz9 hW9
            rw [← HW9.out] at z0 z1 z2 z3 z4 y0 y1 y2 y3 y4 HBZ HBF
            go_wp2_with fail
            refine bodyPost_ret (results_cell_tmp_row' rfl _ _ _ w.heap.size 34 #[.slice none 0 0, .int .i64 0, .slice none 0 0, .int .i64 0, .slice none 0 0] (0, 0) rfl HBZ.out Tryz.underlying34 (by exact info_pt5)) rfl ?_
            exact ⟨.inl ⟨er, her, HEK.out, rfl⟩, HBF.out⟩
        · obtain rfl : m = i := by omega
          have hpok : PatOk ⟨l1, n1, l2, n2, ts.map (·.1)⟩ := ⟨HCK1.out, HCK2.out, HN13.out.1, HN13.out.2, by show (ts.map (·.1)).length = l2.length; rw [List.length_map, hlen.out, HM.out], hpk.out⟩
          have hpat : InPat wr (.slice A1 l1.length c1) (.slice A2 m c2) (.slice OA m oc) ⟨l1, n1, l2, n2, ts.map (·.1)⟩ := ⟨hst.out.kb, hst.out.ka, inP_own hst.out.own rfl hst.out.held⟩
          have KK := hide (KCK.out ts hpok (.slice OA m oc) wr (HT.out.below hb.out) hpat)
          have HPO := hide hpok
          have bp := hst.out.bp
          have v0 := bp.cell 0
          have v1 := bp.cell 1
          have v2 := bp.cell 2
          have v3 := bp.cell 3
          have v4 := bp.cell 4
          simp at v0 v1 v2 v3 v4
          clear hpok hpat bp
          go_wp2_with fail
          refine KK.out.mono ?_
          rintro e w7 ⟨⟨r, rfl, hr⟩, hb7⟩
          have HST7 := hide (hst.out.below hb7)
          have HBW7 := hide (hb.out.trans (hb7.mono hb.out.size))
          have HR := hide hr
          clear hb7 hr KK v0 v1 v2 v3 v4
          by_cases hr0 : r = 0
          · subst hr0
            have hfit := HR.out.1 rfl
            have HFIT := hide hfit
            have KD0 := KDN.out R q hq w7 HST7.out.rd
            simp only [if_true] at KD0
            have KD := hide KD0
            clear hfit HR KD0
            go_wp2_with fail
            refine KD.out.mono ?_
            rintro e w8 ⟨rfl, hb8⟩
            have HST8 := hide (HST7.out.below hb8)
            have HBW8 := hide (HBW7.out.trans (hb8.mono HBW7.out.size))
            clear hb8 KD
            by_cases hqs : q < s.size
            · rw [if_pos hqs]
              have hz8 := HST8.out.bz
              have z0 := hz8.cell 0
              have z1 := hz8.cell 1
              have z2 := hz8.cell 2
              have z3 := hz8.cell 3
              have z4 := hz8.cell 4
              have y0 := hz8.frozen 0
              have y1 := hz8.frozen 1
              have y2 := hz8.frozen 2
              have y3 := hz8.frozen 3
              have y4 := hz8.frozen 4
              simp at z0 z1 z2 z3 z4
              have HBZ := hide (st5_blk hz8 (.slice none 0 0) (.int .i64 0) (.slice none 0 0) (.int .i64 0) (.slice none 0 0))
              have HBF := hide (HBW8.out.trans ((st5_fr _ w.heap.size (.slice none 0 0) (.int .i64 0) (.slice none 0 0) (.int .i64 0) (.slice none 0 0)).belowK HBW8.out.size (Nat.le_refl _)))
              clear hz8
              go_wp2_with fail
              refine bodyPost_ret (results_cell_tmp_row' rfl _ _ _ w.heap.size 34 #[.slice none 0 0, .int .i64 0, .slice none 0 0, .int .i64 0, .slice none 0 0] (0, 0) rfl HBZ.out Tryz.underlying34 (by exact info_pt5)) rfl ?_
              exact ⟨.inl ⟨11, by decide, by decide, rfl⟩, HBF.out⟩
            · rw [if_neg hqs]
              obtain ⟨sl1, sl2⟩ := HST8.out.laid
              have HS1 := hide sl1
              have HS2 := hide sl2
              have HBF := hide (HBW8.out.trans ((st5_fr w8 w.heap.size (.slice A1 l1.length c1) (.int .i64 (n1 : Nat)) (.slice A2 m c2) (.int .i64 (n2 : Nat)) (.slice OA m oc)).belowK HBW8.out.size (Nat.le_refl _)))
              have hz8 := HST8.out.bz
              have bp := HST8.out.bp
              have v0 := bp.cell 0
              have v1 := bp.cell 1
              have v2 := bp.cell 2
              have v3 := bp.cell 3
              have v4 := bp.cell 4
              simp at v0 v1 v2 v3 v4
              have z0 := hz8.cell 0
              have z1 := hz8.cell 1
              have z2 := hz8.cell 2
              have z3 := hz8.cell 3
              have z4 := hz8.cell 4
              have y0 := hz8.frozen 0
              have y1 := hz8.frozen 1
              have y2 := hz8.frozen 2
              have y3 := hz8.frozen 3
              have y4 := hz8.frozen 4
              simp at z0 z1 z2 z3 z4
              clear hz8 bp sl1 sl2
              go_wp2_with fail
              refine bodyPost_ret (results_cell_tmp_row' rfl _ _ _ w.heap.size 34 #[.slice A1 l1.length c1, .int .i64 (n1 : Nat), .slice A2 m c2, .int .i64 (n2 : Nat), .slice OA m oc] (0, 0) rfl HS1.out Tryz.underlying34 (by exact info_pt5)) rfl ?_
              refine ⟨.inr ⟨(⟨l1, n1, l2, n2, ts.map (fun (t : PartD × Value × Value) => t.1)⟩ : PD), _, _, _, rfl, HPO.out, HFIT.out, ?_, HS2.out⟩, HBF.out⟩
              have h1 := hbe.out
              rw [List.drop_of_length_le (by rw [bn_len]; omega), List.append_nil] at h1
              have h2 : l2.take m = l2 := by rw [← HM.out]; exact List.take_length
              rw [h2] at h1
              exact h1.symm
          · have hne : ((r : Int) != 0) = true := by rw [bne_iff_ne]; omega
            have hz7 := HST7.out.bz
            have z0 := hz7.cell 0
            have z1 := hz7.cell 1
            have z2 := hz7.cell 2
            have z3 := hz7.cell 3
            have z4 := hz7.cell 4
            have y0 := hz7.frozen 0
            have y1 := hz7.frozen 1
            have y2 := hz7.frozen 2
            have y3 := hz7.frozen 3
            have y4 := hz7.frozen 4
            simp at z0 z1 z2 z3 z4
            have HBZ := hide (st5_blk hz7 (.slice none 0 0) (.int .i64 0) (.slice none 0 0) (.int .i64 0) (.slice none 0 0))
            have HBF := hide (HBW7.out.trans ((st5_fr _ w.heap.size (.slice none 0 0) (.int .i64 0) (.slice none 0 0) (.int .i64 0) (.slice none 0 0)).belowK HBW7.out.size (Nat.le_refl _)))
            clear hz7
            go_wp2_with fail
            refine bodyPost_ret (results_cell_tmp_row' rfl _ _ _ w.heap.size 34 #[.slice none 0 0, .int .i64 0, .slice none 0 0, .int .i64 0, .slice none 0 0] (0, 0) rfl HBZ.out Tryz.underlying34 (by exact info_pt5)) rfl ?_
            exact ⟨.inl ⟨12, by decide, by decide, rfl⟩, HBF.out⟩
    · have hne : ((e2 : Int) != 0) = true := by rw [bne_iff_ne]; omega
      have z0 := BZ6.out.cell 0
      have z1 := BZ6.out.cell 1
      have z2 := BZ6.out.cell 2
      have z3 := BZ6.out.cell 3
      have z4 := BZ6.out.cell 4
      have y0 := BZ6.out.frozen 0
      have y1 := BZ6.out.frozen 1
      have y2 := BZ6.out.frozen 2
      have y3 := BZ6.out.frozen 3
      have y4 := BZ6.out.frozen 4
      simp at z0 z1 z2 z3 z4
      have HBZ := hide (st5_blk BZ6.out (.slice none 0 0) (.int .i64 0) (.slice none 0 0) (.int .i64 0) (.slice none 0 0))
      have HBF := hide (HBW6.out.trans ((st5_fr _ w.heap.size (.slice none 0 0) (.int .i64 0) (.slice none 0 0) (.int .i64 0) (.slice none 0 0)).belowK HBW6.out.size (Nat.le_refl _)))
      go_wp2_with fail
      refine bodyPost_ret (results_cell_tmp_row' rfl _ _ _ w.heap.size 34 #[.slice none 0 0, .int .i64 0, .slice none 0 0, .int .i64 0, .slice none 0 0] (0, 0) rfl HBZ.out Tryz.underlying34 (by exact info_pt5)) rfl ?_
      exact ⟨.inl ⟨e2, he2, HDK2.out, rfl⟩, HBF.out⟩
  · have hne : ((e1 : Int) != 0) = true := by rw [bne_iff_ne]; omega
    have z0 := BZ4.out.cell 0
    have z1 := BZ4.out.cell 1
    have z2 := BZ4.out.cell 2
    have z3 := BZ4.out.cell 3
    have z4 := BZ4.out.cell 4
    have y0 := BZ4.out.frozen 0
    have y1 := BZ4.out.frozen 1
    have y2 := BZ4.out.frozen 2
    have y3 := BZ4.out.frozen 3
    have y4 := BZ4.out.frozen 4
    simp at z0 z1 z2 z3 z4
    have HBZ := hide (st5_blk BZ4.out (.slice none 0 0) (.int .i64 0) (.slice none 0 0) (.int .i64 0) (.slice none 0 0))
    have HBF := hide (HBW4.out.trans ((st5_fr _ w.heap.size (.slice none 0 0) (.int .i64 0) (.slice none 0 0) (.int .i64 0) (.slice none 0 0)).belowK HBW4.out.size (Nat.le_refl _)))
    go_wp2_with fail
    refine bodyPost_ret (results_cell_tmp_row' rfl _ _ _ w.heap.size 34 #[.slice none 0 0, .int .i64 0, .slice none 0 0, .int .i64 0, .slice none 0 0] (0, 0) rfl HBZ.out Tryz.underlying34 (by exact info_pt5)) rfl ?_
    exact ⟨.inl ⟨e1, he1, HDK.out, rfl⟩, HBF.out⟩
end Go.Proofs.YtfkgmodgkifelaaGreatDoor
namespace Go.Proofs.YtfkgmodgkifelaaGreatDoor
open Go.RowKit

/-- A block of another type is not the writer's, and not its bytes'. -/
theorem blk_wr {w w' : World} {W B : Nat} {sv sv' : Value} {l : List Nat} {b : Nat} {t : TypeId} {cs : Array Value} (h : Blk w b t cs) (hw : Wr w W B sv l) (hs : WS W w sv w' sv') (h1 : t ≠ 77) (h2 : t ≠ 5) : Blk w' b t cs :=
  Blk.fr h hs.fr (by
    rintro (he | he)
    · exact blk_ne h hw.blk h1 he
    · exact hw.own.ne h h2 he.symm)
set_option maxHeartbeats 4000000 in
set_option maxRecDepth 100000 in
theorem dedit_any (k : Int) (h1 : 1 ≤ k) (h6 : k ≤ 6) (W B : Nat) (sv : Value) (l : List Nat) (gap : Nat) (hg : gap ≤ 10000) (c : MC) (hc : EdC k c) (w : World) (h : Wr w W B sv l) (hl : l.length ≤ 17000000) (hB : B ≤ w.heap.size) :
    Calls Tryz.prog 33 #[.pointer (some ⟨W, 0, none⟩), .int .i64 k, .int .i64 (gap : Nat), c.v] w (WPost W B w sv (l ++ (uvar gap ++ (if c.1 then [1] else 0 :: cellB k c.2)))) := by
  have hb0 : ∀ o, Below w.heap.size w (w.alloc o) := fun o => (Below.refl _ _).alloc (Nat.le_refl _) _
  have HB0 := hide hb0
  have hu := uvar_len10 (x := gap) (by omega)
  have K := hide (fun o => wuvar_any W B sv l gap (by omega) (w.alloc o) (h.below (hb0 o)) (by omega) (by simp; omega))
  have HW0 := hide (fun o => h.below (hb0 o))
  have HC0 := hide (Blk.new w #[.bool c.1, .bool c.2.b, .int .i64 c.2.x, .int .u64 c.2.u, .string c.2.t, .complex .f64 c.2.p c.2.q] 45)
  have KU := hide (fun sv1 (x : Nat) w1 (hw1 : Wr w1 W B sv1 (l ++ uvar gap)) hB1 => wu8_any W B sv1 (l ++ uvar gap) x w1 hw1 (by rw [List.length_append]; omega) hB1)
  have KP := hide (fun (hk : KG c.2) (ht : c.2.t.size ≤ 600) sv1 w1 (hw1 : Wr w1 W B sv1 (l ++ uvar gap ++ [0])) hB1 => pput_all k h1 h6 W B sv1 (l ++ uvar gap ++ [0]) c.2 hk (by omega) w1 hw1 (by rw [List.length_append, List.length_append, List.length_singleton]; omega) hB1)
  have HEC := hide hc
  have hgw : IntKind.u64.wrap (gap : Int) = (gap : Int) := by rw [IntKind.wrap_u64]; omega
  have HBB := hide hB
  clear hb0 h hc hu hB
  obtain ⟨cn, cb, cx, cu, ct, cp, cq⟩ := c
  unfold MC.v
  unfold CD.v clV clA at KP
  simp only at KP HC0 ⊢
  cases cn
  · have hpur := HEC.out
    unfold EdC at hpur
    rw [if_neg (by simp)] at hpur
    have KP2 := hide (KP.out hpur.kg hpur.tb)
    rw [if_neg (by simp)]
    clear hpur KP HEC
    go_enter Tryz.func33, Tryz.ntmps33
    go_wp2_with fail
    refine (K.out _).mono ?_
    rintro e w1 ⟨rfl, sv1, hw1, hs1⟩
    have bc1 := blk_wr HC0.out (HW0.out _) hs1 (by decide) (by decide)
    have K8 := hide (KU.out sv1 0 w1 hw1 (by have := hs1.fr.size; simp at this; have := HBB.out; omega))
    have c0 := bc1.cell 0
    simp at c0
    have HC1 := hide bc1
    have HW1 := hide hw1
    have HS1 := hide (WS.ahead (HB0.out _) hs1)
    clear bc1 hw1 hs1
    go_wp2_with fail
    refine K8.out.mono ?_
    rintro e w2 ⟨rfl, sv2, hw2, hs2⟩
    have bc2 := blk_wr HC1.out HW1.out hs2 (by decide) (by decide)
    have KP3 := hide (KP2.out sv2 w2 hw2 (by have := HS1.out.fr.size; have := hs2.fr.size; have := HBB.out; omega))
    obtain ⟨d0, d1, d2, d3, d4, d5, f0, f1, f2, f3, f4, f5⟩ := Blk.six bc2
    have HS2 := hide (HS1.out.trans hs2)
    clear bc2 hw2 hs2 K8 c0
    go_wp2_with fail
    refine KP3.out.mono ?_
    rintro e w3 ⟨rfl, sv3, hw3, hs3⟩
    have HW3 := hide hw3
    have HS3 := hide (HS2.out.trans hs3)
    clear hw3 hs3
    go_wp2_with fail
    go_end0
    exact ⟨rfl, sv3, by have := HW3.out; rwa [List.append_assoc, List.append_assoc] at this, HS3.out⟩
  · rw [if_pos rfl]
    clear KP HEC
    go_enter Tryz.func33, Tryz.ntmps33
    go_wp2_with fail
    refine (K.out _).mono ?_
    rintro e w1 ⟨rfl, sv1, hw1, hs1⟩
    have bc1 := blk_wr HC0.out (HW0.out _) hs1 (by decide) (by decide)
    have K8 := hide (KU.out sv1 1 w1 hw1 (by have := hs1.fr.size; simp at this; have := HBB.out; omega))
    have c0 := bc1.cell 0
    simp at c0
    have HS1 := hide (WS.ahead (HB0.out _) hs1)
    clear bc1 hw1 hs1
    go_wp2_with fail
    refine K8.out.mono ?_
    rintro e w2 ⟨rfl, sv2, hw2, hs2⟩
    have HW2 := hide hw2
    have HS2 := hide (HS1.out.trans hs2)
    clear hw2 hs2 K8 c0
    go_wp2_with fail
    go_end0
    exact ⟨rfl, sv2, by have := HW2.out; rwa [List.append_assoc] at this, HS2.out⟩
end Go.Proofs.YtfkgmodgkifelaaGreatDoor
