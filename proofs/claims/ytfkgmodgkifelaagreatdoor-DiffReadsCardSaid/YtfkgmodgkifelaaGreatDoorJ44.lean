/- Patches, read: a part. -/
import Derived.Test.YtfkgmodgkifelaaGreatDoorJ43
namespace Go.Proofs.YtfkgmodgkifelaaGreatDoor
open Go.RowKit

theorem info_pt : (Tryz.prog.info? 65).map (fun i => (i.zero, i.size, i.bytes)) = some (some (.agg #[.bool false, .slice none 0 0, .slice none 0 0]), 3, 56) := by kernel_rfl
theorem info_pt3 : (Tryz.prog.info? 65).map (·.size) = some 3 := by kernel_rfl
/-- How the reading of a part ends. -/
def RdPost (R : Nat) (s : ByteArray) (p : Nat) (before : List Col) (rows too : Nat) (c : Col) (w : World) (e : Ending) (w' : World) : Prop :=
  ∃ (sm : Bool) (AE : Option Addr) (nE cE : Nat) (AC : Option Addr) (nC cC er : Nat), e = .returned (.tuple #[.agg #[.bool sm, .slice AE nE cE, .slice AC nC cC], .int .i64 (er : Nat)]) ∧ Eok er ∧ Fr w w' (fun j => j = R) ∧
    (er = 0 → ∃ pd : PartD, pd.1 = sm ∧ PartOk before rows too c pd ∧ InE w' (.slice AE nE cE) pd.2.1 ∧ InM w' (.slice AC nC cC) pd.2.2 ∧ ∃ p', p' ≤ s.size ∧ Rd w' R s p' 0 ∧ (bn s).drop p = partB c pd ++ (bn s).drop p')
/-- What a text and its cells are of a part. -/
theorem part_text (s : ByteArray) (hs : s.size ≤ 600) (p : Nat) (hp : p ≤ s.size) (c : Col) (_hc : colE c.1 c.2.1 = 0) (t : List Nat) (a : Nat) (hT : textS 2097152 ((bn s).drop p) = (t, a, 0)) (h0 : (cdecS c.1 c.2.1 c.2.2 (strN t)).1 = 0) :
    p + a ≤ s.size ∧ (cdecS c.1 c.2.1 c.2.2 (strN t)).2.length ≤ 10000 ∧ (∀ x ∈ (cdecS c.1 c.2.1 c.2.2 (strN t)).2, okM c.2.2 c.2.1 x) ∧ tbm (cdecS c.1 c.2.1 c.2.2 (strN t)).2 ≤ 1048576 ∧
    (encC c.2.1 c.2.2 (cdecS c.1 c.2.1 c.2.2 (strN t)).2).size ≤ 600 ∧
    (bn s).drop p = (uvar (encC c.2.1 c.2.2 (cdecS c.1 c.2.1 c.2.2 (strN t)).2).size ++ bn (encC c.2.1 c.2.2 (cdecS c.1 c.2.1 c.2.2 (strN t)).2)) ++ (bn s).drop (p + a) := by
  obtain ⟨o1, o2, o3⟩ := textS_one (fun b hb => bn_lt s b (List.mem_of_mem_drop hb)) hT
  have hl : t.length ≤ 600 := by
    have h2 := congrArg List.length o1
    rw [List.length_take, List.length_append, List.length_drop, bn_len] at h2
    omega
  rw [List.length_drop, bn_len] at o2
  obtain ⟨g1, g2, g3, g4⟩ := cdecS_ok (s := strN t) (by rw [strN_size]; exact hl) h0
  refine ⟨by omega, g1, g2, g3, by rw [g4, strN_size]; exact hl, ?_⟩
  rw [g4, strN_size, bn_strN t o3, ← o1, ← List.drop_drop, List.take_append_drop]
theorem blk_ne {w : World} {a b : Nat} {t t' : TypeId} {cs cs' : Array Value} (h : Blk w a t cs) (h' : Blk w b t' cs') (ht : t ≠ t') : a ≠ b := by
  intro he
  subst he
  have h1 := h.out.symm.trans h'.out
  injection h1 with h1
  injection h1 with _ h1
  exact ht h1
def st3 (w : World) (L : Nat) (a0 a1 a2 : Value) : World := ((w.setCell ⟨L, 0, none⟩ a0).setCell ⟨L, 1, none⟩ a1).setCell ⟨L, 2, none⟩ a2
theorem st3_fr (w : World) (L : Nat) (a0 a1 a2 : Value) : Fr w (st3 w L a0 a1 a2) (fun k => k = L) := (((Fr.refl w _).set' 0 _).set' 1 _).set' 2 _
theorem st3_blk {w : World} {L : Nat} {t : TypeId} {b0 b1 b2 : Value} (h : Blk w L t #[b0, b1, b2]) (a0 a1 a2 : Value) : Blk (st3 w L a0 a1 a2) L t #[a0, a1, a2] := ((h.set 0 a0).set 1 a1).set 2 a2
theorem blk_slice_ne {w : World} {g : Nat} {t : TypeId} {b0 b1 : Value} {A : Option Addr} {n c : Nat} (h : Blk w g t #[b0, b1, .slice A n c]) (x : Int) : w.cell? ⟨g, 2, none⟩ ≠ some (.int .i64 x) := by
  have := h.cell 2
  simp at this
  rw [this]
  simp
theorem blk_bool_ne {w : World} {g : Nat} {t : TypeId} {b : Bool} {b1 b2 : Value} (h : Blk w g t #[.bool b, b1, b2]) (x : Int) : w.cell? ⟨g, 0, none⟩ ≠ some (.int .i64 x) := by
  have := h.cell 0
  simp at this
  rw [this]
  simp
theorem rd_str_ne {w : World} {R : Nat} {s : ByteArray} {p e : Nat} (h : Rd w R s p e) : (∀ x, w.cell? ⟨R, 0, none⟩ ≠ some (.int .i64 x)) ∧ (∀ b, w.cell? ⟨R, 0, none⟩ ≠ some (.bool b)) ∧ (∀ b, w.cell? ⟨R, 2, none⟩ ≠ some (.bool b)) := by
  have h0 := Blk.cell h 0
  have h2 := Blk.cell h 2
  simp at h0 h2
  rw [h0, h2]
  simp
/-- A part is laid where it is answered. -/
theorem seal_part {w : World} {xb zb R : Nat} {s : ByteArray} {q : Nat} {sm : Bool} {AE AC : Option Addr} {nE cE nC cC : Nat} {l : List Ed} {m : List MC} (hx : Blk w xb 65 #[.bool sm, .slice AE nE cE, .slice none 0 0]) (hz : Blk w zb 65 #[.bool false, .slice none 0 0, .slice none 0 0]) (hne : zb ≠ xb) (hr : Rd w R s q 0) (he : InE w (.slice AE nE cE) l) (hm : InM w (.slice AC nC cC) m) :
    Fr w (st3 (w.setCell ⟨xb, 2, none⟩ (.slice AC nC cC)) zb (.bool sm) (.slice AE nE cE) (.slice AC nC cC)) (fun k => k = xb ∨ k = zb) ∧
    Blk (st3 (w.setCell ⟨xb, 2, none⟩ (.slice AC nC cC)) zb (.bool sm) (.slice AE nE cE) (.slice AC nC cC)) zb 65 #[.bool sm, .slice AE nE cE, .slice AC nC cC] ∧
    Rd (st3 (w.setCell ⟨xb, 2, none⟩ (.slice AC nC cC)) zb (.bool sm) (.slice AE nE cE) (.slice AC nC cC)) R s q 0 ∧
    InE (st3 (w.setCell ⟨xb, 2, none⟩ (.slice AC nC cC)) zb (.bool sm) (.slice AE nE cE) (.slice AC nC cC)) (.slice AE nE cE) l ∧
    InM (st3 (w.setCell ⟨xb, 2, none⟩ (.slice AC nC cC)) zb (.bool sm) (.slice AE nE cE) (.slice AC nC cC)) (.slice AC nC cC) m := by
  have f1 := Fr.setCell w ⟨xb, 2, none⟩ (.slice AC nC cC)
  have f2 := st3_fr (w.setCell ⟨xb, 2, none⟩ (.slice AC nC cC)) zb (.bool sm) (.slice AE nE cE) (.slice AC nC cC)
  have z1 := Blk.fr hz f1 (by exact hne)
  have r1 : Rd (w.setCell ⟨xb, 2, none⟩ (.slice AC nC cC)) R s q 0 := Blk.fr hr f1 (by exact blk_ne hr hx (by decide))
  refine ⟨?_, st3_blk z1 _ _ _, Blk.fr r1 f2 (by exact blk_ne hr hz (by decide)), ?_, ?_⟩
  · exact Fr.trans (P := fun k => k = xb ∨ k = zb) (Fr.mono f1 (fun k h => .inl h)) f2 (fun _ _ h => .inr h)
  · exact (he.frq f1 (fun g hg x => by obtain rfl : g = xb := hg; exact blk_bool_ne hx x)).frq f2 (fun g hg x => by obtain rfl : g = zb := hg; exact blk_bool_ne z1 x)
  · exact (hm.frq f1 (fun g hg => .inr (fun x => by obtain rfl : g = xb := hg; exact blk_slice_ne hx x))).frq f2 (fun g hg => .inr (fun x => by obtain rfl : g = zb := hg; exact blk_slice_ne z1 x))
theorem part_none {before : List Col} {rows too : Nat} {c : Col} {l : List MC} (h : c ∉ before) (h1 : l.length ≤ 10000) (h2 : ∀ x ∈ l, okM c.2.2 c.2.1 x) (h3 : tbm l ≤ 1048576) (h4 : (encC c.2.1 c.2.2 l).size ≤ 600) : PartOk before rows too c (false, [], l) :=
  ⟨(decide_eq_false h).symm, edsOk_nil _ _, fun _ => rfl, Nat.zero_le _, h1, h2, h3, h4⟩
theorem part_eds {before : List Col} {rows too mn : Nat} {c : Col} {es : List Ed} {l : List MC} (h : c ∈ before) (hmn : min rows too = mn) (hm : mn ≤ 10000) (he : EdsOk c.2.1 mn es) (hl : es.length ≤ mn) (h1 : l.length ≤ 10000) (h2 : ∀ x ∈ l, okM c.2.2 c.2.1 x) (h3 : tbm l ≤ 1048576) (h4 : (encC c.2.1 c.2.2 l).size ≤ 600) : PartOk before rows too c (true, es, l) :=
  ⟨(decide_eq_true h).symm, by rw [hmn]; exact he, fun h => by (cases h), Nat.le_trans hl hm, h1, h2, h3, h4⟩
set_option maxHeartbeats 8000000 in
set_option maxRecDepth 100000 in
theorem pread_part (before : List Col) (hbl : before.length ≤ 100000) (rows too : Nat) (hrw : rows ≤ 10000) (htw : too ≤ 10000) (c : Col) (hc : colE c.1 c.2.1 = 0) (VB VA VP : Value) (hA : ∃ A n k, VA = .slice A n k) (hP : ∃ A n k, VP = .slice A n k)
    (R : Nat) (s : ByteArray) (hs : s.size ≤ 600) (p : Nat) (hp : p ≤ s.size) (w : World) (hT : Tabs w) (hr : Rd w R s p 0) (hB : InK w VB before) :
    Calls Tryz.prog 27 #[patV VB rows VA too VP, .pointer (some ⟨R, 0, none⟩), colV c.1 c.2.1 c.2.2] w (RdPost R s p before rows too c w) := by
  have hsm : s.size ≤ maxLen := by unfold maxLen; omega
  have hRw := Blk.lt hr
  obtain ⟨A1, c1, hVB⟩ := hB.form
  subst hVB
  obtain ⟨A2, n2, c2, rfl⟩ := hA
  obtain ⟨A3, n3, c3, rfl⟩ := hP
  obtain ⟨k1, k6⟩ := colE_k hc
  have hnm : c.1.size ≤ maxLen := by have := (colE_ok hc).2.1; unfold maxLen; omega
  have hb3 : ∀ o1 o2 o3, Below w.heap.size w (((w.alloc o1).alloc o2).alloc o3) := fun o1 o2 o3 => (((Below.refl w.heap.size w).alloc (Nat.le_refl _) o1).alloc (by simp) o2).alloc (by simp; omega) o3
  have KCN := hide (fun o1 o2 o3 => contains_any before hbl c _ (((w.alloc o1).alloc o2).alloc o3) (hB.below (hb3 o1 o2 o3)))
  have HB3 := hide hb3
  have HT := hide hT
  have HR0 := hide hr
  have HHB := hide hB
  have KTX := hide (fun p (hp : p ≤ s.size) w (h : Rd w R s p 0) => rtext_any R s p 0 2097152 (by omega) (by omega) hsm hp w h)
  have KER := hide (fun p e w (h : Rd w R s p e) => rerr_any R s p e w h)
  have KED := hide (fun p (hp : p ≤ s.size) w hT hr => edits_any c.2.1 k1 k6 (min rows too) (by omega) R s hs p hp w hT hr)
  have KDC := hide (fun t (ht : t.size ≤ 600) w hT => cdecode_any c.1 hnm c.2.1 c.2.2 t ht w hT)
  have KPT := hide (fun p (hp : p ≤ s.size) t a hT h0 => part_text s hs p hp c hc t a hT h0)
  have HP1 := hide (Blk.new w #[.slice A1 before.length c1, .int .i64 (rows : Nat), .slice A2 n2 c2, .int .i64 (too : Nat), .slice A3 n3 c3] 34)
  have HC1 := hide (fun o => blk_n2 w o #[.string c.1, .int .i64 c.2.1, .bool c.2.2] 23)
  have HZ1 := hide (fun o1 o2 => blk_n3 w o1 o2 #[.bool false, .slice none 0 0, .slice none 0 0] 65)
  have HCO := hide hc
  have HMIN : Hid (min rows too = min rows too) := rfl
  generalize hmn : min rows too = mn at *
  have hmi : min (rows : Int) (too : Int) = (mn : Int) := by omega
  have HS := hide hs
  clear hb3 hT hr hsm hnm hB hs hc HMIN
  obtain ⟨nm, k, nl⟩ := c
  unfold colV at KCN KDC ⊢
  unfold patV
  simp only at KCN KED KDC KPT HC1 HCO k1 k6 ⊢
  go_enter Tryz.func27, Tryz.ntmps27
  go_wp2_with fail
  refine (KCN.out _ _ _).mono ?_
  rintro e w1 ⟨rfl, hb1⟩
  have hbw1 : Below w.heap.size w w1 := (HB3.out _ _ _).trans (hb1.mono (by simp; omega))
  have bp1 : Blk w1 w.heap.size 34 #[.slice A1 before.length c1, .int .i64 (rows : Nat), .slice A2 n2 c2, .int .i64 (too : Nat), .slice A3 n3 c3] := Blk.below ((HP1.out.alloc _).alloc _) hb1 (by simp; omega)
  have bc1 : Blk w1 (w.heap.size + 1) 23 #[.string nm, .int .i64 k, .bool nl] := Blk.below ((HC1.out _).alloc _) hb1 (by simp)
  have bz1 : Blk w1 (w.heap.size + 1 + 1) 65 #[.bool false, .slice none 0 0, .slice none 0 0] := Blk.below (HZ1.out _ _) hb1 (by simp)
  have hr1 : Rd w1 R s p 0 := HR0.out.below hbw1
  have hw1 : w.heap.size + 1 + 1 < w1.heap.size := bz1.lt
  have HFW1 := hide (Fr.of_below hbw1 (fun j => j = R))
  have HQ := hide hp
  by_cases hk : (nm, k, nl) ∈ before
  · have hkd : decide ((nm, k, nl) ∈ before) = true := decide_eq_true hk
    rw [hkd]
    obtain ⟨w2, hw2⟩ : ∃ w2, w1.alloc (.cells #[.bool true, .slice none 0 0, .slice none 0 0] 65) = w2 := ⟨_, rfl⟩
    have hbw2 : Below w1.heap.size w1 w2 := by rw [← hw2]; exact (Below.refl _ _).alloc (Nat.le_refl _) _
    have BX2 := hide (show Blk w2 w1.heap.size 65 #[.bool true, .slice none 0 0, .slice none 0 0] by rw [← hw2]; exact Blk.new _ _ _)
    have bp2 := bp1.below hbw2 bp1.lt
    have bc2 := bc1.below hbw2 bc1.lt
    have BC2 := hide bc2
    have BZ2 := hide (bz1.below hbw2 bz1.lt)
    have HR2 := hide (hr1.below hbw2)
    have HF2 := hide (HFW1.out.trans (Fr.of_below hbw2 (fun j => j = R)) (fun _ _ h => h))
    have KED2 := KED.out p hp w2 (HT.out.fr HR0.out HF2.out) HR2.out
    have hek := edS_k k k1 k6 mn ((bn s).drop p)
    have he1 := edS_one k k1 k6 mn ((bn s).drop p) ((bys_bn s HS.out).drop p)
    obtain ⟨⟨ee, rest, es⟩, hes⟩ : ∃ x, edS k mn ((bn s).drop p) = x := ⟨_, rfl⟩
    rw [hes] at KED2 hek he1
    simp only at hek he1
    have KED3 := hide KED2
    have HEK := hide hek
    have HE1 := hide he1
    have HKM := hide hk
    have HQQ := hide hmn
    have hmn4 : mn ≤ 10000 := by omega
    have p1 := bp2.cell 1
    have p3 := bp2.cell 3
    have c1' := bc2.cell 1
    simp at p1 p3 c1'
    rw [← hw2] at p1 p3 c1'
    have HW2 := hide hw2
    clear hb1 hbw1 bp1 bc1 bz1 hr1 hk hkd hbw2 bp2 bc2 KED2 hek he1 hes hmn hw2
    go_wp2_with fail
    rw [HW2.out]
    refine KED3.out.mono ?_
    rintro e w3 ⟨v, rfl, ⟨AE, nE, cE, rfl⟩, hin, hf3⟩
    simp only at hin
    have f4 := Fr.setCell w3 ⟨w1.heap.size, 1, none⟩ (.slice AE nE cE)
    have bx3 := Blk.fr BX2.out hf3 (by exact fun h => blk_ne BX2.out HR2.out (by decide) h)
    have bc3 := Blk.fr BC2.out hf3 (by exact fun h => blk_ne BC2.out HR2.out (by decide) h)
    have bz3 := Blk.fr BZ2.out hf3 (by exact fun h => blk_ne BZ2.out HR2.out (by decide) h)
    have x0 := bx3.cell 1
    have x1 := bx3.frozen 1
    simp at x0
    obtain ⟨w4, hw4⟩ : ∃ w4, w3.setCell ⟨w1.heap.size, 1, none⟩ (.slice AE nE cE) = w4 := ⟨_, rfl⟩
    rw [hw4] at f4
    have BX := hide (show Blk w4 w1.heap.size 65 #[.bool true, .slice AE nE cE, .slice none 0 0] by rw [← hw4]; exact bx3.set 1 _)
    have BC := hide (Blk.fr bc3 f4 (by exact fun h => blk_ne bc3 bx3 (by decide) h))
    have BZ := hide (Blk.fr bz3 f4 (by show w.heap.size + 1 + 1 ≠ w1.heap.size; omega))
    have HFt := hide ((HF2.out.trans hf3 (fun _ _ h => h)).trans f4 (fun q hq h => by (have : q = w1.heap.size := h); omega))
    have HIN := hide hin
    have HB3' := hide bx3
    have HF4 := hide f4
    clear hf3 hin f4 bx3 bc3 bz3 p1 p3 c1'
    by_cases hee : ee = 0
    · subst hee
      obtain ⟨hie, q, hq, hdq, hrq⟩ := HIN.out rfl
      have HEt := hide (hie.frq HF4.out (fun g hg x => by obtain rfl : g = w1.heap.size := hg; exact blk_bool_ne HB3'.out x))
      have HRq := hide (show Rd w4 R s q 0 from Blk.fr hrq HF4.out (by exact fun h => blk_ne hrq HB3'.out (by decide) h))
      have HQ := hide hq
      have HDQ := hide hdq
      clear hie hq hdq hrq
      have KT2 := KTX.out q HQ.out w4 HRq.out
      rw [stT_at] at KT2
      rcases htx : textS 2097152 ((bn s).drop q) with ⟨t, a, e⟩
      rw [htx] at KT2
      simp only at KT2
      have hTK := textS_k 2097152 ((bn s).drop q)
      rw [htx] at hTK
      have htl : t.length ≤ 600 := by
        have h2 := (textS_le3 2097152 ((bn s).drop q)).2.1
        rw [htx] at h2
        simp only at h2
        rw [List.length_drop, bn_len] at h2
        have := HS.out
        omega
      have KT3 := hide KT2
      have HTX := hide htx
      have HTK := hide hTK
      have HTL := hide htl
      clear KT2 htx hTK htl
      go_wp2_with fail
      refine KT3.out.mono ?_
      rintro e1 w5 ⟨rfl, hr5, hf5⟩
      have HR5 := hide hr5
      have HF5 := hide (HFt.out.trans hf5 (fun _ _ h => h))
      have HE5 := hide (HEt.out.frq hf5 (fun g hg x => by obtain rfl : g = R := hg; exact (rd_str_ne HRq.out).1 x))
      have bc5 := Blk.fr BC.out hf5 (by exact fun h => blk_ne BC.out HRq.out (by decide) h)
      have bx5 := Blk.fr BX.out hf5 (by exact fun h => blk_ne BX.out HRq.out (by decide) h)
      have bz5 := Blk.fr BZ.out hf5 (by exact fun h => blk_ne BZ.out HRq.out (by decide) h)
      have KE5 := hide (KER.out _ _ w5 hr5)
      clear hr5 hf5 KT3
      go_wp2_with fail
      refine KE5.out.mono ?_
      rintro e1 w6 ⟨rfl, rfl⟩
      by_cases he : e = 0
      · subst he
        have KD6 := KDC.out (strN t) (by rw [strN_size]; exact HTL.out) w5 (HT.out.fr HR0.out HF5.out)
        have hck := cdecS_k nm k nl (strN t)
        have hfin := fun h0 => KPT.out q HQ.out t a HTX.out h0
        obtain ⟨⟨er, cl⟩, hcd⟩ : ∃ x, cdecS nm k nl (strN t) = x := ⟨_, rfl⟩
        rw [hcd] at KD6 hck hfin
        simp only at hck hfin
        have KD7 := hide KD6
        have HCK := hide hck
        have HFIN := hide hfin
        have k0 := bc5.cell 0
        have k1' := bc5.cell 1
        have k2 := bc5.cell 2
        simp at k0 k1' k2
        have BX5 := hide bx5
        have BZ5 := hide bz5
        clear KD6 hck hfin hcd bx5 bz5 bc5
        go_wp2_with fail
        refine KD7.out.mono ?_
        rintro e1 w7 ⟨v, rfl, hv, hb7⟩
        obtain ⟨AC, nC, cC, rfl⟩ := hv.form
        simp only at hv
        have bx7 := BX5.out.below hb7 BX5.out.lt
        have bz7 := BZ5.out.below hb7 BZ5.out.lt
        have hzx : w.heap.size + 1 + 1 ≠ w1.heap.size := by omega
        obtain ⟨s1, s2, s3, s4, s5⟩ := seal_part bx7 bz7 hzx (HR5.out.below hb7) (HE5.out.below hb7) hv
        have HF8 := hide ((HF5.out.trans (Fr.of_below hb7 (fun j => j = R)) (fun _ _ h => h)).trans s1 (by intro q hq h; rcases h with h | h <;> (exfalso; omega)))
        have HS2 := hide s2
        have HS3 := hide s3
        have HS4 := hide s4
        have HS5 := hide s5
        have x0 := bx7.cell 0
        have x1 := bx7.cell 1
        have x2 := bx7.cell 2
        have x3 := bx7.frozen 0
        have x4 := bx7.frozen 1
        have x5 := bx7.frozen 2
        have z0 := bz7.cell 0
        have z1 := bz7.cell 1
        have z2 := bz7.cell 2
        have z3 := bz7.frozen 0
        have z4 := bz7.frozen 1
        have z5 := bz7.frozen 2
        simp at x0 x1 x2 z0 z1 z2
        clear hv hb7 s1 s2 s3 s4 s5 bx7 bz7
        go_wp2_with fail
        refine bodyPost_ret (results_cell_tmp_row' rfl _ _ _ (w.heap.size + 1 + 1) 65 #[.bool true, .slice AE nE cE, .slice AC nC cC] (0, 0) rfl HS2.out Tryz.underlying65 (by exact info_pt3)) rfl ?_
        refine ⟨true, AE, nE, cE, AC, nC, cC, er, rfl, HCK.out, HF8.out, fun h0 => ?_⟩
        obtain ⟨g0, g1, g2, g3, g4, g5⟩ := HFIN.out h0
        exact ⟨(true, es, cl), rfl, part_eds HKM.out HQQ.out hmn4 (HE1.out (by trivial)).2.1 (HE1.out (by trivial)).2.2 g1 g2 g3 g4, HS4.out, HS5.out, _, g0, HS3.out, by (unfold partB; rw [if_pos rfl, List.append_assoc, ← g5, HDQ.out]; exact (HE1.out (by trivial)).1)⟩
      · have hne : ((e : Int) != 0) = true := by rw [bne_iff_ne]; omega
        have z0 := bz5.cell 0
        have z1 := bz5.cell 1
        have z2 := bz5.cell 2
        have z3 := bz5.frozen 0
        have z4 := bz5.frozen 1
        have z5 := bz5.frozen 2
        simp at z0 z1 z2
        have HBZ := hide (st3_blk bz5 (.bool false) (.slice none 0 0) (.slice none 0 0))
        have HF8 := hide (HF5.out.trans (st3_fr w5 (w.heap.size + 1 + 1) (.bool false) (.slice none 0 0) (.slice none 0 0)) (fun q hq h => by omega))
        clear bz5 bx5 bc5
        go_wp2_with fail
        refine KE5.out.mono ?_
        rintro e1 w6 ⟨rfl, rfl⟩
        go_wp2_with fail
        refine bodyPost_ret (results_cell_tmp_row' rfl _ _ _ (w.heap.size + 1 + 1) 65 #[.bool false, .slice none 0 0, .slice none 0 0] (0, 0) rfl HBZ.out Tryz.underlying65 (by exact info_pt3)) rfl ?_
        exact ⟨false, none, 0, 0, none, 0, 0, e, rfl, HTK.out, HF8.out, fun h => absurd h he⟩
    · have hne : ((ee : Int) != 0) = true := by rw [bne_iff_ne]; omega
      have z0 := BZ.out.cell 0
      have z1 := BZ.out.cell 1
      have z2 := BZ.out.cell 2
      have z3 := BZ.out.frozen 0
      have z4 := BZ.out.frozen 1
      have z5 := BZ.out.frozen 2
      simp at z0 z1 z2
      have HBZ := hide (st3_blk BZ.out (.bool false) (.slice none 0 0) (.slice none 0 0))
      have HF8 := hide (HFt.out.trans (st3_fr w4 (w.heap.size + 1 + 1) (.bool false) (.slice none 0 0) (.slice none 0 0)) (fun q hq h => by omega))
      go_wp2_with fail
      refine bodyPost_ret (results_cell_tmp_row' rfl _ _ _ (w.heap.size + 1 + 1) 65 #[.bool false, .slice none 0 0, .slice none 0 0] (0, 0) rfl HBZ.out Tryz.underlying65 (by exact info_pt3)) rfl ?_
      exact ⟨false, none, 0, 0, none, 0, 0, ee, rfl, HEK.out, HF8.out, fun h => absurd h hee⟩
  · have hkd : decide ((nm, k, nl) ∈ before) = false := decide_eq_false hk
    rw [hkd]
    obtain ⟨w2, hw2⟩ : ∃ w2, w1.alloc (.cells #[.bool false, .slice none 0 0, .slice none 0 0] 65) = w2 := ⟨_, rfl⟩
    have hbw2 : Below w1.heap.size w1 w2 := by rw [← hw2]; exact (Below.refl _ _).alloc (Nat.le_refl _) _
    have BX := hide (show Blk w2 w1.heap.size 65 #[.bool false, .slice none 0 0, .slice none 0 0] by rw [← hw2]; exact Blk.new _ _ _)
    have BC := hide (bc1.below hbw2 bc1.lt)
    have BZ := hide (bz1.below hbw2 bz1.lt)
    have HRq := hide (hr1.below hbw2)
    have HFt := hide (HFW1.out.trans (Fr.of_below hbw2 (fun j => j = R)) (fun _ _ h => h))
    have HEt := hide (inE_nil w2)
    have HKM := hide hk
    have HW2 := hide hw2
    clear hb1 hbw1 bp1 bc1 bz1 hr1 hk hkd hbw2 hw2
    have KT2 := KTX.out p HQ.out w2 HRq.out
    rw [stT_at] at KT2
    rcases htx : textS 2097152 ((bn s).drop p) with ⟨t, a, e⟩
    rw [htx] at KT2
    simp only at KT2
    have hTK := textS_k 2097152 ((bn s).drop p)
    rw [htx] at hTK
    have htl : t.length ≤ 600 := by
      have h2 := (textS_le3 2097152 ((bn s).drop p)).2.1
      rw [htx] at h2
      simp only at h2
      rw [List.length_drop, bn_len] at h2
      have := HS.out
      omega
    have KT3 := hide KT2
    have HTX := hide htx
    have HTK := hide hTK
    have HTL := hide htl
    clear KT2 htx hTK htl
    go_wp2_with fail
    rw [HW2.out]
    refine KT3.out.mono ?_
    rintro e1 w5 ⟨rfl, hr5, hf5⟩
    have HR5 := hide hr5
    have HF5 := hide (HFt.out.trans hf5 (fun _ _ h => h))
    have HE5 := hide (HEt.out.frq hf5 (fun g hg x => by obtain rfl : g = R := hg; exact (rd_str_ne HRq.out).1 x))
    have bc5 := Blk.fr BC.out hf5 (by exact fun h => blk_ne BC.out HRq.out (by decide) h)
    have bx5 := Blk.fr BX.out hf5 (by exact fun h => blk_ne BX.out HRq.out (by decide) h)
    have bz5 := Blk.fr BZ.out hf5 (by exact fun h => blk_ne BZ.out HRq.out (by decide) h)
    have KE5 := hide (KER.out _ _ w5 hr5)
    clear hr5 hf5 KT3
    go_wp2_with fail
    refine KE5.out.mono ?_
    rintro e1 w6 ⟨rfl, rfl⟩
    by_cases he : e = 0
    · subst he
      have KD6 := KDC.out (strN t) (by rw [strN_size]; exact HTL.out) w5 (HT.out.fr HR0.out HF5.out)
      have hck := cdecS_k nm k nl (strN t)
      have hfin := fun h0 => KPT.out p HQ.out t a HTX.out h0
      obtain ⟨⟨er, cl⟩, hcd⟩ : ∃ x, cdecS nm k nl (strN t) = x := ⟨_, rfl⟩
      rw [hcd] at KD6 hck hfin
      simp only at hck hfin
      have KD7 := hide KD6
      have HCK := hide hck
      have HFIN := hide hfin
      have k0 := bc5.cell 0
      have k1' := bc5.cell 1
      have k2 := bc5.cell 2
      simp at k0 k1' k2
      have BX5 := hide bx5
      have BZ5 := hide bz5
      clear KD6 hck hfin hcd bx5 bz5 bc5
      go_wp2_with fail
      refine KD7.out.mono ?_
      rintro e1 w7 ⟨v, rfl, hv, hb7⟩
      obtain ⟨AC, nC, cC, rfl⟩ := hv.form
      simp only at hv
      have bx7 := BX5.out.below hb7 BX5.out.lt
      have bz7 := BZ5.out.below hb7 BZ5.out.lt
      have hzx : w.heap.size + 1 + 1 ≠ w1.heap.size := by omega
      obtain ⟨s1, s2, s3, s4, s5⟩ := seal_part bx7 bz7 hzx (HR5.out.below hb7) (HE5.out.below hb7) hv
      have HF8 := hide ((HF5.out.trans (Fr.of_below hb7 (fun j => j = R)) (fun _ _ h => h)).trans s1 (by intro q hq h; rcases h with h | h <;> (exfalso; omega)))
      have HS2 := hide s2
      have HS3 := hide s3
      have HS4 := hide s4
      have HS5 := hide s5
      have x0 := bx7.cell 0
      have x1 := bx7.cell 1
      have x2 := bx7.cell 2
      have x3 := bx7.frozen 0
      have x4 := bx7.frozen 1
      have x5 := bx7.frozen 2
      have z0 := bz7.cell 0
      have z1 := bz7.cell 1
      have z2 := bz7.cell 2
      have z3 := bz7.frozen 0
      have z4 := bz7.frozen 1
      have z5 := bz7.frozen 2
      simp at x0 x1 x2 z0 z1 z2
      clear hv hb7 s1 s2 s3 s4 s5 bx7 bz7
      go_wp2_with fail
      refine bodyPost_ret (results_cell_tmp_row' rfl _ _ _ (w.heap.size + 1 + 1) 65 #[.bool false, .slice none 0 0, .slice AC nC cC] (0, 0) rfl HS2.out Tryz.underlying65 (by exact info_pt3)) rfl ?_
      refine ⟨false, none, 0, 0, AC, nC, cC, er, rfl, HCK.out, HF8.out, fun h0 => ?_⟩
      obtain ⟨g0, g1, g2, g3, g4, g5⟩ := HFIN.out h0
      exact ⟨(false, [], cl), rfl, part_none HKM.out g1 g2 g3 g4, HS4.out, HS5.out, _, g0, HS3.out, by (unfold partB; rw [if_neg (by simp), List.nil_append]; exact g5)⟩
    · have hne : ((e : Int) != 0) = true := by rw [bne_iff_ne]; omega
      have z0 := bz5.cell 0
      have z1 := bz5.cell 1
      have z2 := bz5.cell 2
      have z3 := bz5.frozen 0
      have z4 := bz5.frozen 1
      have z5 := bz5.frozen 2
      simp at z0 z1 z2
      have HBZ := hide (st3_blk bz5 (.bool false) (.slice none 0 0) (.slice none 0 0))
      have HF8 := hide (HF5.out.trans (st3_fr w5 (w.heap.size + 1 + 1) (.bool false) (.slice none 0 0) (.slice none 0 0)) (fun q hq h => by omega))
      clear bz5 bx5 bc5
      go_wp2_with fail
      refine KE5.out.mono ?_
      rintro e1 w6 ⟨rfl, rfl⟩
      go_wp2_with fail
      refine bodyPost_ret (results_cell_tmp_row' rfl _ _ _ (w.heap.size + 1 + 1) 65 #[.bool false, .slice none 0 0, .slice none 0 0] (0, 0) rfl HBZ.out Tryz.underlying65 (by exact info_pt3)) rfl ?_
      exact ⟨false, none, 0, 0, none, 0, 0, e, rfl, HTK.out, HF8.out, fun h => absurd h he⟩
end Go.Proofs.YtfkgmodgkifelaaGreatDoor
