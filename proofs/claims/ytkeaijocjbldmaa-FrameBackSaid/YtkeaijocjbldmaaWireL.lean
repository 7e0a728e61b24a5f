/- A reader is made; writers and readers side by side; the chapter's examples. -/
import Derived.Test.YtkeaijocjbldmaaWireO4
namespace Go.Proofs.Ytkeaijocjbldmaa
open Go.RowKit

/-- A new reader. -/
def NewR (w : World) (s : ByteArray) (e : Ending) (w' : World) : Prop := ∃ R, e = .returned (.pointer (some ⟨R, 0, none⟩)) ∧ w.heap.size ≤ R ∧ Rd w' R s 0 0 ∧ Below w.heap.size w w'
set_option maxHeartbeats 1000000 in
theorem newr_any (s : ByteArray) (w : World) : Calls Try.prog 16 #[.string s] w (NewR w s) := by
  go_enter Try.func16, Try.ntmps16
  go_wp2_with fail
  go_ret
  exact ⟨_, rfl, Nat.le_refl _, Blk.new w _ _, (Below.refl _ _).alloc (Nat.le_refl _) _⟩
theorem Wr.rd {w w' : World} {W B R p e : Nat} {sv : Value} {l : List Nat} {s : ByteArray} (h : Wr w W B sv l) (hr : Rd w R s p e) (hf : Fr w w' (fun k => k = R)) : Wr w' W B sv l := by
  refine ⟨h.blk.fr hf ?_, h.own.fr hf ?_, h.leW⟩
  · rintro rfl
    have h1 := h.blk
    unfold Rd at hr
    unfold Blk at h1 hr
    rw [hr] at h1
    injection h1 with h1
    injection h1 with _ h2
    exact absurd h2 (by decide)
  · rintro k hk rfl
    exact h.own.ne hr (by decide) hk
theorem Rd.ws {w w' : World} {W B R p e : Nat} {sv sv' : Value} {l : List Nat} {s : ByteArray} (hr : Rd w R s p e) (h : Wr w W B sv l) (hs : WS W w sv w' sv') : Rd w' R s p e := by
  refine Blk.fr hr hs.fr ?_
  rintro (rfl | hk)
  · have h1 := h.blk
    unfold Rd at hr
    unfold Blk at h1 hr
    rw [hr] at h1
    injection h1 with h1
    injection h1 with _ h2
    exact absurd h2 (by decide)
  · exact h.own.ne hr (by decide) hk.symm
theorem Rd.rd {w w' : World} {R S p e q f : Nat} {s t : ByteArray} (h : Rd w R s p e) (hne : R ≠ S) (_ : Rd w S t q f) (hf : Fr w w' (fun k => k = S)) : Rd w' R s p e := Blk.fr h hf hne
theorem wr_new (w : World) : Wr (w.alloc (.cells #[.slice none 0 0] 33)) w.heap.size w.heap.size (.slice none 0 0) [] :=
  ⟨Blk.new w _ _, ownU8_nil _ _, Nat.le_refl _⟩
theorem Fr.belowR {w w' : World} {R B : Nat} (h : Fr w w' (fun k => k = R)) (hB : B ≤ w.heap.size) (hR : B ≤ R) : Below B w w' := h.below hB (fun _ e => by rw [e]; exact hR)
theorem uvar_300 : uvar 300 = [172, 2] := by rw [uvar_big (by decide), uvar_small (by decide)]
theorem uvar_zz1 : uvar (zz (-1)) = [1] := by rw [show zz (-1) = 1 by decide, uvar_small (by decide)]
theorem uvar_zz2 : uvar (zz 1) = [2] := by rw [show zz 1 = 2 by decide, uvar_small (by decide)]
set_option maxHeartbeats 1000000 in
set_option maxRecDepth 100000 in
theorem awake04 (w : World) : Calls Try.prog 15 #[] w (NPost w (.bool true)) := by
  have HS : Hid (strN ([] ++ uvar 300 ++ uvar (zz (-1)) ++ uvar (zz 1)) = { data := #[172, 2, 1, 2] }) := by
    show _ = _
    rw [uvar_300, uvar_zz1, uvar_zz2]
    exact strN_bn { data := #[172, 2, 1, 2] }
  have HF : Hid (few ((bn { data := #[128, 0] }).drop 0) 0 = (0, 0, 12)) := by show _ = _; decide
  have hB : w.heap.size ≤ (w.alloc (.cells #[.slice none 0 0] 33)).heap.size := by simp
  go_enter Try.func15, Try.ntmps15
  go_wp2_with fail
  refine (wuvar_any w.heap.size w.heap.size _ [] 300 (by omega) _ (wr_new w) (by simp) hB).mono ?_
  rintro e w1 ⟨rfl, s1, h1, x1⟩
  have b1 := ((Below.refl w.heap.size w).alloc (Nat.le_refl _) _).trans (x1.below (wr_new w) hB)
  have H1 := hide h1
  clear h1 x1
  go_wp2_with fail
  refine (wsvar_any _ _ _ _ (-1) (by omega) (by omega) _ H1.out (by rw [List.length_append, uvar_300]; decide) b1.size).mono ?_
  rintro e w2 ⟨rfl, s2, h2, x2⟩
  have b2 := b1.trans (x2.below H1.out b1.size)
  have H2 := hide h2
  clear h2 x2
  go_wp2_with fail
  refine (wsvar_any _ _ _ _ 1 (by omega) (by omega) _ H2.out (by rw [List.length_append, List.length_append, uvar_300, uvar_zz1]; decide) b2.size).mono ?_
  rintro e w3 ⟨rfl, s3, h3, x3⟩
  have b3 := b2.trans (x3.below H2.out b2.size)
  have H3 := hide h3
  clear h3 x3
  go_wp2_with fail
  refine (newr_any _ _).mono ?_
  rintro e w4 ⟨R, rfl, hR, hr4, hb4⟩
  have b4 := b3.trans (hb4.mono b3.size)
  have H4 := hide (H3.out.below hb4)
  have HR4 := hide hr4
  clear hr4
  go_wp2_with fail
  refine (ruvar_any R { data := #[128, 0] } 0 0 (by decide) (by decide) _ HR4.out).mono ?_
  rintro e w5 ⟨rfl, hr5, hf5⟩
  have b5 := b4.trans (hf5.belowR b4.size (Nat.le_trans b3.size hR))
  have H5 := hide (H4.out.rd HR4.out hf5)
  have hst : Hid (st { data := #[128, 0] } 0 0 (fun D => few D 0) = (0, 0, 12)) := by
    show _ = _
    unfold st
    rw [if_pos rfl]
    show ((few ((bn _).drop 0) 0).1, 0 + (few ((bn _).drop 0) 0).2.1, (few ((bn _).drop 0) 0).2.2) = _
    rw [HF.out]
    rfl
  rw [hst.out] at hr5
  rw [hst.out]
  have HR5 := hide hr5
  clear hr5 hf5
  go_wp2_with fail
  refine (wstring_any _ _ _ _ _ H5.out).mono ?_
  rintro e w6 ⟨rfl, rfl⟩
  rw [HS.out]
  go_wp2_with fail
  refine (rerr_any _ _ _ _ _ HR5.out).mono ?_
  rintro e w7 ⟨rfl, rfl⟩
  go_wp2_with fail
  go_ret
  exact ⟨rfl, b5⟩
set_option maxHeartbeats 1000000 in
set_option maxRecDepth 100000 in
theorem wireNil_walk (w : World) (v : Value) (w0 : ∃ o : OpD, o.Wf ∧ v = .agg #[.int .i64 o.k, .int .u64 (o.x : Nat), .string o.s, .int .i64 o.m]) :
    Calls Try.prog 8 #[v] w fun e w' => e = .returned (.bool true) ∧ Below w.heap.size w w' := by
  obtain ⟨o, ho, rfl⟩ := w0
  have KW := hide (fun w => nwrite_any o ho w)
  have KR := hide (fun w => nread_any o ho w)
  have KF : Hid (∀ (w : World) (b : Nat) (t : TypeId), w.heap.size = b → Calls Try.prog 24 #[.slice (some ⟨b, 0, none⟩) 1 1] (w.alloc (.cells #[.int .i64 o.k, .int .u64 (o.x : Nat), .string o.s, .int .i64 o.m] t)) fun e w' => e = .returned (.bool (fewB [o])) ∧ (w.alloc (.cells #[.int .i64 o.k, .int .u64 (o.x : Nat), .string o.s, .int .i64 o.m] t)) = w') := by
    intro w b t hb
    subst hb
    refine few_any _ 1 [o] (by simp [maxLen]) _ ⟨fun q hq => by rw [List.mem_singleton.1 hq]; exact ho, fun i q hi => ?_⟩
    match i, hi with
    | 0, hi =>
      obtain rfl : o = q := by simpa using hi
      exact ⟨_, 0, rfl, by simp, by simp [go_sem], by simp [go_sem], by simp [go_sem], by simp [go_sem]⟩
    | i + 1, hi => simp at hi
  have KA := hide (fun w => awake04 w)
  obtain ⟨k, x, s, m⟩ := o
  have hs := ho.s1
  simp only at *
  clear ho
  go_enter Try.func8, Try.ntmps8
  go_wp2_with fail
  refine (KF.out _ (w.heap.size + 1) _ (by simp)).mono ?_
  rintro e w1 ⟨rfl, rfl⟩
  have b1 : Below w.heap.size w ((w.alloc (.cells #[.int .i64 k, .int .u64 (x : Nat), .string s, .int .i64 m] 43)).alloc (.cells #[.int .i64 k, .int .u64 (x : Nat), .string s, .int .i64 m] 43)) := ((Below.refl _ _).alloc (Nat.le_refl _) _).alloc (by simp) _
  cases hfew : fewB [⟨k, x, s, m⟩] with
  | false =>
    clear hfew
    go_wp2_with fail
    refine (KA.out _).mono ?_
    rintro e w2 ⟨rfl, hb2⟩
    go_wp2_with fail
    go_ret
    exact ⟨rfl, b1.trans (hb2.mono b1.size)⟩
  | true =>
    clear hfew
    go_wp2_with fail
    refine (KW.out _).mono ?_
    rintro e w2 ⟨rfl, hb2⟩
    have hcell : ∀ i, w2.cell? ⟨w.heap.size, i, none⟩ = (#[Value.int .i64 k, .int .u64 (x : Nat), .string s, .int .i64 m] : Array Value)[i]? := fun i => (hb2.cell (p := ⟨w.heap.size, i, none⟩) (by simp; omega)).trans (((Blk.new w _ _).alloc _).cell i)
    have c0 := hcell 0
    have c1 := hcell 1
    have c2 := hcell 2
    have c3 := hcell 3
    simp at c0 c1 c2 c3
    have b2 := b1.trans (hb2.mono b1.size)
    clear hcell hb2
    go_wp2_with fail
    refine (KR.out _).mono ?_
    rintro e w3 ⟨rfl, hb3⟩
    have b3 := b2.trans (hb3.mono b2.size)
    clear c0 c1 c2 c3
    go_wp2_with fail
    refine (nwlen_any _).mono ?_
    rintro e w4 ⟨rfl, rfl⟩
    go_wp2_with fail
    refine (nwstring_any _).mono ?_
    rintro e w4 ⟨rfl, rfl⟩
    go_wp2_with fail
    refine (nrat_any _).mono ?_
    rintro e w4 ⟨rfl, rfl⟩
    go_wp2_with fail
    refine (nrleft_any _).mono ?_
    rintro e w4 ⟨rfl, rfl⟩
    go_wp2_with fail
    refine (nrerr_any _).mono ?_
    rintro e w4 ⟨rfl, rfl⟩
    go_wp2_with fail
    refine (nrdone_any _).mono ?_
    rintro e w4 ⟨rfl, rfl⟩
    go_wp2_with fail
    refine (KA.out _).mono ?_
    rintro e w5 ⟨rfl, hb5⟩
    go_wp2_with fail
    go_ret
    exact ⟨rfl, b3.trans (hb5.mono b3.size)⟩
end Go.Proofs.Ytkeaijocjbldmaa
