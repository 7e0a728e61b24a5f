/- Ints by their steps, and the chapter's examples. -/
import Derived.Test.YtihbcojmonlcgaaDoorDeltaE
namespace Go.Proofs.YtihbcojmonlcgaaDoor
open Go.RowKit

theorem take_snoc {α : Type} {l : List α} {i : Nat} {x : α} (h : l[i]? = some x) : l.take (i + 1) = l.take i ++ [x] := by
  rw [List.take_add_one, h]; rfl
theorem enc_int (l : List Int) (h0 : 0 < l.length) (hn : l.length ≤ 60) (g c : Nat) (hc : l.length ≤ c) (w : World) (hcell : ∀ i x, l[i]? = some x → At6 w g (i * 6) x 0 0 0) :
    Calls Tryd.prog 48 #[.int .i64 2, .slice (some ⟨g, 0, none⟩) l.length c] w fun e w' => e = .returned (.tuple #[.string (strN (encD 0 l)), .int .i64 0]) ∧ Below w.heap.size w w' := by
  have hx : ∀ i, i < l.length → ∃ x, l[i]? = some x := fun i hi => ⟨_, List.getElem?_eq_getElem hi⟩
  have hla : ∀ i x, l[i]? = some x → lastD 0 (l.take (i + 1)) = x := fun i x h => by rw [take_snoc h, lastD_snoc]
  have H := encode_any 2 (.inl rfl) l.length h0 (by omega) (fun i => lastD 0 (l.take i)) (fun _ => 0) (fun _ => 0) (fun _ => 0) (fun i => wrap64 (lastD 0 (l.take (i + 1)) - lastD 0 (l.take i))) (fun _ => 0) (fun _ => 0) (fun i => encD 0 (l.take i))
    ⟨rfl, rfl, rfl, rfl, rfl⟩ (fun i hi => by
      have := encD_len (l.take i) 0
      rw [List.length_take] at this
      show (encD 0 (l.take i)).length ≤ 1000
      omega)
    (fun i hi => by
      obtain ⟨x, hx⟩ := hx i hi
      refine ⟨fun w => step_int _ _ _ _ _ _ _ _ w, .inl ⟨by decide, ?_, (wrap64_range _).1, (wrap64_range _).2⟩⟩
      show encD 0 (l.take (i + 1)) = encD 0 (l.take i) ++ uvar (zz (wrap64 (lastD 0 (l.take (i + 1)) - lastD 0 (l.take i))))
      rw [hla i x hx, take_snoc hx, encD_snoc])
    g c hc w (fun i hi => by
      obtain ⟨x, hx⟩ := hx i hi
      show At6 w g (i * 6) (lastD 0 (l.take (i + 1))) 0 0 0
      rw [hla i x hx]
      exact hcell i x hx)
  simpa using H
theorem at6_blk {w : World} {g : Nat} {t : TypeId} {cs : Array Value} (h : Blk w g t cs) {o : Nat} {x u : Int} {p q : Nat}
    (h0 : cs[o]? = some (.bool false)) (h1 : cs[o + 1]? = some (.bool false)) (h2 : cs[o + 2]? = some (.int .i64 x)) (h3 : cs[o + 3]? = some (.int .u64 u)) (h4 : cs[o + 4]? = some (.string ByteArray.empty)) (h5 : cs[o + 5]? = some (.complex .f64 p q)) : At6 w g o x u p q :=
  ⟨(h.cell _).trans h0, (h.cell _).trans h1, (h.cell _).trans h2, (h.cell _).trans h3, (h.cell _).trans h4, (h.cell _).trans h5⟩
theorem uv_of (n : Nat) (h : n < 128) : uvar n = [n] := uvar_small h
theorem uv0 : uvar (zz 0) = [0] := uv_of 0 (by decide)
theorem uv1 : uvar (zz 1) = [2] := uv_of 2 (by decide)
theorem uvm1 : uvar (zz (-1)) = [1] := uv_of 1 (by decide)
theorem uv574 : encD 0 [5, 7, 4] = [10, 4, 5] := by
  have h1 : zz (wrap64 (5 - 0)) = 10 := by rw [show wrap64 (5 - 0) = 5 by unfold wrap64; omega]; rfl
  have h2 : zz (wrap64 (7 - 5)) = 4 := by rw [show wrap64 (7 - 5) = 2 by unfold wrap64; omega]; rfl
  have h3 : zz (wrap64 (4 - 7)) = 5 := by rw [show wrap64 (4 - 7) = -3 by unfold wrap64; omega]; rfl
  rw [encD, encD, encD, encD, h1, h2, h3, uv_of 10 (by decide), uv_of 4 (by decide), uv_of 5 (by decide)]
  rfl
theorem bn_inj' {s t : ByteArray} (h : bn s = bn t) : s = t := by
  have hs := h
  unfold bn at hs
  have h1 : s.data.toList = t.data.toList := by
    have inj : ∀ (a b : List UInt8), a.map (·.toNat) = b.map (·.toNat) → a = b := by
      intro a
      induction a with
      | nil => intro b hb; cases b with
        | nil => rfl
        | cons _ _ => simp at hb
      | cons x a ih => intro b hb; cases b with
        | nil => simp at hb
        | cons y b =>
          simp only [List.map_cons, List.cons.injEq] at hb
          rw [UInt8.toNat_inj.1 hb.1, ih b hb.2]
    exact inj _ _ hs
  exact ByteArray.ext (Array.ext' h1)
theorem bn_lt' (s : ByteArray) : ∀ b ∈ bn s, b < 256 := by
  intro b hb
  unfold bn at hb
  obtain ⟨x, _, rfl⟩ := List.mem_map.1 hb
  exact x.toNat_lt
theorem strN_bn' (s : ByteArray) : strN (bn s) = s := bn_inj' (bn_strN _ (bn_lt' s))
theorem s574 : strN [10, 4, 5] = ⟨#[10, 4, 5]⟩ := strN_bn' ⟨#[10, 4, 5]⟩
theorem s01 : strN [0, 1] = ⟨#[0, 1]⟩ := strN_bn' ⟨#[0, 1]⟩
theorem s2002 : strN [2, 0, 0, 2] = ⟨#[2, 0, 0, 2]⟩ := strN_bn' ⟨#[2, 0, 0, 2]⟩
theorem enc_three (w : World) (g : Nat) (t : TypeId) (h : Blk w g t (cla 5 0 0 0 ++ cla 7 0 0 0 ++ cla 4 0 0 0)) :
    Calls Tryd.prog 48 #[.int .i64 2, .slice (some ⟨g, 0, none⟩) 3 3] w fun e w' => e = .returned (.tuple #[.string ⟨#[10, 4, 5]⟩, .int .i64 0]) ∧ Below w.heap.size w w' := by
  have H := enc_int [5, 7, 4] (by decide) (by decide) g 3 (by decide) w (fun i x hx => by
    match i, hx with
    | 0, hx => cases hx; exact at6_blk h rfl rfl rfl rfl rfl rfl
    | 1, hx => cases hx; exact at6_blk h rfl rfl rfl rfl rfl rfl
    | 2, hx => cases hx; exact at6_blk h rfl rfl rfl rfl rfl rfl
    | i + 3, hx => simp at hx)
  rw [uv574, s574] at H
  exact H
theorem enc_uint (w : World) (g : Nat) (t : TypeId) (h : Blk w g t (cla 0 0 0 0 ++ cla 0 18446744073709551615 0 0)) :
    Calls Tryd.prog 48 #[.int .i64 3, .slice (some ⟨g, 0, none⟩) 2 2] w fun e w' => e = .returned (.tuple #[.string ⟨#[0, 1]⟩, .int .i64 0]) ∧ Below w.heap.size w w' := by
  have H := encode_any 3 (.inr (.inl rfl)) 2 (by decide) (by decide) (fun _ => 0) (fun i => if i = 2 then 18446744073709551615 else 0) (fun _ => 0) (fun _ => 0) (fun i => if i = 1 then -1 else 0) (fun _ => 0) (fun _ => 0) (fun i => ([0, 1] : List Nat).take i)
    ⟨rfl, rfl, rfl, rfl, rfl⟩ (fun i hi => by simp; omega)
    (fun i hi => by
      match i, hi with
      | 0, _ => exact ⟨fun w => by have := step_uint 0 0 0 0 0 0 0 0 w; rw [show wrap64 ((0 - 0) % 18446744073709551616) = 0 by unfold wrap64; omega] at this; exact this, .inl ⟨by decide, by show [0] = [] ++ uvar (zz 0); rw [uv0]; rfl, by decide, by decide⟩⟩
      | 1, _ => exact ⟨fun w => by have := step_uint 0 0 0 18446744073709551615 0 0 0 0 w; rw [show wrap64 ((18446744073709551615 - 0) % 18446744073709551616) = -1 by unfold wrap64; omega] at this; exact this, .inl ⟨by decide, by show [0, 1] = [0] ++ uvar (zz (-1)); rw [uvm1]; rfl, by decide, by decide⟩⟩)
    g 2 (by decide) w (fun i hi => by
      match i, hi with
      | 0, _ => exact at6_blk h rfl rfl rfl rfl rfl rfl
      | 1, _ => exact at6_blk h rfl rfl rfl rfl rfl rfl)
  have H2 : Calls Tryd.prog 48 #[.int .i64 3, .slice (some ⟨g, 0, none⟩) 2 2] w fun e w' => e = .returned (.tuple #[.string (strN [0, 1]), .int .i64 0]) ∧ Below w.heap.size w w' := H
  rw [s01] at H2
  exact H2
theorem enc_point (w : World) (g : Nat) (t : TypeId) (h : Blk w g t (cla 0 0 4607182418800017408 0 ++ cla 0 0 4607182418800017408 4607182418800017408)) :
    Calls Tryd.prog 48 #[.int .i64 6, .slice (some ⟨g, 0, none⟩) 2 2] w fun e w' => e = .returned (.tuple #[.string ⟨#[2, 0, 0, 2]⟩, .int .i64 0]) ∧ Below w.heap.size w w' := by
  have H := encode_any 6 (.inr (.inr rfl)) 2 (by decide) (by decide) (fun _ => 0) (fun _ => 0) (fun i => if i = 0 then 0 else 4607182418800017408) (fun i => if i = 2 then 4607182418800017408 else 0) (fun _ => 0)
    (fun i => if i = 0 then 4607182418800017408 else 0) (fun i => if i = 1 then 4607182418800017408 else 0) (fun i => ([2, 0, 0, 2] : List Nat).take (2 * i))
    ⟨rfl, rfl, rfl, rfl, rfl⟩ (fun i hi => by simp; omega)
    (fun i hi => by
      match i, hi with
      | 0, _ => exact ⟨fun w => step_point _ _ _ _ _ _ _ _ _ _ step01 w, .inr ⟨rfl, fun w => may_any _ _ 1 0 wh1 wh0 w, fun w => reach_any _ _ _ _ 1 0 0 0 wh1.ti wh0.ti to_m0 to_m0 (by decide) (by decide) (by decide) (by decide) w,
          fun w W B sv hw hB => by have := pput_any W B sv _ _ _ 1 0 wh1 wh0 (by decide) (by decide) w hw (by decide) hB; rw [uv1, uv0] at this; exact this⟩⟩
      | 1, _ => exact ⟨fun w => step_point _ _ _ _ _ _ _ _ _ _ step12 w, .inr ⟨rfl, fun w => may_any _ _ 1 1 wh1 wh1 w, fun w => reach_any _ _ _ _ 1 1 (-1) 0 wh1.ti wh1.ti to_m1 to_m0 (by decide) (by decide) (by decide) (by decide) w,
          fun w W B sv hw hB => by have := pput_any W B sv _ _ _ 0 1 wh0 wh1 (by decide) (by decide) w hw (by decide) hB; rw [uv1, uv0] at this; exact this⟩⟩)
    g 2 (by decide) w (fun i hi => by
      match i, hi with
      | 0, _ => exact at6_blk h rfl rfl rfl rfl rfl rfl
      | 1, _ => exact at6_blk h rfl rfl rfl rfl rfl rfl)
  have H2 : Calls Tryd.prog 48 #[.int .i64 6, .slice (some ⟨g, 0, none⟩) 2 2] w fun e w' => e = .returned (.tuple #[.string (strN [2, 0, 0, 2]), .int .i64 0]) ∧ Below w.heap.size w w' := H
  rw [s2002] at H2
  exact H2
set_option maxHeartbeats 2000000 in
set_option maxRecDepth 100000 in
theorem awake10 (w : World) : Calls Tryd.prog 21 #[] w fun e w' => e = .returned (.bool true) ∧ Below w.heap.size w w' := by
  have K1 := hide (fun w : World => enc_three (w.alloc (.cells (cla 5 0 0 0 ++ cla 7 0 0 0 ++ cla 4 0 0 0) 34)) w.heap.size _ (Blk.new _ _ _))
  have K2 := hide (fun w : World => enc_uint (w.alloc (.cells (cla 0 0 0 0 ++ cla 0 18446744073709551615 0 0) 34)) w.heap.size _ (Blk.new _ _ _))
  have K3 := hide (fun w : World => enc_point (w.alloc (.cells (cla 0 0 4607182418800017408 0 ++ cla 0 0 4607182418800017408 4607182418800017408) 34)) w.heap.size _ (Blk.new _ _ _))
  have HN := hide (fun (w : World) (o : Obj) => (Below.refl w.heap.size w).alloc (Nat.le_refl _) o)
  go_enter Tryd.func21, Tryd.ntmps21
  go_wp2_with fail
  refine (K1.out _).mono ?_
  rintro e w1 ⟨rfl, hb1⟩
  have hb2 := (HN.out w _).trans (hb1.mono (by simp))
  have HB1 := hide hb2
  clear hb1 hb2
  go_wp2_with fail
  refine (K2.out _).mono ?_
  rintro e w2 ⟨rfl, hb1⟩
  have hb2 := (HN.out w1 _).trans (hb1.mono (by simp))
  have HB2 := hide (HB1.out.trans (hb2.mono HB1.out.size))
  clear hb1 hb2
  go_wp2_with fail
  refine (K3.out _).mono ?_
  rintro e w3 ⟨rfl, hb1⟩
  have hb2 := (HN.out w2 _).trans (hb1.mono (by simp))
  have HB3 := hide (HB2.out.trans (hb2.mono HB2.out.size))
  clear hb1 hb2
  go_wp2_with fail
  go_ret
  exact ⟨rfl, HB3.out⟩
end Go.Proofs.YtihbcojmonlcgaaDoor
