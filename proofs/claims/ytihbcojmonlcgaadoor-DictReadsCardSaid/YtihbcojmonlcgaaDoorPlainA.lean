/- The chapter's examples (layer 8): three cells, told as bytes. -/
import Derived.Test.YtihbcojmonlcgaaDoorPlainE
import Derived.RegionTactic
namespace Go.Proofs.YtihbcojmonlcgaaDoor
open Go.RowKit

theorem whm2 : Wh 13835058055282163712 (-2) := ⟨by kernel_rfl, by kernel_rfl, by kernel_rfl, by kernel_rfl, by kernel_rfl, by kernel_rfl, by kernel_rfl⟩
set_option maxHeartbeats 1000000 in
set_option maxRecDepth 100000 in
theorem pput_int (W B : Nat) (sv : Value) (l : List Nat) (x : Nat) (hx : x < 9223372036854775808) (c : CD) (hc : c.x = x) (w : World) (h : Wr w W B sv l) (hl : l.length ≤ 1000) (hB : B ≤ w.heap.size) :
    Calls Tryd.prog 85 #[.pointer (some ⟨W, 0, none⟩), .int .i64 2, c.v] w (WPost W B w sv (l ++ fixN x 8)) := by
  have K := hide (fun (o : Obj) => wu64_any W B sv l x (by omega) (w.alloc o) (h.below ((Below.refl _ _).alloc (Nat.le_refl _) _)) (by omega) (by simp; omega))
  have HB := hide hB
  clear hB hl h
  obtain ⟨cb, cx, cu, ct, cp, cq⟩ := c
  obtain rfl : cx = (x : Int) := hc
  unfold CD.v clV clA
  go_enter Tryd.func85, Tryd.ntmps85
  go_wp2_with fail
  refine (K.out _).mono ?_
  rintro e w1 ⟨rfl, sv1, hw1, hs1⟩
  have HW1 := hide hw1
  have HS1 := hide (WS.ahead ((Below.refl w.heap.size w).alloc (Nat.le_refl _) _) hs1)
  clear hw1 hs1
  go_wp2_with fail
  go_end0
  exact ⟨rfl, sv1, HW1.out, HS1.out⟩
set_option maxHeartbeats 1000000 in
set_option maxRecDepth 100000 in
theorem pput_text (W B : Nat) (sv : Value) (l : List Nat) (c : CD) (hs : c.t.size ≤ 1000) (w : World) (h : Wr w W B sv l) (hl : l.length ≤ 1000) (hB : B ≤ w.heap.size) :
    Calls Tryd.prog 85 #[.pointer (some ⟨W, 0, none⟩), .int .i64 5, c.v] w (WPost W B w sv (l ++ (uvar c.t.size ++ bn c.t))) := by
  have K := hide (fun (o : Obj) => wtext_any W B sv l c.t (by omega) (w.alloc o) (h.below ((Below.refl _ _).alloc (Nat.le_refl _) _)) (by omega) (by simp; omega))
  have HB := hide hB
  clear hB hl h hs
  obtain ⟨cb, cx, cu, ct, cp, cq⟩ := c
  unfold CD.v clV clA
  simp only at K ⊢
  go_enter Tryd.func85, Tryd.ntmps85
  go_wp2_with fail
  refine (K.out _).mono ?_
  rintro e w1 ⟨rfl, sv1, hw1, hs1⟩
  have HW1 := hide hw1
  have HS1 := hide (WS.ahead ((Below.refl w.heap.size w).alloc (Nat.le_refl _) _) hs1)
  clear hw1 hs1
  go_wp2_with fail
  go_end0
  exact ⟨rfl, sv1, HW1.out, HS1.out⟩
theorem atC_blk {w : World} {g : Nat} {t : TypeId} {c : CD} (h : Blk w g t (clA c.b c.x c.u c.t c.p c.q)) : AtC w g (0 * 6) c.b c.x c.u c.t c.p c.q :=
  ⟨h.cell 0, h.cell 1, h.cell 2, h.cell 3, h.cell 4, h.cell 5⟩
theorem enc_one (kind : Int) (hk : ((kind : Int) == 1) = false) (c : CD) (l : List Nat)
    (hr : ∀ (w : World) (W B : Nat) (sv : Value), Wr w W B sv [] → B ≤ w.heap.size → Calls Tryd.prog 85 #[.pointer (some ⟨W, 0, none⟩), .int .i64 kind, c.v] w (WPost W B w sv l))
    (w : World) (g : Nat) (t : TypeId) (h : Blk w g t (clA c.b c.x c.u c.t c.p c.q)) :
    Calls Tryd.prog 35 #[.int .i64 kind, .slice (some ⟨g, 0, none⟩) 1 1] w fun e w' => e = .returned (.string (strN l)) ∧ Below w.heap.size w w' :=
  pencode_any kind hk 1 (by omega) (by omega) (fun _ => c) (fun i => if i = 0 then [] else l) rfl (fun i hi => by
    obtain rfl : i = 0 := by omega
    exact hr) g 1 w (fun i hi => by
    obtain rfl : i = 0 := by omega
    exact atC_blk h)
theorem bl1 : strN [1, 0, 0, 0, 0, 0, 0, 0] = ⟨#[1, 0, 0, 0, 0, 0, 0, 0]⟩ := strN_bn ⟨#[1, 0, 0, 0, 0, 0, 0, 0]⟩
theorem bl23 : strN [2, 3] = ⟨#[2, 3]⟩ := strN_bn ⟨#[2, 3]⟩
theorem bl2e : strN [2, 195, 169] = ⟨#[2, 195, 169]⟩ := strN_bn ⟨#[2, 195, 169]⟩
theorem uvp2 : uvar (zz 1) ++ uvar (zz (-2)) = [2, 3] := by
  rw [show zz 1 = 2 by decide, show zz (-2) = 3 by decide, uvar_small (by omega), uvar_small (by omega)]; rfl
theorem uvte : uvar 2 ++ bn ⟨#[195, 169]⟩ = [2, 195, 169] := by
  rw [uvar_small (by omega)]; rfl
theorem pe_int (w : World) (g : Nat) (t : TypeId) (h : Blk w g t (clA false 1 0 ByteArray.empty 0 0)) :
    Calls Tryd.prog 35 #[.int .i64 2, .slice (some ⟨g, 0, none⟩) 1 1] w fun e w' => e = .returned (.string ⟨#[1, 0, 0, 0, 0, 0, 0, 0]⟩) ∧ Below w.heap.size w w' := by
  rw [← bl1]
  exact enc_one 2 (by decide) ⟨false, 1, 0, ByteArray.empty, 0, 0⟩ _ (fun w W B sv hw hB => pput_int W B sv [] 1 (by omega) _ rfl w hw (by simp) hB) w g t h
theorem pe_point (w : World) (g : Nat) (t : TypeId) (h : Blk w g t (clA false 0 0 ByteArray.empty 4607182418800017408 13835058055282163712)) :
    Calls Tryd.prog 35 #[.int .i64 6, .slice (some ⟨g, 0, none⟩) 1 1] w fun e w' => e = .returned (.string ⟨#[2, 3]⟩) ∧ Below w.heap.size w w' := by
  rw [← bl23, ← uvp2]
  exact enc_one 6 (by decide) ⟨false, 0, 0, ByteArray.empty, 4607182418800017408, 13835058055282163712⟩ _ (fun w W B sv hw hB => pput_any W B sv [] 4607182418800017408 13835058055282163712 1 (-2) wh1 whm2 (by omega) (by omega) w hw (by simp) hB) w g t h
theorem pe_text (w : World) (g : Nat) (t : TypeId) (h : Blk w g t (clA false 0 0 ⟨#[195, 169]⟩ 0 0)) :
    Calls Tryd.prog 35 #[.int .i64 5, .slice (some ⟨g, 0, none⟩) 1 1] w fun e w' => e = .returned (.string ⟨#[2, 195, 169]⟩) ∧ Below w.heap.size w w' := by
  rw [← bl2e, ← uvte]
  exact enc_one 5 (by decide) ⟨false, 0, 0, ⟨#[195, 169]⟩, 0, 0⟩ _ (fun w W B sv hw hB => pput_text W B sv [] ⟨false, 0, 0, ⟨#[195, 169]⟩, 0, 0⟩ (by decide) w hw (by simp) hB) w g t h
set_option maxHeartbeats 1000000 in
set_option maxRecDepth 100000 in
theorem awake8 (w : World) : Calls Tryd.prog 12 #[] w fun e w' => e = .returned (.bool true) ∧ Below w.heap.size w w' := by
  have E1 := hide pe_int
  have E2 := hide pe_point
  have E3 := hide pe_text
  go_enter Tryd.func12, Tryd.ntmps12
  go_wp2_with fail
  refine (E1.out _ _ _ (Blk.new _ _ _)).mono ?_
  rintro e w1 ⟨rfl, hb1⟩
  have HB1 := hide (((Below.refl w.heap.size w).alloc (Nat.le_refl _) _).trans (hb1.mono (by simp)))
  clear hb1
  go_wp2_with fail
  refine (E2.out _ _ _ (Blk.new _ _ _)).mono ?_
  rintro e w2 ⟨rfl, hb2⟩
  have HB2 := hide ((HB1.out.alloc HB1.out.size _).trans (hb2.mono (by simp; exact Nat.le_succ_of_le HB1.out.size)))
  clear hb2 HB1
  go_wp2_with fail
  refine (E3.out _ _ _ (Blk.new _ _ _)).mono ?_
  rintro e w3 ⟨rfl, hb3⟩
  have HB3 := hide ((HB2.out.alloc HB2.out.size _).trans (hb3.mono (by simp; exact Nat.le_succ_of_le HB2.out.size)))
  clear hb3 HB2
  go_wp2_with fail
  go_ret
  exact ⟨rfl, HB3.out⟩
end Go.Proofs.YtihbcojmonlcgaaDoor
