import Derived.Test.YtmikeljfigignaaSums5
import Derived.Test.YtmikeljfigignaaOpen
import Derived.Lib.IndexBytes
namespace Go.Proofs.Ytmikeljfigignaa
open Go.RowKit

theorem bn_append (s t : ByteArray) : bn (s ++ t) = bn s ++ bn t := by simp [bn]
theorem bn_drop (s : ByteArray) (k : Nat) : bn (s.extract k s.size) = (bn s).drop k := by
  simp only [bn, Lib.extract_to_end, List.map_drop]
theorem rolls_end (f : Nat → Nat) (a e : List Nat) (he : 64 ≤ e.length) : rollAll f 0 (a ++ e) = rollAll f 0 (e.drop (e.length - 64)) := by
  have hd : e = e.take (e.length - 64) ++ e.drop (e.length - 64) := (List.take_append_drop _ _).symm
  rw [rollAll_append]
  conv => lhs; rw [hd, rollAll_append]
  exact rollAll_forget f _ _ _ (by rw [List.length_drop]; omega) (rollAll_lt f _ (rollAll_lt f _ (by decide))) (by decide)
set_option maxHeartbeats 400000 in
set_option maxRecDepth 100000 in
theorem sumsRolls_walk (a0 : Int) (w0 : (Lit.int .u64 a0).wf = true) (v1 : Value) (w1 : ∃ a b : ByteArray, v1 = .agg #[.string a, .string b] ∧ a.size ≤ maxLen ∧ b.size ≤ maxLen) (s : ByteArray) (hs : s.size ≤ maxLen) (w : World) :
    Calls Try.prog 5 #[.int .u64 a0, v1, .string s] w fun e w' => e = .returned (.bool true) ∧ Below w.heap.size w w' := by
  obtain ⟨seed, rfl, hseed⟩ : ∃ m : Nat, a0 = m ∧ m < 18446744073709551616 := ⟨a0.toNat, by have := bounds_u64 w0; omega, by have := bounds_u64 w0; omega⟩
  obtain ⟨a, b, rfl, ha, hb⟩ := w1
  have HS := hide hseed
  clear w0 hseed
  unfold maxLen at hs ha hb
  have KA := hide (awake03)
  by_cases h : 300 < a.size ∨ 300 < b.size ∨ 300 < s.size ∨ s.size < 64
  · have HB := hide ((Below.refl w.heap.size w).alloc (Nat.le_refl _) (Obj.cells #[.string a, .string b] 37))
    have hd : ((decide (300 < a.size) || decide (300 < b.size) || decide (300 < s.size)) || decide (s.size < 64)) = true := by simp; omega
    go_enter Try.func5, Try.ntmps5
    go_wp2_with fail
    all_goals
      refine (KA.out _).mono ?_
      rintro e w1 ⟨rfl, hb1⟩
      have hb2 := HB.out.trans (hb1.mono HB.out.size)
      go_wp2
      go_ret
      exact ⟨rfl, hb2⟩
  · have hA : a.size ≤ 300 ∧ b.size ≤ 300 ∧ s.size ≤ 300 ∧ 64 ≤ s.size := by omega
    obtain ⟨h1, h2, h3, h4⟩ := hA
    clear h
    have hsa : (a ++ s).size ≤ maxLen := by rw [ByteArray.size_append]; unfold maxLen; omega
    have hsb : (b ++ s).size ≤ maxLen := by rw [ByteArray.size_append]; unfold maxLen; omega
    have hse : (s.extract (s.size - 64) s.size).size ≤ maxLen := by rw [ByteArray.size_extract]; unfold maxLen; omega
    obtain ⟨X, hX⟩ : ∃ X : Nat, X = rollAll (Gf seed) 0 ((bn s).drop ((bn s).length - 64)) := ⟨_, rfl⟩
    have eA : rollAll (Gf seed) 0 (bn (a ++ s)) = X := by rw [hX, bn_append, rolls_end _ _ _ (by rw [bn_len]; exact h4)]
    have eB : rollAll (Gf seed) 0 (bn (b ++ s)) = X := by rw [hX, bn_append, rolls_end _ _ _ (by rw [bn_len]; exact h4)]
    have eC : rollAll (Gf seed) 0 (bn (s.extract (s.size - 64) s.size)) = X := by rw [hX, bn_drop, bn_len]
    clear hX
    have K1 := hide (fun w => gear_any seed HS.out w)
    have K2 : Hid (∀ w bl t, Blk w bl t (gtab seed 256) → Calls Try.prog 13 #[.pointer (some ⟨bl, 0, none⟩), .string (a ++ s)] w fun e w' => e = .returned (.int .u64 (X : Int)) ∧ w = w') :=
      fun w bl t H => by rw [← eA]; exact last_any seed _ hsa w bl t H
    have K3 : Hid (∀ w bl t, Blk w bl t (gtab seed 256) → Calls Try.prog 13 #[.pointer (some ⟨bl, 0, none⟩), .string (b ++ s)] w fun e w' => e = .returned (.int .u64 (X : Int)) ∧ w = w') :=
      fun w bl t H => by rw [← eB]; exact last_any seed _ hsb w bl t H
    have K4 : Hid (∀ w bl t, Blk w bl t (gtab seed 256) → Calls Try.prog 13 #[.pointer (some ⟨bl, 0, none⟩), .string (s.extract (s.size - 64) s.size)] w fun e w' => e = .returned (.int .u64 (X : Int)) ∧ w = w') :=
      fun w bl t H => by rw [← eC]; exact last_any seed _ hse w bl t H
    clear eA eB eC hsa hsb hse
    have hz := zero24
    have hst := fun w1 => run_storeCells_new (P := Try.prog) w1 24 z64 (gtab seed 256) (by rw [gtab_size]; exact info24) (by rw [gtab_size]; exact z64_size) (gtab_one seed 256)
    have HB := hide ((Below.refl w.heap.size w).alloc (Nat.le_refl _) (Obj.cells #[.string a, .string b] 37))
    go_enter Try.func5, Try.ntmps5
    go_wp2_with fail
    refine (K1.out _).mono ?_
    rintro e w1 ⟨rfl, hb1⟩
    have hcA : w1.cell? ⟨w.heap.size, 0, none⟩ = some (.string a) := (hb1.cell (p := ⟨w.heap.size, 0, none⟩) (by simp)).trans (by simp [go_sem])
    have hcB : w1.cell? ⟨w.heap.size, 1, none⟩ = some (.string b) := (hb1.cell (p := ⟨w.heap.size, 1, none⟩) (by simp)).trans (by simp [go_sem])
    have hlt : w.heap.size < w1.heap.size := by have := hb1.size; simp at this; omega
    have hbb := HB.out.trans (hb1.mono HB.out.size)
    have HH := hide (hbb.alloc hbb.size (Obj.cells (gtab seed 256) 24))
    have H1 := Blk.new w1 (gtab seed 256) 24
    clear hbb hb1
    go_wp2_with fail
    refine (K2.out _ _ _ H1).mono ?_
    rintro e w' ⟨rfl, rfl⟩
    go_wp2_with fail
    refine (K3.out _ _ _ H1).mono ?_
    rintro e w' ⟨rfl, rfl⟩
    go_wp2_with fail
    refine (K4.out _ _ _ H1).mono ?_
    rintro e w' ⟨rfl, rfl⟩
    go_wp2_with fail
    refine (KA.out _).mono ?_
    rintro e w2 ⟨rfl, hb2⟩
    have hb3 := HH.out.trans (hb2.mono HH.out.size)
    go_wp2
    go_ret
    exact ⟨rfl, hb3⟩
end Go.Proofs.Ytmikeljfigignaa
