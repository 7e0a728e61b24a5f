/- Columns: whether a cell of a kind, or a missing one, may be: the document. Schema: what is wrong with a table of one column. -/
import Derived.Test.YtfkgmodgkifelaaGreatDoorJ30
import Derived.Test.YtfkgmodgkifelaaGreatDoorJ13
import Derived.Test.YtfkgmodgkifelaaGreatDoorJ27
namespace Go.Proofs.YtfkgmodgkifelaaGreatDoor
open Go.RowKit

set_option maxHeartbeats 1000000 in
set_option maxRecDepth 100000 in
theorem s6whole_any (x : Nat) (n : Int) (h : Wh x n) (w : World) :
    Calls Tryz.prog 113 #[.float .f64 x] w fun e w' => e = .returned (.bool true) ∧ w = w' := by
  have h1 := h.ge
  have h2 := h.le
  have h3 := h.fi
  have h4 := fun w => run_convert_float_int (P := Tryz.prog) w 153 2 .f64 .i64 x n (by kernel_rfl) Tryz.underlying2 h.ti
  clear h
  go_enter Tryz.func113, Tryz.ntmps113
  go_wp2_with fail
  go_ret
  exact ⟨rfl, rfl⟩
set_option maxHeartbeats 2000000 in
set_option maxRecDepth 100000 in
theorem scell_1 (nm : ByteArray) (nl : Bool) (b : Bool) (w : World) :
    Calls Tryz.prog 76 #[colV nm 1 nl, MC.v (false, ⟨b, 0, 0, ByteArray.empty, 0, 0⟩)] w fun e w' => e = .returned (.bool true) ∧ Below w.heap.size w w' := by
  unfold colV MC.v
  simp only
  have HB := hide (fun o1 o2 => ((Below.refl w.heap.size w).alloc (Nat.le_refl _) o1).alloc (by simp) o2)
  go_enter Tryz.func76, Tryz.ntmps76
  go_wp2_with fail
  go_ret
  exact ⟨rfl, HB.out _ _⟩
set_option maxHeartbeats 2000000 in
set_option maxRecDepth 100000 in
theorem scell_2 (nm : ByteArray) (nl : Bool) (x : Int) (w : World) :
    Calls Tryz.prog 76 #[colV nm 2 nl, MC.v (false, ⟨false, x, 0, ByteArray.empty, 0, 0⟩)] w fun e w' => e = .returned (.bool true) ∧ Below w.heap.size w w' := by
  unfold colV MC.v
  simp only
  have HB := hide (fun o1 o2 => ((Below.refl w.heap.size w).alloc (Nat.le_refl _) o1).alloc (by simp) o2)
  go_enter Tryz.func76, Tryz.ntmps76
  go_wp2_with fail
  go_ret
  exact ⟨rfl, HB.out _ _⟩
set_option maxHeartbeats 2000000 in
set_option maxRecDepth 100000 in
theorem scell_3 (nm : ByteArray) (nl : Bool) (u : Int) (w : World) :
    Calls Tryz.prog 76 #[colV nm 3 nl, MC.v (false, ⟨false, 0, u, ByteArray.empty, 0, 0⟩)] w fun e w' => e = .returned (.bool true) ∧ Below w.heap.size w w' := by
  unfold colV MC.v
  simp only
  have HB := hide (fun o1 o2 => ((Below.refl w.heap.size w).alloc (Nat.le_refl _) o1).alloc (by simp) o2)
  go_enter Tryz.func76, Tryz.ntmps76
  go_wp2_with fail
  go_ret
  exact ⟨rfl, HB.out _ _⟩
set_option maxHeartbeats 2000000 in
set_option maxRecDepth 100000 in
theorem scell_4 (nm : ByteArray) (nl : Bool) (t : ByteArray) (w : World) :
    Calls Tryz.prog 76 #[colV nm 4 nl, MC.v (false, ⟨false, 0, 0, t, 0, 0⟩)] w fun e w' => e = .returned (.bool true) ∧ Below w.heap.size w w' := by
  unfold colV MC.v
  simp only
  have HB := hide (fun o1 o2 => ((Below.refl w.heap.size w).alloc (Nat.le_refl _) o1).alloc (by simp) o2)
  go_enter Tryz.func76, Tryz.ntmps76
  go_wp2_with fail
  go_ret
  exact ⟨rfl, HB.out _ _⟩
set_option maxHeartbeats 2000000 in
set_option maxRecDepth 100000 in
theorem scell_5 (nm : ByteArray) (nl : Bool) (t : ByteArray) (ht : t.size ≤ maxLen) (hv : Lib.validD t.data.toList = true) (w : World) (hT : Tabs w) :
    Calls Tryz.prog 76 #[colV nm 5 nl, MC.v (false, ⟨false, 0, 0, t, 0, 0⟩)] w fun e w' => e = .returned (.bool true) ∧ Below w.heap.size w w' := by
  have KV := hide (fun o o' => valid_any t ((w.alloc o).alloc o') ht (hT.below (((Below.refl w.heap.size w).alloc (Nat.le_refl _) o).alloc (by simp) o')))
  rw [hv] at KV
  unfold colV MC.v
  simp only
  have HB := hide (fun o1 o2 => ((Below.refl w.heap.size w).alloc (Nat.le_refl _) o1).alloc (by simp) o2)
  clear hv ht hT
  go_enter Tryz.func76, Tryz.ntmps76
  go_wp2_with fail
  refine (KV.out _ _).mono ?_
  rintro e w1 ⟨rfl, hb1⟩
  have b1 : Blk w1 w.heap.size 23 #[.string nm, .int .i64 5, .bool nl] := Blk.below ((Blk.new w _ _).alloc _) hb1 (by simp; omega)
  have b2 : Blk w1 (w.heap.size + 1) 45 #[.bool false, .bool false, .int .i64 0, .int .u64 0, .string t, .complex .f64 0 0] := Blk.below (blk_n2 _ _ _ _) hb1 (by simp)
  obtain ⟨c0, c1, c2, c3, c4, c5, f0, f1, f2, f3, f4, f5⟩ := Blk.six b2
  have d1 := b1.cell 1
  have d2 := b1.cell 2
  simp at d1 d2
  have HB1 := hide ((HB.out _ _).trans (hb1.mono (by simp; omega)))
  clear b1 b2 hb1
  go_wp2_with fail
  go_ret
  exact ⟨rfl, HB1.out⟩
set_option maxHeartbeats 2000000 in
set_option maxRecDepth 100000 in
theorem scell_6 (nm : ByteArray) (nl : Bool) (p q : Nat) (n m : Int) (hp : Wh p n) (hq : Wh q m) (w : World) :
    Calls Tryz.prog 76 #[colV nm 6 nl, MC.v (false, ⟨false, 0, 0, ByteArray.empty, p, q⟩)] w fun e w' => e = .returned (.bool true) ∧ Below w.heap.size w w' := by
  have K1 := hide (fun w => s6whole_any p n hp w)
  have K2 := hide (fun w => s6whole_any q m hq w)
  unfold colV MC.v
  simp only
  have HB := hide (fun o1 o2 => ((Below.refl w.heap.size w).alloc (Nat.le_refl _) o1).alloc (by simp) o2)
  clear hp hq
  go_enter Tryz.func76, Tryz.ntmps76
  go_wp2_with fail
  refine (K1.out _).mono ?_
  rintro e w1 ⟨rfl, rfl⟩
  go_wp2_with fail
  refine (K2.out _).mono ?_
  rintro e w2 ⟨rfl, rfl⟩
  go_wp2_with fail
  go_ret
  exact ⟨rfl, HB.out _ _⟩
set_option maxHeartbeats 2000000 in
set_option maxRecDepth 100000 in
theorem scell_z (nm : ByteArray) (k : Int) (h1 : 1 ≤ k) (h6 : k ≤ 6) (w : World) (hT : Tabs w) :
    Calls Tryz.prog 76 #[colV nm k true, MC.v (true, CD.z)] w fun e w' => e = .returned (.bool true) ∧ Below w.heap.size w w' := by
  have KV := hide (fun o o' => valid_any ByteArray.empty ((w.alloc o).alloc o') e_sz (hT.below (((Below.refl w.heap.size w).alloc (Nat.le_refl _) o).alloc (by simp) o')))
  rw [show Lib.validD (ByteArray.empty).data.toList = true by kernel_rfl] at KV
  have K1 := hide (fun w => s6whole_any 0 0 wh0 w)
  unfold colV MC.v CD.z
  simp only
  have HB := hide (fun o1 o2 => ((Below.refl w.heap.size w).alloc (Nat.le_refl _) o1).alloc (by simp) o2)
  clear hT
  by_cases h5 : k = 5
  · subst h5
    go_enter Tryz.func76, Tryz.ntmps76
    go_wp2_with fail
    refine (KV.out _ _).mono ?_
    rintro e w1 ⟨rfl, hb1⟩
    have b1 : Blk w1 w.heap.size 23 #[.string nm, .int .i64 5, .bool true] := Blk.below ((Blk.new w _ _).alloc _) hb1 (by simp; omega)
    have b2 : Blk w1 (w.heap.size + 1) 45 #[.bool true, .bool false, .int .i64 0, .int .u64 0, .string ByteArray.empty, .complex .f64 0 0] := Blk.below (blk_n2 _ _ _ _) hb1 (by simp)
    obtain ⟨c0, c1, c2, c3, c4, c5, f0, f1, f2, f3, f4, f5⟩ := Blk.six b2
    have d1 := b1.cell 1
    have d2 := b1.cell 2
    simp at d1 d2
    have HB1 := hide ((HB.out _ _).trans (hb1.mono (by simp; omega)))
    clear b1 b2 hb1
    go_wp2_with fail
    go_ret
    exact ⟨rfl, HB1.out⟩
  · by_cases h66 : k = 6
    · subst h66
      go_enter Tryz.func76, Tryz.ntmps76
      go_wp2_with fail
      refine (K1.out _).mono ?_
      rintro e w1 ⟨rfl, rfl⟩
      go_wp2_with fail
      refine (K1.out _).mono ?_
      rintro e w2 ⟨rfl, rfl⟩
      go_wp2_with fail
      go_ret
      exact ⟨rfl, HB.out _ _⟩
    · have hk : k = 1 ∨ k = 2 ∨ k = 3 ∨ k = 4 := by omega
      clear h5 h66 h1 h6
      rcases hk with rfl | rfl | rfl | rfl
      all_goals
        go_enter Tryz.func76, Tryz.ntmps76
        go_wp2_with fail
        go_ret
        exact ⟨rfl, HB.out _ _⟩
theorem scell_ok (nm : ByteArray) (k : Int) (h1 : 1 ≤ k) (h6 : k ≤ 6) (nl : Bool) (c : MC) (hc : okM nl k c) (w : World) (hT : Tabs w) :
    Calls Tryz.prog 76 #[colV nm k nl, c.v] w fun e w' => e = .returned (.bool true) ∧ Below w.heap.size w w' := by
  obtain ⟨n, c⟩ := c
  cases n
  · have hp : Pur k c := hc
    have hk : k = 1 ∨ k = 2 ∨ k = 3 ∨ k = 4 ∨ k = 5 ∨ k = 6 := by omega
    rcases hk with rfl | rfl | rfl | rfl | rfl | rfl
    · rw [hp.f1]; exact scell_1 nm nl _ w
    · rw [hp.f2]; exact scell_2 nm nl _ w
    · rw [hp.f3]; exact scell_3 nm nl _ w
    · rw [hp.f4]; exact scell_4 nm nl _ w
    · rw [hp.f5]; exact scell_5 nm nl _ hp.kg.t1 (hp.v rfl) w hT
    · rw [hp.f6]; exact scell_6 nm nl _ _ _ _ hp.kg.pw hp.kg.qw w
  · obtain ⟨rfl, rfl⟩ : nl = true ∧ c = CD.z := hc
    exact scell_z nm k h1 h6 w hT
end Go.Proofs.YtfkgmodgkifelaaGreatDoor
namespace Go.Proofs.YtfkgmodgkifelaaGreatDoor
open Go.RowKit

/-- A row's places: a cell that bears a whole number and a text, or is missing. -/
structure AtN (w : World) (g o : Nat) (nu : Bool) (x : Int) (t : ByteArray) : Prop where
  c0 : w.cell? ⟨g, o, none⟩ = some (.bool nu)
  c1 : w.cell? ⟨g, o + 1, none⟩ = some (.bool false)
  c2 : w.cell? ⟨g, o + 2, none⟩ = some (.int .i64 x)
  c3 : w.cell? ⟨g, o + 3, none⟩ = some (.int .u64 0)
  c4 : w.cell? ⟨g, o + 4, none⟩ = some (.string t)
  c5 : w.cell? ⟨g, o + 5, none⟩ = some (.complex .f64 0 0)
theorem AtN.below {w w' : World} {g o : Nat} {nu : Bool} {x : Int} {t : ByteArray} (h : AtN w g o nu x t) {B : Nat} (hb : Below B w w') (hg : g < B) : AtN w' g o nu x t :=
  ⟨(hb.cell hg).trans h.c0, (hb.cell hg).trans h.c1, (hb.cell hg).trans h.c2, (hb.cell hg).trans h.c3, (hb.cell hg).trans h.c4, (hb.cell hg).trans h.c5⟩
def cnA (nu : Bool) (x : Int) (t : ByteArray) : Array Value := #[.bool nu, .bool false, .int .i64 x, .int .u64 0, .string t, .complex .f64 0 0]
set_option maxHeartbeats 1000000 in
set_option maxRecDepth 100000 in
theorem ssize_any (nu : Bool) (x : Int) (t : ByteArray) (ht : t.size ≤ 1000000000) (w : World) : Calls Tryz.prog 79 #[.agg (cnA nu x t)] w fun e w' => e = .returned (.int .i64 ((20 + t.size : Nat) : Int)) ∧ Below w.heap.size w w' := by
  unfold cnA
  have h0 : (t.size : Int) ≤ 1000000000 := by omega
  go_enter Tryz.func79, Tryz.ntmps79
  go_wp2_with fail
  go_ret
  exact ⟨ret_int (by omega), (Below.refl _ _).alloc (Nat.le_refl _) _⟩
set_option maxHeartbeats 1000000 in
set_option maxRecDepth 100000 in
theorem rows_any (c gs : Nat) (A : Option Addr) (n ca : Nat) (w : World) (h : w.cell? ⟨gs, 0, none⟩ = some (.slice A n ca)) :
    Calls Tryz.prog 66 #[.agg #[.slice (some ⟨c, 0, none⟩) 1 1, .slice (some ⟨gs, 0, none⟩) 1 1]] w fun e w' => e = .returned (.int .i64 (n : Int)) ∧ Below w.heap.size w w' := by
  have hg := cell_in h
  go_enter Tryz.func66, Tryz.ntmps66
  go_wp2_with fail
  go_ret
  exact ⟨rfl, (Below.refl _ _).alloc (Nat.le_refl _) _⟩
set_option maxHeartbeats 1000000 in
set_option maxRecDepth 100000 in
theorem may_null (F G : Value) (nm : ByteArray) (k : Int) (x : Int) (t : ByteArray) (w : World) :
    Calls Tryz.prog 78 #[.agg #[.string nm, .int .i64 k, .bool false], .agg #[.func (.func 114) #[] #[], F, G], .agg (cnA true x t)] w fun e w' => e = .returned (.bool false) ∧ Below w.heap.size w w' := by
  unfold cnA
  go_enter Tryz.func78, Tryz.ntmps78
  go_wp2_with fail
  go_ret
  exact ⟨rfl, ((((Below.refl w.heap.size w).alloc (Nat.le_refl _) _).alloc (by simp) _).alloc (by simp; omega) _)⟩
set_option maxHeartbeats 4000000 in
set_option maxRecDepth 100000 in
theorem check_pos (kn : Nat) (h1 : 1 ≤ kn) (h6 : kn ≤ 6) (F G : FuncId) (hB0 : ka[kn * 3]? = some (.func (.func 114) #[] #[])) (hB1 : ka[kn * 3 + 1]? = some (.func (.func F) #[] #[])) (hB2 : ka[kn * 3 + 2]? = some (.func (.func G) #[] #[]))
    (n : Nat) (hn : n ≤ 100000) (nu ok : Nat → Bool) (x : Nat → Int) (t : Nat → ByteArray) (ht : Hid (∀ i, i < n → (t i).size ≤ 1000000000)) (S : Nat → Nat) (hS0 : Hid (S 0 = 0)) (hS : Hid (∀ i, i < n → S (i + 1) = S i + (20 + (t i).size)))
    (hSm : Hid (∀ i, i ≤ n → S i ≤ 1000000000000)) (tn : Nat) (htn : Hid (S n = tn)) (r : Int)
    (hr : Hid ((∃ i, i < n ∧ ok i = false) ∧ r = 30 ∨ (∀ i, i < n → ok i = true) ∧ (n ≤ 10000 ∧ tn ≤ 1048576 ∧ r = 0 ∨ n ≤ 10000 ∧ 1048576 < tn ∧ r = 31 ∨ 10000 < n ∧ tn ≤ 1048576 ∧ r = 31 ∨ 10000 < n ∧ 1048576 < tn ∧ r = 31)))
    (hmay : Hid (∀ i, i < n → ∀ w, Calls Tryz.prog 78 #[.agg #[.string ⟨#[97]⟩, .int .i64 (kn : Int), .bool false], .agg #[.func (.func 114) #[] #[], .func (.func F) #[] #[], .func (.func G) #[] #[]], .agg (cnA (nu i) (x i) (t i))] w fun e w' => e = .returned (.bool (ok i)) ∧ Below w.heap.size w w'))
    (gc gs g ca : Nat) (w : World) (hT : Tabs w) (c0 : w.cell? ⟨gc, 0, none⟩ = some (.string ⟨#[97]⟩)) (c1 : w.cell? ⟨gc, 1, none⟩ = some (.int .i64 (kn : Int))) (c2 : w.cell? ⟨gc, 2, none⟩ = some (.bool false))
    (s0 : w.cell? ⟨gs, 0, none⟩ = some (.slice (some ⟨g, 0, none⟩) n ca)) (hg : g < w.heap.size) (hc : Hid (∀ i, i < n → AtN w g (i * 6) (nu i) (x i) (t i))) :
    Calls Tryz.prog 37 #[.agg #[.slice (some ⟨gc, 0, none⟩) 1 1, .slice (some ⟨gs, 0, none⟩) 1 1]] w fun e w' => e = .returned (.int .i64 r) ∧ Below w.heap.size w w' := by
  have KC := hide (fun w hT a b c => columns_one (kn : Int) (by omega) gc w hT a b c)
  have KR := hide (fun w h => rows_any gc gs (some ⟨g, 0, none⟩) n ca w h)
  have KK := hide kinds_any
  have hst := fun (w1 : World) (a1 : Addr) (m : Mode) (x y : Nat) => run_store Tryz.prog w1 a1 (.complex .f64 x y) m rfl
  have hgc := cell_in c0
  have hgs := cell_in s0
  have HT := hide hT
  have C0 := hide c0
  have C1 := hide c1
  have C2 := hide c2
  have S0 := hide s0
  clear hT c0 c1 c2 s0
  obtain ⟨W1, hW1⟩ : ∃ W1, w.alloc (.cells #[.slice (some ⟨gc, 0, none⟩) 1 1, .slice (some ⟨gs, 0, none⟩) 1 1] 60) = W1 := ⟨_, rfl⟩
  have hb1 : Below w.heap.size w W1 := by rw [← hW1]; exact (Below.refl _ _).alloc (Nat.le_refl _) _
  have hk1 : Blk W1 w.heap.size 60 #[.slice (some ⟨gc, 0, none⟩) 1 1, .slice (some ⟨gs, 0, none⟩) 1 1] := by rw [← hW1]; exact Blk.new _ _ _
  have KC1 := hide (KC.out W1 (HT.out.below hb1) ((hb1.cell (p := ⟨gc, 0, none⟩) hgc).trans C0.out) ((hb1.cell (p := ⟨gc, 1, none⟩) hgc).trans C1.out) ((hb1.cell (p := ⟨gc, 2, none⟩) hgc).trans C2.out))
  have k0 := hk1.cell 0
  have k1 := hk1.cell 1
  simp at k0 k1
  have HB1 := hide hb1
  have HK1 := hide hk1
  have HW := hide hW1
  clear hb1 hk1 hW1
  go_enter Tryz.func37, Tryz.ntmps37
  go_wp2_with fail
  rw [HW.out]
  refine KC1.out.mono ?_
  rintro e w2 ⟨rfl, hb2⟩
  have b2 := HK1.out.below hb2 HK1.out.lt
  have k0 := b2.cell 0
  have k1 := b2.cell 1
  simp at k0 k1
  have HB2 := hide (HB1.out.trans (hb2.mono HB1.out.size))
  have HK2 := hide b2
  have KR2 := hide (KR.out w2 ((HB2.out.cell (p := ⟨gs, 0, none⟩) hgs).trans S0.out))
  clear hb2 b2 KC1
  go_wp2_with fail
  refine KR2.out.mono ?_
  rintro e w3 ⟨rfl, hb3⟩
  have HB3 := hide (HB2.out.trans (hb3.mono HB2.out.size))
  have HK3 := hide (HK2.out.below hb3 HK2.out.lt)
  clear hb3 KR2 k0 k1
  go_wp2_with fail
  refine (KK.out w3).mono ?_
  rintro e w4 ⟨rfl, hb4⟩
  have HB4 := hide (HB3.out.trans (hb4.mono HB3.out.size))
  have HK4 := hide (HK3.out.below hb4 HK3.out.lt)
  clear hb4
  have H0 := hide (fun cs => show Blk (w4.alloc (.cells cs 132)) w4.heap.size 132 cs from Blk.new w4 cs _)
  have hz4 : w.heap.size < w4.heap.size := HK4.out.lt
  have k1 : ∀ cs, ((w4.alloc (.cells cs 132)).setRow w4.heap.size ka).cell? ⟨w.heap.size, 1, none⟩ = some (.slice (some ⟨gs, 0, none⟩) 1 1) := fun cs => by
    have := ((HK4.out.alloc (.cells cs 132)).otherRow (g := w4.heap.size) (by omega) ka).cell 1
    simpa using this
  go_wp2_with (refine wpList_store_row rfl 132 (.tmp 5) (.tmp 26) rfl w4.heap.size ka rfl rfl 132 _ (H0.out _).out info_ka rfl ka_one ?_)
  refine wp_loop_rounds 2 ?_
  rw [rounds_succ]
  obtain ⟨w5, hw5⟩ : ∃ w5, (w4.alloc (.cells #[.nilFunc, .nilFunc, .nilFunc, .nilFunc, .nilFunc, .nilFunc, .nilFunc, .nilFunc, .nilFunc, .nilFunc, .nilFunc, .nilFunc, .nilFunc, .nilFunc, .nilFunc, .nilFunc, .nilFunc, .nilFunc, .nilFunc, .nilFunc, .nilFunc] 132)).setRow w4.heap.size ka = w5 := ⟨_, rfl⟩
  have hk5 : Blk w5 w4.heap.size 132 ka := by rw [← hw5]; exact (H0.out _).setRow ka
  have ht5 : Blk w5 w.heap.size 60 #[.slice (some ⟨gc, 0, none⟩) 1 1, .slice (some ⟨gs, 0, none⟩) 1 1] := by rw [← hw5]; exact (HK4.out.alloc _).otherRow (by omega) ka
  have hb5 : Below w.heap.size w w5 := by rw [← hw5]; exact below_setRow (HB4.out.alloc HB4.out.size _) HB4.out.size _
  rw [hw5]
  have s0 := (hb5.cell (p := ⟨gs, 0, none⟩) hgs).trans S0.out
  have HK5 := hide hk5
  have HT5 := hide ht5
  have HB5 := hide hb5
  clear hw5 hk5 ht5 hb5 k1 H0 HK4 HB4 HK3 HB3 HK2 HB2 HK1 HB1 HW
  generalize w4.heap.size = kb at *
  go_wp2_with fail
  go_loopw [8, 41] (fun sv iv wr => ∃ (i m : Nat), i ≤ n ∧ iv = .int .i64 (i : Int) ∧ sv = .int .i64 (m : Int) ∧ Hid (m = S i) ∧ m ≤ 1000000000000 ∧ Hid (∀ j, j < i → ok j = true) ∧ Hid (Below w5.heap.size w5 wr)) (fun _ iv _ => n - (intOf iv).toNat)
  case atStart => exact ⟨0, 0, by omega, rfl, rfl, hS0.out.symm, by omega, (by show ∀ j, j < 0 → _; intro j hj; omega), Below.refl _ _⟩
  case round =>
    obtain ⟨i, m, hi, rfl, rfl, hm, hmm, hok, hbe⟩ := hrel
    by_cases hlt : i < n
    · have hi0 : (0 : Int) ≤ (i : Int) := by omega
      have hi1 : (i : Int) < (n : Int) := by omega
      obtain ⟨a0, a1, a2, a3, a4, a5⟩ := (hc.out i hlt).below (HB5.out.trans (hbe.out.mono HB5.out.size)) hg
      have KM := hide (hmay.out i hlt)
      have KS := hide (ssize_any (nu i) (x i) (t i) (ht.out i hlt))
      have HX := hide (hS.out i hlt)
      have HX1 := hide (hSm.out (i + 1) (by omega))
      have HTS := hide (ht.out i hlt)
      generalize nu i = NU at *
      generalize x i = X at *
      generalize t i = T at *
      have hlt0 := hlt
      clear hlt
      go_wp2_with fail
      have hkz := Blk.new wr #[.bool NU, .bool false, .int .i64 X, .int .u64 0, .string T, .complex .f64 0 0] 45
      have hbz : Below w5.heap.size w5 (wr.alloc (.cells #[.bool NU, .bool false, .int .i64 X, .int .u64 0, .string T, .complex .f64 0 0] 45)) := hbe.out.alloc hbe.out.size _
      obtain ⟨wz, hwz⟩ : ∃ wz, wr.alloc (.cells #[.bool NU, .bool false, .int .i64 X, .int .u64 0, .string T, .complex .f64 0 0] 45) = wz := ⟨_, rfl⟩
      rw [hwz] at hkz hbz ⊢
      have HZ := hide hbz
      have q0 := cell_regrown ((hbz.cell (p := ⟨gc, 0, none⟩) (Nat.lt_of_lt_of_le hgc HB5.out.size)).trans ((HB5.out.cell (p := ⟨gc, 0, none⟩) hgc).trans C0.out))
      have q1 := cell_regrown ((hbz.cell (p := ⟨gc, 1, none⟩) (Nat.lt_of_lt_of_le hgc HB5.out.size)).trans ((HB5.out.cell (p := ⟨gc, 1, none⟩) hgc).trans C1.out))
      have q2 := cell_regrown ((hbz.cell (p := ⟨gc, 2, none⟩) (Nat.lt_of_lt_of_le hgc HB5.out.size)).trans ((HB5.out.cell (p := ⟨gc, 2, none⟩) hgc).trans C2.out))
      have t0 := cell_regrown (((HT5.out.below hbz HT5.out.lt).cell 0).trans rfl)
      have r0 := cell_regrown (((HK5.out.below hbz HK5.out.lt).cell (kn * 3)).trans hB0)
      have r1 := cell_regrown (((HK5.out.below hbz HK5.out.lt).cell (kn * 3 + 1)).trans hB1)
      have r2 := cell_regrown (((HK5.out.below hbz HK5.out.lt).cell (kn * 3 + 2)).trans hB2)
      have z0 := cell_regrown ((hkz.cell 0).trans rfl)
      have z1 := cell_regrown ((hkz.cell 1).trans rfl)
      have z2 := cell_regrown ((hkz.cell 2).trans rfl)
      have z3 := cell_regrown ((hkz.cell 3).trans rfl)
      have z4 := cell_regrown ((hkz.cell 4).trans rfl)
      have z5 := cell_regrown ((hkz.cell 5).trans rfl)
      have KQ := hide (fun d os => Calls.regrown_of (d := d) (os := os) (KM.out (Sort.grow (redrawn wz d) os)))
      have hkz' := hide hkz
      clear hwz hbz hkz a0 a1 a2 a3 a4 a5
      refine wp_region_quiet_below (by kernel_rfl) (by kernel_rfl) ?_
      repeat (go_big_quiet_step (exact KQ.out _ _))
      refine wpQuiet_nil ?_
      intro _ hw'
      obtain ⟨⟨dq, osq⟩, hw''⟩ := hw'
      subst hw''
      have hb4 := below_regrown wz dq osq
      generalize Sort.grow (redrawn wz dq) osq = w6 at *
      clear q0 q1 q2 t0 r0 r1 r2 z0 z1 z2 z3 z4 z5
      have HK6 := hide (hkz'.out.below hb4 hkz'.out.lt)
      have HB6 := hide (HZ.out.trans (hb4.mono HZ.out.size))
      clear hb4 KQ
      generalize hOK : ok i = OK at *
      have HOK := hide hOK
      clear hOK
      cases OK
      · have hr30 : r = 30 := by
          rcases hr.out with ⟨_, h⟩ | ⟨h, _⟩
          · exact h
          · exact absurd (h i hlt0) (by rw [HOK.out]; simp)
        subst hr30
        go_wp2_with fail
        go_ret
        exact ⟨rfl, HB5.out.trans (HB6.out.mono HB5.out.size)⟩
      · obtain ⟨b0, b1, b2, b3, b4, b5, f0, f1, f2, f3, f4, f5⟩ := Blk.six HK6.out
        have KS6 := hide (KS.out w6)
        unfold cnA at KS6
        go_wp2_with fail
        refine KS6.out.mono ?_
        rintro e w7 ⟨rfl, hb7⟩
        have HB7 := hide (HB6.out.trans (hb7.mono HB6.out.size))
        clear hb7 b0 b1 b2 b3 b4 b5 f0 f1 f2 f3 f4 f5 KS6
        have hT0 : (T.size : Int) ≤ 1000000000 := by have := HTS.out; omega
        have hm0 : (0 : Int) ≤ (m : Int) := by omega
        have hm1 : (m : Int) ≤ 1000000000000 := by omega
        go_wp2_with fail
        go_roundw
        case rel =>
          refine ⟨i + 1, m + (20 + T.size), by omega, by go_num, by go_num, ?_, ?_, ?_, HB7.out⟩
          · have h1 := hm.out; have h2 := HX.out; show _ = _; omega
          · have h1 := hm.out; have h2 := HX.out; have h3 := HX1.out; omega
          · show ∀ j, j < i + 1 → _
            intro j hj
            by_cases h : j = i
            · subst h; exact HOK.out
            · exact hok.out j (by omega)
        case measure => simp [intOf]; omega
    · obtain rfl : n = i := by omega
      obtain rfl : tn = m := by have h1 := hm.out; have h2 := htn.out; omega
      have hq : (n ≤ 10000 ∧ tn ≤ 1048576 ∧ r = 0 ∨ n ≤ 10000 ∧ 1048576 < tn ∧ r = 31 ∨ 10000 < n ∧ tn ≤ 1048576 ∧ r = 31 ∨ 10000 < n ∧ 1048576 < tn ∧ r = 31) := by
        rcases hr.out with ⟨⟨j, hj, he⟩, _⟩ | ⟨_, h⟩
        · have := hok.out j hj; rw [he] at this; cases this
        · exact h
      have HE := hide (HB5.out.trans (hbe.out.mono HB5.out.size))
      clear hlt hi hn hbe hm
      rcases hq with ⟨h1, h2, rfl⟩ | ⟨h1, h2, rfl⟩ | ⟨h1, h2, rfl⟩ | ⟨h1, h2, rfl⟩
      all_goals
        have g1 := Int.ofNat_le.2 h1
        have g2 := Int.ofNat_le.2 h2
        simp at g1 g2
        clear h1 h2
        go_wp2_with fail
        rw [rounds_succ]
        go_wp2_with fail
        go_ret
        exact ⟨rfl, HE.out⟩
set_option maxHeartbeats 4000000 in
set_option maxRecDepth 100000 in
theorem check_nil (kn : Nat) (h1 : 1 ≤ kn) (h6 : kn ≤ 6) (gc gs : Nat) (w : World) (hT : Tabs w) (c0 : w.cell? ⟨gc, 0, none⟩ = some (.string ⟨#[97]⟩)) (c1 : w.cell? ⟨gc, 1, none⟩ = some (.int .i64 (kn : Int))) (c2 : w.cell? ⟨gc, 2, none⟩ = some (.bool false))
    (s0 : w.cell? ⟨gs, 0, none⟩ = some (.slice none 0 0)) :
    Calls Tryz.prog 37 #[.agg #[.slice (some ⟨gc, 0, none⟩) 1 1, .slice (some ⟨gs, 0, none⟩) 1 1]] w fun e w' => e = .returned (.int .i64 0) ∧ Below w.heap.size w w' := by
  have KC := hide (fun w hT a b c => columns_one (kn : Int) (by omega) gc w hT a b c)
  have KR := hide (fun w h => rows_any gc gs none 0 0 w h)
  have KK := hide kinds_any
  have hgc := cell_in c0
  have hgs := cell_in s0
  have HT := hide hT
  have C0 := hide c0
  have C1 := hide c1
  have C2 := hide c2
  have S0 := hide s0
  clear hT c0 c1 c2 s0
  obtain ⟨W1, hW1⟩ : ∃ W1, w.alloc (.cells #[.slice (some ⟨gc, 0, none⟩) 1 1, .slice (some ⟨gs, 0, none⟩) 1 1] 60) = W1 := ⟨_, rfl⟩
  have hb1 : Below w.heap.size w W1 := by rw [← hW1]; exact (Below.refl _ _).alloc (Nat.le_refl _) _
  have hk1 : Blk W1 w.heap.size 60 #[.slice (some ⟨gc, 0, none⟩) 1 1, .slice (some ⟨gs, 0, none⟩) 1 1] := by rw [← hW1]; exact Blk.new _ _ _
  have KC1 := hide (KC.out W1 (HT.out.below hb1) ((hb1.cell (p := ⟨gc, 0, none⟩) hgc).trans C0.out) ((hb1.cell (p := ⟨gc, 1, none⟩) hgc).trans C1.out) ((hb1.cell (p := ⟨gc, 2, none⟩) hgc).trans C2.out))
  have k0 := hk1.cell 0
  have k1 := hk1.cell 1
  simp at k0 k1
  have HB1 := hide hb1
  have HK1 := hide hk1
  have HW := hide hW1
  clear hb1 hk1 hW1
  go_enter Tryz.func37, Tryz.ntmps37
  go_wp2_with fail
  rw [HW.out]
  refine KC1.out.mono ?_
  rintro e w2 ⟨rfl, hb2⟩
  have b2 := HK1.out.below hb2 HK1.out.lt
  have k0 := b2.cell 0
  have k1 := b2.cell 1
  simp at k0 k1
  have HB2 := hide (HB1.out.trans (hb2.mono HB1.out.size))
  have HK2 := hide b2
  have KR2 := hide (KR.out w2 ((HB2.out.cell (p := ⟨gs, 0, none⟩) hgs).trans S0.out))
  clear hb2 b2 KC1
  go_wp2_with fail
  refine KR2.out.mono ?_
  rintro e w3 ⟨rfl, hb3⟩
  have HB3 := hide (HB2.out.trans (hb3.mono HB2.out.size))
  have HK3 := hide (HK2.out.below hb3 HK2.out.lt)
  clear hb3 KR2 k0 k1
  go_wp2_with fail
  refine (KK.out w3).mono ?_
  rintro e w4 ⟨rfl, hb4⟩
  have HB4 := hide (HB3.out.trans (hb4.mono HB3.out.size))
  have HK4 := hide (HK3.out.below hb4 HK3.out.lt)
  clear hb4
  have H0 := hide (fun cs => show Blk (w4.alloc (.cells cs 132)) w4.heap.size 132 cs from Blk.new w4 cs _)
  have hz4 : w.heap.size < w4.heap.size := HK4.out.lt
  have k1 : ∀ cs, ((w4.alloc (.cells cs 132)).setRow w4.heap.size ka).cell? ⟨w.heap.size, 1, none⟩ = some (.slice (some ⟨gs, 0, none⟩) 1 1) := fun cs => by
    have := ((HK4.out.alloc (.cells cs 132)).otherRow (g := w4.heap.size) (by omega) ka).cell 1
    simpa using this
  go_wp2_with (refine wpList_store_row rfl 132 (.tmp 5) (.tmp 26) rfl w4.heap.size ka rfl rfl 132 _ (H0.out _).out info_ka rfl ka_one ?_)
  refine wp_loop_rounds 2 ?_
  rw [rounds_succ]
  obtain ⟨w5, hw5⟩ : ∃ w5, (w4.alloc (.cells #[.nilFunc, .nilFunc, .nilFunc, .nilFunc, .nilFunc, .nilFunc, .nilFunc, .nilFunc, .nilFunc, .nilFunc, .nilFunc, .nilFunc, .nilFunc, .nilFunc, .nilFunc, .nilFunc, .nilFunc, .nilFunc, .nilFunc, .nilFunc, .nilFunc] 132)).setRow w4.heap.size ka = w5 := ⟨_, rfl⟩
  have hb5 : Below w.heap.size w w5 := by rw [← hw5]; exact below_setRow (HB4.out.alloc HB4.out.size _) HB4.out.size _
  rw [hw5]
  have s0 := (hb5.cell (p := ⟨gs, 0, none⟩) hgs).trans S0.out
  have HB5 := hide hb5
  clear hw5 hb5 k1 H0 HK4 HB4 HK3 HB3 HK2 HB2 HK1 HB1 HW
  generalize w4.heap.size = kb at *
  go_wp2_with fail
  refine wp_loop_rounds 1 ?_
  rw [rounds_succ]
  go_wp2_with fail
  rw [rounds_succ]
  go_wp2_with fail
  go_ret
  exact ⟨rfl, HB5.out⟩
end Go.Proofs.YtfkgmodgkifelaaGreatDoor
