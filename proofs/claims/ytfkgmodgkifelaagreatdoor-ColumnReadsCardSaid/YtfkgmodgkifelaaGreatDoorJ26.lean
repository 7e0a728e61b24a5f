/- Columns: a writer's longer bytes, and plain.Put at every kind. Columns: plain.Encode of any cells. Columns: plain.Encode of bits; at every kind. Columns: cells some of which are missing; which ones are. -/
import Derived.Test.YtfkgmodgkifelaaGreatDoorJ25
import Derived.Test.YtfkgmodgkifelaaGreatDoorJ10
import Derived.Test.YtfkgmodgkifelaaGreatDoorJ11
import Derived.Test.YtfkgmodgkifelaaGreatDoorJ12
namespace Go.Proofs.YtfkgmodgkifelaaGreatDoor
open Go.RowKit

set_option maxHeartbeats 1000000 in
set_option maxRecDepth 100000 in
theorem wrawL_any (W B : Nat) (sv : Value) (l : List Nat) (s : ByteArray) (hs : s.size ≤ 12000000) (w : World) (h : Wr w W B sv l) (hl : l.length ≤ 20000000) (hB : B ≤ w.heap.size) :
    Calls Tryz.prog 39 #[.pointer (some ⟨W, 0, none⟩), .string s] w (WPost W B w sv (l ++ bn s)) := by
  have hcv := fun w => run_bytes_of_string (P := Tryz.prog) w 9 75 5 s Tryz.underlying9 Tryz.underlying75 Tryz.underlying5
  have K : Hid (∀ C n m, s.size ≤ C → s.size ≤ n → Calls Tryz.prog 73 #[.pointer (some ⟨W, 0, none⟩), .slice (some ⟨w.heap.size, 0, none⟩) s.size C] ((w.alloc (.cells (bytesRow s C) 5 (n, m))).drew) (WPost W B w sv (l ++ bn s))) := by
    intro C n m hC hn
    have h0 : Below w.heap.size w ((w.alloc (.cells (bytesRow s C) 5 (n, m))).drew) := ((Below.refl _ _).alloc (Nat.le_refl _) _).drew
    have hb := bn_len s
    have h1 := slU8_of_row8 (row8_made w s C 5 n m hn).drew C (by omega) (by unfold maxLen; omega)
    rw [hb] at h1
    refine (put_any W B sv l _ (bn s) _ (h.below h0) h1 (by omega) (by simp [World.drew]; omega)).mono ?_
    rintro e w' ⟨he, sv', h1, h2⟩
    exact ⟨he, sv', h1, WS.ahead h0 h2⟩
  clear h
  have hG := hide (fun w => grownCap_ge w s.size 0 5)
  go_enter Tryz.func39, Tryz.ntmps39
  go_wp2_with fail
  refine (K.out _ _ _ (hG.out _) (by unfold bytesRow; simp)).mono ?_
  rintro e w1 ⟨rfl, H⟩
  have HH := hide H
  clear H
  go_wp2_with fail
  go_end0
  exact ⟨rfl, HH.out⟩
set_option maxHeartbeats 1000000 in
set_option maxRecDepth 100000 in
theorem wtextL_any (W B : Nat) (sv : Value) (l : List Nat) (s : ByteArray) (hs : s.size ≤ 12000000) (w : World) (h : Wr w W B sv l) (hl : l.length ≤ 19000000) (hB : B ≤ w.heap.size) :
    Calls Tryz.prog 30 #[.pointer (some ⟨W, 0, none⟩), .string s] w (WPost W B w sv (l ++ (uvar s.size ++ bn s))) := by
  have K := hide (wuvar_any W B sv l s.size (by omega) w h (by omega) hB)
  have hu := hide (uvar_len10 (x := s.size) (by omega))
  clear h
  go_enter Tryz.func30, Tryz.ntmps30
  go_wp2_with fail
  refine K.out.mono ?_
  rintro e w1 ⟨rfl, sv1, hw1, hs1⟩
  have K1 := hide (wrawL_any W B sv1 (l ++ uvar s.size) s hs w1 hw1 (by rw [List.length_append]; have := hu.out; omega) (Nat.le_trans hB hs1.fr.size))
  have HS1 := hide hs1
  clear hw1 hs1
  go_wp2_with fail
  refine K1.out.mono ?_
  rintro e w2 ⟨rfl, sv2, hw2, hs2⟩
  have HW2 := hide hw2
  have HS2 := hide (HS1.out.trans hs2)
  clear hw2 hs2
  go_wp2_with fail
  go_end0
  rw [← List.append_assoc]
  exact ⟨rfl, sv2, HW2.out, HS2.out⟩
/-- A float that holds a whole number that may be. -/
theorem wh_of (a : Int) (h : a.natAbs ≤ 9007199254740992) : Wh (floatOfInt .f64 a) a := by
  have e1 : (14069245235905429504 : Nat) = floatOfInt .f64 (-9007199254740992) := by kernel_rfl
  have e2 : (4845873199050653696 : Nat) = floatOfInt .f64 9007199254740992 := by kernel_rfl
  have o1 := order_int a (-9007199254740992) h (by decide)
  have o2 := order_int a 9007199254740992 h (by decide)
  have c1 : compare a (-9007199254740992) = .gt ∨ compare a (-9007199254740992) = .eq := by
    simp only [compare, compareOfLessAndEq]
    split
    · omega
    · split
      · exact .inr rfl
      · exact .inl rfl
  have c2 : compare a 9007199254740992 = .lt ∨ compare a 9007199254740992 = .eq := by
    simp only [compare, compareOfLessAndEq]
    split
    · exact .inl rfl
    · split
      · exact .inr rfl
      · omega
  refine ⟨?_, ?_, ?_, ?_, ?_, toInt_int a h, ?_⟩
  · rw [e1, o1]; rcases c1 with c | c <;> rw [c] <;> rfl
  · rw [e2, o2]; rcases c2 with c | c <;> rw [c] <;> rfl
  · rw [e1, o1]; rcases c1 with c | c <;> rw [c] <;> rfl
  · rw [e2, o2]; rcases c2 with c | c <;> rw [c] <;> rfl
  · rw [order_self a h]; rfl
  · rw [order_self a h]; rfl
set_option maxHeartbeats 1000000 in
set_option maxRecDepth 100000 in
theorem pointL_any (W B : Nat) (sv : Value) (l : List Nat) (x y : Nat) (n m : Int) (hx : Wh x n) (hy : Wh y m) (h1 : -9007199254740992 ≤ n ∧ n ≤ 9007199254740992) (h2 : -9007199254740992 ≤ m ∧ m ≤ 9007199254740992) (w : World) (h : Wr w W B sv l) (hl : l.length ≤ 20000000) (hB : B ≤ w.heap.size) :
    Calls Tryz.prog 112 #[.pointer (some ⟨W, 0, none⟩), .complex .f64 x y] w (WPost W B w sv (l ++ (uvar (zz n) ++ uvar (zz m)))) := by
  have K1 := hide (fun w => pwhole_any x n hx w)
  have K2 := hide (fun w => pwhole_any y m hy w)
  have K3 := hide (wsvar_any W B sv l n (by omega) (by omega) w h (by omega) hB)
  have hu := hide (uvar_len10 (zz_lt53 h1))
  have HB := hide hB
  clear h hx hy hB
  go_enter Tryz.func112, Tryz.ntmps112
  go_wp2_with fail
  refine (K1.out _).mono ?_
  rintro e w1 ⟨rfl, rfl⟩
  go_wp2_with fail
  refine (K2.out _).mono ?_
  rintro e w1 ⟨rfl, rfl⟩
  go_wp2_with fail
  refine K3.out.mono ?_
  rintro e w1 ⟨rfl, sv1, hw1, hs1⟩
  have K4 := hide (wsvar_any W B sv1 (l ++ uvar (zz n)) m (by omega) (by omega) w1 hw1 (by rw [List.length_append]; have := hu.out; omega) (Nat.le_trans HB.out hs1.fr.size))
  have HS1 := hide hs1
  clear hw1 hs1
  go_wp2_with fail
  refine K4.out.mono ?_
  rintro e w2 ⟨rfl, sv2, hw2, hs2⟩
  have HW2 := hide hw2
  have HS2 := hide (HS1.out.trans hs2)
  clear hw2 hs2
  go_wp2_with fail
  go_end0
  rw [← List.append_assoc]
  exact ⟨rfl, sv2, HW2.out, HS2.out⟩
set_option maxHeartbeats 2000000 in
set_option maxRecDepth 100000 in
theorem pput_all (k : Int) (h1 : 1 ≤ k) (h6 : k ≤ 6) (W B : Nat) (sv : Value) (l : List Nat) (c : CD) (hc : KG c) (hs : c.t.size ≤ 11000000) (w : World) (h : Wr w W B sv l) (hl : l.length ≤ 18000000) (hB : B ≤ w.heap.size) :
    Calls Tryz.prog 74 #[.pointer (some ⟨W, 0, none⟩), .int .i64 k, c.v] w (WPost W B w sv (l ++ cellB k c)) := by
  have hk : k = 1 ∨ k = 2 ∨ k = 3 ∨ k = 4 ∨ k = 5 ∨ k = 6 := by omega
  have hA : ∀ o : Obj, Below w.heap.size w (w.alloc o) := fun o => (Below.refl _ _).alloc (Nat.le_refl _) _
  have HB := hide (Nat.le_succ_of_le hB)
  have fin : ∀ (o : Obj) (X : List Nat) (w1 : World) (sv1 : Value), Wr w1 W B sv1 (l ++ X) → WS W (w.alloc o) sv w1 sv1 → WPost W B w sv (l ++ X) (.returned (.tuple #[])) w1 := fun o X w1 sv1 a b => ⟨rfl, sv1, a, WS.ahead (hA o) b⟩
  have HFIN := hide fin
  clear fin
  rcases hk with rfl | rfl | rfl | rfl | rfl | rfl
  · have K := hide (fun (o : Obj) => wu8_any W B sv l (if c.b = true then 1 else 0) (w.alloc o) (h.below (hA o)) (by omega) (by simp; omega))
    rw [show cellB 1 c = [if c.b = true then 1 else 0] from rfl]
    clear h hB
    obtain ⟨cb, cx, cu, ct, cp, cq⟩ := c
    unfold CD.v clV clA
    simp only at K ⊢
    clear hc hs
    cases cb
    all_goals
      go_enter Tryz.func74, Tryz.ntmps74
      go_wp2_with fail
      refine (K.out _).mono ?_
      rintro e w1 ⟨rfl, sv1, hw1, hs1⟩
      have HX := hide (HFIN.out _ _ _ _ hw1 hs1)
      clear hw1 hs1
      go_wp2_with fail
      go_end0
      exact HX.out
  · have K := hide (fun (o : Obj) => wu64_any W B sv l (c.x % 18446744073709551616).toNat (by omega) (w.alloc o) (h.below (hA o)) (by omega) (by simp; omega))
    rw [show cellB 2 c = fixN (c.x % 18446744073709551616).toNat 8 from rfl]
    rw [← wrap_u64] at K
    have hx := hc.x1
    have hx2 := hc.x2
    clear h hB hc hs
    obtain ⟨cb, cx, cu, ct, cp, cq⟩ := c
    unfold CD.v clV clA
    simp only at K hx hx2 ⊢
    go_enter Tryz.func74, Tryz.ntmps74
    go_wp2_with fail
    refine (K.out _).mono ?_
    rintro e w1 ⟨rfl, sv1, hw1, hs1⟩
    have HX := hide (HFIN.out _ _ _ _ hw1 hs1)
    clear hw1 hs1
    go_wp2_with fail
    go_end0
    exact HX.out
  · have hu := hc.u1
    have hu2 := hc.u2
    obtain ⟨n, hn⟩ : ∃ n : Nat, c.u = n := ⟨c.u.toNat, by omega⟩
    have K := hide (fun (o : Obj) => wu64_any W B sv l n (by omega) (w.alloc o) (h.below (hA o)) (by omega) (by simp; omega))
    rw [show cellB 3 c = fixN c.u.toNat 8 from rfl, show c.u.toNat = n by omega]
    clear h hB hc hs hu hu2
    obtain ⟨cb, cx, cu, ct, cp, cq⟩ := c
    unfold CD.v clV clA
    simp only at K hn ⊢
    subst hn
    go_enter Tryz.func74, Tryz.ntmps74
    go_wp2_with fail
    refine (K.out _).mono ?_
    rintro e w1 ⟨rfl, sv1, hw1, hs1⟩
    have HX := hide (HFIN.out _ _ _ _ hw1 hs1)
    clear hw1 hs1
    go_wp2_with fail
    go_end0
    exact HX.out
  · have K := hide (fun (o : Obj) => wtextL_any W B sv l c.t (by omega) (w.alloc o) (h.below (hA o)) (by omega) (by simp; omega))
    rw [show cellB 4 c = uvar c.t.size ++ bn c.t from rfl]
    clear h hB hc hs
    obtain ⟨cb, cx, cu, ct, cp, cq⟩ := c
    unfold CD.v clV clA
    simp only at K ⊢
    go_enter Tryz.func74, Tryz.ntmps74
    go_wp2_with fail
    refine (K.out _).mono ?_
    rintro e w1 ⟨rfl, sv1, hw1, hs1⟩
    have HX := hide (HFIN.out _ _ _ _ hw1 hs1)
    clear hw1 hs1
    go_wp2_with fail
    go_end0
    exact HX.out
  · have K := hide (fun (o : Obj) => wtextL_any W B sv l c.t (by omega) (w.alloc o) (h.below (hA o)) (by omega) (by simp; omega))
    rw [show cellB 5 c = uvar c.t.size ++ bn c.t from rfl]
    clear h hB hc hs
    obtain ⟨cb, cx, cu, ct, cp, cq⟩ := c
    unfold CD.v clV clA
    simp only at K ⊢
    go_enter Tryz.func74, Tryz.ntmps74
    go_wp2_with fail
    refine (K.out _).mono ?_
    rintro e w1 ⟨rfl, sv1, hw1, hs1⟩
    have HX := hide (HFIN.out _ _ _ _ hw1 hs1)
    clear hw1 hs1
    go_wp2_with fail
    go_end0
    exact HX.out
  · obtain ⟨a, ha, he⟩ := hc.p1
    obtain ⟨b, hb, hf⟩ := hc.q1
    have K := hide (fun (o : Obj) => pointL_any W B sv l c.p c.q (fi c.p) (fi c.q) (by rw [he, fi_int a ha]; exact wh_of a ha) (by rw [hf, fi_int b hb]; exact wh_of b hb) (fi_le ha he) (fi_le hb hf) (w.alloc o) (h.below (hA o)) (by omega) (by simp; omega))
    rw [show cellB 6 c = uvar (zz (fi c.p)) ++ uvar (zz (fi c.q)) from rfl]
    clear h hB hc hs he hf
    obtain ⟨cb, cx, cu, ct, cp, cq⟩ := c
    unfold CD.v clV clA
    simp only at K ⊢
    go_enter Tryz.func74, Tryz.ntmps74
    go_wp2_with fail
    refine (K.out _).mono ?_
    rintro e w1 ⟨rfl, sv1, hw1, hs1⟩
    have HX := hide (HFIN.out _ _ _ _ hw1 hs1)
    clear hw1 hs1
    go_wp2_with fail
    go_end0
    exact HX.out
end Go.Proofs.YtfkgmodgkifelaaGreatDoor
namespace Go.Proofs.YtfkgmodgkifelaaGreatDoor
open Go.RowKit

/-- How many bytes cells count. -/
def tby (l : List CD) : Nat := (l.map fun c => 20 + c.t.size).sum
theorem tby_cons (c : CD) (l : List CD) : tby (c :: l) = 20 + c.t.size + tby l := by simp [tby]
theorem tby_append (a b : List CD) : tby (a ++ b) = tby a + tby b := by simp [tby]
theorem tby_mem {l : List CD} {c : CD} (h : c ∈ l) : 20 + c.t.size ≤ tby l := by
  induction l with
  | nil => cases h
  | cons d l ih =>
    rw [tby_cons]
    rcases List.mem_cons.1 h with rfl | h
    · omega
    · have := ih h; omega
theorem tby_take (l : List CD) (i : Nat) : tby (l.take i) ≤ tby l := by
  have h := tby_append (l.take i) (l.drop i)
  rw [List.take_append_drop] at h
  omega
theorem flat_len (k : Int) : ∀ (l : List CD), (∀ c ∈ l, KG c) → (l.flatMap (cellB k)).length ≤ tby l := by
  intro l
  induction l with
  | nil => intro _; simp
  | cons c l ih =>
    intro h
    rw [List.flatMap_cons, List.length_append, tby_cons]
    have h1 := cellB_len k (h c (by simp))
    have h2 := ih (fun x hx => h x (by simp [hx]))
    omega
theorem take_flat (k : Int) {l : List CD} {i : Nat} {c : CD} (h : l[i]? = some c) : (l.take (i + 1)).flatMap (cellB k) = (l.take i).flatMap (cellB k) ++ cellB k c := by
  have hi := (List.getElem?_eq_some_iff.1 h).1
  rw [List.take_succ_eq_append_getElem hi, List.flatMap_append]
  have : l[i] = c := (List.getElem?_eq_some_iff.1 h).2
  rw [this]; simp
/-- Cells that may be written: parts that may be, not too many, not too many bytes. -/
structure Wok (l : List CD) : Prop where
  kg : ∀ c ∈ l, KG c
  len : l.length ≤ 10000
  by_ : tby l ≤ 1100000
theorem Wok.pre {l : List CD} (h : Wok l) (i : Nat) (k : Int) : ((l.take i).flatMap (cellB k)).length ≤ 1100000 :=
  Nat.le_trans (flat_len k _ (fun c hc => h.kg c (List.mem_of_mem_take hc))) (Nat.le_trans (tby_take l i) h.by_)
theorem InC.form {w : World} {v : Value} {l : List CD} (h : InC w v l) : ∃ A c, v = .slice A l.length c ∧ ∀ i x, l[i]? = some x → ∃ g, A = some ⟨g, 0, none⟩ ∧ g < w.heap.size ∧ AtC w g (i * 6) x.b x.x x.u x.t x.p x.q := by
  rcases h with ⟨rfl, a, c, rfl⟩ | ⟨_, g, c, rfl, hg, hc⟩
  · exact ⟨a, c, rfl, fun i x hx => by simp at hx⟩
  · exact ⟨_, c, rfl, fun i x hx => ⟨g, rfl, hg.1, hc i x hx⟩⟩
theorem InC.form2 {w : World} {v : Value} {l : List CD} (h : InC w v l) : ∃ A c, v = .slice A l.length c ∧ (0 < l.length → l.length ≤ c) ∧ ∀ i x, l[i]? = some x → ∃ g, A = some ⟨g, 0, none⟩ ∧ g < w.heap.size ∧ AtC w g (i * 6) x.b x.x x.u x.t x.p x.q := by
  rcases h with ⟨rfl, a, c, rfl⟩ | ⟨_, g, c, rfl, hg, hc⟩
  · exact ⟨a, c, rfl, fun h => by simp at h, fun i x hx => by simp at hx⟩
  · exact ⟨_, c, rfl, fun _ => hg.2, fun i x hx => ⟨g, rfl, hg.1, hc i x hx⟩⟩
set_option maxHeartbeats 2000000 in
set_option maxRecDepth 100000 in
theorem pencodeL (k : Int) (h2 : 2 ≤ k) (h6 : k ≤ 6) (l : List CD) (hl : Wok l) (v : Value) (w : World) (hv : InC w v l) :
    Calls Tryz.prog 87 #[.int .i64 k, v] w fun e w' => e = .returned (.string (strN (l.flatMap (cellB k)))) ∧ Below w.heap.size w w' := by
  obtain ⟨A, ca, rfl, hcell⟩ := hv.form
  have HC := hide hcell
  have HL := hide hl
  have hlen := hl.len
  have hk : ((k : Int) == 1) = false := by rw [beq_eq_false_iff_ne]; omega
  have KP := hide (fun (W B : Nat) (sv : Value) (m : List Nat) (c : CD) (hc : KG c) (hs : c.t.size ≤ 11000000) (w : World) (h : Wr w W B sv m) (hm : m.length ≤ 18000000) (hB : B ≤ w.heap.size) => pput_all k (by omega) h6 W B sv m c hc hs w h hm hB)
  clear hv hcell hl h2 h6
  generalize hn : l.length = n at *
  have HN := hide hn
  clear hn
  have hst := fun (w1 : World) (a1 : Addr) (m : Mode) (x y : Nat) => run_store Tryz.prog w1 a1 (.complex .f64 x y) m rfl
  go_enter Tryz.func87, Tryz.ntmps87
  go_wp2_with fail
  go_loopw [33] (fun iv wr => ∃ i : Nat, i ≤ n ∧ iv = .int .i64 (i : Int) ∧ ∃ sv', Wr wr w.heap.size w.heap.size sv' ((l.take i).flatMap (cellB k)) ∧ Below w.heap.size w wr) (fun iv _ => n - (intOf iv).toNat)
  case atStart =>
    refine ⟨0, by omega, rfl, .slice none 0 0, ⟨Blk.new _ _ _, ?_, Nat.le_refl _⟩, (Below.refl _ _).alloc (Nat.le_refl _) _⟩
    exact ownU8_nil _ _
  case round =>
    obtain ⟨i, hi, rfl, sv', hw, hb⟩ := hrel
    by_cases hlt : i < n
    · obtain ⟨x, hx⟩ : ∃ x, l[i]? = some x := ⟨l[i]'(by rw [HN.out]; exact hlt), List.getElem?_eq_getElem _⟩
      obtain ⟨g, hA, hg, hat⟩ := HC.out i x hx
      subst hA
      have hgr : g < wr.heap.size := Nat.lt_of_lt_of_le hg hb.size
      obtain ⟨a0, a1, a2, a3, a4, a5⟩ := hat.below hb hg
      have HW := hide hw
      have HB := hide hb
      have hxm := List.mem_of_getElem? hx
      have KP2 := hide (fun o => KP.out _ _ _ _ x (HL.out.kg x hxm) (by have := tby_mem hxm; have := HL.out.by_; omega) (wr.alloc o) (HW.out.below ((Below.refl _ _).alloc (Nat.le_refl _) _)) (by have := HL.out.pre i k; omega) (by simp; exact Nat.le_succ_of_le HB.out.size))
      rw [← take_flat k hx] at KP2
      have HLT := hide hlt
      clear hw hb hx hxm hat
      obtain ⟨xb, xx, xu, xt, xp, xq⟩ := x
      unfold CD.v clV clA at KP2
      simp only at KP2 a0 a1 a2 a3 a4 a5
      have hi0 : (0 : Int) ≤ (i : Int) := by omega
      have hi1 : (i : Int) < (n : Int) := by omega
      clear hlt
      go_wp2_with fail
      refine (KP2.out _).mono ?_
      rintro e w2 ⟨rfl, sv2, hw2, hs2⟩
      have HW2 := hide hw2
      have HB2 := hide ((HB.out.alloc HB.out.size _).trans (hs2.below (HW.out.below ((Below.refl wr.heap.size wr).alloc (Nat.le_refl _) _)) (by simp; exact Nat.le_succ_of_le HB.out.size)))
      clear hw2 hs2 a0 a1 a2 a3 a4 a5 KP2
      go_wp2_with fail
      go_roundw
      case rel => exact ⟨i + 1, by have := HLT.out; omega, by go_num, sv2, HW2.out, HB2.out⟩
      case measure => have := HLT.out; simp [intOf] <;> omega
    · obtain rfl : n = i := by omega
      have K := hide (wstring_any _ _ _ _ _ hw)
      have HB := hide hb
      rw [List.take_of_length_le (by rw [HN.out]; exact Nat.le_refl _)] at K
      clear hw hb
      go_wp2_with fail
      refine K.out.mono ?_
      rintro e w2 ⟨rfl, rfl⟩
      go_wp2_with fail
      go_ret
      exact ⟨rfl, HB.out⟩
end Go.Proofs.YtfkgmodgkifelaaGreatDoor
namespace Go.Proofs.YtfkgmodgkifelaaGreatDoor
open Go.RowKit

theorem rowIs_below {w w' : World} {b n B : Nat} {t : TypeId} {f : Nat → Value} (h : w.rowIs b t n f) (hb : Below B w w') (hB : b < B) : w'.rowIs b t n f := h.of_block (hb.block b hB)
theorem slB_row {w : World} {b n : Nat} {t : TypeId} {f : Nat → Value} (h : w.rowIs b t n f) (l : List Bool) (hl : l.length = n) (hn : n ≤ maxLen) (hf : ∀ i, i < n → f i = .bool (l.getD i false)) : SlB w (.slice (some ⟨b, 0, none⟩) n n) l := by
  subst hl
  refine ⟨hn, ?_⟩
  rcases Nat.eq_zero_or_pos l.length with h0 | h0
  · exact .inl ⟨h0, _, _, by rw [h0], fun h => by cases h⟩
  · exact .inr ⟨h0, b, 0, l.length, rfl, Nat.le_refl _, h.lt, fun i hi => by rw [Nat.zero_add, h.cell hi, hf i hi]⟩
set_option maxHeartbeats 2000000 in
set_option maxRecDepth 100000 in
theorem pencode1 (l : List CD) (hlen : l.length ≤ 10000) (v : Value) (w : World) (hv : InC w v l) :
    Calls Tryz.prog 87 #[.int .i64 1, v] w fun e w' => e = .returned (.string (strN (packL (l.map (·.b))))) ∧ Below w.heap.size w w' := by
  obtain ⟨A, ca, rfl, hcell⟩ := hv.form
  have HC := hide hcell
  have KP := hide (fun (v : Value) (w : World) h => pack_any (l.map (·.b)) (by simp; omega) v w h)
  have KS := hide (fun (w : World) (b : Nat) (f : Nat → Value) (h : w.rowIs b 4 l.length f) hf => slB_row h (l.map (·.b)) (by simp) (by unfold maxLen; omega) hf)
  have hmk := run_make_row' (P := Tryz.prog) 50 4 (.bool false) 1 Tryz.underlying50 info_bool rfl .i64 .i64 l.length (by omega) (by omega)
  clear hv hcell
  generalize hn : l.length = n at *
  have HN := hide hn
  clear hn
  have hR := hide (World.rowIs_made w (.bool false) n 4)
  have hst := fun (w1 : World) (a1 : Addr) (m : Mode) (x y : Nat) => run_store Tryz.prog w1 a1 (.complex .f64 x y) m rfl
  generalize madeCells #[Value.bool false] n = CZ at *
  go_enter Tryz.func87, Tryz.ntmps87
  go_wp2_with fail
  go_loopw [18] (fun iv wr => ∃ i : Nat, i ≤ n ∧ iv = .int .i64 (i : Int) ∧ Hid (wr.rowIs w.heap.size 4 n (fun j => .bool (decide (j < i) && (l.map (·.b)).getD j false))) ∧ Hid (Below w.heap.size w wr)) (fun iv _ => n - (intOf iv).toNat)
  case atStart => exact ⟨0, by omega, rfl, hR.out.congr (fun i _ => by simp), (Below.refl _ _).alloc (Nat.le_refl _) _⟩
  case round =>
    obtain ⟨i, hi, rfl, hrow, hb⟩ := hrel
    by_cases hlt : i < n
    · obtain ⟨x, hx⟩ : ∃ x, l[i]? = some x := ⟨l[i]'(by rw [HN.out]; exact hlt), List.getElem?_eq_getElem _⟩
      obtain ⟨g, hA, hg, hat⟩ := HC.out i x hx
      subst hA
      obtain ⟨a0, a1, a2, a3, a4, a5⟩ := hat.below hb.out hg
      have hgd : (l.map (·.b)).getD i false = x.b := by simp [List.getD, hx]
      obtain ⟨xb, xx, xu, xt, xp, xq⟩ := x
      simp only at a0 a1 a2 a3 a4 a5 hgd
      have HR1 := hide (hrow.out.alloc (.cells #[.bool false, .bool xb, .int .i64 xx, .int .u64 xu, .string xt, .complex .f64 xp xq] 45))
      have c0 := HR1.out.cell hlt
      have c1 := HR1.out.frozen i
      have HR2 : Hid (((wr.setCell ⟨w.heap.size, i, none⟩ (.bool xb)).alloc (.cells #[.bool false, .bool xb, .int .i64 xx, .int .u64 xu, .string xt, .complex .f64 xp xq] 45)).rowIs w.heap.size 4 n (fun j => .bool (decide (j < i + 1) && (l.map (·.b)).getD j false))) := by
        refine ((hrow.out.set i (.bool xb)).alloc _).congr (fun j hj => ?_)
        by_cases e : j = i
        · subst e; rw [if_pos rfl, hgd]; simp
        · have : decide (j < i + 1) = decide (j < i) := by rw [decide_eq_decide]; omega
          rw [if_neg e, this]
      have HB1 := hb.out.setCell (p := ⟨w.heap.size, i, none⟩) (Nat.le_refl _) (.bool xb)
      have HB2 := hide (HB1.alloc HB1.size (.cells #[.bool false, .bool xb, .int .i64 xx, .int .u64 xu, .string xt, .complex .f64 xp xq] 45))
      clear HB1
      have hzw : w.heap.size < wr.heap.size := hrow.out.lt
      have hi0 : (0 : Int) ≤ (i : Int) := by omega
      have hi1 : (i : Int) < (n : Int) := by omega
      have HLT := hide hlt
      clear hat hx hgd hlt
      go_wp2_with fail
      go_roundw
      case rel => exact ⟨i + 1, by have := HLT.out; omega, by go_num, HR2.out, HB2.out⟩
      case measure => have := HLT.out; simp [intOf]; omega
    · obtain rfl : n = i := by omega
      have hsl := KS.out wr w.heap.size _ hrow.out (fun i hi => by simp [hi])
      have HB := hide hb.out
      have K2 := hide (KP.out _ _ hsl)
      clear hrow hb hlt hsl hi
      go_wp2_with fail
      refine K2.out.mono ?_
      rintro e w2 ⟨rfl, hb2⟩
      have HB2 := hide (HB.out.trans (hb2.mono HB.out.size))
      clear hb2
      go_wp2_with fail
      go_ret
      exact ⟨rfl, HB2.out⟩
theorem pencode_all (k : Int) (h1 : 1 ≤ k) (h6 : k ≤ 6) (l : List CD) (hl : Wok l) (v : Value) (w : World) (hv : InC w v l) :
    Calls Tryz.prog 87 #[.int .i64 k, v] w fun e w' => e = .returned (.string (strN (encP k l))) ∧ Below w.heap.size w w' := by
  unfold encP
  by_cases hk : k = 1
  · subst hk
    rw [if_pos rfl]
    exact pencode1 l hl.len v w hv
  · rw [if_neg hk]
    exact pencodeL k (by omega) h6 l hl v w hv
end Go.Proofs.YtfkgmodgkifelaaGreatDoor
namespace Go.Proofs.YtfkgmodgkifelaaGreatDoor
open Go.RowKit

/-- A cell that may be missing. -/
abbrev MC := Bool × CD
def cellsM (c : MC) : List Go.Value := [.bool c.1, .bool c.2.b, .int .i64 c.2.x, .int .u64 c.2.u, .string c.2.t, .complex .f64 c.2.p c.2.q]
structure AtM (w : World) (g o : Nat) (n b : Bool) (x u : Int) (t : ByteArray) (p q : Nat) : Prop where
  c0 : w.cell? ⟨g, o, none⟩ = some (.bool n)
  c1 : w.cell? ⟨g, o + 1, none⟩ = some (.bool b)
  c2 : w.cell? ⟨g, o + 2, none⟩ = some (.int .i64 x)
  c3 : w.cell? ⟨g, o + 3, none⟩ = some (.int .u64 u)
  c4 : w.cell? ⟨g, o + 4, none⟩ = some (.string t)
  c5 : w.cell? ⟨g, o + 5, none⟩ = some (.complex .f64 p q)
theorem AtM.below {w w' : World} {g o : Nat} {n b : Bool} {x u : Int} {t : ByteArray} {p q : Nat} (h : AtM w g o n b x u t p q) {B : Nat} (hb : Below B w w') (hg : g < B) : AtM w' g o n b x u t p q :=
  ⟨(hb.cell (p := ⟨g, _, none⟩) hg).trans h.c0, (hb.cell (p := ⟨g, _, none⟩) hg).trans h.c1, (hb.cell (p := ⟨g, _, none⟩) hg).trans h.c2, (hb.cell (p := ⟨g, _, none⟩) hg).trans h.c3, (hb.cell (p := ⟨g, _, none⟩) hg).trans h.c4, (hb.cell (p := ⟨g, _, none⟩) hg).trans h.c5⟩
/-- A slice of such cells, as a caller gives it. -/
def InM (w : World) (v : Value) (l : List MC) : Prop :=
  ∃ A c, v = .slice A l.length c ∧ ∀ i x, l[i]? = some x → ∃ g, A = some ⟨g, 0, none⟩ ∧ g < w.heap.size ∧ AtM w g (i * 6) x.1 x.2.b x.2.x x.2.u x.2.t x.2.p x.2.q
theorem InM.below {w w' : World} {v : Value} {l : List MC} (h : InM w v l) (hb : Below w.heap.size w w') : InM w' v l := by
  obtain ⟨A, c, rfl, hc⟩ := h
  refine ⟨A, c, rfl, fun i x hx => ?_⟩
  obtain ⟨g, hA, hg, hat⟩ := hc i x hx
  exact ⟨g, hA, Nat.lt_of_lt_of_le hg hb.size, hat.below hb hg⟩
set_option maxHeartbeats 2000000 in
set_option maxRecDepth 100000 in
theorem nnulls_any (l : List MC) (hlen : l.length ≤ 10000) (v : Value) (w : World) (hv : InM w v l) :
    Calls Tryz.prog 41 #[v] w fun e w' => (∃ b, e = .returned (.slice (some ⟨b, 0, none⟩) l.length l.length) ∧ SlB w' (.slice (some ⟨b, 0, none⟩) l.length l.length) (l.map (·.1))) ∧ Below w.heap.size w w' := by
  obtain ⟨A, ca, rfl, hcell⟩ := hv
  have HC := hide hcell
  have KS := hide (fun (w : World) (b : Nat) (f : Nat → Value) (h : w.rowIs b 4 l.length f) hf => slB_row h (l.map (·.1)) (by simp) (by unfold maxLen; omega) hf)
  have hmk := run_make_row' (P := Tryz.prog) 50 4 (.bool false) 1 Tryz.underlying50 info_bool rfl .i64 .i64 l.length (by omega) (by omega)
  clear hcell
  generalize hn : l.length = n at *
  have HN := hide hn
  clear hn
  have hR := hide (World.rowIs_made w (.bool false) n 4)
  have hst := fun (w1 : World) (a1 : Addr) (m : Mode) (x y : Nat) => run_store Tryz.prog w1 a1 (.complex .f64 x y) m rfl
  generalize madeCells #[Value.bool false] n = CZ at *
  go_enter Tryz.func41, Tryz.ntmps41
  go_wp2_with fail
  go_loopw [11] (fun iv wr => ∃ i : Nat, i ≤ n ∧ iv = .int .i64 (i : Int) ∧ Hid (wr.rowIs w.heap.size 4 n (fun j => .bool (decide (j < i) && (l.map (·.1)).getD j false))) ∧ Hid (Below w.heap.size w wr)) (fun iv _ => n - (intOf iv).toNat)
  case atStart => exact ⟨0, by omega, rfl, hR.out.congr (fun i _ => by simp), (Below.refl _ _).alloc (Nat.le_refl _) _⟩
  case round =>
    obtain ⟨i, hi, rfl, hrow, hb⟩ := hrel
    by_cases hlt : i < n
    · obtain ⟨x, hx⟩ : ∃ x, l[i]? = some x := ⟨l[i]'(by rw [HN.out]; exact hlt), List.getElem?_eq_getElem _⟩
      obtain ⟨g, hA, hg, hat⟩ := HC.out i x hx
      subst hA
      obtain ⟨a0, a1, a2, a3, a4, a5⟩ := hat.below hb.out hg
      have hgd : (l.map (·.1)).getD i false = x.1 := by simp [List.getD, hx]
      obtain ⟨xn, xb, xx, xu, xt, xp, xq⟩ := x
      simp only at a0 a1 a2 a3 a4 a5 hgd
      have HR1 := hide (hrow.out.alloc (.cells #[.bool xn, .bool xb, .int .i64 xx, .int .u64 xu, .string xt, .complex .f64 xp xq] 45))
      have c0 := HR1.out.cell hlt
      have c1 := HR1.out.frozen i
      have HR2 : Hid (((wr.setCell ⟨w.heap.size, i, none⟩ (.bool xn)).alloc (.cells #[.bool xn, .bool xb, .int .i64 xx, .int .u64 xu, .string xt, .complex .f64 xp xq] 45)).rowIs w.heap.size 4 n (fun j => .bool (decide (j < i + 1) && (l.map (·.1)).getD j false))) := by
        refine ((hrow.out.set i (.bool xn)).alloc _).congr (fun j hj => ?_)
        by_cases e : j = i
        · subst e; rw [if_pos rfl, hgd]; simp
        · have : decide (j < i + 1) = decide (j < i) := by rw [decide_eq_decide]; omega
          rw [if_neg e, this]
      have HB1 := hb.out.setCell (p := ⟨w.heap.size, i, none⟩) (Nat.le_refl _) (.bool xn)
      have HB2 := hide (HB1.alloc HB1.size (.cells #[.bool xn, .bool xb, .int .i64 xx, .int .u64 xu, .string xt, .complex .f64 xp xq] 45))
      clear HB1
      have hzw : w.heap.size < wr.heap.size := hrow.out.lt
      have hi0 : (0 : Int) ≤ (i : Int) := by omega
      have hi1 : (i : Int) < (n : Int) := by omega
      have HLT := hide hlt
      clear hat hx hgd hlt
      go_wp2_with fail
      go_roundw
      case rel => exact ⟨i + 1, by have := HLT.out; omega, by go_num, HR2.out, HB2.out⟩
      case measure => have := HLT.out; simp [intOf]; omega
    · obtain rfl : n = i := by omega
      have hsl := KS.out wr w.heap.size _ hrow.out (fun i hi => by simp [hi])
      have HB := hide hb.out
      have HSL := hide hsl
      clear hrow hb hlt hsl hi
      go_wp2_with fail
      go_ret
      exact ⟨⟨_, rfl, HSL.out⟩, HB.out⟩
end Go.Proofs.YtfkgmodgkifelaaGreatDoor
