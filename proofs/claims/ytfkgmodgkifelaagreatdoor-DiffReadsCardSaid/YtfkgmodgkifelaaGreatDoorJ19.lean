/- Columns: a writer's longer bytes, and plain.Put at every kind. Columns as bytes: schema.Put, where the columns may be. Patches, read: columns and how many rows there are. One cell, read: its bytes are its own. -/
import Derived.Test.YtfkgmodgkifelaaGreatDoorJ18
import Derived.Test.YtfkgmodgkifelaaGreatDoorJ10
namespace Go.Proofs.YtfkgmodgkifelaaGreatDoor
open Go.RowKit

set_option maxHeartbeats 1000000 in
set_option maxRecDepth 100000 in
theorem wrawL_any (W B : Nat) (sv : Value) (l : List Nat) (s : ByteArray) (hs : s.size ≤ 12000000) (w : World) (h : Wr w W B sv l) (hl : l.length ≤ 20000000) (hB : B ≤ w.heap.size) :
    Calls Tryz.prog 39 #[.pointer (some ⟨W, 0, none⟩), .string s] w (WPost W B w sv (l ++ bn s)) := by
  have hcv := fun w => run_bytes_of_string (P := Tryz.prog) w 9 75 5 s Tryz.underlying9 Tryz.underlying75 Tryz.underlying5
  have K : Hid (∀ C n m, s.size ≤ C → s.size ≤ n → Calls Tryz.prog 73 #[.pointer (some ⟨W, 0, none⟩), .slice (some ⟨w.heap.size, 0, none⟩) s.size C] ((w.alloc (.cells (bytesRow s C) 5 (n, m))).drew) (WPost W B w sv (l ++ bn s))) := by
    intro C n m hC hn
    have h0 : Below w.heap.size w ((w.alloc (.cells (bytesRow s C) 5 (n, m))).drew) := ((Below.refl _ _).alloc (Nat.le_refl _) _).drew
    have hb := bn_len s
    have h1 := slU8_of_row8 (row8_made w s C 5 n m hn).drew C (by omega) (by unfold maxLen; omega)
    rw [hb] at h1
    refine (put_any W B sv l _ (bn s) _ (h.below h0) h1 (by omega) (by simp [World.drew]; omega)).mono ?_
    rintro e w' ⟨he, sv', h1, h2⟩
    exact ⟨he, sv', h1, WS.ahead h0 h2⟩
  clear h
  have hG := hide (fun w => grownCap_ge w s.size 0 5)
  go_enter Tryz.func39, Tryz.ntmps39
  go_wp2_with fail
  refine (K.out _ _ _ (hG.out _) (by unfold bytesRow; simp)).mono ?_
  rintro e w1 ⟨rfl, H⟩
  have HH := hide H
  clear H
  go_wp2_with fail
  go_end0
  exact ⟨rfl, HH.out⟩
set_option maxHeartbeats 1000000 in
set_option maxRecDepth 100000 in
theorem wtextL_any (W B : Nat) (sv : Value) (l : List Nat) (s : ByteArray) (hs : s.size ≤ 12000000) (w : World) (h : Wr w W B sv l) (hl : l.length ≤ 19000000) (hB : B ≤ w.heap.size) :
    Calls Tryz.prog 30 #[.pointer (some ⟨W, 0, none⟩), .string s] w (WPost W B w sv (l ++ (uvar s.size ++ bn s))) := by
  have K := hide (wuvar_any W B sv l s.size (by omega) w h (by omega) hB)
  have hu := hide (uvar_len10 (x := s.size) (by omega))
  clear h
  go_enter Tryz.func30, Tryz.ntmps30
  go_wp2_with fail
  refine K.out.mono ?_
  rintro e w1 ⟨rfl, sv1, hw1, hs1⟩
  have K1 := hide (wrawL_any W B sv1 (l ++ uvar s.size) s hs w1 hw1 (by rw [List.length_append]; have := hu.out; omega) (Nat.le_trans hB hs1.fr.size))
  have HS1 := hide hs1
  clear hw1 hs1
  go_wp2_with fail
  refine K1.out.mono ?_
  rintro e w2 ⟨rfl, sv2, hw2, hs2⟩
  have HW2 := hide hw2
  have HS2 := hide (HS1.out.trans hs2)
  clear hw2 hs2
  go_wp2_with fail
  go_end0
  rw [← List.append_assoc]
  exact ⟨rfl, sv2, HW2.out, HS2.out⟩
/-- A float that holds a whole number that may be. -/
theorem wh_of (a : Int) (h : a.natAbs ≤ 9007199254740992) : Wh (floatOfInt .f64 a) a := by
  have e1 : (14069245235905429504 : Nat) = floatOfInt .f64 (-9007199254740992) := by kernel_rfl
  have e2 : (4845873199050653696 : Nat) = floatOfInt .f64 9007199254740992 := by kernel_rfl
  have o1 := order_int a (-9007199254740992) h (by decide)
  have o2 := order_int a 9007199254740992 h (by decide)
  have c1 : compare a (-9007199254740992) = .gt ∨ compare a (-9007199254740992) = .eq := by
    simp only [compare, compareOfLessAndEq]
    split
    · omega
    · split
      · exact .inr rfl
      · exact .inl rfl
  have c2 : compare a 9007199254740992 = .lt ∨ compare a 9007199254740992 = .eq := by
    simp only [compare, compareOfLessAndEq]
    split
    · exact .inl rfl
    · split
      · exact .inr rfl
      · omega
  refine ⟨?_, ?_, ?_, ?_, ?_, toInt_int a h, ?_⟩
  · rw [e1, o1]; rcases c1 with c | c <;> rw [c] <;> rfl
  · rw [e2, o2]; rcases c2 with c | c <;> rw [c] <;> rfl
  · rw [e1, o1]; rcases c1 with c | c <;> rw [c] <;> rfl
  · rw [e2, o2]; rcases c2 with c | c <;> rw [c] <;> rfl
  · rw [order_self a h]; rfl
  · rw [order_self a h]; rfl
set_option maxHeartbeats 1000000 in
set_option maxRecDepth 100000 in
theorem pointL_any (W B : Nat) (sv : Value) (l : List Nat) (x y : Nat) (n m : Int) (hx : Wh x n) (hy : Wh y m) (h1 : -9007199254740992 ≤ n ∧ n ≤ 9007199254740992) (h2 : -9007199254740992 ≤ m ∧ m ≤ 9007199254740992) (w : World) (h : Wr w W B sv l) (hl : l.length ≤ 20000000) (hB : B ≤ w.heap.size) :
    Calls Tryz.prog 112 #[.pointer (some ⟨W, 0, none⟩), .complex .f64 x y] w (WPost W B w sv (l ++ (uvar (zz n) ++ uvar (zz m)))) := by
  have K1 := hide (fun w => pwhole_any x n hx w)
  have K2 := hide (fun w => pwhole_any y m hy w)
  have K3 := hide (wsvar_any W B sv l n (by omega) (by omega) w h (by omega) hB)
  have hu := hide (uvar_len10 (zz_lt53 h1))
  have HB := hide hB
  clear h hx hy hB
  go_enter Tryz.func112, Tryz.ntmps112
  go_wp2_with fail
  refine (K1.out _).mono ?_
  rintro e w1 ⟨rfl, rfl⟩
  go_wp2_with fail
  refine (K2.out _).mono ?_
  rintro e w1 ⟨rfl, rfl⟩
  go_wp2_with fail
  refine K3.out.mono ?_
  rintro e w1 ⟨rfl, sv1, hw1, hs1⟩
  have K4 := hide (wsvar_any W B sv1 (l ++ uvar (zz n)) m (by omega) (by omega) w1 hw1 (by rw [List.length_append]; have := hu.out; omega) (Nat.le_trans HB.out hs1.fr.size))
  have HS1 := hide hs1
  clear hw1 hs1
  go_wp2_with fail
  refine K4.out.mono ?_
  rintro e w2 ⟨rfl, sv2, hw2, hs2⟩
  have HW2 := hide hw2
  have HS2 := hide (HS1.out.trans hs2)
  clear hw2 hs2
  go_wp2_with fail
  go_end0
  rw [← List.append_assoc]
  exact ⟨rfl, sv2, HW2.out, HS2.out⟩
set_option maxHeartbeats 2000000 in
set_option maxRecDepth 100000 in
theorem pput_all (k : Int) (h1 : 1 ≤ k) (h6 : k ≤ 6) (W B : Nat) (sv : Value) (l : List Nat) (c : CD) (hc : KG c) (hs : c.t.size ≤ 11000000) (w : World) (h : Wr w W B sv l) (hl : l.length ≤ 18000000) (hB : B ≤ w.heap.size) :
    Calls Tryz.prog 74 #[.pointer (some ⟨W, 0, none⟩), .int .i64 k, c.v] w (WPost W B w sv (l ++ cellB k c)) := by
  have hk : k = 1 ∨ k = 2 ∨ k = 3 ∨ k = 4 ∨ k = 5 ∨ k = 6 := by omega
  have hA : ∀ o : Obj, Below w.heap.size w (w.alloc o) := fun o => (Below.refl _ _).alloc (Nat.le_refl _) _
  have HB := hide (Nat.le_succ_of_le hB)
  have fin : ∀ (o : Obj) (X : List Nat) (w1 : World) (sv1 : Value), Wr w1 W B sv1 (l ++ X) → WS W (w.alloc o) sv w1 sv1 → WPost W B w sv (l ++ X) (.returned (.tuple #[])) w1 := fun o X w1 sv1 a b => ⟨rfl, sv1, a, WS.ahead (hA o) b⟩
  have HFIN := hide fin
  clear fin
  rcases hk with rfl | rfl | rfl | rfl | rfl | rfl
  · have K := hide (fun (o : Obj) => wu8_any W B sv l (if c.b = true then 1 else 0) (w.alloc o) (h.below (hA o)) (by omega) (by simp; omega))
    rw [show cellB 1 c = [if c.b = true then 1 else 0] from rfl]
    clear h hB
    obtain ⟨cb, cx, cu, ct, cp, cq⟩ := c
    unfold CD.v clV clA
    simp only at K ⊢
    clear hc hs
    cases cb
    all_goals
      go_enter Tryz.func74, Tryz.ntmps74
      go_wp2_with fail
      refine (K.out _).mono ?_
      rintro e w1 ⟨rfl, sv1, hw1, hs1⟩
      have HX := hide (HFIN.out _ _ _ _ hw1 hs1)
      clear hw1 hs1
      go_wp2_with fail
      go_end0
      exact HX.out
  · have K := hide (fun (o : Obj) => wu64_any W B sv l (c.x % 18446744073709551616).toNat (by omega) (w.alloc o) (h.below (hA o)) (by omega) (by simp; omega))
    rw [show cellB 2 c = fixN (c.x % 18446744073709551616).toNat 8 from rfl]
    rw [← wrap_u64] at K
    have hx := hc.x1
    have hx2 := hc.x2
    clear h hB hc hs
    obtain ⟨cb, cx, cu, ct, cp, cq⟩ := c
    unfold CD.v clV clA
    simp only at K hx hx2 ⊢
    go_enter Tryz.func74, Tryz.ntmps74
    go_wp2_with fail
    refine (K.out _).mono ?_
    rintro e w1 ⟨rfl, sv1, hw1, hs1⟩
    have HX := hide (HFIN.out _ _ _ _ hw1 hs1)
    clear hw1 hs1
    go_wp2_with fail
    go_end0
    exact HX.out
  · have hu := hc.u1
    have hu2 := hc.u2
    obtain ⟨n, hn⟩ : ∃ n : Nat, c.u = n := ⟨c.u.toNat, by omega⟩
    have K := hide (fun (o : Obj) => wu64_any W B sv l n (by omega) (w.alloc o) (h.below (hA o)) (by omega) (by simp; omega))
    rw [show cellB 3 c = fixN c.u.toNat 8 from rfl, show c.u.toNat = n by omega]
    clear h hB hc hs hu hu2
    obtain ⟨cb, cx, cu, ct, cp, cq⟩ := c
    unfold CD.v clV clA
    simp only at K hn ⊢
    subst hn
    go_enter Tryz.func74, Tryz.ntmps74
    go_wp2_with fail
    refine (K.out _).mono ?_
    rintro e w1 ⟨rfl, sv1, hw1, hs1⟩
    have HX := hide (HFIN.out _ _ _ _ hw1 hs1)
    clear hw1 hs1
    go_wp2_with fail
    go_end0
    exact HX.out
  · have K := hide (fun (o : Obj) => wtextL_any W B sv l c.t (by omega) (w.alloc o) (h.below (hA o)) (by omega) (by simp; omega))
    rw [show cellB 4 c = uvar c.t.size ++ bn c.t from rfl]
    clear h hB hc hs
    obtain ⟨cb, cx, cu, ct, cp, cq⟩ := c
    unfold CD.v clV clA
    simp only at K ⊢
    go_enter Tryz.func74, Tryz.ntmps74
    go_wp2_with fail
    refine (K.out _).mono ?_
    rintro e w1 ⟨rfl, sv1, hw1, hs1⟩
    have HX := hide (HFIN.out _ _ _ _ hw1 hs1)
    clear hw1 hs1
    go_wp2_with fail
    go_end0
    exact HX.out
  · have K := hide (fun (o : Obj) => wtextL_any W B sv l c.t (by omega) (w.alloc o) (h.below (hA o)) (by omega) (by simp; omega))
    rw [show cellB 5 c = uvar c.t.size ++ bn c.t from rfl]
    clear h hB hc hs
    obtain ⟨cb, cx, cu, ct, cp, cq⟩ := c
    unfold CD.v clV clA
    simp only at K ⊢
    go_enter Tryz.func74, Tryz.ntmps74
    go_wp2_with fail
    refine (K.out _).mono ?_
    rintro e w1 ⟨rfl, sv1, hw1, hs1⟩
    have HX := hide (HFIN.out _ _ _ _ hw1 hs1)
    clear hw1 hs1
    go_wp2_with fail
    go_end0
    exact HX.out
  · obtain ⟨a, ha, he⟩ := hc.p1
    obtain ⟨b, hb, hf⟩ := hc.q1
    have K := hide (fun (o : Obj) => pointL_any W B sv l c.p c.q (fi c.p) (fi c.q) (by rw [he, fi_int a ha]; exact wh_of a ha) (by rw [hf, fi_int b hb]; exact wh_of b hb) (fi_le ha he) (fi_le hb hf) (w.alloc o) (h.below (hA o)) (by omega) (by simp; omega))
    rw [show cellB 6 c = uvar (zz (fi c.p)) ++ uvar (zz (fi c.q)) from rfl]
    clear h hB hc hs he hf
    obtain ⟨cb, cx, cu, ct, cp, cq⟩ := c
    unfold CD.v clV clA
    simp only at K ⊢
    go_enter Tryz.func74, Tryz.ntmps74
    go_wp2_with fail
    refine (K.out _).mono ?_
    rintro e w1 ⟨rfl, sv1, hw1, hs1⟩
    have HX := hide (HFIN.out _ _ _ _ hw1 hs1)
    clear hw1 hs1
    go_wp2_with fail
    go_end0
    exact HX.out
end Go.Proofs.YtfkgmodgkifelaaGreatDoor
namespace Go.Proofs.YtfkgmodgkifelaaGreatDoor
open Go.RowKit

theorem or_128 : ∀ k : Nat, k < 128 → bits .or .u8 (k : Int) 128 = ((k + 128 : Nat) : Int) := by decide +kernel
set_option maxHeartbeats 4000000 in
set_option maxRecDepth 100000 in
theorem sput_ok (l : List Col) (hok : colsE l = 0) (v : Value) (w : World) (hT : Tabs w) (hv : InK w v l) :
    Calls Tryz.prog 31 #[v] w fun e w' => e = .returned (.string (strN (putS l))) ∧ Below w.heap.size w w' := by
  have HOK := hide (colsE_ok hok)
  have hnm : ∀ c ∈ l, c.1.size ≤ maxLen := fun c hc => by
    have := (colE_ok ((colsE_ok hok).one c hc)).2.1
    unfold maxLen; omega
  have KC := hide (columns_any l (by have := (colsE_ok hok).le; omega) hnm v w hT hv)
  rw [hok] at KC
  obtain ⟨A, ca, rfl, hlc, hcell⟩ := hv
  have HC := hide hcell
  have h1 := (colsE_ok hok).pos
  have h2 := (colsE_ok hok).le
  have HP := hide (show putS l = uvar l.length ++ l.flatMap colB from rfl)
  generalize putS l = PS at *
  clear hcell hT hlc hok hnm
  generalize hn : l.length = n at *
  have HN := hide hn
  clear hn
  have hn0 : (0 : Int) ≤ (n : Int) := by omega
  have hn1 : (n : Int) ≤ 32 := by omega
  have hwn : IntKind.u64.wrap (n : Int) = (n : Int) := by rw [IntKind.wrap_u64]; omega
  go_enter Tryz.func31, Tryz.ntmps31
  go_wp2_with fail
  refine KC.out.mono ?_
  rintro e w2 ⟨rfl, hb2⟩
  have HB2 := hide hb2
  clear hb2
  go_wp2_with fail
  have hw0 : Wr (w2.alloc (.cells #[.slice none 0 0] 77)) w2.heap.size w2.heap.size (.slice none 0 0) [] := ⟨Blk.new _ _ _, ownU8_nil _ _, Nat.le_refl _⟩
  have hb0 : Below w2.heap.size w2 (w2.alloc (.cells #[.slice none 0 0] 77)) := (Below.refl _ _).alloc (Nat.le_refl _) _
  have KU := hide (wuvar_any _ _ _ _ n (by omega) _ hw0 (by simp) (by simp))
  have HW0 := hide hw0
  have HB0 := hide hb0
  clear hw0 hb0
  refine KU.out.mono ?_
  rintro e w3 ⟨rfl, sv3, hw3, hs3⟩
  rw [List.nil_append] at hw3
  have HW3 := hide hw3
  have HB3 := hide (HB0.out.trans (hs3.below HW0.out (by simp)))
  have HUL := hide (uvar_len10 (x := n) (by omega))
  clear hw3 hs3 KU HW0 HB0
  go_wp2_with fail
  go_loopw [16] (fun iv wr => ∃ (i : Nat) (sv : Value), i ≤ n ∧ iv = .int .i64 (i : Int) ∧ Hid (Wr wr w2.heap.size w2.heap.size sv (uvar n ++ (l.take i).flatMap colB)) ∧ Hid ((uvar n ++ (l.take i).flatMap colB).length ≤ 20 + 100 * i) ∧ Hid (Below w2.heap.size w2 wr)) (fun iv _ => n - (intOf iv).toNat)
  case atStart => exact ⟨0, sv3, by omega, rfl, hide (by simpa using HW3.out), hide (by have := HUL.out; simp; omega), HB3⟩
  case round =>
    obtain ⟨i, sv, hi, rfl, hw, hlen, hb⟩ := hrel
    by_cases hlt : i < n
    · obtain ⟨x, hx⟩ : ∃ x, l[i]? = some x := ⟨l[i]'(by rw [HN.out]; exact hlt), List.getElem?_eq_getElem _⟩
      obtain ⟨g, hA, hg, hat⟩ := HC.out i x hx
      subst hA
      have hbw := HB2.out.trans (hb.out.mono HB2.out.size)
      obtain ⟨a0, a1, a2⟩ := hat.below hbw hg
      obtain ⟨s0, s64, sv', sk1, sk6⟩ := colE_ok (HOK.out.one x (List.mem_of_getElem? hx))
      have htk := take_at hx
      obtain ⟨nm, kk, nl⟩ := x
      simp only at a0 a1 a2 s0 s64 sk1 sk6
      obtain ⟨k, rfl⟩ : ∃ k : Nat, kk = k := ⟨kk.toNat, by omega⟩
      have HTK := hide (show uvar n ++ (l.take (i + 1)).flatMap colB = (uvar n ++ (l.take i).flatMap colB) ++ (uvar nm.size ++ bn nm) ++ [k + if nl then 128 else 0] by rw [htk]; simp [colB])
      have hwr : IntKind.u8.wrap (k : Int) = (k : Int) := by rw [IntKind.wrap_u8]; omega
      have hor := or_128 k (by omega)
      have hwa := (hw.out.below ((Below.refl _ _).alloc (Nat.le_refl _) (.cells #[.string nm, .int .i64 (k : Int), .bool nl] 23)))
      have KT := hide (wtextL_any _ _ _ _ nm (by omega) _ hwa (by have := hlen.out; omega) (by have := hb.out.size; simp; omega))
      have HWA := hide hwa
      have hi0 : (0 : Int) ≤ (i : Int) := by omega
      have hi1 : (i : Int) < (n : Int) := by omega
      have HLT := hide hlt
      have HBA := hide (hb.out.alloc hb.out.size (.cells #[.string nm, .int .i64 (k : Int), .bool nl] 23))
      have hul := uvar_len10 (x := nm.size) (by omega)
      have HLN := hide (show (uvar nm.size ++ bn nm).length ≤ 74 by rw [List.length_append, bn_len]; omega)
      clear hlt hx hat hg hbw htk hwa hw hb hul
      cases nl
      · go_wp2_with fail
        refine KT.out.mono ?_
        rintro e w5 ⟨rfl, sv5, hw5, hs5⟩
        have hb5 := HBA.out.trans (hs5.below HWA.out HBA.out.size)
        have K8 := hide (wu8_any _ _ _ _ (k) _ hw5 (by have := hlen.out; have := HLN.out; rw [List.length_append]; omega) hb5.size)
        have HB5 := hide hb5
        have HW5 := hide hw5
        clear hw5 hs5 hb5 KT
        go_wp2_with fail
        refine K8.out.mono ?_
        rintro e w6 ⟨rfl, sv6, hw6, hs6⟩
        have HB6 := hide (HB5.out.trans (hs6.below HW5.out HB5.out.size))
        have HW6 := hide hw6
        clear hw6 hs6 K8
        go_wp2_with fail
        go_roundw
        case rel => exact ⟨i + 1, sv6, by have := HLT.out; omega, by go_num, hide (by rw [HTK.out]; exact HW6.out), hide (by rw [HTK.out]; have := hlen.out; have := HLN.out; simp only [List.length_append, List.length_singleton] at *; omega), HB6⟩
        case measure => have := HLT.out; simp [intOf]; omega
      · go_wp2_with fail
        refine KT.out.mono ?_
        rintro e w5 ⟨rfl, sv5, hw5, hs5⟩
        have hb5 := HBA.out.trans (hs5.below HWA.out HBA.out.size)
        have K8 := hide (wu8_any _ _ _ _ (k + 128) _ hw5 (by have := hlen.out; have := HLN.out; rw [List.length_append]; omega) hb5.size)
        have HB5 := hide hb5
        have HW5 := hide hw5
        clear hw5 hs5 hb5 KT
        go_wp2_with fail
        refine K8.out.mono ?_
        rintro e w6 ⟨rfl, sv6, hw6, hs6⟩
        have HB6 := hide (HB5.out.trans (hs6.below HW5.out HB5.out.size))
        have HW6 := hide hw6
        clear hw6 hs6 K8
        go_wp2_with fail
        go_roundw
        case rel => exact ⟨i + 1, sv6, by have := HLT.out; omega, by go_num, hide (by rw [HTK.out]; exact HW6.out), hide (by rw [HTK.out]; have := hlen.out; have := HLN.out; simp only [List.length_append, List.length_singleton] at *; omega), HB6⟩
        case measure => have := HLT.out; simp [intOf]; omega
    · obtain rfl : n = i := by omega
      have hall : l.take n = l := by rw [← HN.out]; exact List.take_length
      have KS := hide (wstring_any _ _ _ _ _ hw.out)
      rw [hall, ← HP.out] at KS
      have HB := hide (HB2.out.trans (hb.out.mono HB2.out.size))
      clear hw hb hlen hall hlt hi
      go_wp2_with fail
      refine KS.out.mono ?_
      rintro e w5 ⟨rfl, rfl⟩
      go_wp2_with fail
      go_ret
      exact ⟨rfl, HB.out⟩
end Go.Proofs.YtfkgmodgkifelaaGreatDoor
namespace Go.Proofs.YtfkgmodgkifelaaGreatDoor
open Go.RowKit

theorem InK.fr_rd {w w' : World} {v : Value} {l : List Col} {R : Nat} {s : ByteArray} {p e : Nat} (h : InK w v l) (hr : Rd w R s p e) (hf : Fr w w' (fun j => j = R)) : InK w' v l := by
  obtain ⟨A, c, rfl, hlc, hc⟩ := h
  refine ⟨A, c, rfl, hlc, fun i x hx => ?_⟩
  obtain ⟨g, hA, hg, hat⟩ := hc i x hx
  have hne : ¬ g = R := by
    intro he
    subst he
    have h0 : 0 < l.length := by have := (List.getElem?_eq_some_iff.1 hx).1; omega
    obtain ⟨g', hA', _, hat'⟩ := hc 0 l[0] (List.getElem?_eq_getElem h0)
    rw [hA] at hA'
    injection hA' with hA'
    injection hA' with hA'
    subst hA'
    have h2 := hat'.c2
    have h3 := Blk.cell hr 2
    simp at h2 h3
    rw [h3] at h2
    cases h2
  have hb := hf.block g hg hne
  have hcell : ∀ o, w'.cell? ⟨g, o, none⟩ = w.cell? ⟨g, o, none⟩ := fun o => by simp [World.cell?, hb]
  exact ⟨g, hA, Nat.lt_of_lt_of_le hg hf.size, ⟨(hcell _).trans hat.c0, (hcell _).trans hat.c1, (hcell _).trans hat.c2⟩⟩
/-- Columns and a number of rows: the error, how many bytes, the columns, the rows. -/
def dcolS (D : List Nat) : Nat × Nat × List Col × Nat :=
  if (textS 1048576 D).2.2 ≠ 0 then ((textS 1048576 D).2.2, 0, [], 0)
  else if (getS (textS 1048576 D).1).1 ≠ 0 then ((getS (textS 1048576 D).1).1, 0, [], 0)
  else if (few (D.drop (textS 1048576 D).2.1) 0).2.2 ≠ 0 then ((few (D.drop (textS 1048576 D).2.1) 0).2.2, 0, [], 0)
  else if 10000 < (few (D.drop (textS 1048576 D).2.1) 0).1 then (12, 0, [], 0)
  else (0, (textS 1048576 D).2.1 + (few (D.drop (textS 1048576 D).2.1) 0).2.1, (getS (textS 1048576 D).1).2, (few (D.drop (textS 1048576 D).2.1) 0).1)
def ColPost (R : Nat) (s : ByteArray) (p : Nat) (w : World) (r : Nat × Nat × List Col × Nat) (e : Ending) (w' : World) : Prop :=
  ∃ v, e = .returned (.tuple #[v, .int .i64 (r.2.2.2 : Nat), .int .i64 (r.1 : Nat)]) ∧ InK w' v r.2.2.1 ∧ (r.1 = 0 → Rd w' R s (p + r.2.1) 0) ∧ Fr w w' (fun j => j = R)
set_option maxHeartbeats 4000000 in
set_option maxRecDepth 100000 in
theorem dcolumns_any (R : Nat) (s : ByteArray) (hs : s.size ≤ 100000) (p : Nat) (hp : p ≤ s.size) (w : World) (hT : Tabs w) (hr : Rd w R s p 0) :
    Calls Tryz.prog 26 #[.pointer (some ⟨R, 0, none⟩)] w (ColPost R s p w (dcolS ((bn s).drop p))) := by
  have hsm : s.size ≤ maxLen := by unfold maxLen; omega
  have HT := hide hT
  have HR0 := hide hr
  have hlD : ((bn s).drop p).length = s.size - p := by rw [List.length_drop, bn_len]
  obtain ⟨l1, l2, l3⟩ := textS_le3 1048576 ((bn s).drop p)
  have K1 := rtext_any R s p 0 1048576 (by omega) (by omega) hsm hp w hr
  unfold stT at K1
  simp only [if_true] at K1
  have KE := hide (fun p e w (h : Rd w R s p e) => rerr_any R s p e w h)
  have KU := hide (fun q (hq : q ≤ s.size) w (h : Rd w R s q 0) => ruvar_any R s q 0 hsm hq w h)
  have hbt : ∀ b ∈ (textS 1048576 ((bn s).drop p)).1, b < 256 := by
    by_cases h0 : (textS 1048576 ((bn s).drop p)).2.2 = 0
    · exact (textS_one (m := 1048576) (c := (textS 1048576 ((bn s).drop p)).2.1) (fun b hb => bn_lt s b (List.mem_of_mem_drop hb)) (by rw [← h0])).2.2
    · rw [(l3 h0).1]; intro b hb; cases hb
  unfold dcolS
  rcases hTx : textS 1048576 ((bn s).drop p) with ⟨t, c, e⟩
  rw [hTx] at K1 l1 l2 l3 hbt
  simp only at K1 l1 l2 l3 hbt ⊢
  have hc : p + c ≤ s.size := by omega
  have KG := hide (fun w' (hT : Tabs w') => sget_any (strN t) (by rw [strN_size]; omega) w' hT)
  rw [bn_strN t hbt] at KG
  have KK := hide K1
  clear hT hr K1 hTx l1 l2 l3 hbt hlD hsm
  rcases hg : getS t with ⟨ge, gl⟩
  rw [hg] at KG
  simp only
  rcases hf : few ((bn s).drop (p + c)) 0 with ⟨n, a, e2⟩
  have hfd : few (((bn s).drop p).drop c) 0 = (n, a, e2) := by rw [List.drop_drop]; exact hf
  rw [hfd]
  simp only
  have KU2 := KU.out (p + c) hc
  have hst : st s (p + c) 0 (fun D => few D 0) = (n, p + c + a, e2) := by rw [st_at, hf]
  rw [hst] at KU2
  simp only at KU2
  have HKU := hide KU2
  obtain ⟨RES, hRES⟩ : ∃ RES : Nat × Nat × List Col × Nat, (if e ≠ 0 then (e, 0, [], 0) else if ge ≠ 0 then (ge, 0, [], 0) else if e2 ≠ 0 then (e2, 0, [], 0) else if 10000 < n then (12, 0, [], 0) else (0, c + a, gl, n)) = RES := ⟨_, rfl⟩
  rw [hRES]
  have HRES := hide hRES
  clear hRES hst KU2 KU hf hfd hg
  go_enter Tryz.func26, Tryz.ntmps26
  go_wp2_with fail
  refine KK.out.mono ?_
  rintro e1 w1 ⟨rfl, hr1, hf1⟩
  have HR1 := hide hr1
  have HF1 := hide hf1
  have KE1 := hide (KE.out _ _ w1 hr1)
  have HT1 := hide (HT.out.fr HR0.out hf1)
  clear hr1 hf1 KK
  go_wp2_with fail
  refine KE1.out.mono ?_
  rintro e1 w2 ⟨rfl, rfl⟩
  by_cases he : e = 0
  · subst he
    have hres := HRES.out
    rw [if_neg (by simp)] at hres
    have HRS := hide hres
    clear HRES hres
    have KG1 := hide (KG.out w1 HT1.out)
    go_wp2_with fail
    refine KG1.out.mono ?_
    rintro e1 w2 ⟨v, rfl, hv, hb2⟩
    have HV := hide hv
    have HR2 := hide (Blk.below HR1.out hb2 (Blk.lt HR1.out))
    have HF2 := hide (HF1.out.trans (Fr.of_below hb2 _) (fun _ _ h => h))
    clear hv hb2 KG1
    by_cases hge : ge = 0
    · subst hge
      have hres := HRS.out
      rw [if_neg (by simp)] at hres
      have HRS2 := hide hres
      have KU3 := hide (HKU.out w2 HR2.out)
      clear HRS hres
      go_wp2_with fail
      refine KU3.out.mono ?_
      rintro e1 w3 ⟨rfl, hr3, hf3⟩
      have KE3 := hide (KE.out _ _ w3 hr3)
      have HR3 := hide hr3
      have HF3 := hide (HF2.out.trans hf3 (fun _ _ h => h))
      have HF33 := hide hf3
      clear hr3 hf3 KU3
      go_wp2_with fail
      refine KE3.out.mono ?_
      rintro e1 w4 ⟨rfl, rfl⟩
      by_cases h2 : e2 = 0
      · subst h2
        have hres := HRS2.out
        rw [if_neg (by simp)] at hres
        have HV3 := hide (InK.fr_rd HV.out HR2.out HF33.out)
        clear HRS2
        by_cases hbig : 10000 < n
        · obtain rfl : (12, 0, [], 0) = RES := by rw [← hres, if_pos hbig]
          have hb' : (10000 : Int) < (n : Int) := by omega
          clear hres hbig
          go_wp2_with fail
          go_ret3
          exact ⟨_, rfl, inK_nil _, fun h => absurd h (by simp), HF3.out⟩
        · obtain rfl : (0, c + a, gl, n) = RES := by rw [← hres, if_neg hbig]
          have hb' : (n : Int) ≤ 10000 := by omega
          have hwn : IntKind.i64.wrap (n : Int) = (n : Int) := by rw [IntKind.wrap_i64]; omega
          clear hres hbig
          go_wp2_with fail
          go_ret3
          exact ⟨_, rfl, HV3.out, fun _ => by rw [← Nat.add_assoc]; exact HR3.out, HF3.out⟩
      · have hne : ((e2 : Int) != 0) = true := by rw [bne_iff_ne]; omega
        obtain rfl : (e2, 0, [], 0) = RES := by rw [← HRS2.out, if_pos h2]
        go_wp2_with fail
        refine KE3.out.mono ?_
        rintro e1 w4 ⟨rfl, rfl⟩
        go_wp2_with fail
        go_ret3
        exact ⟨_, rfl, inK_nil _, fun h => absurd h h2, HF3.out⟩
    · have hne : ((ge : Int) != 0) = true := by rw [bne_iff_ne]; omega
      obtain rfl : (ge, 0, [], 0) = RES := by rw [← HRS.out, if_pos hge]
      go_wp2_with fail
      go_ret3
      exact ⟨_, rfl, inK_nil _, fun h => absurd h hge, HF2.out⟩
  · have hne : ((e : Int) != 0) = true := by rw [bne_iff_ne]; omega
    obtain rfl : (e, 0, [], 0) = RES := by rw [← HRES.out, if_pos he]
    go_wp2_with fail
    go_ret3
    exact ⟨_, rfl, inK_nil _, fun h => absurd h he, HF1.out⟩
end Go.Proofs.YtfkgmodgkifelaaGreatDoor
namespace Go.Proofs.YtfkgmodgkifelaaGreatDoor
open Go.RowKit

theorem fixN_leD : ∀ (l : List Nat), (∀ b ∈ l, b < 256) → fixN (le l) l.length = l := by
  intro l hl
  have key : ∀ (n : Nat) (l : List Nat), l.length = n → (∀ b ∈ l, b < 256) → ∀ y, fixN (le l + 256 ^ n * y) n = l := by
    intro n
    induction n with
    | zero => intro l hl _ y; rw [List.eq_nil_of_length_eq_zero hl]; rfl
    | succ n ih =>
      intro l hl hb y
      obtain ⟨m, b, rfl⟩ : ∃ m b, l = m ++ [b] := ⟨l.dropLast, l.getLast (by intro h; rw [h] at hl; simp at hl), (List.dropLast_concat_getLast (by intro h; rw [h] at hl; simp at hl)).symm⟩
      have hm : m.length = n := by simpa using hl
      have hb' := hb b (by simp)
      rw [le_snoc, hm, fixN]
      have e : le m + b * 256 ^ n + 256 ^ (n + 1) * y = le m + 256 ^ n * (b + 256 * y) := by
        rw [Nat.pow_succ, Nat.mul_add, Nat.mul_comm b, Nat.mul_assoc, Nat.add_assoc]
      rw [e, ih m hm (fun c hc => hb c (by simp [hc]))]
      have h1 := le_lt m (fun c hc => hb c (by simp [hc]))
      rw [hm] at h1
      rw [Nat.add_mul_div_left _ _ (Nat.pow_pos (by omega)), Nat.div_eq_of_lt h1]
      congr 2
      omega
  have := key l.length l rfl hl 0
  simpa using this
theorem num_one {n : Nat} {D : List Nat} (hD : ∀ b ∈ D, b < 256) (h : (num n D).2.2 = 0) : D.take (num n D).2.1 = fixN (num n D).1 n ∧ (num n D).2.1 = n := by
  unfold num at h ⊢
  split
  · rename_i hc
    rw [if_pos hc] at h
    cases h
  · rename_i hc
    have := fixN_leD (D.take n) (fun b hb => hD b (List.mem_of_mem_take hb))
    rw [List.length_take, Nat.min_eq_left (by omega)] at this
    exact ⟨this.symm, rfl⟩
set_option maxRecDepth 100000 in
theorem gp_one (k : Int) (h1 : 1 ≤ k) (h6 : k ≤ 6) (D : List Nat) (hD : ∀ b ∈ D, b < 256) (h : (gp k D).2.2.2 = 0) : D.take (gp k D).2.1 = cellB k (gp k D).1 := by
  have hk : k = 1 ∨ k = 2 ∨ k = 3 ∨ k = 4 ∨ k = 5 ∨ k = 6 := by omega
  rcases hk with rfl | rfl | rfl | rfl | rfl | rfl
  · rw [show gp 1 D = gp1 D from rfl] at h ⊢
    unfold gp1 at h ⊢
    by_cases h0 : (num 1 D).2.2 = 0
    · rw [if_pos h0] at h ⊢
      by_cases hb : (num 1 D).1 ≤ 1
      · rw [if_pos hb] at h ⊢
        obtain ⟨o1, _⟩ := num_one hD h0
        simp only
        rw [o1]
        have : (num 1 D).1 = 0 ∨ (num 1 D).1 = 1 := by omega
        rcases this with e | e <;> rw [e] <;> rfl
      · rw [if_neg hb] at h; cases h
    · rw [if_neg h0] at h; exact absurd h h0
  · rw [show gp 2 D = gp2 D from rfl] at h ⊢
    unfold gp2 at h ⊢
    by_cases h0 : (num 8 D).2.2 = 0
    · rw [if_pos h0]
      obtain ⟨o1, _⟩ := num_one hD h0
      have h8 := num8_lt hD
      simp only
      rw [o1]
      show fixN (num 8 D).1 8 = fixN (wrap64 ((num 8 D).1 : Nat) % 18446744073709551616).toNat 8
      congr 1
      unfold wrap64
      omega
    · rw [if_neg h0] at h; exact absurd h h0
  · rw [show gp 3 D = gp3 D from rfl] at h ⊢
    unfold gp3 at h ⊢
    by_cases h0 : (num 8 D).2.2 = 0
    · rw [if_pos h0]
      obtain ⟨o1, _⟩ := num_one hD h0
      simp only
      rw [o1]
      simp [cellB]
    · rw [if_neg h0] at h; exact absurd h h0
  · rw [show gp 4 D = gp4 D from rfl] at h ⊢
    unfold gp4 at h ⊢
    by_cases h0 : (textS 1048576 D).2.2 = 0
    · rw [if_pos h0]
      obtain ⟨o1, _, o3⟩ := textS_one (m := 1048576) (t := (textS 1048576 D).1) (c := (textS 1048576 D).2.1) hD (by rw [← h0])
      simp only
      rw [o1]
      simp [cellB, strN_size, bn_strN _ o3]
    · rw [if_neg h0] at h; exact absurd h h0
  · rw [show gp 5 D = gp5 D from rfl] at h ⊢
    unfold gp5 at h ⊢
    by_cases h0 : (textS 1048576 D).2.2 = 0
    · rw [if_pos h0] at h ⊢
      by_cases hv : Lib.validD (strN (textS 1048576 D).1).data.toList = true
      · rw [if_pos hv]
        obtain ⟨o1, _, o3⟩ := textS_one (m := 1048576) (t := (textS 1048576 D).1) (c := (textS 1048576 D).2.1) hD (by rw [← h0])
        simp only
        rw [o1]
        simp [cellB, strN_size, bn_strN _ o3]
      · rw [if_neg hv] at h; cases h
    · rw [if_neg h0] at h; exact absurd h h0
  · rw [show gp 6 D = gp6 D from rfl] at h ⊢
    unfold gp6 at h ⊢
    by_cases h0 : (few D 0).2.2 = 0
    · rw [if_pos h0] at h ⊢
      by_cases h2 : (few (D.drop (few D 0).2.1) 0).2.2 = 0
      · rw [if_pos h2] at h ⊢
        by_cases hf : farB (back (few D 0).1) = true ∨ farB (back (few (D.drop (few D 0).2.1) 0).1) = true
        · rw [if_pos hf] at h; cases h
        · rw [if_neg hf]
          obtain ⟨g1, _⟩ := few_one D 0 hD h0
          obtain ⟨g2, _⟩ := few_one (D.drop (few D 0).2.1) 0 (fun b hb => hD b (List.mem_of_mem_drop hb)) h2
          simp only
          rw [List.take_add, g1, g2]
          show _ = uvar (zz (fi (floatOfInt .f64 (back (few D 0).1)))) ++ uvar (zz (fi (floatOfInt .f64 (back (few (D.drop (few D 0).2.1) 0).1))))
          rw [fi_int _ (far_abs (fun h => hf (.inl h))), fi_int _ (far_abs (fun h => hf (.inr h))), zz_back, zz_back]
      · rw [if_neg h2] at h; exact absurd h h2
    · rw [if_neg h0] at h; exact absurd h h0
end Go.Proofs.YtfkgmodgkifelaaGreatDoor
