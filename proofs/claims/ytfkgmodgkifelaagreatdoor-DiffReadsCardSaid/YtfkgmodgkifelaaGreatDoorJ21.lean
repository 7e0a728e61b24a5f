/- delta.Decode's loop, over any contracts of its steps. -/
import Derived.Test.YtfkgmodgkifelaaGreatDoorJ20
namespace Go.Proofs.YtfkgmodgkifelaaGreatDoor
open Go.RowKit

/-- The first of n errors. -/
def eN (f : Nat → Nat) : Nat → Nat
  | 0 => 0
  | n + 1 => if eN f n = 0 then f n else eN f n
theorem eN_succ (f : Nat → Nat) (n : Nat) (h : eN f n = 0) : eN f (n + 1) = f n := by
  show (if eN f n = 0 then _ else _) = _
  rw [if_pos h]
theorem eN_stay (f : Nat → Nat) (i : Nat) (h : eN f i ≠ 0) : ∀ n, i ≤ n → eN f n = eN f i
  | 0, hn => by obtain rfl : i = 0 := by omega
                rfl
  | n + 1, hn => by
    rcases Nat.lt_or_eq_of_le hn with hlt | heq
    · have ih := eN_stay f i h n (by omega)
      show (if eN f n = 0 then _ else _) = _
      rw [if_neg (by rw [ih]; exact h), ih]
    · rw [heq]
theorem eN_le (f : Nat → Nat) : ∀ n, eN f n = 0 → ∀ i, i < n → f i = 0 ∧ eN f i = 0
  | 0, _, i, hi => by omega
  | n + 1, h, i, hi => by
    have h0 : eN f n = 0 := by
      apply Classical.byContradiction
      intro hne
      have := eN_stay f n hne (n + 1) (by omega)
      omega
    rcases Nat.lt_or_eq_of_le (Nat.le_of_lt_succ hi) with hlt | heq
    · exact eN_le f n h0 i hlt
    · subst heq
      exact ⟨by rw [← eN_succ f i h0]; exact h, h0⟩
/-- What n rounds give, over the errors, the places, the cells. -/
def outR (f p : Nat → Nat) (len : Nat) (c : Nat → CD) (n : Nat) : Nat × List CD :=
  if eN f n = 0 then (if p n < len then (11, []) else (0, (List.range n).map c)) else (eN f n, [])
theorem outR_err (f p : Nat → Nat) (len : Nat) (c : Nat → CD) (i n : Nat) (hi : i < n) (h : eN f i = 0) (he : f i ≠ 0) : outR f p len c n = (f i, []) := by
  have h1 := eN_succ f i h
  have h2 := eN_stay f (i + 1) (by rw [h1]; exact he) n hi
  unfold outR
  rw [h2, h1, if_neg he]
set_option maxHeartbeats 8000000 in
set_option maxRecDepth 100000 in
theorem ddecode_of (k : Int) (hk : k = 2 ∨ k = 3 ∨ k = 6) (s : ByteArray) (n : Nat) (hn : n ≤ 10000) (w : World) (hT : Tabs w) (hs : s.size ≤ maxLen)
    (p : Nat → Nat) (hp0 : Hid (p 0 = 0)) (hp : ∀ i, p i ≤ s.size) (c st : Nat → CD) (hc0 : Hid (c 0 = CD.z)) (er e' m f : Nat → Nat) (r : Nat → Bool)
    (hf : ∀ i, Hid (f i = if er i = 0 then (if r i = true then 0 else 12) else er i)) (hpS : ∀ i, Hid (p (i + 1) = p i + m i)) (he' : ∀ i, er i = 0 → e' i = 0)
    (HN : ∀ i, eN f i = 0 → ∀ R w, Rd w R s (p i) 0 → Tabs w → Calls Tryz.prog 140 #[.pointer (some ⟨R, 0, none⟩), .int .i64 k] w (GPost R w s (st i).v (er i) (p i + m i) (e' i)))
    (HR : ∀ i, eN f i = 0 → er i = 0 → ∀ w, Calls Tryz.prog 139 #[.complex .f64 (c i).p (c i).q, .complex .f64 (st i).p (st i).q] w fun e w' => e = .returned (.bool (r i)) ∧ w = w')
    (HG : ∀ i, eN f i = 0 → er i = 0 → r i = true → ∀ w, Calls Tryz.prog 141 #[.int .i64 k, (c i).v, (st i).v] w fun e w' => e = .returned (.tuple #[(c (i + 1)).v, .int .i64 0]) ∧ Below w.heap.size w w') :
    Calls Tryz.prog 92 #[.int .i64 k, .string s, .int .i64 n] w (DPost w (outR f p s.size (fun i => c (i + 1)) n)) := by
  have KH := hide (has_any k hk)
  have KR := hide (rd_new s)
  have hn0 : (0 : Int) ≤ (n : Int) := by omega
  have hn1 : (n : Int) ≤ 10000 := by omega
  have KD1 := hide (fun (R : Nat) (h : p n < s.size) (w : World) (hr : Rd w R s (p n) 0) => rdone_long R s (p n) hs h w hr)
  have KD2 := hide (fun (R : Nat) (h : ¬ p n < s.size) (w : World) (hr : Rd w R s (p n) 0) => rdone_all R s (p n) hs (hp n) h w hr)
  obtain ⟨i0, hi, hz0, hz1, hz2⟩ := info_parts info_cC
  have HT := hide hT
  have KN := hide HN
  have KRe := hide HR
  have KG := hide HG
  have HF := hide hf
  have HPS := hide hpS
  have HE' := hide he'
  clear hT hs hp HN HR HG hk hf hpS he'
  have hst := fun (w1 : World) (a1 : Addr) (m : Mode) (x y : Nat) => run_store Tryz.prog w1 a1 (.complex .f64 x y) m rfl
  go_enter Tryz.func92, Tryz.ntmps92
  go_wp2_with fail
  refine (KH.out _).mono ?_
  rintro e w0 ⟨rfl, rfl⟩
  go_wp2_with fail
  refine (KR.out _).mono ?_
  rintro e w1 ⟨R, rfl, hr1, hR, hb1⟩
  have HRL : R < w1.heap.size := hr1.lt
  have HRd := hide (hr1.alloc (.cells (clA false 0 0 ByteArray.empty 0 0) 45))
  have HB1 := hide (hb1.alloc hb1.size (.cells (clA false 0 0 ByteArray.empty 0 0) 45))
  have hBL : w.heap.size ≤ w1.heap.size := hb1.size
  have HBl := hide (Blk.new w1 (clA false 0 0 ByteArray.empty 0 0) 45)
  clear hr1 hb1
  go_wp2_with fail
  unfold clA at HRd HB1
  go_loopw [9, 28] (fun lv iv wr => ∃ i : Nat, i ≤ n ∧ iv = .int .i64 (i : Int) ∧ Hid (eN f i = 0) ∧ wr.ownsRow w.heap.size 45 6 lv i (((List.range i).map (fun j => c (j + 1))).flatMap cellsC) ∧ (∀ k, lv.ownBlock = some k → k ≠ w1.heap.size) ∧ Blk wr w1.heap.size 45 (clA (c i).b (c i).x (c i).u (c i).t (c i).p (c i).q) ∧ Rd wr R s (p i) 0 ∧ Below w.heap.size w wr) (fun _ iv _ => n - (intOf iv).toNat)
  case atStart => exact ⟨0, by omega, rfl, rfl, World.ownsRow_nil _ _ _ _, fun k h => by simp [Value.ownBlock] at h, by rw [hc0.out]; exact HBl.out, by rw [hp0.out]; exact HRd.out, HB1.out⟩
  case round =>
    obtain ⟨i, hin, rfl, he, ha, hne, hbl, hrd, hbe⟩ := hrel
    obtain ⟨Aa, ca, rfl⟩ := own_form3 ha
    generalize hLL : w1.heap.size = L at *
    clear hLL
    by_cases hlt : i < n
    · have K := hide (KN.out i he.out R wr hrd (HT.out.below hbe))
      have K2 := hide (KRe.out i he.out)
      have K3 := hide (KG.out i he.out)
      have HC : Hid ((List.range (i + 1)).map (fun j => c (j + 1)) = (List.range i).map (fun j => c (j + 1)) ++ [c (i + 1)]) := by show _ = _; rw [List.range_succ, List.map_append]; rfl
      have HE : Hid (eN f (i + 1) = f i) := eN_succ f i he.out
      have HX := hide (fun h => outR_err f p s.size (fun i => c (i + 1)) i n hlt he.out h)
      have HFi := hide (HF.out i).out
      have hPi := hide (HPS.out i).out
      have hE := HE'.out i
      generalize er i = eri at *
      generalize e' i = ei' at *
      generalize r i = ri at *
      generalize m i = mi at *
      generalize st i = sti at *
      obtain ⟨sb, sx, su, stt, sp, sq⟩ := sti
      have HCi : Hid (c i = c i) := rfl
      generalize hci : c i = ci at *
      clear hci HCi
      obtain ⟨cb, cx, cu, ct, cp, cq⟩ := ci
      unfold CD.v clV clA at K K3
      simp only at K K2 K3 hbl
      have HA := hide ha
      have HNE := hide hne
      have HBL := hide hbl
      have HRD := hide hrd
      have HBE := hide hbe
      have hLr : L < wr.heap.size := hbl.lt
      clear ha hne hbl hrd hbe
      by_cases h0 : eri = 0
      · obtain rfl := hE h0
        subst h0
        have hFF := HFi.out
        rw [if_pos rfl] at hFF
        have HFF := hide hFF
        have K2' := hide (K2.out rfl)
        have K3' := hide (K3.out rfl)
        clear hFF HFi hE K2 K3
        go_wp2_with fail
        refine K.out.mono ?_
        rintro e w2 ⟨rfl, hr2, hf2⟩
        have HR2 := hide hr2
        have hbl2 := HBL.out.fr hf2 (by omega)
        have HBL2 := hide hbl2
        have hL2 := hbl2.lt
        have HA2 := hide (own_fr HA.out hf2 (fun j hj h => own_ne_blk HA.out HRD.out (by decide) (by rw [hj, h])))
        have HB2 := hide (HBE.out.trans (hf2.below HBE.out.size (fun j hj => by omega)))
        obtain ⟨a0, a1, a2, a3, a4, a5, f0, f1, f2, f3, f4, f5⟩ := Blk.six (by exact hbl2)
        clear hr2 hf2 hbl2
        cases ri
        · clear K3'
          have hFF := HFF.out
          rw [if_neg Bool.false_ne_true] at hFF
          have HX2 := hide (HX.out (by omega))
          rw [hFF] at HX2
          clear hFF HX
          go_wp2_with fail
          refine (K2'.out _).mono ?_
          rintro e w3 ⟨rfl, rfl⟩
          go_wp2_with fail
          go_ret2
          rw [HX2.out]
          exact ⟨_, rfl, inC_nil _, HB2.out.alloc HB2.out.size _⟩
        · have hFF := HFF.out
          rw [if_pos rfl] at hFF
          have HE2 : Hid (eN f (i + 1) = 0) := HE.out.trans hFF
          have HCv : Hid (c (i + 1) = c (i + 1)) := rfl
          generalize hci : c (i + 1) = ci at *
          have HCI := hide hci
          clear hci HCv hFF HX
          obtain ⟨eb, ex, eu, et, ep, eq⟩ := ci
          have K3'' := hide (K3'.out rfl)
          simp only at K3''
          clear K3'
          go_wp2_with fail
          refine (K2'.out _).mono ?_
          rintro e w3 ⟨rfl, rfl⟩
          go_wp2_with fail
          refine (K3''.out _).mono ?_
          rintro e w4 ⟨rfl, hb4⟩
          have hz4 := hb4.size
          simp at hz4
          have hbl4 := (HBL2.out.alloc _).below hb4 (HBL2.out.alloc _).lt
          have hL4 := hbl4.lt
          have HBL4 := hide hbl4
          have HA4 := hide (own_below (HA2.out.alloc _) hb4)
          have HR4 := hide ((HR2.out.alloc _).below hb4 (HR2.out.alloc _).lt)
          have HB4 := hide ((HB2.out.alloc HB2.out.size _).trans (hb4.mono (by simp; exact Nat.le_succ_of_le HB2.out.size)))
          clear a0 a1 a2 a3 a4 a5 f0 f1 f2 f3 f4 f5
          obtain ⟨a0, a1, a2, a3, a4, a5, f0, f1, f2, f3, f4, f5⟩ := Blk.six (by exact hbl4)
          clear hb4 hbl4
          have HFs := hide (st6_fr w4 L (.bool false) (.bool eb) (.int .i64 ex) (.int .u64 eu) (.string et) (.complex .f64 ep eq))
          have HA5 := hide (own_fr HA4.out HFs.out (fun j hj h => HNE.out j hj h))
          have HB5 := hide (HB4.out.trans (HFs.out.below HB4.out.size (fun j hj => by omega)))
          have HR5 := hide (HR4.out.fr HFs.out (by omega))
          have HBL5 := hide (st6_blk HBL4.out (.bool false) (.bool eb) (.int .i64 ex) (.int .u64 eu) (.string et) (.complex .f64 ep eq))
          have HZ5 : Hid ((st6 w4 L (.bool false) (.bool eb) (.int .i64 ex) (.int .u64 eu) (.string et) (.complex .f64 ep eq)).heap.size = w4.heap.size) := by show _ = _; simp [st6]
          have HNB := hide (Blk.new (st6 w4 L (.bool false) (.bool eb) (.int .i64 ex) (.int .u64 eu) (.string et) (.complex .f64 ep eq)) (clA eb ex eu et ep eq) 45)
          rw [HZ5.out] at HNB
          have hB4s := HB4.out.size
          unfold st6 at HA5 HB5 HR5 HBL5 HNB
          unfold clA at HNB
          clear HFs HZ5
          go_wp2_with (at_builtin; refine wpList_append_own_at _ rfl _ _ 25 rfl w.heap.size 45 i0 _ 6 56 Tryz.underlying25 hi hz0 hz1 hz2 rfl (by decide) _ _ _ rfl (HA5.out.alloc _) ⟨w4.heap.size, 0, none⟩ 1 1 [.bool false, .bool eb, .int .i64 ex, .int .u64 eu, .string et, .complex .f64 ep eq] rfl rfl (World.news_of_block HNB.out.out) (by simp [Value.oneCell']) (by simp only [maxLen]; omega) (by omega) (by simp; omega) ?_; intro v1 w5 hown1 hgrow1 _ hat1)
          have HB6 := hide ((HB5.out.alloc (by simp; exact hB4s) _).grown hgrow1 (by simp; omega) (fun j hj => (HA5.out.lt j hj).1))
          have HBL6 := hide ((HBL5.out.alloc _).grown hgrow1 (fun h => HNE.out L h.symm rfl))
          have HR6 := hide ((HR5.out.alloc _).grown hgrow1 (fun h => own_ne_blk HA5.out HR5.out (by decide) h.symm))
          have HN6 : Hid (∀ k, v1.ownBlock = some k → k ≠ L) := fun j hj => by
            rcases hat1 with h | h
            · exact HNE.out j (h ▸ hj)
            · rw [h] at hj
              injection hj with hj
              simp at hj
              omega
          have HA6 : Hid (w5.ownsRow w.heap.size 45 6 v1 (i + 1) (((List.range (i + 1)).map (fun j => c (j + 1))).flatMap cellsC)) := by
            show World.ownsRow _ _ _ _ _ _ _
            rw [HC.out, cellsC_snoc]; exact hown1
          clear hown1 hgrow1 hat1
          go_roundw
          case rel => exact ⟨i + 1, by omega, by go_num, HE2, HA6.out, HN6.out, by rw [HCI.out]; exact HBL6.out, by rw [hPi.out]; exact HR6.out, HB6.out⟩
          case measure => simp [intOf] <;> omega
      · have hne2 : ((eri : Int) != 0) = true := by rw [bne_iff_ne]; omega
        have hFF := HFi.out
        rw [if_neg h0] at hFF
        have HX2 := hide (HX.out (by omega))
        rw [hFF] at HX2
        clear h0 hE HX hFF HFi
        go_wp2_with fail
        refine K.out.mono ?_
        rintro e w2 ⟨rfl, hr2, hf2⟩
        have HB2 := hide (HBE.out.trans (hf2.below HBE.out.size (fun j hj => by omega)))
        clear hr2 hf2
        go_wp2_with fail
        go_ret2
        rw [HX2.out]
        exact ⟨_, rfl, inC_nil _, HB2.out.alloc HB2.out.size _⟩
    · obtain rfl : i = n := by omega
      have HRD := hide hrd
      have HA := hide ha
      have HBE := hide hbe
      clear ha hrd hbe hne hbl
      by_cases hp : p i < s.size
      · have K := hide (KD1.out R hp wr HRD.out)
        have HX : Hid (outR f p s.size (fun i => c (i + 1)) i = (11, [])) := by show _ = _; unfold outR; rw [if_pos he.out, if_pos hp]
        clear hp KD1 KD2
        go_wp2_with fail
        refine K.out.mono ?_
        rintro e w1 ⟨rfl, hb1⟩
        have HB2 := hide (HBE.out.trans (hb1.mono HBE.out.size))
        clear hb1
        go_wp2_with fail
        go_ret2
        rw [HX.out]
        exact ⟨_, rfl, inC_nil _, HB2.out⟩
      · have K := hide (KD2.out R hp wr HRD.out)
        have HX : Hid (outR f p s.size (fun i => c (i + 1)) i = (0, (List.range i).map (fun i => c (i + 1)))) := by show _ = _; unfold outR; rw [if_pos he.out, if_neg hp]
        clear hp KD1 KD2
        go_wp2_with fail
        refine K.out.mono ?_
        rintro e w1 ⟨rfl, hb1⟩
        have HB2 := hide (HBE.out.trans (hb1.mono HBE.out.size))
        have HA2 := hide (own_below HA.out hb1)
        clear hb1
        go_wp2_with fail
        go_ret2
        rw [HX.out]
        exact ⟨_, rfl, inC_own HA2.out (by simp), HB2.out⟩

/-- A place, and what has been summed up. -/
structure DSt where
  pos : Nat
  now : Nat
  A : Int
  B : Int
def dA (D : List Nat) : Int := back (few D 0).1
def dB (D : List Nat) : Int := back (few (D.drop (few D 0).2.1) 0).1
def dlen (k : Int) (D : List Nat) : Nat := if k = 6 then (gp 6 D).2.1 else (few D 0).2.1
def derr (k : Int) (D : List Nat) : Nat := if k = 6 then (gp 6 D).2.2.2 else (few D 0).2.2
def derr' (k : Int) (D : List Nat) : Nat := if k = 6 then (gp 6 D).2.2.1 else (few D 0).2.2
def dstp (k : Int) (D : List Nat) : CD := if k = 6 then (gp 6 D).1 else ⟨false, dA D, 0, ByteArray.empty, 0, 0⟩
def dsq (k : Int) (D : List Nat) : Nat → DSt
  | 0 => ⟨0, 0, 0, 0⟩
  | i + 1 => ⟨(dsq k D i).pos + dlen k (D.drop (dsq k D i).pos), ((((dsq k D i).now : Int) + dA (D.drop (dsq k D i).pos)) % 18446744073709551616).toNat, (dsq k D i).A + dA (D.drop (dsq k D i).pos), (dsq k D i).B + dB (D.drop (dsq k D i).pos)⟩
def dcell (k : Int) (σ : DSt) : CD := if k = 2 then ⟨false, wrap64 σ.now, 0, ByteArray.empty, 0, 0⟩ else if k = 3 then ⟨false, 0, σ.now, ByteArray.empty, 0, 0⟩ else ⟨false, 0, 0, ByteArray.empty, floatOfInt .f64 σ.A, floatOfInt .f64 σ.B⟩
def drch (k : Int) (D : List Nat) (i : Nat) : Bool := if k = 6 then (!farB ((dsq k D i).A + dA (D.drop (dsq k D i).pos)) && !farB ((dsq k D i).B + dB (D.drop (dsq k D i).pos))) else true
def dferr (k : Int) (D : List Nat) (i : Nat) : Nat := if derr k (D.drop (dsq k D i).pos) = 0 then (if drch k D i = true then 0 else 12) else derr k (D.drop (dsq k D i).pos)
theorem gp6_ok (D : List Nat) (h : (gp 6 D).2.2.2 = 0) : (gp 6 D).1 = ⟨false, 0, 0, ByteArray.empty, floatOfInt .f64 (dA D), floatOfInt .f64 (dB D)⟩ ∧ farB (dA D) = false ∧ farB (dB D) = false := by
  have e : gp 6 D = gp6 D := rfl
  rw [e] at h ⊢
  unfold gp6 at h ⊢
  unfold dA dB
  by_cases h1 : (few D 0).2.2 = 0
  · rw [if_pos h1] at h ⊢
    by_cases h2 : (few (D.drop (few D 0).2.1) 0).2.2 = 0
    · rw [if_pos h2] at h ⊢
      by_cases h3 : farB (back (few D 0).1) = true ∨ farB (back (few (D.drop (few D 0).2.1) 0).1) = true
      · rw [if_pos h3] at h; cases h
      · rw [if_neg h3]
        rw [not_or] at h3
        exact ⟨rfl, by simpa using h3.1, by simpa using h3.2⟩
    · rw [if_neg h2] at h; exact absurd h h2
  · rw [if_neg h1] at h; exact absurd h h1
theorem dlen_le (k : Int) (D : List Nat) : dlen k D ≤ D.length := by
  unfold dlen; split
  · exact gp_le 6 D
  · exact few_le0 D
theorem dpos_le (k : Int) (D : List Nat) : ∀ i, (dsq k D i).pos ≤ D.length
  | 0 => by show 0 ≤ _; omega
  | i + 1 => by
    have h1 := dpos_le k D i
    have h2 := dlen_le k (D.drop (dsq k D i).pos)
    rw [List.length_drop] at h2
    show (dsq k D i).pos + dlen k (D.drop (dsq k D i).pos) ≤ _
    omega
theorem dnow_lt (k : Int) (D : List Nat) : ∀ i, (dsq k D i).now < 18446744073709551616
  | 0 => by show 0 < _; omega
  | i + 1 => by show (_ % _ : Int).toNat < _; omega
/-- As long as nothing is wrong, the sums are not too far from 0. -/
theorem dnear (D : List Nat) (i : Nat) (h : eN (dferr 6 D) i = 0) : (dsq 6 D i).A.natAbs ≤ 9007199254740992 ∧ (dsq 6 D i).B.natAbs ≤ 9007199254740992 := by
  cases i with
  | zero => exact ⟨by show (0 : Int).natAbs ≤ _; simp, by show (0 : Int).natAbs ≤ _; simp⟩
  | succ i =>
    have hf := (eN_le (dferr 6 D) (i + 1) h i (by omega)).1
    unfold dferr at hf
    split at hf
    · split at hf
      · rename_i hr
        unfold drch at hr
        rw [if_pos rfl, Bool.and_eq_true, Bool.not_eq_true', Bool.not_eq_true'] at hr
        exact ⟨farB_no hr.1, farB_no hr.2⟩
      · cases hf
    · rename_i hne; exact absurd hf hne
theorem float0 : floatOfInt .f64 0 = 0 := by kernel_rfl
theorem dcell0 (k : Int) (D : List Nat) : dcell k (dsq k D 0) = CD.z := by
  unfold dcell dsq CD.z
  simp only [float0]
  split
  · rw [wrap0]
  · split <;> rfl
theorem wrap_now (n : Nat) (b : Int) : wrap64 (wrap64 (n : Int) + b) = wrap64 ((((n : Int) + b) % 18446744073709551616).toNat : Nat) := by
  unfold wrap64; omega
set_option maxHeartbeats 1000000 in
set_option maxRecDepth 100000 in
theorem has_no (k : Int) (hk : ¬ (k = 2 ∨ k = 3 ∨ k = 6)) (w : World) : Calls Tryz.prog 135 #[.int .i64 k] w fun e w' => e = .returned (.bool false) ∧ w = w' := by
  have h2 : ((k : Int) == 2) = false := by rw [beq_eq_false_iff_ne]; omega
  have h3 : ((k : Int) == 3) = false := by rw [beq_eq_false_iff_ne]; omega
  have h6 : ((k : Int) == 6) = false := by rw [beq_eq_false_iff_ne]; omega
  clear hk
  go_enter Tryz.func135, Tryz.ntmps135
  go_wp2_with fail
  go_ret
  exact ⟨rfl, rfl⟩
/-- What delta.Decode gives at a kind that has steps. -/
def decD (k : Int) (D : List Nat) (n : Nat) : Nat × List CD := outR (dferr k D) (fun i => (dsq k D i).pos) D.length (fun i => dcell k (dsq k D (i + 1))) n
theorem ddecode_loop (k : Int) (hk : k = 2 ∨ k = 3 ∨ k = 6) (s : ByteArray) (hs : s.size ≤ maxLen) (n : Nat) (hn : n ≤ 10000) (w : World) (hT : Tabs w) :
    Calls Tryz.prog 92 #[.int .i64 k, .string s, .int .i64 n] w (DPost w (decD k (bn s) n)) := by
  have hpl : ∀ i, (dsq k (bn s) i).pos ≤ s.size := fun i => by have := dpos_le k (bn s) i; rw [bn_len] at this; exact this
  unfold decD
  rw [bn_len]
  refine ddecode_of k hk s n hn w hT hs (fun i => (dsq k (bn s) i).pos) rfl hpl (fun i => dcell k (dsq k (bn s) i)) (fun i => dstp k ((bn s).drop (dsq k (bn s) i).pos)) (dcell0 k (bn s))
    (fun i => derr k ((bn s).drop (dsq k (bn s) i).pos)) (fun i => derr' k ((bn s).drop (dsq k (bn s) i).pos)) (fun i => dlen k ((bn s).drop (dsq k (bn s) i).pos)) (dferr k (bn s)) (drch k (bn s)) (fun i => rfl) (fun i => rfl) ?_ ?_ ?_ ?_
  · intro i h
    unfold derr at h
    unfold derr'
    split
    · rename_i h6; rw [if_pos h6] at h; exact gp_e _ _ h
    · rename_i h6; rw [if_neg h6] at h; exact h
  · intro i _ R w hr hT
    by_cases h6 : k = 6
    · subst h6
      exact next_point R s _ hs (hpl i) w hr hT
    · have hk6 : ((k : Int) == 6) = false := by rw [beq_eq_false_iff_ne]; exact h6
      unfold dstp derr dlen derr'
      rw [if_neg h6, if_neg h6, if_neg h6, if_neg h6]
      exact next_num k hk6 R s _ hs (hpl i) w hr _ _ _ rfl
  · intro i he h0 w
    by_cases h6 : k = 6
    · subst h6
      unfold derr at h0
      rw [if_pos rfl] at h0
      obtain ⟨e1, e2, e3⟩ := gp6_ok _ h0
      obtain ⟨n1, n2⟩ := dnear (bn s) i he
      have K := reach_gen _ _ _ _ n1 n2 (farB_no e2) (farB_no e3) w
      unfold dstp drch
      rw [if_pos rfl, if_pos rfl, e1]
      exact K
    · have K := reach_gen 0 0 0 0 (by simp) (by simp) (by simp) (by simp) w
      rw [float0] at K
      have ec : (dcell k (dsq k (bn s) i)).p = 0 ∧ (dcell k (dsq k (bn s) i)).q = 0 := by
        unfold dcell
        rcases hk with rfl | rfl | rfl
        · exact ⟨rfl, rfl⟩
        · exact ⟨rfl, rfl⟩
        · exact absurd rfl h6
      unfold dstp drch
      rw [if_neg h6, if_neg h6, ec.1, ec.2]
      exact K
  · intro i he h0 hr w
    rcases hk with rfl | rfl | rfl
    · have K := go_int (dcell 2 (dsq 2 (bn s) i)) (dstp 2 ((bn s).drop (dsq 2 (bn s) i).pos)) w
      have e : (dcell 2 (dsq 2 (bn s) (i + 1))).v = clV false (wrap64 ((dcell 2 (dsq 2 (bn s) i)).x + (dstp 2 ((bn s).drop (dsq 2 (bn s) i).pos)).x)) 0 ByteArray.empty 0 0 := by
        show clV false (wrap64 (_ : Nat)) 0 ByteArray.empty 0 0 = clV false (wrap64 (wrap64 _ + _)) 0 ByteArray.empty 0 0
        rw [wrap_now]; rfl
      rw [e]; exact K
    · have K := go_uint (dcell 3 (dsq 3 (bn s) i)) (dstp 3 ((bn s).drop (dsq 3 (bn s) i).pos)) w
      have e : (dcell 3 (dsq 3 (bn s) (i + 1))).v = clV false 0 (((dcell 3 (dsq 3 (bn s) i)).u + (dstp 3 ((bn s).drop (dsq 3 (bn s) i).pos)).x % 18446744073709551616) % 18446744073709551616) ByteArray.empty 0 0 := by
        have h : ((((((dsq 3 (bn s) i).now : Int) + dA ((bn s).drop (dsq 3 (bn s) i).pos)) % 18446744073709551616).toNat : Nat) : Int) = (((dsq 3 (bn s) i).now : Int) + dA ((bn s).drop (dsq 3 (bn s) i).pos) % 18446744073709551616) % 18446744073709551616 := by omega
        show clV false 0 (((((((dsq 3 (bn s) i).now : Int) + dA ((bn s).drop (dsq 3 (bn s) i).pos)) % 18446744073709551616).toNat : Nat) : Int)) ByteArray.empty 0 0 = _
        rw [h]; rfl
      rw [e]; exact K
    · unfold derr at h0
      rw [if_pos rfl] at h0
      obtain ⟨e1, e2, e3⟩ := gp6_ok _ h0
      obtain ⟨n1, n2⟩ := dnear (bn s) i he
      unfold drch at hr
      rw [if_pos rfl, Bool.and_eq_true, Bool.not_eq_true', Bool.not_eq_true'] at hr
      have hsum := csum_int _ _ _ _ n1 n2 (farB_no e2) (farB_no e3) (farB_no hr.1) (farB_no hr.2)
      have e4 : dstp 6 ((bn s).drop (dsq 6 (bn s) i).pos) = ⟨false, 0, 0, ByteArray.empty, floatOfInt .f64 (dA ((bn s).drop (dsq 6 (bn s) i).pos)), floatOfInt .f64 (dB ((bn s).drop (dsq 6 (bn s) i).pos))⟩ := by
        unfold dstp; rw [if_pos rfl, e1]
      have K := go_point (dcell 6 (dsq 6 (bn s) i)) (dstp 6 ((bn s).drop (dsq 6 (bn s) i).pos)) _ _ (by rw [e4]; exact hsum) w
      exact K
end Go.Proofs.YtfkgmodgkifelaaGreatDoor
