/- Whether cells may be of a column: diff.may. Patches: what they are, their bytes, what they are in memory. -/
import Derived.Test.YtfkgmodgkifelaaGreatDoorJ41
import Derived.Test.YtfkgmodgkifelaaGreatDoorJ42
namespace Go.Proofs.YtfkgmodgkifelaaGreatDoor
open Go.RowKit

set_option maxHeartbeats 4000000 in
set_option maxRecDepth 100000 in
theorem may_bad (K0 : Value) (hK0 : ∃ a b c, K0 = .agg #[a, b, c]) (nm : ByteArray) (k : Int) (w : World) :
    Calls Tryz.prog 78 #[colV nm k false, K0, MC.v (true, CD.z)] w fun e w' => e = .returned (.bool false) ∧ Below w.heap.size w w' := by
  obtain ⟨M, F, G, rfl⟩ := hK0
  unfold colV MC.v CD.z
  simp only
  have HB := hide (fun o1 o2 o3 => (((Below.refl w.heap.size w).alloc (Nat.le_refl _) o1).alloc (by simp) o2).alloc (by simp; omega) o3)
  go_enter Tryz.func78, Tryz.ntmps78
  go_wp2_with fail
  go_ret
  exact ⟨rfl, HB.out _ _ _⟩
set_option maxHeartbeats 4000000 in
set_option maxRecDepth 100000 in
theorem check_bad (nm : ByteArray) (hnm : nm.size ≤ maxLen) (kn : Nat) (h1 : 1 ≤ kn) (h6 : kn ≤ 6) (hce : colE nm kn = 0)
    (gc gs : Nat) (V : Value) (w : World) (hT : Tabs w) (c0 : w.cell? ⟨gc, 0, none⟩ = some (.string nm)) (c1 : w.cell? ⟨gc, 1, none⟩ = some (.int .i64 (kn : Int))) (c2 : w.cell? ⟨gc, 2, none⟩ = some (.bool false))
    (s0 : w.cell? ⟨gs, 0, none⟩ = some V) (hV : InM w V [(true, CD.z)]) :
    Calls Tryz.prog 37 #[.agg #[.slice (some ⟨gc, 0, none⟩) 1 1, .slice (some ⟨gs, 0, none⟩) 1 1]] w fun e w' => e = .returned (.int .i64 30) ∧ Below w.heap.size w w' := by
  obtain ⟨A, ca, rfl, hc⟩ := hV
  obtain ⟨hB0, hB1, hB2⟩ := ka_k kn h1 h6
  obtain ⟨g, hA, hg, hat⟩ := hc 0 _ rfl
  subst hA
  rw [show ([(true, CD.z)] : List MC).length = 1 from rfl] at s0
  have HAT := hide hat
  have HG := hide hg
  have KM := hide (fun (w : World) => may_bad (kV kn) ⟨_, _, _, rfl⟩ nm kn w)
  clear hc hat
  have KC := hide (fun w hT a b c => columns_gen nm hnm (kn : Int) false gc 1 w hT a b c)
  have KR := hide (fun w h => rows_any gc gs (some ⟨g, 0, none⟩) 1 ca w h)
  rw [hce] at KC
  have KK := hide kinds_any
  clear hce hnm
  have hst := fun (w1 : World) (a1 : Addr) (m : Mode) (x y : Nat) => run_store Tryz.prog w1 a1 (.complex .f64 x y) m rfl
  have hgc := cell_in c0
  have hgs := cell_in s0
  have HT := hide hT
  have C0 := hide c0
  have C1 := hide c1
  have C2 := hide c2
  have S0 := hide s0
  clear hT c0 c1 c2 s0
  obtain ⟨W1, hW1⟩ : ∃ W1, w.alloc (.cells #[.slice (some ⟨gc, 0, none⟩) 1 1, .slice (some ⟨gs, 0, none⟩) 1 1] 60) = W1 := ⟨_, rfl⟩
  have hb1 : Below w.heap.size w W1 := by rw [← hW1]; exact (Below.refl _ _).alloc (Nat.le_refl _) _
  have hk1 : Blk W1 w.heap.size 60 #[.slice (some ⟨gc, 0, none⟩) 1 1, .slice (some ⟨gs, 0, none⟩) 1 1] := by rw [← hW1]; exact Blk.new _ _ _
  have KC1 := hide (KC.out W1 (HT.out.below hb1) ((hb1.cell (p := ⟨gc, 0, none⟩) hgc).trans C0.out) ((hb1.cell (p := ⟨gc, 1, none⟩) hgc).trans C1.out) ((hb1.cell (p := ⟨gc, 2, none⟩) hgc).trans C2.out))
  have k0 := hk1.cell 0
  have k1 := hk1.cell 1
  simp at k0 k1
  have HB1 := hide hb1
  have HK1 := hide hk1
  have HW := hide hW1
  clear hb1 hk1 hW1
  go_enter Tryz.func37, Tryz.ntmps37
  go_wp2_with fail
  rw [HW.out]
  refine KC1.out.mono ?_
  rintro e w2 ⟨rfl, hb2⟩
  have b2 := HK1.out.below hb2 HK1.out.lt
  have k0 := b2.cell 0
  have k1 := b2.cell 1
  simp at k0 k1
  have HB2 := hide (HB1.out.trans (hb2.mono HB1.out.size))
  have HK2 := hide b2
  have KR2 := hide (KR.out w2 ((HB2.out.cell (p := ⟨gs, 0, none⟩) hgs).trans S0.out))
  clear hb2 b2 KC1
  go_wp2_with fail
  refine KR2.out.mono ?_
  rintro e w3 ⟨rfl, hb3⟩
  have HB3 := hide (HB2.out.trans (hb3.mono HB2.out.size))
  have HK3 := hide (HK2.out.below hb3 HK2.out.lt)
  clear hb3 KR2 k0 k1
  go_wp2_with fail
  refine (KK.out w3).mono ?_
  rintro e w4 ⟨rfl, hb4⟩
  have HB4 := hide (HB3.out.trans (hb4.mono HB3.out.size))
  have HK4 := hide (HK3.out.below hb4 HK3.out.lt)
  clear hb4
  have H0 := hide (fun cs => show Blk (w4.alloc (.cells cs 132)) w4.heap.size 132 cs from Blk.new w4 cs _)
  have hz4 : w.heap.size < w4.heap.size := HK4.out.lt
  have k1 : ∀ cs, ((w4.alloc (.cells cs 132)).setRow w4.heap.size ka).cell? ⟨w.heap.size, 1, none⟩ = some (.slice (some ⟨gs, 0, none⟩) 1 1) := fun cs => by
    have := ((HK4.out.alloc (.cells cs 132)).otherRow (g := w4.heap.size) (by omega) ka).cell 1
    simpa using this
  go_wp2_with (refine wpList_store_row rfl 132 (.tmp 5) (.tmp 26) rfl w4.heap.size ka rfl rfl 132 _ (H0.out _).out info_ka rfl ka_one ?_)
  refine wp_loop_rounds 2 ?_
  rw [rounds_succ]
  obtain ⟨w5, hw5⟩ : ∃ w5, (w4.alloc (.cells #[.nilFunc, .nilFunc, .nilFunc, .nilFunc, .nilFunc, .nilFunc, .nilFunc, .nilFunc, .nilFunc, .nilFunc, .nilFunc, .nilFunc, .nilFunc, .nilFunc, .nilFunc, .nilFunc, .nilFunc, .nilFunc, .nilFunc, .nilFunc, .nilFunc] 132)).setRow w4.heap.size ka = w5 := ⟨_, rfl⟩
  have hk5 : Blk w5 w4.heap.size 132 ka := by rw [← hw5]; exact (H0.out _).setRow ka
  have ht5 : Blk w5 w.heap.size 60 #[.slice (some ⟨gc, 0, none⟩) 1 1, .slice (some ⟨gs, 0, none⟩) 1 1] := by rw [← hw5]; exact (HK4.out.alloc _).otherRow (by omega) ka
  have hb5 : Below w.heap.size w w5 := by rw [← hw5]; exact below_setRow (HB4.out.alloc HB4.out.size _) HB4.out.size _
  rw [hw5]
  have s0 := (hb5.cell (p := ⟨gs, 0, none⟩) hgs).trans S0.out
  have HK5 := hide hk5
  have HT5 := hide ht5
  have HB5 := hide hb5
  clear hw5 hk5 ht5 hb5 k1 H0 HK4 HB4 HK3 HB3 HK2 HB2 HK1 HB1 HW
  generalize w4.heap.size = kb at *
  go_wp2_with fail
  go_loopw [8, 41] (fun sv iv wr => iv = .int .i64 0 ∧ sv = .int .i64 0 ∧ Hid (Below w5.heap.size w5 wr)) (fun _ _ _ => 0)
  case atStart => exact ⟨rfl, rfl, Below.refl _ _⟩
  case round =>
    obtain ⟨rfl, rfl, hbe⟩ := hrel
    obtain ⟨a0, a1, a2, a3, a4, a5⟩ := HAT.out.below (HB5.out.trans (hbe.out.mono HB5.out.size)) HG.out
    have KM1 := hide KM.out
    unfold colV kV MC.v CD.z at KM1
    unfold CD.z at a1 a2 a3 a4 a5
    simp only at KM1 a0 a1 a2 a3 a4 a5
    go_wp2_with fail
    have hkz := Blk.new wr #[.bool true, .bool false, .int .i64 0, .int .u64 0, .string ByteArray.empty, .complex .f64 0 0] 45
    have hbz : Below w5.heap.size w5 (wr.alloc (.cells #[.bool true, .bool false, .int .i64 0, .int .u64 0, .string ByteArray.empty, .complex .f64 0 0] 45)) := hbe.out.alloc hbe.out.size _
    obtain ⟨wz, hwz⟩ : ∃ wz, wr.alloc (.cells #[.bool true, .bool false, .int .i64 0, .int .u64 0, .string ByteArray.empty, .complex .f64 0 0] 45) = wz := ⟨_, rfl⟩
    rw [hwz] at hkz hbz ⊢
    have HZ := hide hbz
    have q0 := cell_regrown ((hbz.cell (p := ⟨gc, 0, none⟩) (Nat.lt_of_lt_of_le hgc HB5.out.size)).trans ((HB5.out.cell (p := ⟨gc, 0, none⟩) hgc).trans C0.out))
    have q1 := cell_regrown ((hbz.cell (p := ⟨gc, 1, none⟩) (Nat.lt_of_lt_of_le hgc HB5.out.size)).trans ((HB5.out.cell (p := ⟨gc, 1, none⟩) hgc).trans C1.out))
    have q2 := cell_regrown ((hbz.cell (p := ⟨gc, 2, none⟩) (Nat.lt_of_lt_of_le hgc HB5.out.size)).trans ((HB5.out.cell (p := ⟨gc, 2, none⟩) hgc).trans C2.out))
    have t0 := cell_regrown (((HT5.out.below hbz HT5.out.lt).cell 0).trans rfl)
    have r0 := cell_regrown (((HK5.out.below hbz HK5.out.lt).cell (kn * 3)).trans hB0)
    have r1 := cell_regrown (((HK5.out.below hbz HK5.out.lt).cell (kn * 3 + 1)).trans hB1)
    have r2 := cell_regrown (((HK5.out.below hbz HK5.out.lt).cell (kn * 3 + 2)).trans hB2)
    have z0 := cell_regrown ((hkz.cell 0).trans rfl)
    have z1 := cell_regrown ((hkz.cell 1).trans rfl)
    have z2 := cell_regrown ((hkz.cell 2).trans rfl)
    have z3 := cell_regrown ((hkz.cell 3).trans rfl)
    have z4 := cell_regrown ((hkz.cell 4).trans rfl)
    have z5 := cell_regrown ((hkz.cell 5).trans rfl)
    have KQ := hide (fun d os => Calls.regrown_of (d := d) (os := os) (KM1.out (Sort.grow (redrawn wz d) os)))
    clear hwz hbz hkz a0 a1 a2 a3 a4 a5
    refine wp_region_quiet_below (by kernel_rfl) (by kernel_rfl) ?_
    repeat (go_big_quiet_step (exact KQ.out _ _))
    refine wpQuiet_nil ?_
    intro _ hw'
    obtain ⟨⟨dq, osq⟩, hw''⟩ := hw'
    subst hw''
    have hb4 := below_regrown wz dq osq
    generalize Sort.grow (redrawn wz dq) osq = w6 at *
    clear q0 q1 q2 t0 r0 r1 r2 z0 z1 z2 z3 z4 z5
    have HB6 := hide (HZ.out.trans (hb4.mono HZ.out.size))
    clear hb4 KQ
    go_wp2_with fail
    go_ret
    exact ⟨rfl, HB5.out.trans (HB6.out.mono HB5.out.size)⟩
theorem InM.form {w : World} {v : Value} {l : List MC} (h : InM w v l) : ∃ A n c, v = .slice A n c := by
  obtain ⟨A, c, hv, _⟩ := h
  exact ⟨A, _, c, hv⟩
set_option maxHeartbeats 4000000 in
set_option maxRecDepth 100000 in
theorem dmay_of (nm : ByteArray) (kn : Nat) (nl : Bool) (l : List MC) (er : Nat) (res : Bool) (V : Value) (w : World) (hT : Tabs w) (hV : InM w V l)
    (hr : Hid (((er : Int) != 30) = res))
    (K : ∀ (gc gs : Nat) (w : World), Tabs w → w.cell? ⟨gc, 0, none⟩ = some (.string nm) → w.cell? ⟨gc, 1, none⟩ = some (.int .i64 (kn : Int)) → w.cell? ⟨gc, 2, none⟩ = some (.bool nl) → w.cell? ⟨gs, 0, none⟩ = some V → InM w V l →
      Calls Tryz.prog 37 #[.agg #[.slice (some ⟨gc, 0, none⟩) 1 1, .slice (some ⟨gs, 0, none⟩) 1 1]] w fun e w' => e = .returned (.int .i64 (er : Nat)) ∧ Below w.heap.size w w') :
    Calls Tryz.prog 110 #[colV nm kn nl, V] w fun e w' => e = .returned (.bool res) ∧ Below w.heap.size w w' := by
  obtain ⟨A, n, ca, rfl⟩ := hV.form
  have hb : ∀ o1 o2 o3, Below w.heap.size w (((w.alloc o1).alloc o2).alloc o3) := fun o1 o2 o3 => (((Below.refl w.heap.size w).alloc (Nat.le_refl _) o1).alloc (by simp) o2).alloc (by simp; omega) o3
  have KC := hide (fun o1 => K (w.heap.size + 1) (w.heap.size + 1 + 1) (((w.alloc o1).alloc (.cells #[.string nm, .int .i64 (kn : Int), .bool nl] 23)).alloc (.cells #[.slice A n ca] 25)) (hT.below (hb _ _ _))
    (((blk_n2 w _ _ _).alloc _).cell 0) (((blk_n2 w _ _ _).alloc _).cell 1) (((blk_n2 w _ _ _).alloc _).cell 2) ((blk_n3 w _ _ _ _).cell 0) (hV.below (hb _ _ _)))
  have HB := hide hb
  unfold colV
  clear hT hV hb K
  have hr' := hr.out
  clear hr
  go_enter Tryz.func110, Tryz.ntmps110
  go_wp2_with fail
  refine (KC.out _).mono ?_
  rintro e w1 ⟨rfl, hb1⟩
  have HB1 := hide ((HB.out _ _ _).trans (hb1.mono (by simp; omega)))
  clear hb1
  go_wp2_with fail
  go_ret
  exact ⟨rfl, HB1.out⟩
theorem dmay_ok (c : Col) (hc : colE c.1 c.2.1 = 0) (l : List MC) (hl : l.length ≤ 10000) (hok : ∀ x ∈ l, okM c.2.2 c.2.1 x) (V : Value) (w : World) (hT : Tabs w) (hV : InM w V l) :
    Calls Tryz.prog 110 #[colV c.1 c.2.1 c.2.2, V] w fun e w' => e = .returned (.bool true) ∧ Below w.heap.size w w' := by
  obtain ⟨nm, k, nl⟩ := c
  obtain ⟨h0, h64, hv, h1, h6⟩ := colE_ok hc
  simp only at h0 h64 hv h1 h6 hc hok ⊢
  obtain ⟨kn, rfl⟩ : ∃ kn : Nat, k = kn := ⟨k.toNat, by omega⟩
  refine dmay_of nm kn nl l (if 1048576 < tbm l then 31 else 0) true V w hT hV (hide (by split <;> rfl)) (fun gc gs w hT c0 c1 c2 s0 hV => ?_)
  exact check_col nm (by unfold maxLen; omega) kn (by omega) (by omega) nl hc l hl hok gc gs V w hT c0 c1 c2 s0 hV
theorem dmay_bad (c : Col) (hc : colE c.1 c.2.1 = 0) (hn : c.2.2 = false) (V : Value) (w : World) (hT : Tabs w) (hV : InM w V [(true, CD.z)]) :
    Calls Tryz.prog 110 #[colV c.1 c.2.1 c.2.2, V] w fun e w' => e = .returned (.bool false) ∧ Below w.heap.size w w' := by
  obtain ⟨nm, k, nl⟩ := c
  obtain ⟨h0, h64, hv, h1, h6⟩ := colE_ok hc
  simp only at h0 h64 hv h1 h6 hc hn ⊢
  subst hn
  obtain ⟨kn, rfl⟩ : ∃ kn : Nat, k = kn := ⟨k.toNat, by omega⟩
  refine dmay_of nm kn false [(true, CD.z)] 30 false V w hT hV (hide rfl) (fun gc gs w hT c0 c1 c2 s0 hV => ?_)
  exact check_bad nm (by unfold maxLen; omega) kn (by omega) (by omega) hc gc gs V w hT c0 c1 c2 s0 hV
end Go.Proofs.YtfkgmodgkifelaaGreatDoor
namespace Go.Proofs.YtfkgmodgkifelaaGreatDoor
open Go.RowKit

/-- A part: whether the column was there; edits; cells. -/
abbrev PartD := Bool × List Ed × List MC
structure PartOk (before : List Col) (rows too : Nat) (c : Col) (p : PartD) : Prop where
  same : p.1 = decide (c ∈ before)
  eds : EdsOk c.2.1 (min rows too) p.2.1
  none : p.1 = false → p.2.1 = []
  many : p.2.1.length ≤ 10000
  len : p.2.2.length ≤ 10000
  cel : ∀ x ∈ p.2.2, okM c.2.2 c.2.1 x
  tb : tbm p.2.2 ≤ 1048576
  sz : (encC c.2.1 c.2.2 p.2.2).size ≤ 600
def partB (c : Col) (p : PartD) : List Nat := (if p.1 = true then uvar p.2.1.length ++ edsB c.2.1 0 p.2.1 else []) ++ (uvar (encC c.2.1 c.2.2 p.2.2).size ++ bn (encC c.2.1 c.2.2 p.2.2))
/-- So many cells as there must be, and no edit's cell is missing that may not be. -/
def FitP (before : List Col) (rows too : Nat) (c : Col) (p : PartD) : Prop := p.2.2.length = (if c ∈ before then too - rows else too) ∧ ∀ e ∈ p.2.1, e.2.1 = true → c.2.2 = true
structure PD where
  before : List Col
  rows : Nat
  after : List Col
  too : Nat
  parts : List PartD
structure PatOk (P : PD) : Prop where
  b : colsE P.before = 0
  a : colsE P.after = 0
  r : P.rows ≤ 10000
  t : P.too ≤ 10000
  n : P.parts.length = P.after.length
  p : ∀ (i : Nat) c x, P.after[i]? = some c → P.parts[i]? = some x → PartOk P.before P.rows P.too c x
def FitA (P : PD) : Prop := ∀ (i : Nat) c x, P.after[i]? = some c → P.parts[i]? = some x → FitP P.before P.rows P.too c x
def partsB (after : List Col) (parts : List PartD) : List Nat := (after.zip parts).flatMap (fun x => partB x.1 x.2)
def colB2 (l : List Col) (n : Nat) : List Nat := uvar (putS l).length ++ putS l ++ uvar n
def patB (P : PD) : List Nat := colB2 P.before P.rows ++ (colB2 P.after P.too ++ partsB P.after P.parts)
theorem partsB_snoc {after : List Col} {parts : List PartD} {c : Col} {x : PartD} (hc : after[parts.length]? = some c) : partsB (after.take (parts.length + 1)) (parts ++ [x]) = partsB (after.take parts.length) parts ++ partB c x := by
  unfold partsB
  rw [take_at hc]
  have hl : (after.take parts.length).length = parts.length := by
    rw [List.length_take]
    have := (List.getElem?_eq_some_iff.1 hc).1
    omega
  rw [List.zip_append hl]
  simp
theorem partsB_take {after : List Col} {parts : List PartD} {i : Nat} {c : Col} {x : PartD} (hc : after[i]? = some c) (hx : parts[i]? = some x) : partsB (after.take (i + 1)) (parts.take (i + 1)) = partsB (after.take i) (parts.take i) ++ partB c x := by
  have hi : (parts.take i).length = i := by
    rw [List.length_take]
    have := (List.getElem?_eq_some_iff.1 hx).1
    omega
  have h := partsB_snoc (parts := parts.take i) (x := x) (after := after) (c := c) (by rw [hi]; exact hc)
  rw [hi] at h
  rw [take_at hx]
  exact h
theorem dcolS_one {D : List Nat} (hD : Bys D) (h : (dcolS D).1 = 0) : D = colB2 (dcolS D).2.2.1 (dcolS D).2.2.2 ++ D.drop (dcolS D).2.1 ∧ colsE (dcolS D).2.2.1 = 0 ∧ (dcolS D).2.2.2 ≤ 10000 ∧ (dcolS D).2.1 ≤ D.length := by
  unfold dcolS at h ⊢
  rcases hT : textS 1048576 D with ⟨t, c, e⟩
  rw [hT] at h
  simp only at h ⊢
  split at h
  · rename_i he; exact absurd h he
  · rename_i he
    rw [if_neg he]
    obtain rfl : e = 0 := Decidable.not_not.1 he
    obtain ⟨o1, o2, o3⟩ := textS_one hD.lt hT
    split at h
    · rename_i hg; exact absurd h hg
    · rename_i hg
      rw [if_neg hg]
      have hg0 : (getS t).1 = 0 := Decidable.not_not.1 hg
      obtain ⟨p1, p2⟩ := getS_one o3 (show getS t = (0, (getS t).2) from Prod.ext hg0 rfl)
      split at h
      · rename_i hf; exact absurd h hf
      · rename_i hf
        rw [if_neg hf]
        have hf0 : (few (D.drop c) 0).2.2 = 0 := Decidable.not_not.1 hf
        obtain ⟨g1, _⟩ := few_one (D.drop c) 0 (hD.drop c).lt hf0
        have hle := (few_le (D.drop c) 0 hf0).1
        rw [List.length_drop] at hle
        split at h
        · cases h
        · rename_i hb
          rw [if_neg hb]
          simp only
          refine ⟨?_, p2, by omega, by omega⟩
          unfold colB2
          rw [p1, ← o1, ← g1, ← List.take_add, List.take_append_drop]
theorem Bys.mono {D E : List Nat} (h : Bys (D ++ E)) : D.length ≤ 600 := by have := h.le; rw [List.length_append] at this; omega
/-- A part's three cells. -/
def cellsP (t : PartD × Value × Value) : List Go.Value := [.bool t.1.1, t.2.1, t.2.2]
structure AtP (w : World) (g o : Nat) (sm : Bool) (VE VC : Value) : Prop where
  c0 : w.cell? ⟨g, o, none⟩ = some (.bool sm)
  c1 : w.cell? ⟨g, o + 1, none⟩ = some VE
  c2 : w.cell? ⟨g, o + 2, none⟩ = some VC
theorem AtP.below {w w' : World} {g o : Nat} {sm : Bool} {VE VC : Value} (h : AtP w g o sm VE VC) {B : Nat} (hb : Below B w w') (hg : g < B) : AtP w' g o sm VE VC :=
  ⟨(hb.cell (p := ⟨g, _, none⟩) hg).trans h.c0, (hb.cell (p := ⟨g, _, none⟩) hg).trans h.c1, (hb.cell (p := ⟨g, _, none⟩) hg).trans h.c2⟩
/-- A slice of parts. -/
def InP (w : World) (v : Value) (l : List PartD) : Prop :=
  ∃ A c, v = .slice A l.length c ∧ ∀ i x, l[i]? = some x → ∃ g VE VC, A = some ⟨g, 0, none⟩ ∧ g < w.heap.size ∧ AtP w g (i * 3) x.1 VE VC ∧ InE w VE x.2.1 ∧ InM w VC x.2.2
theorem InP.below {w w' : World} {v : Value} {l : List PartD} (h : InP w v l) (hb : Below w.heap.size w w') : InP w' v l := by
  obtain ⟨A, c, rfl, hc⟩ := h
  refine ⟨A, c, rfl, fun i x hx => ?_⟩
  obtain ⟨g, VE, VC, hA, hg, hat, he, hm⟩ := hc i x hx
  exact ⟨g, VE, VC, hA, Nat.lt_of_lt_of_le hg hb.size, hat.below hb hg, he.below hb, hm.below hb⟩
theorem inP_nil (w : World) : InP w (.slice none 0 0) [] := ⟨none, 0, rfl, fun i x h => by simp at h⟩
theorem InE.form {w : World} {v : Value} {l : List Ed} (h : InE w v l) : ∃ A c, v = .slice A l.length c := by
  obtain ⟨A, c, hv, _⟩ := h
  exact ⟨A, c, hv⟩
theorem InM.formL {w : World} {v : Value} {l : List MC} (h : InM w v l) : ∃ A c, v = .slice A l.length c := by
  obtain ⟨A, c, hv, _⟩ := h
  exact ⟨A, c, hv⟩
theorem InP.form {w : World} {v : Value} {l : List PartD} (h : InP w v l) : ∃ A c, v = .slice A l.length c := by
  obtain ⟨A, c, hv, _⟩ := h
  exact ⟨A, c, hv⟩
theorem InK.form {w : World} {v : Value} {l : List Col} (h : InK w v l) : ∃ A c, v = .slice A l.length c := by
  obtain ⟨A, c, hv, _⟩ := h
  exact ⟨A, c, hv⟩
theorem cellsP_get : ∀ (l : List (PartD × Value × Value)) (i : Nat) (x : PartD × Value × Value) (j : Nat), l[i]? = some x → j < 3 → (l.flatMap cellsP)[i * 3 + j]? = (cellsP x)[j]? := by
  intro l
  induction l with
  | nil => intro i x j h; simp at h
  | cons a l ih =>
    intro i x j h hj
    rw [List.flatMap_cons]
    have hl : (cellsP a).length = 3 := rfl
    cases i with
    | zero =>
      obtain rfl : a = x := by simpa using h
      rw [List.getElem?_append_left (by omega), Nat.zero_mul, Nat.zero_add]
    | succ i =>
      rw [List.getElem?_append_right (by rw [hl]; omega), hl, show (i + 1) * 3 + j - 3 = i * 3 + j by omega]
      exact ih i x j (by simpa using h) hj
theorem cellsP_snoc (l : List (PartD × Value × Value)) (x : PartD × Value × Value) : (l ++ [x]).flatMap cellsP = l.flatMap cellsP ++ cellsP x := by simp
/-- What the parts so far have in memory. -/
def Held (w : World) (ts : List (PartD × Value × Value)) : Prop := ∀ t ∈ ts, InE w t.2.1 t.1.2.1 ∧ InM w t.2.2 t.1.2.2
theorem Held.snoc {w : World} {ts : List (PartD × Value × Value)} (h : Held w ts) {t : PartD × Value × Value} (he : InE w t.2.1 t.1.2.1) (hm : InM w t.2.2 t.1.2.2) : Held w (ts ++ [t]) := by
  intro x hx
  rcases List.mem_append.1 hx with hx | hx
  · exact h x hx
  · rw [List.mem_singleton] at hx; rw [hx]; exact ⟨he, hm⟩
theorem inP_own {w : World} {B n : Nat} {v : Value} {ts : List (PartD × Value × Value)} (h : w.ownsRow B 65 3 v n (ts.flatMap cellsP)) (hn : n = ts.length) (hh : Held w ts) : InP w v (ts.map (·.1)) := by
  subst hn
  rcases Nat.eq_zero_or_pos ts.length with h0 | h0
  · obtain ⟨A, c, rfl⟩ := own_form3 h
    have : ts = [] := List.eq_nil_of_length_eq_zero h0
    subst this
    exact ⟨A, c, rfl, fun i x h => by simp at h⟩
  · obtain ⟨g, c, rfl⟩ := own_addr h h0
    refine ⟨some ⟨g, 0, none⟩, c, by rw [List.length_map], fun i x hx => ?_⟩
    rw [List.getElem?_map] at hx
    cases ht : ts[i]? with
    | none => rw [ht] at hx; cases hx
    | some t =>
      rw [ht] at hx
      obtain rfl : t.1 = x := by simpa using hx
      have hi : i < ts.length := (List.getElem?_eq_some_iff.1 ht).1
      have hc := fun j (hj : j < 3) => (h.cellAt (i * 3 + j) (by omega)).trans (cellsP_get ts i t j ht hj)
      obtain ⟨he, hm⟩ := hh t (List.mem_of_getElem? ht)
      exact ⟨g, t.2.1, t.2.2, rfl, (h.lt g rfl).2, ⟨hc 0 (by omega), hc 1 (by omega), hc 2 (by omega)⟩, he, hm⟩
theorem cell_frq {w w' : World} {P : Nat → Prop} {g o : Nat} (hf : Fr w w' P) (hg : g < w.heap.size) (hn : ¬ P g) : w'.cell? ⟨g, o, none⟩ = w.cell? ⟨g, o, none⟩ := by
  have hb := hf.block g hg hn
  simp [World.cell?, hb]
theorem InE.frq {w w' : World} {P : Nat → Prop} {v : Value} {l : List Ed} (h : InE w v l) (hf : Fr w w' P) (hp : ∀ g, P g → ∀ r, w.cell? ⟨g, 0, none⟩ ≠ some (.int .i64 r)) : InE w' v l := by
  obtain ⟨A, c, rfl, hc⟩ := h
  refine ⟨A, c, rfl, fun i x hx => ?_⟩
  obtain ⟨g, hA, hg, hat⟩ := hc i x hx
  have hn : ¬ P g := by
    intro hpg
    have h0 : 0 < l.length := by have := (List.getElem?_eq_some_iff.1 hx).1; omega
    obtain ⟨g', hA', _, hat'⟩ := hc 0 l[0] (List.getElem?_eq_getElem h0)
    rw [hA] at hA'; injection hA' with hA'; injection hA' with hA'; subst hA'
    exact hp g hpg _ (by simpa using hat'.c0)
  have hcell := fun o => cell_frq (o := o) hf hg hn
  exact ⟨g, hA, Nat.lt_of_lt_of_le hg hf.size, ⟨(hcell _).trans hat.c0, (hcell _).trans hat.c1, (hcell _).trans hat.c2, (hcell _).trans hat.c3, (hcell _).trans hat.c4, (hcell _).trans hat.c5, (hcell _).trans hat.c6⟩⟩
theorem InM.frq {w w' : World} {P : Nat → Prop} {v : Value} {l : List MC} (h : InM w v l) (hf : Fr w w' P) (hp : ∀ g, P g → (∀ b, w.cell? ⟨g, 0, none⟩ ≠ some (.bool b)) ∨ (∀ x, w.cell? ⟨g, 2, none⟩ ≠ some (.int .i64 x))) : InM w' v l := by
  obtain ⟨A, c, rfl, hc⟩ := h
  refine ⟨A, c, rfl, fun i x hx => ?_⟩
  obtain ⟨g, hA, hg, hat⟩ := hc i x hx
  have hn : ¬ P g := by
    intro hpg
    have h0 : 0 < l.length := by have := (List.getElem?_eq_some_iff.1 hx).1; omega
    obtain ⟨g', hA', _, hat'⟩ := hc 0 l[0] (List.getElem?_eq_getElem h0)
    rw [hA] at hA'; injection hA' with hA'; injection hA' with hA'; subst hA'
    rcases hp g hpg with h1 | h1
    · exact h1 _ (by simpa using hat'.c0)
    · exact h1 _ (by simpa using hat'.c2)
  have hcell := fun o => cell_frq (o := o) hf hg hn
  exact ⟨g, hA, Nat.lt_of_lt_of_le hg hf.size, ⟨(hcell _).trans hat.c0, (hcell _).trans hat.c1, (hcell _).trans hat.c2, (hcell _).trans hat.c3, (hcell _).trans hat.c4, (hcell _).trans hat.c5⟩⟩
theorem InK.frq {w w' : World} {P : Nat → Prop} {v : Value} {l : List Col} (h : InK w v l) (hf : Fr w w' P) (hp : ∀ g, P g → ∀ s, w.cell? ⟨g, 0, none⟩ ≠ some (.string s) ∨ ∀ b, w.cell? ⟨g, 2, none⟩ ≠ some (.bool b)) : InK w' v l := by
  obtain ⟨A, c, rfl, hlc, hc⟩ := h
  refine ⟨A, c, rfl, hlc, fun i x hx => ?_⟩
  obtain ⟨g, hA, hg, hat⟩ := hc i x hx
  have hn : ¬ P g := by
    intro hpg
    have h0 : 0 < l.length := by have := (List.getElem?_eq_some_iff.1 hx).1; omega
    obtain ⟨g', hA', _, hat'⟩ := hc 0 l[0] (List.getElem?_eq_getElem h0)
    rw [hA] at hA'; injection hA' with hA'; injection hA' with hA'; subst hA'
    rcases hp g hpg l[0].1 with h1 | h1
    · exact h1 (by simpa using hat'.c0)
    · exact h1 _ (by simpa using hat'.c2)
  have hcell := fun o => cell_frq (o := o) hf hg hn
  exact ⟨g, hA, Nat.lt_of_lt_of_le hg hf.size, ⟨(hcell _).trans hat.c0, (hcell _).trans hat.c1, (hcell _).trans hat.c2⟩⟩
/-- The block of the parts' own row is told by what lies in it. -/
theorem own_parts_ne {w : World} {B : Nat} {v : Value} {ts : List (PartD × Value × Value)} (h : w.ownsRow B 65 3 v ts.length (ts.flatMap cellsP)) (h0 : ts = [] → v = .slice none 0 0) (hh : Held w ts) (g : Nat) (hg : some g = v.ownBlock) :
    ∃ b A n c, w.cell? ⟨g, 0, none⟩ = some (.bool b) ∧ w.cell? ⟨g, 2, none⟩ = some (.slice A n c) := by
  cases ts with
  | nil => rw [h0 rfl] at hg; simp [Value.ownBlock] at hg
  | cons t ts =>
    obtain ⟨g', c, rfl⟩ := own_addr h (by simp)
    simp [Value.ownBlock] at hg
    subst hg
    have hc := fun j (hj : j < 3) => (h.cellAt j (by simp [List.length_cons]; omega)).trans (by have := cellsP_get (t :: ts) 0 t j rfl hj; simpa using this)
    obtain ⟨A, n, c2, hv⟩ := (hh t (by simp)).2.form
    exact ⟨_, A, n, c2, hc 0 (by omega), by rw [← hv]; exact hc 2 (by omega)⟩
/-- A patch, told to a function. -/
def patV (VB : Value) (rows : Nat) (VA : Value) (too : Nat) (VP : Value) : Value := .agg #[VB, .int .i64 (rows : Nat), VA, .int .i64 (too : Nat), VP]
structure InPat (w : World) (VB VA VP : Value) (P : PD) : Prop where
  b : InK w VB P.before
  a : InK w VA P.after
  p : InP w VP P.parts
theorem InPat.below {w w' : World} {VB VA VP : Value} {P : PD} (h : InPat w VB VA VP P) (hb : Below w.heap.size w w') : InPat w' VB VA VP P := ⟨h.b.below hb, h.a.below hb, h.p.below hb⟩
end Go.Proofs.YtfkgmodgkifelaaGreatDoor
