/- Columns: runs.each at any cells. Columns: runs.Encode at any cells. Columns: the program's steps, at any cells. Columns: the program's bytes by steps, whole numbers. -/
import Derived.Test.YtfkgmodgkifelaaGreatDoorJ33
import Derived.Test.YtfkgmodgkifelaaGreatDoorJ24
import Derived.Test.YtfkgmodgkifelaaGreatDoorJ19
import Derived.Shelf.Abstract
import Derived.Shelf.RegionOpen
import Derived.OwnWalkIn
import Derived.TacticsInMore
import Derived.LoopNIn
import Derived.LoopIn
import Derived.Test.YtfkgmodgkifelaaGreatDoorJ29
import Derived.Test.YtfkgmodgkifelaaGreatDoorJ09
import Derived.Test.YtfkgmodgkifelaaGreatDoorJ22
namespace Go.Proofs.YtfkgmodgkifelaaGreatDoor
section
open Go.RowKit Go.Shelf
attribute [local go_sem] Oper.semAt_some

theorem Blk.cellsR {w : World} {b : Nat} {t : TypeId} {cs : Array Value} (h : Blk w b t cs) : ∃ o, w.heap[b]? = some o ∧ o.isCells = true := ⟨_, h.out, rfl⟩
theorem own_cellsR {w : World} {B n sz : Nat} {e : TypeId} {v : Value} {xs : List Value} (h : w.ownsRow B e sz v n xs) {k : Nat} (hk : v.ownBlock = some k) : ∃ o, w.heap[k]? = some o ∧ o.isCells = true := by
  rcases h.2 with ⟨rfl, _⟩ | ⟨g, cap, cur, rfl, _, hg, _⟩
  · simp [Value.ownBlock] at hk
  · simp [Value.ownBlock] at hk
    subst hk
    exact ⟨_, hg, rfl⟩
theorem keeps_frR {B : Nat} {W W' : World} {S : Nat → Prop} (hf : Fr W W' S) (hS : ∀ k, S k → ∃ o, W.heap[k]? = some o ∧ o.isCells = true) : KeepsFrom B W W' :=
  ⟨hf.size, fun k o _ hk ho => (hf.block k (Array.getElem?_eq_some_iff.1 hk).1 (fun hs => by
    obtain ⟨o2, h2, hc⟩ := hS k hs
    rw [hk] at h2; injection h2 with h2; subst h2; rw [ho] at hc; cases hc)).trans hk⟩
/-- A fence that lets every function in. -/
def FnW (S : FuncId → Prop) : Fence := { fn := S, depth := none, alive := false }
abbrev FnR : Fence := FnW (fun _ => True)
def runAg (r : CD × Nat) : Array Value := #[.bool false, .bool r.1.b, .int .i64 r.1.x, .int .u64 r.1.u, .string r.1.t, .complex .f64 r.1.p r.1.q, .int .i64 (r.2 : Nat)]
def encR9 (r : CD × Nat) : Array Value := #[.agg (runAg r)]
def byR (k : Int) (l : List (CD × Nat)) : List Nat := l.flatMap (runB k)
theorem byR_snoc (k : Int) (l : List (CD × Nat)) (x : CD × Nat) : byR k (l ++ [x]) = byR k l ++ uvar x.2 ++ cellB k x.1 := by simp [byR, runB]
/-- The state of the cells' writing. -/
structure SR (w0 : World) (k : Int) (V : Value) (l : List Nat) (W : World) : Prop where
  bk : Blk W w0.heap.size 3 #[.int .i64 k]
  wr : ∃ sv, Wr W (w0.heap.size + 1) w0.heap.size sv l
  ek : Blk W (w0.heap.size + 2) 3 #[.int .i64 k]
  el : Blk W (w0.heap.size + 3) 25 #[V]
  below : Below w0.heap.size w0 W
theorem SR.fr {w0 W W' : World} {k : Int} {V : Value} {l : List Nat} {S : Nat → Prop} (h : SR w0 k V l W) (hf : Fr W W' S)
    (hS : ∀ j, S j → w0.heap.size + 4 ≤ j ∧ ∀ o, W.heap[j]? = some o → o.isCells = false) : SR w0 k V l W' := by
  have hn : ∀ j, j < w0.heap.size + 4 → ¬ S j := fun j hj hs => by have := (hS j hs).1; omega
  obtain ⟨sv, hw⟩ := h.wr
  refine ⟨h.bk.fr hf (hn _ (by omega)), ⟨sv, hw.blk.fr hf (hn _ (by omega)), hw.own.fr hf (fun j hj hs => ?_), hw.leW⟩, h.ek.fr hf (hn _ (by omega)), h.el.fr hf (hn _ (by omega)), h.below.trans (hf.below h.below.size (fun j hs => by have := (hS j hs).1; omega))⟩
  have ho := hw.own
  unfold OwnU8 at ho
  obtain ⟨o, ho1, hc⟩ := own_cellsR ho hj
  have := (hS j hs).2 o ho1
  rw [hc] at this; cases this
/-- The writer has turned, and nothing else. -/
theorem SR.step {w0 W W' : World} {k : Int} {V : Value} {l l' : List Nat} {sv sv' : Value} (h : SR w0 k V l W) (hw : Wr W (w0.heap.size + 1) w0.heap.size sv l) (hw' : Wr W' (w0.heap.size + 1) w0.heap.size sv' l') (hs : WS (w0.heap.size + 1) W sv W' sv') : SR w0 k V l' W' := by
  have hne : ∀ {b t cs}, Blk W b t cs → t ≠ 5 → b ≠ w0.heap.size + 1 → Blk W' b t cs := fun hb ht hk => hb.fr hs.fr (fun e => by
    rcases e with e | e
    · exact hk e
    · exact hw.own.ne hb ht e.symm)
  exact ⟨hne h.bk (by decide) (by omega), ⟨sv', hw'⟩, hne h.ek (by decide) (by omega), hne h.el (by decide) (by omega), h.below.trans (hs.below hw h.below.size)⟩
theorem sr_own (w0 : World) (k : Int) (V : Value) (B : Nat) (hB : w0.heap.size + 4 ≤ B) {β : Type} (c : β → Prop) (f : β → List Nat) : OwnFrom B (fun (x : β) W => c x ∧ SR w0 k V (f x) W) := by
  rintro x W W' row ⟨hc, h⟩ hg hr
  refine ⟨hc, h.fr (Fr.of_grown hg) (fun j hj => ?_)⟩
  obtain ⟨h1, o, ho, hc⟩ := hr j hj.symm
  refine ⟨by omega, fun o2 ho2 => ?_⟩
  rw [ho] at ho2
  injection ho2 with ho2
  subst ho2
  exact hc
set_option maxHeartbeats 1000000 in
set_option maxRecDepth 100000 in
theorem rreach_any (k : Int) (A : Option Addr) (n c : Nat) (w : World) :
    Calls Tryz.prog 131 #[.int .i64 k, .slice A n c] w fun e w' =>
      e = .returned (.func (.func 155) #[] #[.pointer (some ⟨w.heap.size + 1, 0, none⟩), .pointer (some ⟨w.heap.size, 0, none⟩)]) ∧
      (w.alloc (.cells #[.int .i64 k] 3)).alloc (.cells #[.slice A n c] 25) = w' := by
  go_enter Tryz.func131, Tryz.ntmps131
  go_wp2_with fail
  go_ret
  exact ⟨rfl, rfl⟩
/-- What has been yielded is a beginning. -/
def RP (R pre : List (CD × Nat)) : Prop := ∃ t, R = pre ++ t
set_option maxHeartbeats 4000000 in
set_option maxRecDepth 100000 in
theorem each_in (w0 : World) (k : Int) (h1 : 1 ≤ k) (h6 : k ≤ 6) (ls : List CD) (hlen : ls.length ≤ 10000) (A : Option Addr) (ca : Nat) (hc : ∀ i x, ls[i]? = some x → ∃ g, A = some ⟨g, 0, none⟩ ∧ g < w0.heap.size ∧ AtC w0 g (i * 6) x.b x.x x.u x.t x.p x.q) (N : Nat) (hN : ls.length = N) (R : List (CD × Nat)) (hR0 : R = rns k N ls) (n : Nat) (hn : 2 ≤ n) (l : Nat) (K : World → Prop) (hK : CellsKeep K)
    (hY : ∀ pre x W, RP R (pre ++ [x]) ∧ SR w0 k (.slice A N ca) (byR k pre) W → K W → YieldAt FnR (n - 1) Tryz.prog l (encR9 x) W fun e W' => e = .returned (.bool true) ∧ (RP R (pre ++ [x]) ∧ SR w0 k (.slice A N ca) (byR k (pre ++ [x])) W') ∧ K W')
    (W : World) (h0 : SR w0 k (.slice A N ca) (byR k []) W) (hk0 : K W) :
    CallsIn FnR n Tryz.prog 155 (#[.func (.yield l) #[] #[]] ++ #[.pointer (some ⟨w0.heap.size + 3, 0, none⟩), .pointer (some ⟨w0.heap.size + 2, 0, none⟩)]) W fun e W' => (∃ v, e = .returned v) ∧ ∃ xs, (xs = R ∧ SR w0 k (.slice A N ca) (byR k xs) W') ∧ K W' := by
  have KE := hide (fun (a b : CD) (w : World) => sequal_any k h1 h6 a b w)
  have HC := hide hc
  have HN := hide hN
  have HR0 := hide hR0
  have RN := hide (fun (i : Nat) (c : CD) h => rns_on (k := k) (l := ls) (i := i) (c := c) h)
  have LB := hide (fun i => lng_bound k ls i)
  have hY0 := hide hY
  have hN1 : (N : Int) ≤ 10000 := by omega
  rw [hN] at RN LB
  have hn1 : 1 ≤ n := by omega
  have hro : FnR.round = none := rfl
  clear hc hN hR0 h1 h6 hY hlen
  have hY := hY0.out
  clear hY0
  refine callsIn_of_wp Tryz.func155 rfl trivial ?_ rfl
  simp only [Tryz.ntmps155, List.size_toArray, List.length_cons, List.length_nil, Nat.reduceAdd, Nat.reduceSub, Array.replicate_succ, Array.replicate_zero, List.push_toArray, List.append_toArray, List.nil_append, List.cons_append]
  gi_wp2
  gi_loopw [4] (fun fv wr => ∃ (i : Nat) (pre : List (CD × Nat)), i ≤ N ∧ fv = .int .i64 (i : Int) ∧ Hid (R = pre ++ rns k N (ls.drop i)) ∧ Hid (SR w0 k (.slice A N ca) (byR k pre) wr) ∧ Hid (K wr)) (fun fv _ => N - (intOf fv).toNat)
  case atStart => exact ⟨0, [], by omega, rfl, by show R = _; rw [HR0.out]; simp, h0, hk0⟩
  case round =>
    obtain ⟨i, pre, hin, rfl, hpre, hst, hk⟩ := hrel
    have c1 := hst.out.el.cell 0
    have c2 := hst.out.ek.cell 0
    simp at c1 c2
    have hi0 : (0 : Int) ≤ (i : Int) := by omega
    by_cases hlt : i < N
    · obtain ⟨x, hx⟩ : ∃ x, ls[i]? = some x := ⟨ls[i]'(by rw [HN.out]; exact hlt), List.getElem?_eq_getElem _⟩
      obtain ⟨g, hA, hg, hat⟩ := HC.out i x hx
      subst hA
      have hi1 : (i : Int) < (N : Int) := by omega
      have hrr := hpre.out
      rw [RN.out i x hx] at hrr
      obtain ⟨m, hm⟩ : ∃ m, lng k (ls.drop i) = m := ⟨_, rfl⟩
      rw [hm] at hrr
      have hmp := lng_pos k x (ls.drop (i + 1))
      rw [← drop_at hx, hm] at hmp
      have hmb := LB.out i
      rw [hm] at hmb
      have HPX := hide (show RP R (pre ++ [(x, m)]) from ⟨rns k N (ls.drop (i + m)), by rw [hrr]; simp⟩)
      have HREST := hide (show R = pre ++ [(x, m)] ++ rns k N (ls.drop (i + m)) from by rw [hrr]; simp)
      have HM := hide hm
      have HMP := hide hmp
      have HMB := hide hmb
      have HAT := hide hat
      have HG := hide hg
      have HLTI := hide hlt
      have hm0 : (0 : Int) ≤ (m : Int) := by omega
      obtain ⟨xb, xx, xu, xt, xp, xq⟩ := x
      clear hx hat hrr hm hmp hmb hlt
      gi_wp2
      gi_loopw [5] (fun tv wx => ∃ (t j : Nat), tv = .int .i64 (t : Int) ∧ t ≤ N ∧ Hid (t = j + 1) ∧ Hid (i ≤ j) ∧ Hid (lng k (ls.drop j) + t = m + i + 1) ∧ Hid (Fr wr wx (fun _ => False))) (fun tv _ => N - (intOf tv).toNat)
      case atStart => exact ⟨i + 1, i, by go_num, by have := HLTI.out; omega, rfl, Nat.le_refl _, by show _ = _; rw [HM.out]; omega, Fr.refl _ _⟩
      case round =>
        obtain ⟨t, j, rfl, htN, htj, hij, hln, hfr⟩ := hrel
        have e2 : (t : Int) - 1 = (j : Int) := by have := htj.out; omega
        have ht0 : (0 : Int) ≤ (t : Int) := by omega
        have ht9 : (t : Int) ≤ 10000 := by omega
        have hj0 : (0 : Int) ≤ (j : Int) := by omega
        have HS2 := hide (hst.out.fr hfr.out (fun _ h => h.elim))
        clear c1 c2
        have d1 := HS2.out.el.cell 0
        have d2 := HS2.out.ek.cell 0
        simp at d1 d2
        have r8 := cell_regrown d1
        have r9 := cell_regrown d2
        clear d1 d2
        obtain ⟨a, ha⟩ : ∃ a, ls[j]? = some a := ⟨ls[j]'(by rw [HN.out]; have := htj.out; omega), List.getElem?_eq_getElem _⟩
        have HA := hide ha
        by_cases hlt : t < N
        · obtain ⟨b, hb⟩ : ∃ b, ls[t]? = some b := ⟨ls[t]'(by rw [HN.out]; exact hlt), List.getElem?_eq_getElem _⟩
          obtain ⟨ga, hAa, hga, hata⟩ := HC.out j a ha
          injection hAa with hAa
          injection hAa with hAa
          subst hAa
          obtain ⟨gb, hAb, hgb, hatb⟩ := HC.out t b hb
          injection hAb with hAb
          injection hAb with hAb
          subst hAb
          obtain ⟨a0, a1, a2, a3, a4, a5⟩ := hata.below HS2.out.below hga
          obtain ⟨b0, b1, b2, b3, b4, b5⟩ := hatb.below HS2.out.below hgb
          have HB := hide hb
          have KX := hide (KE.out a b)
          have ht1 : (t : Int) < (N : Int) := by omega
          have HLT := hide hlt
          obtain ⟨yb, yx, yu, yt, yp, yq⟩ := a
          obtain ⟨zb, zx, zu, zt, zp, zq⟩ := b
          unfold CD.v clV clA at KX
          simp only at KX a0 a1 a2 a3 a4 a5 b0 b1 b2 b3 b4 b5
          have r0 := cell_regrown a0
          have r1 := cell_regrown a1
          have r2 := cell_regrown a2
          have r3 := cell_regrown a3
          have r4 := cell_regrown a4
          have r5 := cell_regrown a5
          have q0 := cell_regrown b0
          have q1 := cell_regrown b1
          have q2 := cell_regrown b2
          have q3 := cell_regrown b3
          have q4 := cell_regrown b4
          have q5 := cell_regrown b5
          clear ha hb hata hatb hlt a0 a1 a2 a3 a4 a5 b0 b1 b2 b3 b4 b5 hga hgb
          gi_wp2_with fail
          have KQ := hide (fun d os => Calls.regrown_of (d := d) (os := os) (KX.out (Sort.grow (redrawn wr d) os)))
          refine (wpIn_wide).2 ?_
          refine wp_region_quiet_below (by kernel_rfl) (by kernel_rfl) ?_
          repeat (go_big_quiet_step (exact KQ.out _ _))
          refine wpQuiet_nil ?_
          intro _ hw'
          obtain ⟨⟨dq, osq⟩, hw''⟩ := hw'
          subst hw''
          have hb4 := below_regrown wr dq osq
          generalize Sort.grow (redrawn wr dq) osq = w4 at *
          have HF4 := hide (hfr.out.trans (Fr.of_below hb4 (fun _ => False)) (fun _ _ h => h))
          clear hb4 r0 r1 r2 r3 r4 r5 r8 r9 q0 q1 q2 q3 q4 q5 KQ
          generalize hOK : ceq k ⟨yb, yx, yu, yt, yp, yq⟩ ⟨zb, zx, zu, zt, zp, zq⟩ = OK at *
          have HOK := hide hOK
          clear hOK
          have HB1 := hide (show ls[j + 1]? = some ⟨zb, zx, zu, zt, zp, zq⟩ by have h := HB.out; rwa [htj.out] at h)
          cases OK
          · have hres : lng k (ls.drop j) = 1 := lng_ne HA.out HB1.out HOK.out
            have HTM := hide (show t = i + m by have := hln.out; omega)
            have e3 : (t : Int) - (i : Int) = (m : Int) := by have := HTM.out; omega
            clear hres
            have HS4 := hide (hst.out.fr HF4.out (fun _ h => h.elim))
            have HK4 := hide (hK _ _ _ HF4.out (fun _ h => h.elim) hk.out)
            obtain ⟨fn, tmps, assign, body, hy, hR⟩ := hY pre (⟨xb, xx, xu, xt, xp, xq⟩, m) w4 ⟨HPX.out, HS4.out⟩ HK4.out
            rw [show encR9 (⟨xb, xx, xu, xt, xp, xq⟩, m) = #[.agg #[.bool false, .bool xb, .int .i64 xx, .int .u64 xu, .string xt, .complex .f64 xp xq, .int .i64 (m : Int)]] from rfl] at hy
            have HR := hide hR
            clear hR
            have d1 := HS4.out.el.cell 0
            have d2 := HS4.out.ek.cell 0
            simp at d1 d2
            obtain ⟨g0, g1, g2, g3, g4, g5⟩ := HAT.out.below HS4.out.below HG.out
            gi_wp2
            refine HR.out.mono ?_
            rintro e W3 ⟨rfl, ⟨_, hst3⟩, hk3⟩
            have HS3 := hide hst3
            have HK3 := hide hk3
            clear hst3 hk3
            gi_wp2
            go_roundw
            case rel => exact ⟨t, pre ++ [((⟨xb, xx, xu, xt, xp, xq⟩ : CD), m)], htN, rfl, (by show R = _; rw [HTM.out]; exact HREST.out), HS3.out, HK3.out⟩
            case measure => have := HTM.out; have := HMP.out; have := HLTI.out; simp [intOf]; omega
          · have hres : lng k (ls.drop j) = 1 + lng k (ls.drop (j + 1)) := lng_eq HA.out HB1.out HOK.out
            have HLN := hide (show lng k (ls.drop (j + 1)) + (t + 1) = m + i + 1 by have := hln.out; omega)
            clear hres
            gi_wp2
            go_roundw
            case rel => exact ⟨t + 1, j + 1, by go_num, by have := HLT.out; omega, (by show t + 1 = _; rw [htj.out]), (by show i ≤ j + 1; have := hij.out; omega), HLN.out, HF4.out⟩
            case measure => have := HLT.out; simp [intOf]; omega
        · have hres : lng k (ls.drop j) = 1 := lng_end (by rw [HN.out]; have := htj.out; omega)
          have HTM := hide (show t = i + m by have := hln.out; omega)
          have e3 : (t : Int) - (i : Int) = (m : Int) := by have := HTM.out; omega
          have ht2 : decide ((t : Int) < (N : Int)) = false := by rw [decide_eq_false_iff_not]; omega
          have ht3 : decide (t < N) = false := by rw [decide_eq_false_iff_not]; exact hlt
          clear hres ha hlt
          gi_wp2_with fail
          refine (wpIn_wide).2 ?_
          refine wp_region_quiet_below (by kernel_rfl) (by kernel_rfl) ?_
          repeat (go_big_quiet_step (fail))
          refine wpQuiet_nil ?_
          intro _ hw'
          obtain ⟨⟨dq, osq⟩, hw''⟩ := hw'
          subst hw''
          have hb4 := below_regrown wr dq osq
          generalize Sort.grow (redrawn wr dq) osq = w4 at *
          have HF4 := hide (hfr.out.trans (Fr.of_below hb4 (fun _ => False)) (fun _ _ h => h))
          clear hb4 r8 r9
          have HS4 := hide (hst.out.fr HF4.out (fun _ h => h.elim))
          have HK4 := hide (hK _ _ _ HF4.out (fun _ h => h.elim) hk.out)
          obtain ⟨fn, tmps, assign, body, hy, hR⟩ := hY pre (⟨xb, xx, xu, xt, xp, xq⟩, m) w4 ⟨HPX.out, HS4.out⟩ HK4.out
          rw [show encR9 (⟨xb, xx, xu, xt, xp, xq⟩, m) = #[.agg #[.bool false, .bool xb, .int .i64 xx, .int .u64 xu, .string xt, .complex .f64 xp xq, .int .i64 (m : Int)]] from rfl] at hy
          have HR := hide hR
          clear hR
          have d1 := HS4.out.el.cell 0
          have d2 := HS4.out.ek.cell 0
          simp at d1 d2
          obtain ⟨g0, g1, g2, g3, g4, g5⟩ := HAT.out.below HS4.out.below HG.out
          gi_wp2
          refine HR.out.mono ?_
          rintro e W3 ⟨rfl, ⟨_, hst3⟩, hk3⟩
          have HS3 := hide hst3
          have HK3 := hide hk3
          clear hst3 hk3
          gi_wp2
          go_roundw
          case rel => exact ⟨t, pre ++ [((⟨xb, xx, xu, xt, xp, xq⟩ : CD), m)], htN, rfl, (by show R = _; rw [HTM.out]; exact HREST.out), HS3.out, HK3.out⟩
          case measure => have := HTM.out; have := HMP.out; have := HLTI.out; simp [intOf]; omega
    · obtain rfl : N = i := by omega
      have hrr := hpre.out
      rw [rns_end (by rw [HN.out]; exact Nat.le_refl _), List.append_nil] at hrr
      clear hlt hin
      gi_wp2
      go_end0
      exact ⟨⟨_, rfl⟩, _, ⟨hrr.symm, hst.out⟩, hk.out⟩
end
end Go.Proofs.YtfkgmodgkifelaaGreatDoor
namespace Go.Proofs.YtfkgmodgkifelaaGreatDoor
section
open Go.RowKit Go.Shelf
attribute [local go_sem] Oper.semAt_some

theorem rns_facts (k : Int) : ∀ (f : Nat) (l : List CD), ∀ r ∈ rns k f l, r.1 ∈ l ∧ r.2 ≤ l.length := by
  intro f
  induction f with
  | zero => intro l r hr; simp [rns] at hr
  | succ f ih =>
    intro l r hr
    cases l with
    | nil => simp [rns] at hr
    | cons c l =>
      rw [rns] at hr
      rcases List.mem_cons.1 hr with h | h
      · subst h
        exact ⟨by simp, lng_le k _⟩
      · obtain ⟨h1, h2⟩ := ih _ r h
        refine ⟨List.mem_of_mem_drop h1, ?_⟩
        rw [List.length_drop] at h2
        omega
theorem tby_drop_le (l : List CD) (n : Nat) : tby (l.drop n) ≤ tby l := by
  have h := tby_append (l.take n) (l.drop n)
  rw [List.take_append_drop] at h
  omega
theorem byR_len (k : Int) : ∀ (f : Nat) (l : List CD), (∀ c ∈ l, KG c) → l.length ≤ 10000 → (byR k (rns k f l)).length ≤ 2 * tby l := by
  intro f
  induction f with
  | zero => intro l _ _; simp [rns, byR]
  | succ f ih =>
    intro l hk hl
    cases l with
    | nil => simp [rns, byR]
    | cons c l =>
      have h1 := lng_pos k c l
      have h2 := lng_le k (c :: l)
      have e := tby_drop (c :: l) 0 (lng k (c :: l)) h1 (c := c) (by simp)
      rw [Nat.zero_add, List.drop_zero] at e
      have h3 := ih ((c :: l).drop (lng k (c :: l))) (fun x hx => hk x (List.mem_of_mem_drop hx)) (by rw [List.length_drop]; omega)
      have h4 := cellB_len k (hk c (by simp))
      have h5 := uvar_len10 (x := lng k (c :: l)) (by omega)
      rw [rns]
      unfold byR at h3 ⊢
      rw [List.flatMap_cons, List.length_append, show runB k (c, lng k (c :: l)) = uvar (lng k (c :: l)) ++ cellB k c from rfl, List.length_append]
      omega
/-- What holds of the runs that are written. -/
structure ROk (k : Int) (R : List (CD × Nat)) : Prop where
  kg : ∀ r ∈ R, KG r.1
  ts : ∀ r ∈ R, r.1.t.size ≤ 1100000
  nn : ∀ r ∈ R, r.2 ≤ 10000
  len : (byR k R).length ≤ 2200000
theorem rok_of (k : Int) {l : List CD} (h : Wok l) : ROk k (rns k l.length l) := by
  refine ⟨fun r hr => h.kg _ (rns_facts k _ _ r hr).1, fun r hr => ?_, fun r hr => Nat.le_trans (rns_facts k _ _ r hr).2 h.len, ?_⟩
  · have := tby_mem (rns_facts k _ _ r hr).1
    have := h.by_
    omega
  · have := byR_len k l.length l h.kg h.len
    have := h.by_
    omega
theorem ROk.pre {k : Int} {R pre : List (CD × Nat)} (h : ROk k R) (hp : RP R pre) : (byR k pre).length ≤ 2200000 := by
  obtain ⟨t, rfl⟩ := hp
  have := h.len
  unfold byR at this ⊢
  rw [List.flatMap_append, List.length_append] at this
  omega
/-- A round's frame: the run boxed. -/
def AxR (w0 : World) (k : Int) (V : Value) (R : List (CD × Nat)) (A0 : CD × Nat → Nat → Act) (x : (List (CD × Nat) × (CD × Nat)) × Act) (W : World) : Prop :=
  ∃ Bx, w0.heap.size + 4 ≤ Bx ∧ Blk W Bx 173 (runAg x.1.2) ∧ x.2 = A0 x.1.2 Bx ∧ RP R (x.1.1 ++ [x.1.2]) ∧ SR w0 k V (byR k x.1.1) W
theorem axR_own (w0 : World) (k : Int) (V : Value) (R : List (CD × Nat)) (B : Nat) (hB : w0.heap.size + 4 ≤ B) (A0 : CD × Nat → Nat → Act) : OwnFrom B (AxR w0 k V R A0) := by
  rintro x W W' row ⟨Bx, hBx, hb, ha, hst⟩ hg hr
  refine ⟨Bx, hBx, hb.fr (Fr.of_grown hg) (fun hk => ?_), ha, sr_own w0 k V B hB (fun y : (List (CD × Nat) × (CD × Nat)) => RP R (y.1 ++ [y.2])) (fun y => byR k y.1) x.1 W W' row hst hg hr⟩
  obtain ⟨_, o, ho, hc⟩ := hr Bx hk.symm
  obtain ⟨o2, ho2, hc2⟩ := hb.cellsR
  rw [ho] at ho2
  injection ho2 with ho2
  subst ho2
  rw [hc] at hc2; cases hc2
theorem RP.init {R pre : List (CD × Nat)} {x : CD × Nat} (h : RP R (pre ++ [x])) : RP R pre := by
  obtain ⟨t, rfl⟩ := h
  exact ⟨[x] ++ t, by simp⟩
theorem RP.mem {R pre : List (CD × Nat)} {x : CD × Nat} (h : RP R (pre ++ [x])) : x ∈ R := by
  obtain ⟨t, rfl⟩ := h
  simp
set_option maxHeartbeats 4000000 in
set_option maxRecDepth 100000 in
theorem rencode_in (k : Int) (h1 : 1 ≤ k) (h6 : k ≤ 6) (l : List CD) (hl : Wok l) (v : Value) (w : World) (hv : InC w v l) :
    CallsIn FnR 6 Tryz.prog 89 #[.int .i64 k, v] w fun e w' => e = .returned (.string (strN (encR k l))) ∧ Below w.heap.size w w' := by
  obtain ⟨A, ca, rfl, hcell⟩ := hv.form
  obtain ⟨R, hR⟩ : ∃ R, rns k l.length l = R := ⟨_, rfl⟩
  have HOK := hide (rok_of k hl)
  have hfin : encR k l = byR k R := by rw [← hR]; rfl
  have HKE := hide (fun m w1 => callsIn_wide (n := m).2 (rreach_any k A l.length ca w1))
  have HEI := hide (fun l' K hK hY W1 hI hK1 => each_in w k h1 h6 l hl.len A ca hcell l.length rfl R hR.symm 5 (by omega) l' K hK hY W1 hI hK1)
  have HP := hide (fun (W B : Nat) (sv : Value) (m : List Nat) (c : CD) (hc : KG c) (hs : c.t.size ≤ 11000000) (w : World) (h : Wr w W B sv m) (hm : m.length ≤ 18000000) (hB : B ≤ w.heap.size) => pput_all k h1 h6 W B sv m c hc hs w h hm hB)
  rw [hfin]
  rw [hR] at HOK
  have hlen := hl.len
  clear hv hcell hl h1 h6 hfin hR
  generalize l.length = n at *
  have hro : FnR.round = none := rfl
  have hn5 : 1 ≤ 6 := by omega
  have hcs := fun (w1 : World) (a1 : Addr) (m : Mode) (x y : Nat) => run_store Tryz.prog w1 a1 (.complex .f64 x y) m rfl
  refine callsIn_of_wp_marks Tryz.func89 rfl trivial ?_ rfl
  simp only [Tryz.ntmps89, List.size_toArray, List.length_cons, List.length_nil, Nat.reduceAdd, Nat.reduceSub, Array.replicate_succ, Array.replicate_zero, List.push_toArray, List.append_toArray, List.nil_append, List.cons_append]
  gi_wp2_with fail
  refine ⟨trivial, (HKE.out _ _).mono ?_⟩
  rintro e w6 ⟨rfl, rfl⟩
  gi_wp2_with fail
  have hB6 : Below w.heap.size w ((((w.alloc (.cells #[.int .i64 k] 3)).alloc (.cells #[.slice none 0 0] 77)).alloc (.cells #[.int .i64 k] 3)).alloc (.cells #[.slice A n ca] 25)) :=
    ((((Below.refl _ _).alloc (Nat.le_refl _) _).alloc (by simp) _).alloc (by simp; omega) _).alloc (by simp; omega) _
  have hst0 : SR w k (.slice A n ca) (byR k []) ((((w.alloc (.cells #[.int .i64 k] 3)).alloc (.cells #[.slice none 0 0] 77)).alloc (.cells #[.int .i64 k] 3)).alloc (.cells #[.slice A n ca] 25)) := by
    have n1 := Blk.new w #[.int .i64 k] 3
    have n2 := Blk.new (w.alloc (.cells #[.int .i64 k] 3)) #[.slice none 0 0] 77
    have n3 := Blk.new ((w.alloc (.cells #[.int .i64 k] 3)).alloc (.cells #[.slice none 0 0] 77)) #[.int .i64 k] 3
    have n4 := Blk.new (((w.alloc (.cells #[.int .i64 k] 3)).alloc (.cells #[.slice none 0 0] 77)).alloc (.cells #[.int .i64 k] 3)) #[.slice A n ca] 25
    simp only [World.size_alloc] at n2 n3 n4
    exact ⟨((n1.alloc _).alloc _).alloc _, ⟨.slice none 0 0, ⟨(n2.alloc _).alloc _, ownU8_nil _ _, by omega⟩⟩, n3.alloc _, n4, hB6⟩
  obtain ⟨W6, hW6⟩ : ∃ W6, ((((w.alloc (.cells #[.int .i64 k] 3)).alloc (.cells #[.slice none 0 0] 77)).alloc (.cells #[.int .i64 k] 3)).alloc (.cells #[.slice A n ca] 25)) = W6 := ⟨_, rfl⟩
  have hz6 : w.heap.size + 4 ≤ W6.heap.size := by rw [← hW6]; simp
  rw [hW6] at hst0 hB6 ⊢
  clear hW6
  refine wpIn_rangeFunc_st (α := CD × Nat) rfl (by omega) (gf := 155) (lb := #[.pointer (some ⟨w.heap.size + 3, 0, none⟩), .pointer (some ⟨w.heap.size + 2, 0, none⟩)]) rfl trivial (enters_of Tryz.func155 (by kernel_rfl) rfl) (encs := encR9) (fun _ => rfl)
    (fun pre W => RP R pre ∧ SR w k (.slice A n ca) (byR k pre) W) (fun y W => RP R (y.1 ++ [y.2]) ∧ SR w k (.slice A n ca) (byR k y.1) W)
    (AxR w k (.slice A n ca) R (fun x Bx => { tmps := #[.int .i64 k, .slice A n ca, .pointer (some ⟨w.heap.size, 0, none⟩), undef, .string ⟨#[]⟩, .pointer (some ⟨w.heap.size + 1, 0, none⟩), .pointer (some ⟨Bx, 0, none⟩), .int .i64 k, .slice A n ca,
      .func (.func 155) #[] #[.pointer (some ⟨w.heap.size + 3, 0, none⟩), .pointer (some ⟨w.heap.size + 2, 0, none⟩)],
      .agg (runAg x), undef, undef, undef, undef, undef, undef, undef, undef, undef], defers := [] }))
    (fun xs W => xs = R ∧ SR w k (.slice A n ca) (byR k xs) W)
    (sr_own w k _ _ hz6 (fun pre : List (CD × Nat) => RP R pre) (byR k)) (axR_own w k _ R _ hz6 _) (sr_own w k _ _ hz6 (fun xs : List (CD × Nat) => xs = R) (byR k)) ⟨⟨R, rfl⟩, hst0⟩ ?hseq ?hassign ?hbody ?hdone
  case hseq =>
    intro l' K hK hY W1 hI1 hK1
    exact HEI.out l' K hK (fun pre x W hm hk => hY pre x W hm hk) W1 hI1.2 hK1
  case hassign =>
    rintro l' pre ⟨⟨xb, xx, xu, xt, xp, xq⟩, xn⟩ W K ⟨hc, hst⟩ hK
    have hst' := hide hst
    have hc' := hide hc
    clear hst hc
    simp only [encR9, runAg]
    gi_wp2
    have h5 := hst'.out.el.lt
    exact hK _ _ ((KeepsOthers.alloc _ _).from _) ⟨W.heap.size, by omega, Blk.new W _ _, rfl, hc'.out, hst'.out.fr (Fr.alloc _ _ (fun _ => False)) (fun _ h => h.elim)⟩
  case hbody =>
    rintro l' pre ⟨⟨xb, xx, xu, xt, xp, xq⟩, xn⟩ a' W ⟨Bx, hBx, hb, ha, hc, hst⟩
    dsimp only at hb ha hc hst
    subst ha
    obtain ⟨sv, hw⟩ := hst.wr
    have hl := HOK.out.pre hc.init
    have hnn := HOK.out.nn _ hc.mem
    simp only at hnn
    have hn64 : xn < 18446744073709551616 := by omega
    have hb6 := hb.cell 6
    simp [runAg] at hb6
    have hn0 : (0 : Int) ≤ (xn : Int) := by omega
    have hn1 : (xn : Int) ≤ 10000 := by omega
    have hnw : IntKind.u64.wrap (xn : Int) = (xn : Int) := by rw [IntKind.wrap_u64]; omega
    have KU := hide (wuvar_any _ _ sv (byR k pre) xn hn64 W hw (by omega) hst.below.size)
    have HB := hide hb
    have HST := hide hst
    have HW := hide hw
    have HL : Hid ((byR k pre ++ uvar xn).length ≤ 2200010) := by show _ ≤ _; rw [List.length_append]; have := uvar_len10 hn64; omega
    have HC := hide hc
    clear hb hst hw hl hc hn64 hnn
    gi_wp2_with fail
    refine ⟨trivial, (CallsIn.inRound l' (callsIn_wide.2 KU.out)).mono ?_⟩
    rintro e W1 ⟨rfl, sv1, hw1, hs1⟩
    have HST1 := hide (HST.out.step HW.out hw1 hs1)
    have HB1 := hide (HB.out.fr hs1.fr (fun e => by
      rcases e with e | e
      · omega
      · exact HW.out.own.ne HB.out (by decide) e.symm))
    have HW1 := hide hw1
    have HS1 := hide hs1
    have KP := hide (HP.out _ _ sv1 (byR k pre ++ uvar xn) ⟨xb, xx, xu, xt, xp, xq⟩ (HOK.out.kg _ HC.out.mem) (by have := HOK.out.ts _ HC.out.mem; simp only at this ⊢; omega) W1 hw1 (by have := HL.out; omega) HST1.out.below.size)
    unfold CD.v clV clA at KP
    dsimp only at KP
    have b0 := HB1.out.cell 0
    have b1 := HB1.out.cell 1
    have b2 := HB1.out.cell 2
    have b3 := HB1.out.cell 3
    have b4 := HB1.out.cell 4
    have b5 := HB1.out.cell 5
    have k0 := HST1.out.bk.cell 0
    simp [runAg] at b0 b1 b2 b3 b4 b5 k0
    clear hw1 hs1 hb6
    gi_wp2_with fail
    refine ⟨trivial, (CallsIn.inRound l' (callsIn_wide.2 KP.out)).mono ?_⟩
    rintro e W2 ⟨rfl, sv2, hw2, hs2⟩
    have HST2 := hide (HST1.out.step HW1.out hw2 hs2)
    have HS2 := hide (HS1.out.trans hs2)
    clear hw2 hs2
    gi_wp2_with fail
    refine ⟨keeps_frR HS2.out.fr ?_, ?_⟩
    · rintro j (rfl | hk)
      · exact HW.out.blk.cellsR
      · have ho := HW.out.own
        unfold OwnU8 at ho
        exact own_cellsR ho hk.symm
    · refine ⟨HC.out, ?_⟩
      rw [byR_snoc]
      exact HST2.out
  case hdone =>
    rintro D xs W hD ⟨hxs, hst⟩ hdef
    obtain ⟨sv, hw⟩ := hst.wr
    rw [hxs] at hw
    have KS := hide (wstring_any _ _ _ _ _ hw)
    have HDEF := hide hdef
    have HST := hide hst
    clear hst hdef hw hxs
    gi_wp2_with fail
    refine ⟨trivial, (callsIn_wide.2 KS.out).mono ?_⟩
    rintro e w2 ⟨rfl, rfl⟩
    gi_wp2_with fail
    refine ⟨by simp, .inl ⟨_, _, rfl, run_takeDeferred HDEF.out, ?_⟩⟩
    have hfd : Fr W (W.putObj D (.deferred none)) (fun k => some k = some D) := Fr.of_grown (grownBy_putObj' _ D (.deferred none))
    refine ⟨_, results_tmp rfl _ _ _, rfl, HST.out.below.trans (hfd.below HST.out.below.size (fun k hk => ?_))⟩
    have : k = D := by injection hk
    omega
end
open Go.RowKit
theorem rencode_any (k : Int) (h1 : 1 ≤ k) (h6 : k ≤ 6) (l : List CD) (hl : Wok l) (v : Value) (w : World) (hv : InC w v l) :
    Calls Tryz.prog 89 #[.int .i64 k, v] w fun e w' => e = .returned (.string (strN (encR k l))) ∧ Below w.heap.size w w' :=
  (callsIn_wide (n := 6)).1 (rencode_in k h1 h6 l hl v w hv)
end Go.Proofs.YtfkgmodgkifelaaGreatDoor
namespace Go.Proofs.YtfkgmodgkifelaaGreatDoor
open Go.RowKit

set_option maxHeartbeats 1000000 in
set_option maxRecDepth 100000 in
theorem cstep_int (f0 f1 : Bool) (s0 s1 : ByteArray) (a b u v : Int) (p q p1 q1 : Nat) (w : World) :
    Calls Tryz.prog 136 #[.int .i64 2, clV f0 a u s0 p q, clV f1 b v s1 p1 q1] w fun e w' => e = .returned (.tuple #[cl (wrap64 (b - a)) 0 0 0, .int .i64 0]) ∧ Below w.heap.size w w' := by
  unfold cl clV clA
  have H3 := hide (row3 w)
  have HB := hide (below3 w)
  go_enter Tryz.func136, Tryz.ntmps136
  have hst := fun (w1 : World) (a1 : Addr) (m : Mode) (x y : Nat) => run_store Tryz.prog w1 a1 (.complex .f64 x y) m rfl
  go_wp2_with fail
  refine bodyPost_ret (results_cell_tmp_row rfl _ _ _ (w.heap.size + 1 + 1) 45 #[.bool false, .bool false, .int .i64 (wrap64 (b - a)), .int .u64 0, .string ByteArray.empty, .complex .f64 0 0] (0, 0) rfl (H3.out _ _ _) Tryz.underlying45 (by exact info_cell)) rfl ?_
  exact ⟨rfl, HB.out _ _ _⟩
set_option maxHeartbeats 1000000 in
set_option maxRecDepth 100000 in
theorem cstep_uint (f0 f1 : Bool) (s0 s1 : ByteArray) (a b u v : Int) (p q p1 q1 : Nat) (w : World) :
    Calls Tryz.prog 136 #[.int .i64 3, clV f0 a u s0 p q, clV f1 b v s1 p1 q1] w fun e w' => e = .returned (.tuple #[cl (wrap64 ((v - u) % 18446744073709551616)) 0 0 0, .int .i64 0]) ∧ Below w.heap.size w w' := by
  unfold cl clV clA
  have H3 := hide (row3 w)
  have HB := hide (below3 w)
  go_enter Tryz.func136, Tryz.ntmps136
  have hst := fun (w1 : World) (a1 : Addr) (m : Mode) (x y : Nat) => run_store Tryz.prog w1 a1 (.complex .f64 x y) m rfl
  go_wp2_with fail
  refine bodyPost_ret (results_cell_tmp_row rfl _ _ _ (w.heap.size + 1 + 1) 45 #[.bool false, .bool false, .int .i64 (wrap64 ((v - u) % 18446744073709551616)), .int .u64 0, .string ByteArray.empty, .complex .f64 0 0] (0, 0) rfl (H3.out _ _ _) Tryz.underlying45 (by exact info_cell)) rfl ?_
  exact ⟨rfl, HB.out _ _ _⟩
set_option maxHeartbeats 1000000 in
set_option maxRecDepth 100000 in
theorem cstep_point (f0 f1 : Bool) (s0 s1 : ByteArray) (a b u v : Int) (p q p1 q1 re im : Nat) (hc : cSumBits .sub .f64 p1 q1 p q = some (re, im)) (w : World) :
    Calls Tryz.prog 136 #[.int .i64 6, clV f0 a u s0 p q, clV f1 b v s1 p1 q1] w fun e w' => e = .returned (.tuple #[cl 0 0 re im, .int .i64 0]) ∧ Below w.heap.size w w' := by
  unfold cl clV clA
  have H3 := hide (row3 w)
  have HB := hide (below3 w)
  have hsub := fun w => run_complex_sum (P := Tryz.prog) (w := w) .sub (.inr rfl) 43 .f64 p1 q1 p q re im hc
  clear hc
  go_enter Tryz.func136, Tryz.ntmps136
  have hst := fun (w1 : World) (a1 : Addr) (m : Mode) (x y : Nat) => run_store Tryz.prog w1 a1 (.complex .f64 x y) m rfl
  go_wp2_with fail
  refine bodyPost_ret (results_cell_tmp_row rfl _ _ _ (w.heap.size + 1 + 1) 45 #[.bool false, .bool false, .int .i64 (0), .int .u64 0, .string ByteArray.empty, .complex .f64 re im] (0, 0) rfl (H3.out _ _ _) Tryz.underlying45 (by exact info_cell)) rfl ?_
  exact ⟨rfl, HB.out _ _ _⟩
end Go.Proofs.YtfkgmodgkifelaaGreatDoor
namespace Go.Proofs.YtfkgmodgkifelaaGreatDoor
open Go.RowKit

theorem pstepN (k : Int) (hk : k = 2 ∨ k = 3) (c x : CD) (hc : KG c) (hx : KG x) (w : World) :
    Calls Tryz.prog 136 #[.int .i64 k, c.v, x.v] w fun e w' => e = .returned (.tuple #[cl (stN (wd k c) (wd k x)) 0 0 0, .int .i64 0]) ∧ Below w.heap.size w w' := by
  have := hc.u1
  have := hc.u2
  have := hx.u1
  have := hx.u2
  rcases hk with rfl | rfl
  · have e : stN (wd 2 c) (wd 2 x) = wrap64 (x.x - c.x) := by unfold stN wd wrap64; simp only [if_pos]; omega
    rw [e]
    exact cstep_int c.b x.b c.t x.t c.x x.x c.u x.u c.p c.q x.p x.q w
  · have e : stN (wd 3 c) (wd 3 x) = wrap64 ((x.u - c.u) % 18446744073709551616) := by unfold stN wd wrap64; rw [if_neg (by omega), if_neg (by omega)]; omega
    rw [e]
    exact cstep_uint c.b x.b c.t x.t c.x x.x c.u x.u c.p c.q x.p x.q w
end Go.Proofs.YtfkgmodgkifelaaGreatDoor
