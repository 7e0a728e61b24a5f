/- All frames: the program's Scan, a range over a function that keeps its state in cells. -/
import Derived.Test.YtkeaijocjbldmaaFrameS2
import Derived.Test.YtkeaijocjbldmaaRange
import Derived.Shelf.Abstract
import Derived.Shelf.RegionOpen
import Derived.OwnWalkIn
import Derived.TacticsInMore
import Derived.LoopNIn
import Derived.LoopIn
namespace Go.Proofs.Ytkeaijocjbldmaa
open Go.RowKit Go.Shelf
attribute [local go_sem] Oper.semAt_some

abbrev FrD := Nat × List Nat × Nat
/-- A frame and where it ends. -/
abbrev FrE := FrD × Nat
def frs (a : List FrE) : List FrD := a.map Prod.fst
def endP (a : List FrE) : Nat := ((a.map Prod.snd).getLast?).getD 0
theorem frs_snoc (a : List FrE) (x : FrE) : frs (a ++ [x]) = frs a ++ [x.1] := by simp [frs]
theorem endP_snoc (a : List FrE) (x : FrE) : endP (a ++ [x]) = x.2 := by simp [endP]
/-- The state of a scan under way. -/
structure St (w0 : World) (s : ByteArray) (a out : List FrD) (p : Nat) (v : Value) (W : World) : Prop where
  scan : Scan1 (bn s) a p
  le : p ≤ s.size
  len : a.length ≤ p
  at_ : Blk W w0.heap.size 3 #[.int .i64 (p : Nat)]
  er : Blk W (w0.heap.size + 1) 28 #[.int .i64 0]
  li : Blk W (w0.heap.size + 2) 58 #[v]
  bs : Blk W (w0.heap.size + 3) 9 #[.string s]
  ba : Blk W (w0.heap.size + 4) 99 #[.pointer (some ⟨w0.heap.size, 0, none⟩)]
  be : Blk W (w0.heap.size + 5) 100 #[.pointer (some ⟨w0.heap.size + 1, 0, none⟩)]
  own : W.ownsRow w0.heap.size 65 3 v out.length (out.flatMap cells3)
  below : Below w0.heap.size w0 W
theorem Blk.cellsB {w : World} {b : Nat} {t : TypeId} {cs : Array Value} (h : Blk w b t cs) : ∃ o, w.heap[b]? = some o ∧ o.isCells = true := ⟨_, h.out, rfl⟩
theorem own_cellsB {w : World} {B n sz : Nat} {e : TypeId} {v : Value} {xs : List Value} (h : w.ownsRow B e sz v n xs) {k : Nat} (hk : v.ownBlock = some k) : ∃ o, w.heap[k]? = some o ∧ o.isCells = true := by
  rcases h.2 with ⟨rfl, _⟩ | ⟨g, cap, cur, rfl, _, hg, _⟩
  · simp [Value.ownBlock] at hk
  · simp [Value.ownBlock] at hk
    subst hk
    exact ⟨_, hg, rfl⟩
theorem St.fr {w0 W W' : World} {s : ByteArray} {a out : List FrD} {p : Nat} {v : Value} {S : Nat → Prop} (h : St w0 s a out p v W) (hf : Fr W W' S)
    (hS : ∀ k, S k → w0.heap.size + 6 ≤ k ∧ v.ownBlock ≠ some k) : St w0 s a out p v W' := by
  have hn : ∀ k, k < w0.heap.size + 6 → ¬ S k := fun k hk hs => by have := (hS k hs).1; omega
  exact ⟨h.scan, h.le, h.len, h.at_.fr hf (hn _ (by omega)), h.er.fr hf (hn _ (by omega)), h.li.fr hf (hn _ (by omega)), h.bs.fr hf (hn _ (by omega)), h.ba.fr hf (hn _ (by omega)), h.be.fr hf (hn _ (by omega)),
    own_fr h.own hf (fun k hk hs => (hS k hs).2 hk), h.below.trans (hf.below h.below.size (fun k hs => by have := (hS k hs).1; omega))⟩
theorem Fr.of_grownBy {W W' : World} {row : Option Nat} (h : W.grownBy W' row) : Fr W W' (fun k => some k = row) := Fr.of_grown h
theorem st_own (w0 : World) (s : ByteArray) (B : Nat) (hB : w0.heap.size + 6 ≤ B) {β : Type} (f g : β → List FrD) (h : β → Nat) : OwnFrom B (fun (x : β) W => ∃ v, St w0 s (f x) (g x) (h x) v W) := by
  rintro x W W' row ⟨v, h⟩ hg hr
  refine ⟨v, h.fr (Fr.of_grownBy hg) (fun k hk => ?_)⟩
  obtain ⟨h1, o, ho, hc⟩ := hr k hk.symm
  refine ⟨by omega, fun hv => ?_⟩
  obtain ⟨o2, ho2, hc2⟩ := own_cellsB h.own hv
  rw [ho] at ho2
  injection ho2 with ho2
  subst ho2
  rw [hc] at hc2; cases hc2
/-- .. and a frame of the iterator's, boxed. -/
def AxP (w0 : World) (s : ByteArray) (B : Nat) (A0 : FrE → Nat → Act) (x : (List FrE × FrE) × Act) (W : World) : Prop :=
  ∃ Bx, w0.heap.size + 6 ≤ Bx ∧ B = B ∧ Blk W Bx 65 (cells3 x.1.2.1).toArray ∧ x.2 = A0 x.1.2 Bx ∧ ∃ v, St w0 s (frs (x.1.1 ++ [x.1.2])) (frs x.1.1) x.1.2.2 v W
theorem ax_own (w0 : World) (s : ByteArray) (B : Nat) (hB : w0.heap.size + 6 ≤ B) (A0 : FrE → Nat → Act) : OwnFrom B (AxP w0 s B A0) := by
  rintro x W W' row ⟨Bx, hBx, hB0, hb, ha, hst⟩ hg hr
  refine ⟨Bx, hBx, hB0, hb.fr (Fr.of_grownBy hg) (fun hk => ?_), ha, st_own w0 s B hB (fun y : (List FrE × FrE) => frs (y.1 ++ [y.2])) (fun y => frs y.1) (fun y => y.2.2) x.1 W W' row hst hg hr⟩
  obtain ⟨_, o, ho, hc⟩ := hr Bx hk.symm
  obtain ⟨o2, ho2, hc2⟩ := hb.cellsB
  rw [ho] at ho2
  injection ho2 with ho2
  subst ho2
  rw [hc] at hc2; cases hc2
/-- What stands when the iterator has ended. -/
structure Zt (w0 : World) (s : ByteArray) (out : List FrD) (p er : Nat) (v : Value) (W : World) : Prop where
  scan : scanN (bn s) 0 = (out, p, er)
  at_ : Blk W w0.heap.size 3 #[.int .i64 (p : Nat)]
  er : Blk W (w0.heap.size + 1) 28 #[.int .i64 (er : Nat)]
  li : Blk W (w0.heap.size + 2) 58 #[v]
  own : W.ownsRow w0.heap.size 65 3 v out.length (out.flatMap cells3)
  below : Below w0.heap.size w0 W
theorem Zt.fr {w0 W W' : World} {s : ByteArray} {out : List FrD} {p er : Nat} {v : Value} {S : Nat → Prop} (h : Zt w0 s out p er v W) (hf : Fr W W' S)
    (hS : ∀ k, S k → w0.heap.size + 6 ≤ k ∧ v.ownBlock ≠ some k) : Zt w0 s out p er v W' := by
  have hn : ∀ k, k < w0.heap.size + 6 → ¬ S k := fun k hk hs => by have := (hS k hs).1; omega
  exact ⟨h.scan, h.at_.fr hf (hn _ (by omega)), h.er.fr hf (hn _ (by omega)), h.li.fr hf (hn _ (by omega)),
    own_fr h.own hf (fun k hk hs => (hS k hs).2 hk), h.below.trans (hf.below h.below.size (fun k hs => by have := (hS k hs).1; omega))⟩
theorem zt_own (w0 : World) (s : ByteArray) (B : Nat) (hB : w0.heap.size + 6 ≤ B) : OwnFrom B (fun (x : List FrE) W => ∃ p er v, Zt w0 s (frs x) p er v W) := by
  rintro x W W' row ⟨p, er, v, h⟩ hg hr
  refine ⟨p, er, v, h.fr (Fr.of_grownBy hg) (fun k hk => ?_)⟩
  obtain ⟨h1, o, ho, hc⟩ := hr k hk.symm
  refine ⟨by omega, fun hv => ?_⟩
  obtain ⟨o2, ho2, hc2⟩ := own_cellsB h.own hv
  rw [ho] at ho2
  injection ho2 with ho2
  subst ho2
  rw [hc] at hc2; cases hc2
theorem keeps_fr {B : Nat} {W W' : World} {S : Nat → Prop} (hf : Fr W W' S) (hS : ∀ k, S k → ∃ o, W.heap[k]? = some o ∧ o.isCells = true) : KeepsFrom B W W' :=
  ⟨hf.size, fun k o _ hk ho => (hf.block k (Array.getElem?_eq_some_iff.1 hk).1 (fun hs => by
    obtain ⟨o2, h2, hc⟩ := hS k hs
    rw [hk] at h2; injection h2 with h2; subst h2; rw [ho] at hc; cases hc)).trans hk⟩
/-- What is handed to a round. -/
def encF (x : FrE) : Array Value := #[.agg #[.int .u8 (x.1.1 : Nat), .string (strN x.1.2.1), .int .i64 (x.1.2.2 : Nat)]]
set_option maxHeartbeats 1000000 in
set_option maxRecDepth 100000 in
theorem each_any (s : ByteArray) (A E : Addr) (w : World) :
    Calls Try.prog 62 #[.string s, .pointer (some A), .pointer (some E)] w fun e w' =>
      e = .returned (.func (.func 67) #[] #[.pointer (some ⟨w.heap.size + 1, 0, none⟩), .pointer (some ⟨w.heap.size, 0, none⟩), .pointer (some ⟨w.heap.size + 2, 0, none⟩)]) ∧
      ((w.alloc (.cells #[.string s] 9)).alloc (.cells #[.pointer (some A)] 99)).alloc (.cells #[.pointer (some E)] 100) = w' := by
  go_enter Try.func62, Try.ntmps62
  go_wp2_with fail
  go_ret
  exact ⟨rfl, rfl⟩
/-- How far a scan has come, off the world. -/
def muAt (H : Nat) (s : ByteArray) (W : World) : Nat := s.size - (intOf ((W.cell? ⟨H, 0, none⟩).getD undef)).toNat
/-- A fence whose functions are told by a hypothesis. -/
def FnS (S : FuncId → Prop) : Fence := { fn := S, depth := none, alive := false }
set_option maxHeartbeats 2000000 in
set_option maxRecDepth 100000 in
theorem each1_in (S : FuncId → Prop) (h36 : (FnS S).fn 36) (h67 : (FnS S).fn 67)
    (hKN : ∀ (s : ByteArray) m w1, s.size ≤ 1000000 → CallsIn (FnS S) m Try.prog 36 #[.string s] w1 fun e w' => e = .returned (.tuple #[.int .u8 ((nextN (bn s)).1 : Nat), .string (strN (nextN (bn s)).2.1), .int .i64 ((nextN (bn s)).2.2.1 : Nat), .int .i64 ((nextN (bn s)).2.2.2 : Nat)]) ∧ Below w1.heap.size w1 w')
    (w0 : World) (s : ByteArray) (hs : s.size ≤ 1000000) (n : Nat) (hn : 2 ≤ n) (l : Nat) (K : World → Prop) (hK : CellsKeep K)
    (hY : ∀ pre x W, (∃ v, St w0 s (frs (pre ++ [x])) (frs pre) x.2 v W) → K W → YieldAt (FnS S) (n - 1) Try.prog l (encF x) W fun e W' => e = .returned (.bool true) ∧ (∃ v, St w0 s (frs (pre ++ [x])) (frs (pre ++ [x])) (endP (pre ++ [x])) v W') ∧ K W')
    (W : World) (h0 : ∃ v, St w0 s (frs []) (frs []) (endP []) v W) (hk0 : K W) :
    CallsIn (FnS S) n Try.prog 67 (#[.func (.yield l) #[] #[]] ++ #[.pointer (some ⟨w0.heap.size + 4, 0, none⟩), .pointer (some ⟨w0.heap.size + 3, 0, none⟩), .pointer (some ⟨w0.heap.size + 5, 0, none⟩)]) W fun e W' => (∃ v, e = .returned v) ∧ ∃ xs, (∃ p er v, Zt w0 s (frs xs) p er v W') ∧ K W' := by
  have HKN := hide hKN
  clear hKN
  have hn1 : 1 ≤ n := by omega
  have hro : (FnS S).round = none := rfl
  refine callsIn_of_wp Try.func67 rfl h67 ?_ rfl
  simp only [Try.ntmps67, List.size_toArray, List.length_cons, List.length_nil, Nat.reduceAdd, Nat.reduceSub, Array.replicate_succ, Array.replicate_zero, List.push_toArray, List.append_toArray, List.nil_append, List.cons_append]
  gi_wp2
  gi_loopw [] (fun wr => ∃ (pre : List FrE) (p : Nat) (v : Value), Hid (p = endP pre) ∧ Hid (St w0 s (frs pre) (frs pre) p v wr) ∧ Hid (K wr)) (fun wr => muAt w0.heap.size s wr)
  case atStart =>
    obtain ⟨v, h⟩ := h0
    exact ⟨[], _, v, rfl, h, hk0⟩
  case round =>
    obtain ⟨pre, p, v, hpe, hst, hk⟩ := hrel
    have HC0 := hide (hst.out.at_.cell 0)
    have c0 := hst.out.at_.cell 0
    have c3 := hst.out.bs.cell 0
    have c4 := hst.out.ba.cell 0
    have c5 := hst.out.be.cell 0
    have f0 := hst.out.at_.frozen 0
    have f1 := hst.out.er.frozen 0
    simp at c0 c3 c4 c5
    have hple := hst.out.le
    have hplen := hst.out.len
    by_cases hlt : p < s.size
    · have KN : Hid (∀ m w1, CallsIn (FnS S) m Try.prog 36 #[.string (s.extract p s.size)] w1 fun e w' => e = .returned (.tuple #[.int .u8 ((nextN ((bn s).drop p)).1 : Nat), .string (strN (nextN ((bn s).drop p)).2.1), .int .i64 ((nextN ((bn s).drop p)).2.2.1 : Nat), .int .i64 ((nextN ((bn s).drop p)).2.2.2 : Nat)]) ∧ Below w1.heap.size w1 w') := fun m w1 => by
        have := HKN.out (s.extract p s.size) m w1 (by rw [ByteArray.size_extract]; omega)
        rw [bn_drop] at this
        exact this
      have hbl := bn_len s
      have hbad := scan1_bad hst.out.scan (by omega)
      have hon := scan1_on hst.out.scan (by omega)
      have hok := nextN_ok (D := (bn s).drop p)
      rw [List.length_drop, hbl] at hok
      generalize nextN ((bn s).drop p) = T at *
      obtain ⟨k, bd, m, er⟩ := T
      simp only at KN hbad hon hok
      clear hbl
      have hpi : (p : Int) ≤ (s.size : Int) := by omega
      have hpi0 : (0 : Int) ≤ (p : Int) := by omega
      gi_wp2_with fail
      gi_quiet (fail)
      gi_wp2_with fail
      gi_region_with (gi_at_call 36; refine (KN.out _ _).mono ?_; rintro e w2 ⟨rfl, hb2⟩)
      all_goals
        have hf2 : Fr wr w2 (fun _ => False) := (Fr.drewN wr _ _).trans (Fr.of_below hb2 _) (fun _ _ h => h)
        have hst2 := hide (hst.out.fr hf2 (fun _ h => h.elim))
        have hk2 := hide (hK _ _ _ hf2 (fun _ h => h.elim) hk.out)
        have d0 := hst2.out.at_.cell 0
        have d4 := hst2.out.ba.cell 0
        have d5 := hst2.out.be.cell 0
        have g0 := hst2.out.at_.frozen 0
        have g1 := hst2.out.er.frozen 0
        have e1 := hst2.out.er.cell 0
        simp at d0 d4 d5 e1
        clear c0 c3 c4 c5 f0 f1 hb2 hpi hpi0
        by_cases he : er = 0
        · subst he
          have hm := hok rfl
          have hpm : p + m ≤ s.size := by omega
          have HN := hide (hon rfl)
          clear hbad hon hok
          have hlt0 := hst2.out.at_.lt
          have hfs := Fr.setCell w2 ⟨w0.heap.size, 0, none⟩ (.int .i64 ((p : Int) + (m : Int)))
          have hk4 := hK _ _ _ hfs (fun q hq _ => by subst hq; exact hst2.out.at_.cellsB) hk2.out
          have hst4 : St w0 s (frs (pre ++ [((k, bd, p), p + m)])) (frs pre) (p + m) v (w2.setCell ⟨w0.heap.size, 0, none⟩ (.int .i64 ((p : Int) + (m : Int)))) := by
            have hst3 := hst2.out
            have hoth : ∀ b, b ≠ w0.heap.size → ¬ (b = (⟨w0.heap.size, 0, none⟩ : Addr).block) := fun b h => h
            refine ⟨by rw [frs_snoc]; exact HN.out, hpm, ?_, ?_, hst3.er.fr hfs (hoth _ (by omega)), hst3.li.fr hfs (hoth _ (by omega)), hst3.bs.fr hfs (hoth _ (by omega)), hst3.ba.fr hfs (hoth _ (by omega)), hst3.be.fr hfs (hoth _ (by omega)), own_fr hst3.own hfs ?_, hst3.below.setCell (Nat.le_refl _) _⟩
            · rw [frs_snoc, List.length_append]
              simp only [List.length_cons, List.length_nil]
              omega
            · have := hst3.at_.set 0 (.int .i64 ((p : Int) + (m : Int)))
              rw [show ((p : Int) + (m : Int)) = ((p + m : Nat) : Int) by omega] at this ⊢
              exact this
            · rintro q hq rfl
              exact own_ne_blk hst3.own hst3.at_ (by decide) hq
          have hal : Fr (w2.setCell ⟨w0.heap.size, 0, none⟩ (.int .i64 ((p : Int) + (m : Int)))) ((w2.setCell ⟨w0.heap.size, 0, none⟩ (.int .i64 ((p : Int) + (m : Int)))).alloc (.cells #[.int .u8 (k : Nat), .string (strN bd), .int .i64 (p : Nat)] 65)) (fun _ => False) := Fr.alloc _ _ _
          have hst5 := hst4.fr hal (fun _ h => h.elim)
          have hk5 := hK _ _ _ hal (fun _ h => h.elim) hk4
          have hal2 : Fr w2 (w2.alloc (.cells #[.int .u8 (k : Nat), .string (strN bd), .int .i64 (p : Nat)] 65)) (fun _ => False) := Fr.alloc _ _ _
          have hst3 := hst2.out.fr hal2 (fun _ h => h.elim)
          obtain ⟨fn, tmps, assign, body, hy, hR⟩ := hY pre ((k, bd, p), p + m) _ ⟨v, hst5⟩ hk5
          unfold encF at hy
          dsimp only at hy
          have HR := hide hR
          have a0 := hst3.at_.cell 0
          have a4 := hst3.ba.cell 0
          have b0 := hst3.at_.frozen 0
          simp only [List.getElem?_toArray, List.getElem?_cons_zero] at a0 a4
          clear e1 g1
          clear hR hal hal2 hst3 hfs hk4 hst4 hk5 hst5
          gi_wp2
          refine HR.out.mono ?_
          rintro e W3 ⟨rfl, ⟨v3, hst3⟩, hk3⟩
          rw [endP_snoc] at hst3
          have HS3 := hide hst3
          have HK3 := hide hk3
          have HA3 := hide (hst3.at_.cell 0)
          clear hst3 hk3
          gi_wp2
          go_roundw
          case rel => exact ⟨pre ++ [((k, bd, p), p + m)], p + m, v3, by show _ = _; rw [endP_snoc], HS3, HK3⟩
          case measure =>
            unfold muAt
            rw [HA3.out, HC0.out]
            simp [intOf]
            omega
        · have HB := hide (hbad he)
          have hne : ((er : Int) != 0) = true := by rw [bne_iff_ne]; omega
          clear hbad hon hok
          gi_wp2
          refine bodyPost_ret (results_none rfl _ _ _) rfl ?_
          have hfs := Fr.setCell w2 ⟨w0.heap.size + 1, 0, none⟩ (.int .i64 (er : Nat))
          have hoth : ∀ b, b ≠ w0.heap.size + 1 → ¬ (b = (⟨w0.heap.size + 1, 0, none⟩ : Addr).block) := fun b h => h
          refine ⟨⟨_, rfl⟩, pre, ⟨p, er, v, ⟨HB.out, hst2.out.at_.fr hfs (hoth _ (by omega)), ?_, hst2.out.li.fr hfs (hoth _ (by omega)), own_fr hst2.out.own hfs ?_, hst2.out.below.setCell (by show w0.heap.size ≤ w0.heap.size + 1; omega) _⟩⟩, hK _ _ _ hfs (fun q hq _ => by subst hq; exact hst2.out.er.cellsB) hk2.out⟩
          · exact hst2.out.er.set 0 _
          · rintro q hq rfl
            exact own_ne_blk hst2.out.own hst2.out.er (by decide) hq
    · have HE := hide (scan1_done hst.out.scan (by rw [bn_len]; omega))
      gi_wp2_with fail
      gi_quiet (fail)
      gi_wp2
      go_end0
      have hf : Fr wr (wr.drewN nq) (fun _ => False) := Fr.drewN wr nq _
      refine ⟨⟨_, rfl⟩, pre, ⟨p, 0, v, ?_⟩, hK _ _ _ hf (fun _ h => h.elim) hk.out⟩
      have h := hst.out.fr hf (fun _ h => h.elim)
      exact ⟨HE.out, h.at_, h.er, h.li, h.own, h.below⟩
end Go.Proofs.Ytkeaijocjbldmaa
