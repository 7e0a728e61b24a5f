/- Dictionaries: the object, and a cell that is added. Dictionaries, read: the dictionary at a reader's place. Dictionaries, read: the places behind the dictionary. Dictionaries, read: dict.Decode. -/
import Derived.Test.YtfkgmodgkifelaaGreatDoorJ15
import Derived.Deep.RegionHeld3
import Derived.Deep.RegionLaw
import Derived.Deep.AppendLies
import Derived.Deep.DeepCutAuto
import Derived.WideMake
namespace Go.Proofs.YtfkgmodgkifelaaGreatDoor
open Go.RowKit

theorem key_und : Tryz.prog.underlying 185 = some (.map 215 3) := by kernel_rfl
/-- The entries of a dictionary's map. -/
def dE (k : Int) (l : List CD) : List MapEntry := l.mapIdx fun i c => { key := .agg (ckA k c), val := .int .i64 (i : Int), born := i }
theorem dE_snoc (k : Int) (l : List CD) (c : CD) : dE k (l ++ [c]) = dE k l ++ [{ key := .agg (ckA k c), val := .int .i64 (l.length : Int), born := l.length }] := by unfold dE; rw [List.mapIdx_concat]
theorem dE_get {k : Int} {l : List CD} {j : Nat} {e : MapEntry} (h : (dE k l)[j]? = some e) : ∃ c, l[j]? = some c ∧ e = { key := .agg (ckA k c), val := .int .i64 (j : Int), born := j } := by
  unfold dE at h
  rw [List.getElem?_mapIdx] at h
  cases hl : l[j]? with
  | none => rw [hl] at h; cases h
  | some c => rw [hl] at h; simp at h; exact ⟨c, rfl, h.symm⟩
theorem dE_mem {k : Int} {l : List CD} {e : MapEntry} (h : e ∈ dE k l) : ∃ (j : Nat) (c : CD), l[j]? = some c ∧ e.key = .agg (ckA k c) := by
  obtain ⟨j, hj⟩ := List.getElem?_of_mem h
  obtain ⟨c, hc, rfl⟩ := dE_get hj
  exact ⟨j, c, hc, rfl⟩
/-- What the look-up of a cell's key gives: none is equal, or one is. -/
theorem find_key (k : Int) (h1 : 1 ≤ k) (h6 : k ≤ 6) (l : List CD) (hl : ∀ x ∈ l, KG x) (c : CD) (hc : KG c) (w : World) :
    ((Instr.findKey 215 (.agg (ckA k c)) (dE k l)).run Tryz.prog w = .ok none w ∧ ∀ x ∈ l, ceq k x c = false) ∨
    ∃ (j : Nat) (x : CD), (Instr.findKey 215 (.agg (ckA k c)) (dE k l)).run Tryz.prog w = .ok (some (j, .int .i64 (j : Int))) w ∧ l[j]? = some x ∧ ceq k x c = true := by
  obtain ⟨lx, hx⟩ := key_of (ck_ok k hc)
  rcases law_key.find w hx (dE k l) (fun e he => by
    obtain ⟨j, y, hy, e2⟩ := dE_mem he
    obtain ⟨ly, hly⟩ := key_of (ck_ok k (hl y (List.mem_of_getElem? hy)))
    exact ⟨ly, by rw [e2]; exact hly⟩) with ⟨h, hn⟩ | ⟨j, e, h, he, hk⟩
  · refine .inl ⟨h, fun x hx => ?_⟩
    obtain ⟨j, hj⟩ := List.getElem?_of_mem hx
    have hm : ({ key := .agg (ckA k x), val := .int .i64 (j : Int), born := j } : MapEntry) ∈ dE k l := by
      refine List.mem_of_getElem? (i := j) ?_
      unfold dE
      rw [List.getElem?_mapIdx, hj]; rfl
    have hne := hn _ hm
    cases hq : ceq k x c with
    | false => rfl
    | true => exact absurd (congrArg Value.agg ((ck_eq k h1 h6 (hl x hx) hc).2 hq)) hne
  · obtain ⟨x, hx, rfl⟩ := dE_get he
    exact .inr ⟨j, x, h, hx, (ck_eq k h1 h6 (hl x (List.mem_of_getElem? hx)) hc).1 (by injection hk)⟩
theorem find_none (k : Int) (h1 : 1 ≤ k) (h6 : k ≤ 6) (l : List CD) (hl : ∀ x ∈ l, KG x) (c : CD) (hc : KG c) (hn : ∀ x ∈ l, ceq k x c = false) (w : World) :
    (Instr.findKey 215 (.agg (ckA k c)) (dE k l)).run Tryz.prog w = .ok none w := by
  rcases find_key k h1 h6 l hl c hc w with ⟨h, _⟩ | ⟨j, x, _, hx, he⟩
  · exact h
  · rw [hn x (List.mem_of_getElem? hx)] at he; cases he
theorem find_some (k : Int) (h1 : 1 ≤ k) (h6 : k ≤ 6) (l : List CD) (hl : ∀ x ∈ l, KG x) (nd : ∀ (i j : Nat) (x y : CD), l[i]? = some x → l[j]? = some y → ceq k x y = true → i = j) (c : CD) (hc : KG c) (j : Nat) (x : CD) (hx : l[j]? = some x) (he : ceq k x c = true) (w : World) :
    (Instr.findKey 215 (.agg (ckA k c)) (dE k l)).run Tryz.prog w = .ok (some (j, .int .i64 (j : Int))) w := by
  rcases find_key k h1 h6 l hl c hc w with ⟨_, hn⟩ | ⟨i, y, h, hy, hq⟩
  · rw [hn x (List.mem_of_getElem? hx)] at he; cases he
  · have a1 := (ck_eq k h1 h6 (hl x (List.mem_of_getElem? hx)) hc).2 he
    have a2 := (ck_eq k h1 h6 (hl y (List.mem_of_getElem? hy)) hc).2 hq
    have a3 := (ck_eq k h1 h6 (hl x (List.mem_of_getElem? hx)) (hl y (List.mem_of_getElem? hy))).1 (a1.trans a2.symm)
    obtain rfl := nd j i x y hx hy a3
    exact h
theorem check_key (k : Int) (c : CD) (hc : KG c) (w : World) (b : Bool) : (Instr.checkKey b 10000 215 (.agg (ckA k c))).run Tryz.prog w = .ok () w := by
  obtain ⟨lx, hx⟩ := key_of (ck_ok k hc)
  exact law_key.check w b hx
theorem zero_int (w : World) : (zeroValue 3).run Tryz.prog w = .ok (.int .i64 0) w := by kernel_rfl
theorem look_no {k : Int} {l : List CD} {c : CD} (hc : KG c) {w : World} {M n : Nat} (hb : w.heap[M]? = some (.map (dE k l).toArray n)) (hf : (Instr.findKey 215 (.agg (ckA k c)) (dE k l)).run Tryz.prog w = .ok none w) :
    (Instr.lookup 185 (.map (some M)) (.agg (ckA k c)) true).run Tryz.prog w = .ok (.tuple #[.int .i64 0, .bool false]) w := by
  simp [Instr.lookup, run_underlying key_und, MapKept.run_getObj_map hb, check_key k c hc w, hf, zero_int w, Result.andThen]
theorem look_yes {k : Int} {l : List CD} {c : CD} (hc : KG c) {w : World} {M n j : Nat} {v : Value} (hb : w.heap[M]? = some (.map (dE k l).toArray n)) (hf : (Instr.findKey 215 (.agg (ckA k c)) (dE k l)).run Tryz.prog w = .ok (some (j, v)) w) :
    (Instr.lookup 185 (.map (some M)) (.agg (ckA k c)) true).run Tryz.prog w = .ok (.tuple #[v, .bool true]) w := by
  simp [Instr.lookup, run_underlying key_und, MapKept.run_getObj_map hb, check_key k c hc w, hf, Result.andThen]
def setM (w : World) (M : Nat) (es : Array MapEntry) (n : Nat) : World := { w with heap := w.heap.setIfInBounds M (.map es n) }
theorem put_new {k : Int} {l : List CD} {c : CD} (hc : KG c) {w : World} {M n : Nat} (v : Value) (hb : w.heap[M]? = some (.map (dE k l).toArray n)) (hf : (Instr.findKey 215 (.agg (ckA k c)) (dE k l)).run Tryz.prog w = .ok none w) :
    (Instr.mapUpdate 185 (.map (some M)) (.agg (ckA k c)) v).run Tryz.prog w = .ok () (setM w M ((dE k l).toArray.push { key := .agg (ckA k c), val := v, born := n }) (n + 1)) := by
  simp [Instr.mapUpdate, run_underlying key_und, MapKept.run_getObj_map hb, check_key k c hc w, hf, MapKept.run_setObj_map _ hb, Result.andThen, setM]
theorem setM_fr (w : World) (M : Nat) (es : Array MapEntry) (n : Nat) : Fr w (setM w M es n) (fun j => j = M) :=
  ⟨rfl, rfl, rfl, by simp [setM], fun j _ hn => by simp only [setM, Array.getElem?_setIfInBounds]; rw [if_neg (fun h => hn h.symm)]⟩
theorem setM_at {w : World} {M : Nat} {o : Obj} (hb : w.heap[M]? = some o) (es : Array MapEntry) (n : Nat) : (setM w M es n).heap[M]? = some (.map es n) := by
  have := (Array.getElem?_eq_some_iff.1 hb).1
  simp [setM, this]
/-- A dictionary's object: its cells, its map. -/
structure DS (W : World) (D B M : Nat) (lv : Value) (k : Int) (l : List CD) : Prop where
  blk : Blk W D 187 #[.int .i64 k, lv, .map (some M)]
  own : W.ownsRow B 45 6 lv l.length (l.flatMap cellsC)
  map : W.heap[M]? = some (.map (dE k l).toArray l.length)
  leD : B ≤ D
  leM : B ≤ M
  ok : ∀ x ∈ l, KG x
  nd : ∀ (i j : Nat) (x y : CD), l[i]? = some x → l[j]? = some y → ceq k x y = true → i = j
theorem DS.fr {W W' : World} {D B M : Nat} {lv : Value} {k : Int} {l : List CD} {P : Nat → Prop} (h : DS W D B M lv k l) (hf : Fr W W' P) (hD : ¬ P D) (hM : ¬ P M) (hp : ∀ j, lv.ownBlock = some j → ¬ P j) : DS W' D B M lv k l :=
  ⟨h.blk.fr hf hD, own_fr h.own hf hp, (hf.block M (Array.getElem?_eq_some_iff.1 h.map).1 hM).trans h.map, h.leD, h.leM, h.ok, h.nd⟩
theorem DS.below {W W' : World} {D B M : Nat} {lv : Value} {k : Int} {l : List CD} (h : DS W D B M lv k l) (hb : Below W.heap.size W W') : DS W' D B M lv k l :=
  h.fr (Fr.of_below hb (fun _ => False)) (fun h => h) (fun h => h) (fun _ _ h => h)
theorem DS.neM {W : World} {D B M : Nat} {lv : Value} {k : Int} {l : List CD} (h : DS W D B M lv k l) : D ≠ M := by
  intro e
  have h1 := h.blk
  unfold Blk at h1
  rw [e, h.map] at h1
  injection h1 with h1
  cases h1
/-- What an add leaves of everything else, and where the cells lie then. -/
structure AFr (D M : Nat) (w : World) (lv : Value) (w' : World) (lv' : Value) : Prop where
  fr : Fr w w' (fun j => j = D ∨ j = M ∨ some j = lv.ownBlock)
  at_ : lv'.ownBlock = lv.ownBlock ∨ ∃ g, lv'.ownBlock = some g ∧ w.heap.size ≤ g
/-- How an add ends: a new cell, or one that was there. -/
def AddPost (D B M : Nat) (lv : Value) (k : Int) (l : List CD) (c : CD) (w : World) (e : Ending) (w' : World) : Prop :=
  ((∀ x ∈ l, ceq k x c = false) ∧ e = .returned (.tuple #[.int .i64 (l.length : Int), .bool true]) ∧ ∃ lv', DS w' D B M lv' k (l ++ [c]) ∧ AFr D M w lv w' lv') ∨
  (∃ (j : Nat) (x : CD), l[j]? = some x ∧ ceq k x c = true ∧ e = .returned (.tuple #[.int .i64 (j : Int), .bool false]) ∧ Below w.heap.size w w')
theorem DS.ownM {W : World} {D B M : Nat} {lv : Value} {k : Int} {l : List CD} (h : DS W D B M lv k l) (j : Nat) (hj : lv.ownBlock = some j) : j ≠ M ∧ j ≠ D := by
  constructor
  · intro e
    rcases h.own.2 with ⟨rfl, _⟩ | ⟨g, cap, cur, rfl, _, hg, _⟩
    · simp [Value.ownBlock] at hj
    · simp [Value.ownBlock] at hj
      rw [hj, e, h.map] at hg
      injection hg with hg
      cases hg
  · intro e
    exact own_ne_blk h.own h.blk (by decide) (by rw [hj, e])
theorem nd_snoc {k : Int} (h1 : 1 ≤ k) (h6 : k ≤ 6) {l : List CD} {c : CD} (hl : ∀ x ∈ l, KG x) (hc : KG c) (nd : ∀ (i j : Nat) (x y : CD), l[i]? = some x → l[j]? = some y → ceq k x y = true → i = j) (hn : ∀ x ∈ l, ceq k x c = false)
    (i j : Nat) (x y : CD) (hi : (l ++ [c])[i]? = some x) (hj : (l ++ [c])[j]? = some y) (he : ceq k x y = true) : i = j := by
  have hlt : ∀ (i : Nat) (x : CD), (l ++ [c])[i]? = some x → (i < l.length ∧ l[i]? = some x) ∨ (i = l.length ∧ x = c) := fun i x h => by
    rw [List.getElem?_append] at h
    split at h
    · rename_i h2; exact .inl ⟨h2, h⟩
    · rename_i h2
      have h3 := (List.getElem?_eq_some_iff.1 h).1
      simp at h3
      have : i - l.length = 0 := by omega
      rw [this] at h
      simp at h
      exact .inr ⟨by omega, h.symm⟩
  rcases hlt i x hi with ⟨a, b⟩ | ⟨a, rfl⟩ <;> rcases hlt j y hj with ⟨a', b'⟩ | ⟨a', rfl⟩
  · exact nd i j x y b b' he
  · rw [hn x (List.mem_of_getElem? b)] at he; cases he
  · have h2 := (ck_eq k h1 h6 (hl y (List.mem_of_getElem? b')) hc).1 ((ck_eq k h1 h6 hc (hl y (List.mem_of_getElem? b'))).2 he).symm
    rw [hn y (List.mem_of_getElem? b')] at h2; cases h2
  · omega
theorem dadd_close {k : Int} (h1 : 1 ≤ k) (h6 : k ≤ 6) {D B M n ca g cap : Nat} {A : Option Addr} {l : List CD} {c : CD} {w w2 W3 w4 : World} {o : Obj} (hc : KG c) (hn : ∀ x ∈ l, ceq k x c = false) (_hB : B ≤ w.heap.size) (hnl : n = l.length)
    (hb : Below w.heap.size w w2) (HD : DS w2 D B M (.slice A n ca) k l) (HF : Fr w2 W3 (fun j => j = M)) (HM : W3.heap[M]? = some (.map (dE k (l ++ [c])).toArray (n + 1)))
    (hown : w4.ownsRow B 45 6 (.slice (some ⟨g, 0, none⟩) (n + 1) cap) (n + 1) (l.flatMap cellsC ++ cellsC c)) (hgrow : (W3.alloc o).drew.grownBy w4 (Value.slice A n ca).ownBlock) (hat : (Value.slice A n ca).ownBlock = some g ∨ g = (W3.alloc o).drew.heap.size) :
    DS (w4.setCell ⟨D, 1, none⟩ (.slice (some ⟨g, 0, none⟩) (n + 1) cap)) D B M (.slice (some ⟨g, 0, none⟩) (n + 1) cap) k (l ++ [c]) ∧ AFr D M w (.slice A n ca) (w4.setCell ⟨D, 1, none⟩ (.slice (some ⟨g, 0, none⟩) (n + 1) cap)) (.slice (some ⟨g, 0, none⟩) (n + 1) cap) := by
  subst hnl
  have hDM := HD.neM
  have hMlt : M < W3.heap.size := (Array.getElem?_eq_some_iff.1 HM).1
  have hne := HD.ownM
  have hsz2 := hb.size
  have hsz3 := HF.size
  have hDlt := HD.blk.lt
  have F4 : Fr W3 w4 (fun j => some j = (Value.slice A l.length ca).ownBlock) := ((Fr.alloc W3 o _).drew).trans (Fr.of_grown hgrow) (fun _ _ h => h)
  have F5 := Fr.setCell w4 ⟨D, 1, none⟩ (.slice (some ⟨g, 0, none⟩) (l.length + 1) cap)
  have hg : g ≠ D := by
    rcases hat with h | h
    · exact (hne g h).2
    · rw [h]; simp; omega
  have hgM : g ≠ M := by
    rcases hat with h | h
    · exact (hne g h).1
    · rw [h]; simp; omega
  have b4 : Blk w4 D 187 #[.int .i64 k, .slice A l.length ca, .map (some M)] := (HD.blk.fr HF hDM).fr F4 (fun h => (hne D h.symm).2 rfl)
  have m4 : w4.heap[M]? = some (.map (dE k (l ++ [c])).toArray (l.length + 1)) := (F4.block M hMlt (fun h => (hne M h.symm).1 rfl)).trans HM
  refine ⟨⟨b4.set 1 _, ?_, ?_, HD.leD, HD.leM, ?_, nd_snoc h1 h6 HD.ok hc HD.nd hn⟩, ⟨?_, ?_⟩⟩
  · rw [List.length_append, cellsC_snoc]
    exact own_fr hown F5 (fun j hj => by simp [Value.ownBlock] at hj; subst hj; exact hg)
  · rw [List.length_append]
    exact (F5.block M (Array.getElem?_eq_some_iff.1 m4).1 (fun h => hDM h.symm)).trans m4
  · intro x hx
    rcases List.mem_append.1 hx with h | h
    · exact HD.ok x h
    · rw [List.mem_singleton] at h; rw [h]; exact hc
  · exact ((((Fr.of_below hb _).trans HF (fun i _ h => .inr (.inl h))).trans F4 (fun i _ h => .inr (.inr h))).trans F5 (fun i _ h => .inl h))
  · rcases hat with h | h
    · exact .inl (by rw [h]; rfl)
    · refine .inr ⟨g, rfl, ?_⟩
      rw [h]; simp; omega
set_option maxHeartbeats 4000000 in
set_option maxRecDepth 100000 in
theorem dadd_any (k : Int) (h1 : 1 ≤ k) (h6 : k ≤ 6) (D B M : Nat) (lv : Value) (l : List CD) (hl : l.length ≤ 100000) (c : CD) (hc : KG c) (w : World) (h : DS w D B M lv k l) (hB : B ≤ w.heap.size) :
    Calls Tryz.prog 160 #[.pointer (some ⟨D, 0, none⟩), c.v] w (AddPost D B M lv k l c w) := by
  have KK := hide (fun w => keyed_any k h1 h6 c hc w)
  have HDS := hide h
  have hDlt := h.blk.lt
  obtain ⟨A, ca, rfl⟩ := own_form3 h.own
  clear h
  obtain ⟨kn, ks, kp, kq, hQ⟩ : ∃ (kn : Nat) (ks : ByteArray) (kp kq : Int), ckA k c = #[.int .u64 (kn : Int), .string ks, .int .i64 kp, .int .i64 kq] := ⟨_, _, _, _, rfl⟩
  rw [hQ] at KK
  have HQ := hide hQ
  clear hQ
  obtain ⟨cb, cx, cu, ct, cp, cq⟩ := c
  unfold CD.v clV clA
  unfold CD.v clV clA at KK
  simp only at KK ⊢
  obtain ⟨W1, hW1⟩ : ∃ W1, w.alloc (.cells #[.bool false, .bool cb, .int .i64 cx, .int .u64 cu, .string ct, .complex .f64 cp cq] 45) = W1 := ⟨_, rfl⟩
  have hb1 : Below w.heap.size w W1 := by rw [← hW1]; exact (Below.refl _ _).alloc (Nat.le_refl _) _
  have kx : Blk W1 w.heap.size 45 #[.bool false, .bool cb, .int .i64 cx, .int .u64 cu, .string ct, .complex .f64 cp cq] := by rw [← hW1]; exact Blk.new _ _ _
  have HD1 := hide (HDS.out.below hb1)
  have HKX := hide kx
  have HB1 := hide hb1
  have d0 := HD1.out.blk.cell 0
  have d1 := HD1.out.blk.cell 1
  have d2 := HD1.out.blk.cell 2
  have e1 := HD1.out.blk.frozen 1
  simp at d0 d1 d2
  obtain ⟨x0, x1, x2, x3, x4, x5, f0, f1, f2, f3, f4, f5⟩ := Blk.six kx
  have hD1 : D < W1.heap.size := HD1.out.blk.lt
  have hx1 : w.heap.size < W1.heap.size := kx.lt
  have HBA := hide (fun (w' : World) (h : Below W1.drew.heap.size W1.drew w') => show Below W1.heap.size W1 w' from ⟨h.os, h.tape, h.output, h.size, h.block⟩)
  have HBB := hide (fun (o : Obj) (w' : World) (h : Below (W1.alloc o).drew.heap.size (W1.alloc o).drew w') => show Below W1.heap.size W1 w' from ((Below.refl W1.heap.size W1).alloc (Nat.le_refl _) o).trans (Below.mono (show Below (W1.alloc o).heap.size (W1.alloc o) w' from ⟨h.os, h.tape, h.output, h.size, h.block⟩) (by simp)))
  have HZ4 := hide (fun (w' : World) (h : Below (W1.alloc (.cells #[.int .u64 0, .string ⟨#[]⟩, .int .i64 0, .int .i64 0] 215)).drew.heap.size (W1.alloc (.cells #[.int .u64 0, .string ⟨#[]⟩, .int .i64 0, .int .i64 0] 215)).drew w') =>
    have hz : Blk w' W1.heap.size 215 #[.int .u64 0, .string ⟨#[]⟩, .int .i64 0, .int .i64 0] := Blk.below ((Blk.new W1 _ _).drew) h (by simp)
    show Hid (Blk w' W1.heap.size 215 #[.int .u64 0, .string ⟨#[]⟩, .int .i64 0, .int .i64 0]) ∧ w'.cell? ⟨W1.heap.size, 0, none⟩ = some (.int .u64 0) ∧ w'.cell? ⟨W1.heap.size, 1, none⟩ = some (.string ⟨#[]⟩) ∧ w'.cell? ⟨W1.heap.size, 2, none⟩ = some (.int .i64 0) ∧ w'.cell? ⟨W1.heap.size, 3, none⟩ = some (.int .i64 0) ∧ w'.frozen? ⟨W1.heap.size, 0, none⟩ = false ∧ w'.frozen? ⟨W1.heap.size, 1, none⟩ = false ∧ w'.frozen? ⟨W1.heap.size, 2, none⟩ = false ∧ w'.frozen? ⟨W1.heap.size, 3, none⟩ = false from
      ⟨hz, hz.cell 0, hz.cell 1, hz.cell 2, hz.cell 3, hz.frozen 0, hz.frozen 1, hz.frozen 2, hz.frozen 3⟩)
  have HSB := hide (fun (w' : World) (h : Below W1.heap.size W1 w') => show w'.cell? ⟨D, 0, none⟩ = some (.int .i64 k) ∧ w'.cell? ⟨w.heap.size, 0, none⟩ = some (.bool false) ∧ w'.cell? ⟨w.heap.size, 1, none⟩ = some (.bool cb) ∧ w'.cell? ⟨w.heap.size, 2, none⟩ = some (.int .i64 cx) ∧ w'.cell? ⟨w.heap.size, 3, none⟩ = some (.int .u64 cu) ∧ w'.cell? ⟨w.heap.size, 4, none⟩ = some (.string ct) ∧ w'.cell? ⟨w.heap.size, 5, none⟩ = some (.complex .f64 cp cq) from
    ⟨(h.cell (p := ⟨D, 0, none⟩) hD1).trans d0, (h.cell (p := ⟨w.heap.size, 0, none⟩) hx1).trans x0, (h.cell (p := ⟨w.heap.size, 1, none⟩) hx1).trans x1, (h.cell (p := ⟨w.heap.size, 2, none⟩) hx1).trans x2, (h.cell (p := ⟨w.heap.size, 3, none⟩) hx1).trans x3, (h.cell (p := ⟨w.heap.size, 4, none⟩) hx1).trans x4, (h.cell (p := ⟨w.heap.size, 5, none⟩) hx1).trans x5⟩)
  have HW := hide hW1
  clear kx hb1 hW1
  go_enter Tryz.func160, Tryz.ntmps160
  go_wp2_with fail
  rw [HW.out]
  go_cut [6] (fun u6 wx => ∃ kb, u6 = .pointer (some ⟨kb, 0, none⟩) ∧ Hid (W1.heap.size ≤ kb ∧ Blk wx kb 215 #[.int .u64 (kn : Int), .string ks, .int .i64 kp, .int .i64 kq] ∧ Below W1.heap.size W1 wx))
  case first =>
    go_region_held3 (fun w' => w'.cell? ⟨D, 0, none⟩ = some (.int .i64 k) ∧ w'.cell? ⟨w.heap.size, 0, none⟩ = some (.bool false) ∧ w'.cell? ⟨w.heap.size, 1, none⟩ = some (.bool cb) ∧ w'.cell? ⟨w.heap.size, 2, none⟩ = some (.int .i64 cx) ∧ w'.cell? ⟨w.heap.size, 3, none⟩ = some (.int .u64 cu) ∧ w'.cell? ⟨w.heap.size, 4, none⟩ = some (.string ct) ∧ w'.cell? ⟨w.heap.size, 5, none⟩ = some (.complex .f64 cp cq)) (first | go_keep | assumption | exact HSB.out _ hbw | exact HSB.out _ (hbw.alloc hbw.size _) | exact HSB.out _ ((((hbw.setCell (Nat.le_refl _) _).setCell (Nat.le_refl _) _).setCell (Nat.le_refl _) _).setCell (Nat.le_refl _) _)) (first | (go_at_call 170; refine (KK.out _).mono ?_; rintro e w2 ⟨rfl, hb2⟩; (first | (have hbw := HBA.out _ hb2) | (have hbw := HBB.out _ _ hb2; obtain ⟨hzb, z0, z1, z2, z3, y0, y1, y2, y3⟩ := HZ4.out _ hb2))))
    · go_wp2_with fail
      go_meet
      case rel => exact ⟨_, rfl, hbw.size, Blk.new _ _ _, hbw.alloc hbw.size _⟩
    · go_wp2_with fail
      go_meet
      case rel =>
        have g0 : Blk (w2.setCell ⟨W1.heap.size, 0, none⟩ (.int .u64 (kn : Int))) W1.heap.size 215 #[.int .u64 (kn : Int), .string ⟨#[]⟩, .int .i64 0, .int .i64 0] := hzb.out.set 0 _
        have g1 : Blk ((w2.setCell ⟨W1.heap.size, 0, none⟩ (.int .u64 (kn : Int))).setCell ⟨W1.heap.size, 1, none⟩ (.string ks)) W1.heap.size 215 #[.int .u64 (kn : Int), .string ks, .int .i64 0, .int .i64 0] := g0.set 1 _
        have g2 : Blk (((w2.setCell ⟨W1.heap.size, 0, none⟩ (.int .u64 (kn : Int))).setCell ⟨W1.heap.size, 1, none⟩ (.string ks)).setCell ⟨W1.heap.size, 2, none⟩ (.int .i64 kp)) W1.heap.size 215 #[.int .u64 (kn : Int), .string ks, .int .i64 kp, .int .i64 0] := g1.set 2 _
        exact ⟨_, rfl, Nat.le_refl _, g2.set 3 _, (((hbw.setCell (Nat.le_refl _) _).setCell (Nat.le_refl _) _).setCell (Nat.le_refl _) _).setCell (Nat.le_refl _) _⟩
  case rest =>
    obtain ⟨kb, rfl, hk⟩ := hcut
    obtain ⟨hkb, hkey, hbc⟩ := hk.out
    have HDC := hide (HD1.out.below hbc)
    have HKC := hide hkey
    have HXC := hide (HKX.out.below hbc hx1)
    have HBC := hide (HB1.out.trans (hbc.mono HB1.out.size))
    have d2c := HDC.out.blk.cell 2
    have k0 := hkey.cell 0
    have k1 := hkey.cell 1
    have k2 := hkey.cell 2
    have k3 := hkey.cell 3
    simp at d2c k0 k1 k2 k3
    clear hk hbc hkey d0 d1 d2 e1 x0 x1 x2 x3 x4 x5 f0 f1 f2 f3 f4 f5
    have hdec : (∀ x ∈ l, ceq k x ⟨cb, cx, cu, ct, cp, cq⟩ = false) ∨ ∃ (j : Nat) (x : CD), l[j]? = some x ∧ ceq k x ⟨cb, cx, cu, ct, cp, cq⟩ = true := by
      by_cases hq : ∃ x ∈ l, ceq k x ⟨cb, cx, cu, ct, cp, cq⟩ = true
      · obtain ⟨x, hx, he⟩ := hq
        obtain ⟨j, hj⟩ := List.getElem?_of_mem hx
        exact .inr ⟨j, x, hj, he⟩
      · refine .inl fun x hx => ?_
        cases hq2 : ceq k x ⟨cb, cx, cu, ct, cp, cq⟩ with
        | false => rfl
        | true => exact absurd ⟨x, hx, hq2⟩ hq
    rcases hdec with hn | ⟨j, x, hx, he⟩
    · have hfn := find_none k h1 h6 l HDC.out.ok _ hc hn
      have hlk := fun m : Nat => look_no hc (w := wc.drewN m) (HDC.out.map) (hfn _)
      have HPU := hide (fun (W : World) (hm : W.heap[M]? = some (.map (dE k l).toArray l.length)) => put_new hc (w := W) (.int .i64 (l.length : Int)) hm (hfn W))
      have HN := hide hn
      rw [HQ.out] at hlk HPU
      clear hn hfn
      go_wp2_with fail
      go_quiet (fail)
      go_wp2_with fail
      have HD2 := hide (HDC.out.fr (Fr.drewN wc nq (fun _ => False)) (fun h => h) (fun h => h) (fun _ _ h => h))
      have HK2 := hide (HKC.out.drewN nq)
      have HX2 := hide (HXC.out.drewN nq)
      have HB2 := hide (below_drewN HBC.out nq)
      have hkz := HKC.out.lt
      have hMlt : M < wc.heap.size := (Array.getElem?_eq_some_iff.1 HDC.out.map).1
      have hxz := HXC.out.lt
      have hDz := HDC.out.blk.lt
      have hzz : (wc.drewN nq).heap.size = wc.heap.size := rfl
      rw [← hzz] at hkz hMlt hxz hDz
      clear hlk d2c k0 k1 k2 k3 HDC HKC HXC HBC hzz
      generalize wc.drewN nq = w2 at *
      have hpu := HPU.out w2.drew HD2.out.map
      obtain ⟨W3, hW3⟩ : ∃ W3, setM w2.drew M ((dE k l).toArray.push { key := .agg #[.int .u64 (kn : Int), .string ks, .int .i64 kp, .int .i64 kq], val := .int .i64 (l.length : Int), born := l.length }) (l.length + 1) = W3 := ⟨_, rfl⟩
      rw [hW3] at hpu
      have hf3 : Fr w2 W3 (fun j => j = M) := by rw [← hW3]; exact ((Fr.refl w2 _).drew).trans (setM_fr _ _ _ _) (fun _ _ h => h)
      have hm3 : W3.heap[M]? = some (.map (dE k (l ++ [⟨cb, cx, cu, ct, cp, cq⟩])).toArray (l.length + 1)) := by
        rw [← hW3, setM_at (w := w2.drew) (o := .map (dE k l).toArray l.length) (show w2.drew.heap[M]? = some (.map (dE k l).toArray l.length) from HD2.out.map), dE_snoc, HQ.out]
        congr 2
        simp
      have hD3 : Blk W3 D 187 #[.int .i64 k, .slice A l.length ca, .map (some M)] := HD2.out.blk.fr hf3 HD2.out.neM
      have hK3 : Blk W3 kb 215 #[.int .u64 (kn : Int), .string ks, .int .i64 kp, .int .i64 kq] := HK2.out.fr hf3 (fun e => by
        have h1 := HK2.out
        unfold Blk at h1
        rw [e, HD2.out.map] at h1
        injection h1 with h1
        cases h1)
      have hX3 : Blk W3 w.heap.size 45 #[.bool false, .bool cb, .int .i64 cx, .int .u64 cu, .string ct, .complex .f64 cp cq] := HX2.out.fr hf3 (fun e => by
        have h1 := HX2.out
        unfold Blk at h1
        rw [e, HD2.out.map] at h1
        injection h1 with h1
        cases h1)
      have HF3 := hide hf3
      have HM3 := hide hm3
      have HD3 := hide hD3
      have HX3 := hide hX3
      have v1 := HD2.out.blk.cell 1
      have v2 := HD2.out.blk.cell 2
      have k0 := HK2.out.cell 0
      have k1 := HK2.out.cell 1
      have k2 := HK2.out.cell 2
      have k3 := HK2.out.cell 3
      have y1 := hD3.cell 1
      have y2 := hD3.cell 2
      have y3 := hK3.cell 0
      have y4 := hK3.cell 1
      have y5 := hK3.cell 2
      have y6 := hK3.cell 3
      simp at v1 v2 k0 k1 k2 k3 y1 y2 y3 y4 y5 y6
      have hS3 := And.intro y1 (And.intro y2 (And.intro y3 (And.intro y4 (And.intro y5 y6))))
      clear hW3 hf3 hm3 hD3 hK3 hX3 HPU HKX
      go_region_held3 (fun w' => w'.cell? ⟨D, 1, none⟩ = some (.slice A l.length ca) ∧ w'.cell? ⟨D, 2, none⟩ = some (.map (some M)) ∧ w'.cell? ⟨kb, 0, none⟩ = some (.int .u64 (kn : Int)) ∧ w'.cell? ⟨kb, 1, none⟩ = some (.string ks) ∧ w'.cell? ⟨kb, 2, none⟩ = some (.int .i64 kp) ∧ w'.cell? ⟨kb, 3, none⟩ = some (.int .i64 kq)) (first | go_keep | assumption | exact hS3) (fail)
      go_wp2_with fail
      have HOW := hide (own_fr HD2.out.own HF3.out (fun j hj => (HD2.out.ownM j hj).1))
      have hD3lt : D < W3.heap.size := HD3.out.lt
      have hBW : B ≤ W3.heap.size := Nat.le_trans hB (Nat.le_trans HB2.out.size HF3.out.size)
      have HOA := hide (fun o => (HOW.out.alloc o).drew)
      have NB := hide (fun cs t => ((Blk.new W3 cs t).drew).out)
      have hneD := hide (show some D ≠ (Value.slice A l.length ca).ownBlock from fun h => (HD2.out.ownM D h.symm).2 rfl)
      have t1 := fun o : Obj => ((HD3.out.alloc o).drew).cell 1
      have g1 := fun o : Obj => ((HD3.out.alloc o).drew).frozen 1
      have t0 := HD3.out.cell 1
      obtain ⟨x0, x1, x2, x3, x4, x5, f0, f1, f2, f3, f4, f5⟩ := Blk.six HX3.out
      obtain ⟨i0, hi, hz0, hz1, hz2⟩ := info_parts info_cC
      have hl1 : (l.length : Int) ≤ 100000 := by omega
      generalize hnl : l.length = n at *
      have HNL := hide hnl
      clear hnl hS3 v1 v2 k0 k1 k2 k3 y1 y2 y3 y4 y5 y6 hpu
      simp at t0
      go_region_law ((refine step_append_lies _ rfl (.tmp 40) (.tmp 42) 25 rfl B 45 i0 clZ 6 56 Tryz.underlying25 hi hz0 hz1 hz2 rfl (by decide) _ n (l.flatMap cellsC) rfl (HOA.out _) ⟨W3.heap.size, 0, none⟩ 1 1 [.bool false, .bool cb, .int .i64 cx, .int .u64 cu, .string ct, .complex .f64 cp cq] rfl rfl (World.news_of_block (NB.out _ _)) (by simp [Value.oneCell']) (by omega) (by unfold maxLen; omega) (by omega) (by simp; omega) _ rfl ?_; intro g cap w4 hown4 hgrow4 hat4 hlt4; have hv4 := (hgrow4.cell_far ⟨D, 1, none⟩ (by simp; omega) hneD.out).trans (t1 _); have hg4 := (hgrow4.frozen_far ⟨D, 1, none⟩ (by simp; omega) hneD.out).trans (g1 _)))
      all_goals
        have HC := hide (dadd_close (c := ⟨cb, cx, cu, ct, cp, cq⟩) h1 h6 hc HN.out hB HNL.out.symm HB2.out HD2.out HF3.out HM3.out hown4 hgrow4 hat4)
        clear hown4 hgrow4 hat4 hlt4
        go_wp2_with fail
        go_ret2
        refine .inl ⟨HN.out, ?_, _, HC.out.1, HC.out.2⟩
        rw [HNL.out]
        first | rfl | (show Ending.returned (.tuple #[.int .i64 _, .bool true]) = _; congr 5; omega)
    · have hfs := find_some k h1 h6 l HDC.out.ok HDC.out.nd _ hc j x hx he
      have hlk := fun m : Nat => look_yes hc (w := wc.drewN m) (HDC.out.map) (hfs _)
      have HJ := hide (show ∃ (x : CD), l[j]? = some x ∧ ceq k x ⟨cb, cx, cu, ct, cp, cq⟩ = true from ⟨x, hx, he⟩)
      rw [HQ.out] at hlk
      clear hx he hfs
      go_wp2_with fail
      go_quiet (fail)
      go_wp2_with fail
      go_ret2
      obtain ⟨x, hx, he⟩ := HJ.out
      exact .inr ⟨j, x, hx, he, rfl, below_drewN HBC.out nq⟩
end Go.Proofs.YtfkgmodgkifelaaGreatDoor
namespace Go.Proofs.YtfkgmodgkifelaaGreatDoor
open Go.RowKit

set_option maxHeartbeats 1000000 in
set_option maxRecDepth 100000 in
theorem dnone_any (k : Int) (B : Nat) (w : World) (hB : B ≤ w.heap.size) : Calls Tryz.prog 159 #[.int .i64 k] w fun e w' => e = .returned (.pointer (some ⟨w.heap.size + 1, 0, none⟩)) ∧ DS w' (w.heap.size + 1) B w.heap.size (.slice none 0 0) k [] ∧ Below w.heap.size w w' := by
  have hmm := fun w1 : World => run_makeMap_plain (P := Tryz.prog) w1 185
  go_enter Tryz.func159, Tryz.ntmps159
  go_wp2_with fail
  go_ret
  refine ⟨rfl, ⟨blk_2 _ _ _ _, World.ownsRow_nil _ _ _ _, ?_, by omega, hB, by simp, by simp⟩, ((Below.refl _ _).alloc (Nat.le_refl _) _).alloc (by simp) _⟩
  exact (Below.heap_alloc _ _ _ (by simp)).trans Array.getElem?_push_size
/-- How a dictionary's read ends. -/
def DRPost (R : Nat) (s : ByteArray) (k : Int) (w : World) (r : Nat × Nat × List CD) (e : Ending) (w' : World) : Prop :=
  (0 < r.1 ∧ e = .returned (.tuple #[.pointer none, .int .i64 (r.1 : Nat)]) ∧ Fr w w' (fun j => j = R)) ∨
  (r.1 = 0 ∧ ∃ D M lv, e = .returned (.tuple #[.pointer (some ⟨D, 0, none⟩), .int .i64 0]) ∧ DS w' D w.heap.size M lv k r.2.2 ∧ Rd w' R s r.2.1 0 ∧ Fr w w' (fun j => j = R))
set_option maxHeartbeats 8000000 in
set_option maxRecDepth 100000 in
theorem dread_any (k : Int) (h1 : 1 ≤ k) (h6 : k ≤ 6) (R : Nat) (s : ByteArray) (hs : s.size ≤ maxLen) (n : Nat) (hn : n ≤ 10000) (w : World) (h : Rd w R s 0 0) (hT : Tabs w) (many a e0 : Nat) (hf : Hid (few (bn s) 0 = (many, a, e0))) (RES : Nat × Nat × List CD)
    (hR : Hid ((0 < e0 ∧ RES = (e0, 0, [])) ∨ (e0 = 0 ∧ n < many ∧ RES = (12, 0, [])) ∨ (e0 = 0 ∧ many ≤ n ∧ dgo k (bn s) many a [] = RES))) :
    Calls Tryz.prog 144 #[.pointer (some ⟨R, 0, none⟩), .int .i64 k, .int .i64 n] w (DRPost R s k w RES) := by
  have hRw := Blk.lt h
  have hle := few_le0 (bn s)
  have h64 := few_lt64 (bn s)
  rw [bn_len, hf.out] at hle
  rw [hf.out] at h64
  simp only at hle h64
  have K := hide (ruvar_any R s 0 0 hs (by omega) w h)
  rw [st_at, List.drop_zero, hf.out] at K
  simp only [Nat.zero_add] at K
  have KN := hide (fun w' (h : w.heap.size ≤ w'.heap.size) => dnone_any k w.heap.size w' h)
  have KG := hide (fun p (hp : p ≤ s.size) w (h : Rd w R s p 0) (hT : Tabs w) => gget_all k h1 h6 R s p hs hp w h hT)
  have KA := hide (fun D B M lv l hl c hc w h hB => dadd_any k h1 h6 D B M lv l hl c hc w h hB)
  have KGG := hide (fun p => gp_kg k ((bn s).drop p) (fun b hb => bn_lt s b (List.mem_of_mem_drop hb)) (by rw [List.length_drop, bn_len]; omega))
  have HT := hide hT
  have HR0 := hide h
  have hn0 : (0 : Int) ≤ (n : Int) := by omega
  have hn1 : (n : Int) ≤ 10000 := by omega
  have HS := hide hs
  clear h hf hs hT
  have hst := fun (w1 : World) (a1 : Addr) (m : Mode) (x y : Nat) => run_store Tryz.prog w1 a1 (.complex .f64 x y) m rfl
  go_enter Tryz.func144, Tryz.ntmps144
  go_wp2_with fail
  refine K.out.mono ?_
  rintro e w1 ⟨rfl, hr1, hf1⟩
  have KE := hide (rerr_any R s a e0 w1 hr1)
  have HR1 := hide hr1
  have HF1 := hide hf1
  clear hr1 hf1
  go_wp2_with fail
  refine KE.out.mono ?_
  rintro e w2 ⟨rfl, rfl⟩
  rcases hR.out with ⟨hpos, rfl⟩ | ⟨rfl, hbig, rfl⟩ | ⟨rfl, hfit, hgo⟩
  · have hne : ((e0 : Int) != 0) = true := by rw [bne_iff_ne]; omega
    clear hR
    go_wp2_with fail
    refine KE.out.mono ?_
    rintro e w2 ⟨rfl, rfl⟩
    go_wp2_with fail
    go_ret2
    exact .inl ⟨hpos, rfl, HF1.out⟩
  · have hlt : (n : Int) < (many : Int) := by omega
    clear hR
    go_wp2_with fail
    go_ret2
    exact .inl ⟨by simp, rfl, HF1.out⟩
  · have hlt : decide ((n : Int) < (many : Int)) = false := by rw [decide_eq_false_iff_not]; omega
    have hmm : (many : Int) ≤ 10000 := by omega
    have HGO := hide hgo
    clear hR hgo
    go_wp2_with fail
    refine (KN.out _ HF1.out.size).mono ?_
    rintro e w3 ⟨rfl, hds, hb3⟩
    have HD3 := hide hds
    have HR3 := hide (HR1.out.below hb3)
    have HF3 := hide (HF1.out.trans (Fr.of_below hb3 _) (fun _ _ h => h))
    have hDR : w1.heap.size + 1 ≠ R := by have := HF1.out.size; omega
    have hMR : w1.heap.size ≠ R := by have := HF1.out.size; omega
    have hDw : w.heap.size ≤ w1.heap.size + 1 := by have := HF1.out.size; omega
    have hMw : w.heap.size ≤ w1.heap.size := HF1.out.size
    clear hds hb3
    generalize w1.heap.size + 1 = D at *
    generalize w1.heap.size = M at *
    go_wp2_with fail
    go_loopw [30] (fun iv wr => ∃ (i p : Nat) (l : List CD), i ≤ many ∧ iv = .int .u64 (i : Int) ∧ Hid (l.length = i) ∧ p ≤ s.size ∧ Hid (dgo k (bn s) (many - i) p l = RES) ∧ Hid (∃ lv, DS wr D w.heap.size M lv k l) ∧ Hid (Rd wr R s p 0) ∧ Hid (Fr w wr (fun j => j = R))) (fun iv _ => many - (intOf iv).toNat)
    case atStart => exact ⟨0, a, [], by omega, rfl, rfl, hle, HGO.out, ⟨_, HD3.out⟩, HR3.out, HF3.out⟩
    case round =>
      obtain ⟨i, p, l, hi, rfl, hll, hp, hgo, hds, hrd, hfr⟩ := hrel
      obtain ⟨lv, hds'⟩ := hds.out
      have HDS := hide hds'
      have hi0 : (0 : Int) ≤ (i : Int) := by omega
      clear hds hds'
      by_cases hlt : i < many
      · obtain ⟨j, hj⟩ : ∃ j, many - i = j + 1 := ⟨many - i - 1, by omega⟩
        have hi1 : (i : Int) < (many : Int) := by omega
        rcases hg : gp k ((bn s).drop p) with ⟨c, m, e', er⟩
        have hkg := KGG.out p
        have hle2 := gp_le k ((bn s).drop p)
        have hee := gp_e k ((bn s).drop p)
        have KG2 := hide (KG.out p hp wr hrd.out (HT.out.fr HR0.out hfr.out))
        have hr := hgo.out
        rw [hj, dgo_on k (bn s) j p l c m e' er hg] at hr
        rw [hg] at hkg hle2 hee KG2
        rw [List.length_drop, bn_len] at hle2
        simp only at hkg hle2 hee KG2
        have HRR := hide hr
        clear hr hg hgo
        have HKG := hide hkg
        obtain ⟨cb, cx, cu, ct, cp, cq⟩ := c
        clear hkg
        have HLT := hide hlt
        have HJ := hide hj
        clear hlt hj
        unfold CD.v clV clA at KG2
        simp only at KG2
        go_wp2_with fail
        refine KG2.out.mono ?_
        rintro e w4 ⟨rfl, hr4, hf4⟩
        have HR4 := hide hr4
        have HF4 := hide (hfr.out.trans hf4 (fun _ _ h => h))
        have HD4 := hide (HDS.out.fr hf4 hDR hMR (fun q hq h => own_ne_blk HDS.out.own hrd.out (by decide) (by rw [hq, h])))
        clear hr4 hf4
        by_cases her : er = 0
        · subst her
          obtain rfl := hee rfl
          have hrr := HRR.out
          rw [if_pos rfl] at hrr
          have HRS := hide hrr
          clear HRR hrr hee
          have hll2 := hll.out
          have HBA := hide ((Below.refl w4.heap.size w4).alloc (Nat.le_refl _) (.cells #[.bool false, .bool cb, .int .i64 cx, .int .u64 cu, .string ct, .complex .f64 cp cq] 45))
          have KA2 := hide (KA.out D w.heap.size M lv l (by omega) ⟨cb, cx, cu, ct, cp, cq⟩ HKG.out _ (HD4.out.below HBA.out) (Nat.le_trans HF4.out.size HBA.out.size))
          unfold CD.v clV clA at KA2
          simp only at KA2
          clear hll2
          go_wp2_with fail
          refine KA2.out.mono ?_
          rintro e w5 (⟨hn, rfl, lv5, hds5, haf⟩ | ⟨j2, x, hx, he, rfl, hb5⟩)
          · have hrr := HRS.out
            rw [if_neg (by rw [Bool.not_eq_true, List.any_eq_false]; intro x hx; rw [hn x hx]; simp)] at hrr
            have HRT := hide hrr
            have HD5 := hide hds5
            have HR5 := hide ((HR4.out.below HBA.out).fr haf.fr (by
              rintro (h | h | h)
              · exact hDR h.symm
              · exact hMR h.symm
              · exact own_ne_blk HD4.out.own HR4.out (by decide) h.symm))
            have HF5 := hide ((HF4.out.trans (Fr.of_below HBA.out _) (fun _ _ h => h)).trans haf.fr (by
              rintro q hq (h | h | h)
              · omega
              · omega
              · have := (HD4.out.own.lt q h.symm).1; omega))
            clear hn hds5 haf hrr HRS KA2
            go_wp2_with fail
            go_roundw
            case rel =>
              refine ⟨i + 1, p + m, l ++ [⟨cb, cx, cu, ct, cp, cq⟩], by have := HLT.out; omega, by go_num, ?_, by omega, ?_, ⟨lv5, HD5.out⟩, HR5.out, HF5.out⟩
              · have := hll.out; show _ = _; simp; omega
              · rw [show many - (i + 1) = j by have := HJ.out; omega]; exact HRT.out
            case measure => have := HLT.out; simp [intOf]; omega
          · have hrr := HRS.out
            rw [if_pos (by rw [List.any_eq_true]; exact ⟨x, List.mem_of_getElem? hx, he⟩)] at hrr
            subst hrr
            have HB5 := hide hb5
            clear hb5 KA2 HRS hx he
            go_wp2_with fail
            go_ret2
            exact .inl ⟨by simp, rfl, (HF4.out.trans (Fr.of_below HBA.out _) (fun _ _ h => h)).trans (Fr.of_below HB5.out _) (fun _ _ h => h)⟩
        · have hne : ((er : Int) != 0) = true := by rw [bne_iff_ne]; omega
          have hrr := HRR.out
          rw [if_neg her] at hrr
          subst hrr
          clear HRR hee
          go_wp2_with fail
          go_ret2
          exact .inl ⟨by omega, rfl, HF4.out.trans (Fr.alloc _ _ _) (fun _ _ h => h)⟩
      · obtain rfl : many = i := by omega
        have hr := hgo.out
        rw [Nat.sub_self] at hr
        have hr2 : (0, p, l) = RES := hr
        have HR2 := hide hr2
        clear hr hr2 hgo hlt
        go_wp2_with fail
        go_ret2
        rw [← HR2.out]
        exact .inr ⟨rfl, D, M, lv, rfl, HDS.out, hrd.out, hfr.out⟩
end Go.Proofs.YtfkgmodgkifelaaGreatDoor
namespace Go.Proofs.YtfkgmodgkifelaaGreatDoor
open Go.RowKit

/-- So many places: the error, how many different ones came, the cells. -/
def plc (D : List Nat) (dl : List CD) : Nat → Nat → Nat → List CD → Nat × Nat × List CD
  | 0, p, seen, out => (if p < D.length then 11 else 0, seen, out)
  | m + 1, p, seen, out =>
    if (few (D.drop p) 0).2.2 = 0 then
      (if seen < (few (D.drop p) 0).1 ∨ dl.length ≤ (few (D.drop p) 0).1 then (12, 0, [])
       else plc D dl m (p + (few (D.drop p) 0).2.1) (if (few (D.drop p) 0).1 = seen then seen + 1 else seen) (out ++ [dl.getD (few (D.drop p) 0).1 CD.z]))
    else ((few (D.drop p) 0).2.2, 0, [])
theorem plc_on (D : List Nat) (dl : List CD) (m p seen : Nat) (out : List CD) (x a e : Nat) (hf : few (D.drop p) 0 = (x, a, e)) :
    plc D dl (m + 1) p seen out = if e = 0 then (if seen < x ∨ dl.length ≤ x then (12, 0, []) else plc D dl m (p + a) (if x = seen then seen + 1 else seen) (out ++ [dl.getD x CD.z])) else (e, 0, []) := by
  rw [plc]; simp only [hf]
theorem pgo_plc (D : List Nat) (dl : List CD) : ∀ (m p seen : Nat) (out : List CD), pgo D dl m p seen out = if (plc D dl m p seen out).1 = 0 then (if (plc D dl m p seen out).2.1 < dl.length then (12, []) else (0, (plc D dl m p seen out).2.2)) else ((plc D dl m p seen out).1, []) := by
  intro m
  induction m with
  | zero =>
    intro p seen out
    simp only [pgo, plc]
    split
    · simp
    · rw [if_pos rfl]; rfl
  | succ m ih =>
    intro p seen out
    rw [pgo, plc]
    split
    · split
      · simp
      · exact ih _ _ _
    · rfl
/-- How the places' read ends. -/
def PlPost (w : World) (R : Nat) (r : Nat × Nat × List CD) (e : Ending) (w' : World) : Prop :=
  ∃ v, e = .returned (.tuple #[v, .int .i64 (r.2.1 : Nat), .int .i64 (r.1 : Nat)]) ∧ InC w' v r.2.2 ∧ Fr w w' (fun j => j = R)
set_option maxHeartbeats 8000000 in
set_option maxRecDepth 100000 in
theorem places_any (k : Int) (R : Nat) (s : ByteArray) (hs : s.size ≤ maxLen) (p0 : Nat) (hp0 : p0 ≤ s.size) (n : Nat) (hn : n ≤ 10000) (D B M : Nat) (lv : Value) (dl : List CD) (hdl : dl.length ≤ 10000) (w : World) (h : DS w D B M lv k dl) (hr : Rd w R s p0 0) (RES : Nat × Nat × List CD)
    (hR : Hid (plc (bn s) dl n p0 0 [] = RES)) :
    Calls Tryz.prog 145 #[.pointer (some ⟨D, 0, none⟩), .pointer (some ⟨R, 0, none⟩), .int .i64 n] w (PlPost w R RES) := by
  have K := hide (fun p (hp : p ≤ s.size) w (h : Rd w R s p 0) => ruvar_any R s p 0 hs hp w h)
  have KD := hide (fun p (hp : p ≤ s.size) w (h : Rd w R s p 0) => rdone_any R s p 0 hs hp w h)
  have hDR : D ≠ R := fun e => by
    have h1 := h.blk
    unfold Blk at h1
    unfold Rd Blk at hr
    rw [e, hr] at h1
    injection h1 with h1
    injection h1 with _ h2
    exact absurd h2 (by decide)
  have hMR : M ≠ R := fun e => by
    have h1 := h.map
    unfold Rd Blk at hr
    rw [e, hr] at h1
    injection h1 with h1
    cases h1
  have hVR : ∀ j, lv.ownBlock = some j → j ≠ R := fun j hj e => own_ne_blk h.own hr (by decide) (by rw [hj, e])
  have hDlt := h.blk.lt
  have hRlt := Blk.lt hr
  have hVlt : ∀ j, lv.ownBlock = some j → j < w.heap.size := fun j hj => (h.own.lt j hj).2
  obtain ⟨i0, hi, hz0, hz1, hz2⟩ := info_parts info_cC
  obtain ⟨A, ca, rfl⟩ := own_form3 h.own
  have HVR := hide hVR
  have HVL := hide hVlt
  have HDS := hide h
  have HR0 := hide hr
  have hn0 : (0 : Int) ≤ (n : Int) := by omega
  have hn1 : (n : Int) ≤ 10000 := by omega
  have hd1 : (dl.length : Int) ≤ 10000 := by omega
  clear h hr hVR hVlt hs
  generalize hL : dl.length = L at *
  have HL := hide hL
  clear hL
  go_enter Tryz.func145, Tryz.ntmps145
  go_wp2_with fail
  go_loopw [6, 7, 11] (fun ov sv iv wr => ∃ (i p seen : Nat) (out : List CD), i ≤ n ∧ iv = .int .i64 (i : Int) ∧ sv = .int .i64 (seen : Int) ∧ seen ≤ i ∧ Hid (out.length = i) ∧ p ≤ s.size ∧ Hid (plc (bn s) dl (n - i) p seen out = RES) ∧ Hid (wr.ownsRow w.heap.size 45 6 ov i (out.flatMap cellsC)) ∧ Hid (Rd wr R s p 0) ∧ Hid (Fr w wr (fun j => j = R))) (fun _ _ iv _ => n - (intOf iv).toNat)
  case atStart => exact ⟨0, p0, 0, [], by omega, rfl, rfl, Nat.le_refl _, rfl, hp0, hR.out, World.ownsRow_nil _ _ _ _, HR0.out, Fr.refl _ _⟩
  case round =>
    obtain ⟨i, p, seen, out, hin, rfl, rfl, hsi, hol, hp, hgo, how, hrd, hfr⟩ := hrel
    obtain ⟨OA, oc, rfl⟩ := own_form3 how.out
    have hi0 : (0 : Int) ≤ (i : Int) := by omega
    have hs0 : (seen : Int) ≤ 10000 := by omega
    by_cases hlt : i < n
    · obtain ⟨j, hj⟩ : ∃ j, n - i = j + 1 := ⟨n - i - 1, by omega⟩
      have hi1 : (i : Int) < (n : Int) := by omega
      rcases hf : few ((bn s).drop p) 0 with ⟨x, a, e0⟩
      have hle := few_le0 ((bn s).drop p)
      have h64 := few_lt64 ((bn s).drop p)
      have hr := hgo.out
      rw [hj, plc_on (bn s) dl j p seen out x a e0 hf] at hr
      have K2 := hide (K.out p hp wr hrd.out)
      rw [st_at, hf] at K2
      rw [hf, List.length_drop, bn_len] at hle
      rw [hf] at h64
      simp only at hle h64 K2
      have HRR := hide hr
      have HLT := hide hlt
      have HJ := hide hj
      clear hr hf hgo hlt hj hin
      go_wp2_with fail
      refine K2.out.mono ?_
      rintro e w1 ⟨rfl, hr1, hf1⟩
      have KE := hide (rerr_any R s (p + a) e0 w1 hr1)
      have HR1 := hide hr1
      have HF1 := hide (hfr.out.trans hf1 (fun _ _ h => h))
      have HO1 := hide (own_fr how.out hf1 (fun q hq h => own_ne_blk how.out hrd.out (by decide) (by rw [hq, h])))
      have HD1 := hide (HDS.out.fr HF1.out hDR hMR (fun q hq => HVR.out q hq))
      have d1 := HD1.out.blk.cell 1
      simp at d1
      clear hr1 hf1 K2
      go_wp2_with fail
      refine KE.out.mono ?_
      rintro e w2 ⟨rfl, rfl⟩
      by_cases he : e0 = 0
      · subst he
        have hrr := HRR.out
        rw [if_pos rfl, HL.out] at hrr
        have HRS := hide hrr
        clear HRR hrr
        by_cases hbad : seen < x ∨ L ≤ x
        · have hrr := HRS.out
          rw [if_pos hbad] at hrr
          subst hrr
          clear HRS
          by_cases hb1 : seen < x
          · have g1 : (seen : Int) < (x : Int) := by omega
            clear hb1 hbad
            go_wp2_with fail
            go_ret3
            exact ⟨_, rfl, inC_nil _, HF1.out⟩
          · have g1 : decide (seen < x) = false := by simp; omega
            have g2 : L ≤ x := by omega
            clear hb1 hbad
            go_wp2_with fail
            go_ret3
            exact ⟨_, rfl, inC_nil _, HF1.out⟩
        · have hrr := HRS.out
          rw [if_neg hbad] at hrr
          have HRT := hide hrr
          have hxL : x < L := by omega
          have hxs : x ≤ seen := by omega
          clear hrr HRS hbad
          obtain ⟨c, hc⟩ : ∃ c, dl[x]? = some c := ⟨dl[x]'(by rw [HL.out]; exact hxL), List.getElem?_eq_getElem _⟩
          have hgd : dl.getD x CD.z = c := by simp [List.getD, hc]
          rw [hgd] at HRT
          have HC := hide hc
          clear hc hgd
          obtain ⟨g, cg, hAg⟩ := own_addr HD1.out.own (by rw [HL.out]; omega)
          have hA : A = some ⟨g, 0, none⟩ := by injection hAg
          subst hA
          have hog := HD1.out.own
          rw [HL.out] at hog
          have HOG := hide (own_atC hog HL.out.symm HC.out)
          clear hog
          obtain ⟨b0, b1, b2, b3, b4, b5⟩ := HOG.out
          obtain ⟨cb, cx, cu, ct, cp, cq⟩ := c
          simp only at b0 b1 b2 b3 b4 b5
          have x0 : (0 : Int) ≤ (x : Int) := by omega
          have x1 : (x : Int) < (L : Int) := by omega
          have g1 : decide (seen < x) = false := by simp; omega
          have g2 : decide (L ≤ x) = false := by simp; omega
          have HB1 := hide (Nat.le_trans (Nat.le_refl w.heap.size) HF1.out.size)
          have hb1 := HB1.out
          have h16 := HLT.out
          have NB := hide (fun cs t => (Blk.new w1 cs t).out)
          have HO2 := hide (fun o => HO1.out.alloc o)
          clear hAg HOG
          by_cases hxe : x = seen
          · have g3 : ((x : Int) == (seen : Int)) = true := by simp [hxe]
            have HRU := hide HRT.out
            rw [if_pos hxe] at HRU
            have HXE := hide hxe
            clear HRT hxe
            go_wp2_with (at_builtin; refine wpList_append_own_at _ rfl _ _ 25 rfl w.heap.size 45 i0 _ 6 56 Tryz.underlying25 hi hz0 hz1 hz2 rfl (by decide) _ _ _ rfl (HO2.out _) ⟨w1.heap.size, 0, none⟩ 1 1 [.bool false, .bool cb, .int .i64 cx, .int .u64 cu, .string ct, .complex .f64 cp cq] rfl rfl (World.news_of_block (NB.out _ _)) (by simp [Value.oneCell']) (by simp only [maxLen]; omega) (by omega) (by simp; omega) ?_; intro v1 w2 hown1 hgrow1 _ hat1)
            have HR2 := hide ((Blk.alloc HR1.out _).grown hgrow1 (fun h => own_ne_blk HO1.out HR1.out (by decide) h.symm))
            have HF2 := hide ((HF1.out.trans (Fr.alloc w1 _ _) (fun _ _ h => h)).trans (Fr.of_grown hgrow1) (fun q hq h => by have := (HO1.out.lt q h.symm).1; omega))
            have HW2 := hide hown1
            clear hown1 hgrow1 hat1
            go_roundw
            case rel =>
              refine ⟨i + 1, p + a, seen + 1, out ++ [⟨cb, cx, cu, ct, cp, cq⟩], by omega, by go_num, by go_num, by omega, ?_, by omega, ?_, ?_, HR2.out, HF2.out⟩
              · have := hol.out; show _ = _; simp; omega
              · rw [show n - (i + 1) = j by have := HJ.out; omega]; exact HRU.out
              · rw [cellsC_snoc]; exact HW2.out
            case measure => simp [intOf]; omega
          · have g3 : ((x : Int) == (seen : Int)) = false := by simp; omega
            have HRU := hide HRT.out
            rw [if_neg hxe] at HRU
            have g4 : (x : Int) < (seen : Int) := by omega
            clear HRT hxe
            go_wp2_with (at_builtin; refine wpList_append_own_at _ rfl _ _ 25 rfl w.heap.size 45 i0 _ 6 56 Tryz.underlying25 hi hz0 hz1 hz2 rfl (by decide) _ _ _ rfl (HO2.out _) ⟨w1.heap.size, 0, none⟩ 1 1 [.bool false, .bool cb, .int .i64 cx, .int .u64 cu, .string ct, .complex .f64 cp cq] rfl rfl (World.news_of_block (NB.out _ _)) (by simp [Value.oneCell']) (by simp only [maxLen]; omega) (by omega) (by simp; omega) ?_; intro v1 w2 hown1 hgrow1 _ hat1)
            have HR2 := hide ((Blk.alloc HR1.out _).grown hgrow1 (fun h => own_ne_blk HO1.out HR1.out (by decide) h.symm))
            have HF2 := hide ((HF1.out.trans (Fr.alloc w1 _ _) (fun _ _ h => h)).trans (Fr.of_grown hgrow1) (fun q hq h => by have := (HO1.out.lt q h.symm).1; omega))
            have HW2 := hide hown1
            clear hown1 hgrow1 hat1
            go_roundw
            case rel =>
              refine ⟨i + 1, p + a, seen, out ++ [⟨cb, cx, cu, ct, cp, cq⟩], by omega, by go_num, rfl, by omega, ?_, by omega, ?_, ?_, HR2.out, HF2.out⟩
              · have := hol.out; show _ = _; simp; omega
              · rw [show n - (i + 1) = j by have := HJ.out; omega]; exact HRU.out
              · rw [cellsC_snoc]; exact HW2.out
            case measure => simp [intOf]; omega
      · have hne : ((e0 : Int) != 0) = true := by rw [bne_iff_ne]; omega
        have hrr := HRR.out
        rw [if_neg he] at hrr
        subst hrr
        clear HRR
        go_wp2_with fail
        refine KE.out.mono ?_
        rintro e w2 ⟨rfl, rfl⟩
        go_wp2_with fail
        go_ret3
        exact ⟨_, rfl, inC_nil _, HF1.out⟩
    · obtain rfl : n = i := by omega
      have hr := hgo.out
      rw [Nat.sub_self] at hr
      have hr2 : ((if p < (bn s).length then 11 else 0 : Nat), seen, out) = RES := hr
      have KD2 := hide (KD.out p hp wr hrd.out)
      rw [bn_len] at hr2
      have HRR := hide hr2
      clear hr hr2 hgo hlt hR
      by_cases hps : p < s.size
      · have KD3 := hide KD2.out
        rw [if_pos trivial, if_pos hps] at KD3
        have hrr := HRR.out
        rw [if_pos hps] at hrr
        subst hrr
        clear HRR KD2 hps
        go_wp2_with fail
        refine KD3.out.mono ?_
        rintro e w1 ⟨rfl, hb1⟩
        have HB := hide hb1
        clear hb1 KD3
        go_wp2_with fail
        go_ret3
        exact ⟨_, rfl, inC_own (own_below how.out HB.out) hol.out.symm, hfr.out.trans (Fr.of_below HB.out _) (fun _ _ h => h)⟩
      · have KD3 := hide KD2.out
        rw [if_pos trivial, if_neg hps] at KD3
        have hrr := HRR.out
        rw [if_neg hps] at hrr
        subst hrr
        clear HRR KD2 hps
        go_wp2_with fail
        refine KD3.out.mono ?_
        rintro e w1 ⟨rfl, hb1⟩
        have HB := hide hb1
        clear hb1 KD3
        go_wp2_with fail
        go_ret3
        exact ⟨_, rfl, inC_own (own_below how.out HB.out) hol.out.symm, hfr.out.trans (Fr.of_below HB.out _) (fun _ _ h => h)⟩
end Go.Proofs.YtfkgmodgkifelaaGreatDoor
namespace Go.Proofs.YtfkgmodgkifelaaGreatDoor
open Go.RowKit

set_option maxHeartbeats 1000000 in
set_option maxRecDepth 100000 in
theorem dlen_any (D B M : Nat) (lv : Value) (k : Int) (l : List CD) (w : World) (h : DS w D B M lv k l) :
    Calls Tryz.prog 143 #[.pointer (some ⟨D, 0, none⟩)] w fun e w' => e = .returned (.int .i64 (l.length : Int)) ∧ w = w' := by
  obtain ⟨A, ca, rfl⟩ := own_form3 h.own
  have d1 := h.blk.cell 1
  simp at d1
  clear h
  go_enter Tryz.func143, Tryz.ntmps143
  go_wp2_with fail
  go_ret
  exact ⟨rfl, rfl⟩
set_option maxHeartbeats 4000000 in
set_option maxRecDepth 100000 in
theorem ddecode_in (k : Int) (h1 : 1 ≤ k) (h6 : k ≤ 6) (s : ByteArray) (hs : s.size ≤ maxLen) (n : Nat) (hn : n ≤ 10000) (w : World) (hT : Tabs w) :
    Calls Tryz.prog 94 #[.int .i64 k, .string s, .int .i64 n] w (DPost w (dspecD k (bn s) n)) := by
  have KR := hide (rd_new s)
  rcases hf : few (bn s) 0 with ⟨many, a, e0⟩
  have hle := few_le0 (bn s)
  rw [hf, bn_len] at hle
  simp only at hle
  have HT := hide hT
  obtain ⟨RES, hRES⟩ : ∃ RES : Nat × Nat × List CD, (0 < e0 ∧ RES = (e0, 0, [])) ∨ (e0 = 0 ∧ n < many ∧ RES = (12, 0, [])) ∨ (e0 = 0 ∧ many ≤ n ∧ dgo k (bn s) many a [] = RES) := by
    by_cases h0 : e0 = 0
    · by_cases h2 : n < many
      · exact ⟨_, .inr (.inl ⟨h0, h2, rfl⟩)⟩
      · exact ⟨_, .inr (.inr ⟨h0, by omega, rfl⟩)⟩
    · exact ⟨_, .inl ⟨by omega, rfl⟩⟩
  have KD := hide (fun R w (h : Rd w R s 0 0) (hT : Tabs w) => dread_any k h1 h6 R s hs n hn w h hT many a e0 hf RES hRES)
  have hspec : dspecD k (bn s) n = if RES.1 = 0 then pgo (bn s) RES.2.2 n RES.2.1 0 [] else (RES.1, []) := by
    unfold dspecD
    rw [hf]
    rcases hRES with ⟨h, rfl⟩ | ⟨h, h2, rfl⟩ | ⟨h, h2, h3⟩
    · have hne : ¬ e0 = 0 := by omega
      simp [hne]
    · simp [h, h2]
    · have hne : ¬ n < many := by omega
      simp [h, hne, h3]
  have hpl : RES.1 = 0 → RES.2.1 ≤ s.size ∧ RES.2.2.length ≤ 10000 := by
    rcases hRES with ⟨h, rfl⟩ | ⟨h, h2, rfl⟩ | ⟨h, h2, h3⟩
    · intro h9; simp at h9; omega
    · intro h9; simp at h9
    · intro h9
      rw [← h3] at h9 ⊢
      refine ⟨by have := dgo_le k (bn s) many a [] (by rw [bn_len]; exact hle); rwa [bn_len] at this, ?_⟩
      rw [dgo_len k (bn s) many a [] h9]; simp; omega
  have HP := hide hpl
  have KP := hide (fun R p hp D B M lv dl hdl w h hr RES hR => places_any k R s hs p hp n hn D B M lv dl hdl w h hr RES hR)
  generalize dspecD k (bn s) n = FIN at *
  have HFI := hide hspec
  obtain ⟨er, p, dl⟩ := RES
  have hn0 : (0 : Int) ≤ (n : Int) := by omega
  have hn1 : (n : Int) ≤ 10000 := by omega
  clear hspec hRES hf hle hT hpl hs
  simp only at HP KD HFI
  go_enter Tryz.func94, Tryz.ntmps94
  go_wp2_with fail
  refine (KR.out _).mono ?_
  rintro e w1 ⟨R, rfl, hr1, hR, hb1⟩
  have HR1 := hide hr1
  have HB1 := hide hb1
  have KD2 := hide (KD.out R w1 hr1 (HT.out.below hb1))
  clear hr1 hb1
  go_wp2_with fail
  refine KD2.out.mono ?_
  rintro e w2 (⟨hpos, rfl, hf2⟩ | ⟨he0, D, M, lv, rfl, hds, hr2, hf2⟩)
  · have hne : ((er : Int) != 0) = true := by rw [bne_iff_ne]; simp at hpos; omega
    have hne2 : ¬ er = 0 := by simp at hpos; omega
    have HB2 := hide (HB1.out.trans (hf2.below HB1.out.size (fun j hj => by omega)))
    obtain rfl : FIN = (er, []) := by have h := HFI.out; rwa [if_neg hne2] at h
    clear hf2 hpos hne2 HFI
    go_wp2_with fail
    go_ret2
    exact ⟨_, rfl, inC_nil _, HB2.out⟩
  · simp only at he0 hds hr2
    subst he0
    have HDS := hide hds
    have HR2 := hide hr2
    have HB2 := hide (HB1.out.trans (hf2.below HB1.out.size (fun j hj => by omega)))
    obtain ⟨hp1, hp2⟩ := HP.out rfl
    have KP2 := hide (KP.out R p hp1 D _ M lv dl hp2 w2 hds hr2 _ rfl)
    have HPG := hide (pgo_plc (bn s) dl n p 0 [])
    have hd1 : (dl.length : Int) ≤ 10000 := by omega
    have hne1 : ¬ D = R := by
      intro e
      have h1 := hds.blk
      have h2 := hr2
      unfold Rd Blk at h2
      unfold Blk at h1
      rw [e, h2] at h1
      injection h1 with h1
      injection h1 with _ h3
      exact absurd h3 (by decide)
    have hne2 : ¬ M = R := by
      intro e
      have h1 := hds.map
      have h2 := hr2
      unfold Rd Blk at h2
      rw [e, h2] at h1
      injection h1 with h1
      cases h1
    have HNE := hide (show ¬ D = R ∧ ¬ M = R ∧ ∀ j, lv.ownBlock = some j → ¬ j = R from ⟨hne1, hne2, (fun j hj e => own_ne_blk hds.own hr2 (by decide) (by rw [hj, e]))⟩)
    clear hne1 hne2
    clear hds hr2 hf2
    generalize plc (bn s) dl n p 0 [] = PL at *
    obtain ⟨e2, seen, out⟩ := PL
    unfold PlPost at KP2
    simp only at KP2 HPG
    have HFJ := hide (show FIN = if e2 = 0 then (if seen < dl.length then (12, []) else (0, out)) else (e2, []) from by have h := HFI.out; rw [if_pos rfl, HPG.out] at h; exact h)
    clear HFI HPG
    go_wp2_with fail
    refine KP2.out.mono ?_
    rintro e w3 ⟨v, rfl, hv, hf3⟩
    have HV := hide hv
    have HB3 := hide (HB2.out.trans (hf3.below HB2.out.size (fun j hj => by omega)))
    have HF3 := hide hf3
    clear hv hf3 KP2
    by_cases h2 : e2 = 0
    · subst h2
      have hfj := HFJ.out
      rw [if_pos rfl] at hfj
      have HFK := hide hfj
      have HD3 := hide (HDS.out.fr HF3.out (HNE.out.1) (HNE.out.2.1) (HNE.out.2.2))
      have KL := hide (dlen_any _ _ _ _ _ _ w3 HD3.out)
      clear hfj HFJ
      by_cases h3 : seen < dl.length
      · obtain rfl : FIN = (12, []) := by have h := HFK.out; rwa [if_pos h3] at h
        have g1 : (seen : Int) < (dl.length : Int) := by omega
        clear HFK h3
        generalize dl.length = L at *
        go_wp2_with fail
        refine KL.out.mono ?_
        rintro e w4 ⟨rfl, rfl⟩
        go_wp2_with fail
        go_ret2
        exact ⟨_, rfl, inC_nil _, HB3.out⟩
      · obtain rfl : FIN = (0, out) := by have h := HFK.out; rwa [if_neg h3] at h
        have g1 : decide (seen < dl.length) = false := by simp; omega
        clear HFK h3
        generalize dl.length = L at *
        go_wp2_with fail
        refine KL.out.mono ?_
        rintro e w4 ⟨rfl, rfl⟩
        go_wp2_with fail
        go_ret2
        exact ⟨_, rfl, HV.out, HB3.out⟩
    · have hne : ((e2 : Int) != 0) = true := by rw [bne_iff_ne]; omega
      obtain rfl : FIN = (e2, []) := by have h := HFJ.out; rwa [if_neg h2] at h
      go_wp2_with fail
      go_ret2
      exact ⟨_, rfl, inC_nil _, HB3.out⟩
end Go.Proofs.YtfkgmodgkifelaaGreatDoor
