/- Columns, many: what they are in memory, and a map that counts names. Columns, many: schema.Columns. Columns, many: the document's answer, where they may be. -/
import Derived.Test.YtfkgmodgkifelaaGreatDoorJ14
import Derived.Test.YtfkgmodgkifelaaGreatDoorJ16
namespace Go.Proofs.YtfkgmodgkifelaaGreatDoor
open Go.RowKit

/-- A column: its name, its kind, and whether its cells may be missing. -/
abbrev Col := ByteArray × Int × Bool
def cellsK (c : Col) : List Go.Value := [.string c.1, .int .i64 c.2.1, .bool c.2.2]
structure AtK (w : World) (g o : Nat) (nm : ByteArray) (k : Int) (nl : Bool) : Prop where
  c0 : w.cell? ⟨g, o, none⟩ = some (.string nm)
  c1 : w.cell? ⟨g, o + 1, none⟩ = some (.int .i64 k)
  c2 : w.cell? ⟨g, o + 2, none⟩ = some (.bool nl)
theorem AtK.below {w w' : World} {g o : Nat} {nm : ByteArray} {k : Int} {nl : Bool} (h : AtK w g o nm k nl) {B : Nat} (hb : Below B w w') (hg : g < B) : AtK w' g o nm k nl :=
  ⟨(hb.cell (p := ⟨g, _, none⟩) hg).trans h.c0, (hb.cell (p := ⟨g, _, none⟩) hg).trans h.c1, (hb.cell (p := ⟨g, _, none⟩) hg).trans h.c2⟩
/-- A slice of columns. -/
def InK (w : World) (v : Value) (l : List Col) : Prop :=
  ∃ A c, v = .slice A l.length c ∧ l.length ≤ c ∧ ∀ i x, l[i]? = some x → ∃ g, A = some ⟨g, 0, none⟩ ∧ g < w.heap.size ∧ AtK w g (i * 3) x.1 x.2.1 x.2.2
theorem InK.below {w w' : World} {v : Value} {l : List Col} (h : InK w v l) (hb : Below w.heap.size w w') : InK w' v l := by
  obtain ⟨A, c, rfl, hlc, hc⟩ := h
  refine ⟨A, c, rfl, hlc, fun i x hx => ?_⟩
  obtain ⟨g, hA, hg, hat⟩ := hc i x hx
  exact ⟨g, hA, Nat.lt_of_lt_of_le hg hb.size, hat.below hb hg⟩
theorem inK_nil (w : World) : InK w (.slice none 0 0) [] := ⟨none, 0, rfl, Nat.le_refl _, fun i x h => by simp at h⟩
theorem cellsK_snoc (l : List Col) (x : Col) : (l ++ [x]).flatMap cellsK = l.flatMap cellsK ++ cellsK x := by simp
theorem cellsK_get : ∀ (l : List Col) (i : Nat) (x : Col) (j : Nat), l[i]? = some x → j < 3 → (l.flatMap cellsK)[i * 3 + j]? = (cellsK x)[j]? := by
  intro l
  induction l with
  | nil => intro i x j h; simp at h
  | cons a l ih =>
    intro i x j h hj
    rw [List.flatMap_cons]
    have hl : (cellsK a).length = 3 := rfl
    cases i with
    | zero =>
      obtain rfl : a = x := by simpa using h
      rw [List.getElem?_append_left (by omega), Nat.zero_mul, Nat.zero_add]
    | succ i =>
      rw [List.getElem?_append_right (by rw [hl]; omega), hl, show (i + 1) * 3 + j - 3 = i * 3 + j by omega]
      exact ih i x j (by simpa using h) hj
theorem inK_own {w : World} {B n : Nat} {v : Value} {l : List Col} (h : w.ownsRow B 23 3 v n (l.flatMap cellsK)) (hn : n = l.length) : InK w v l := by
  subst hn
  rcases Nat.eq_zero_or_pos l.length with h0 | h0
  · obtain ⟨A, c, rfl⟩ := own_form3 h
    have : l = [] := List.eq_nil_of_length_eq_zero h0
    subst this
    exact ⟨A, c, rfl, Nat.zero_le _, fun i x h => by simp at h⟩
  · obtain ⟨g, c, rfl⟩ := own_addr h h0
    refine ⟨some ⟨g, 0, none⟩, c, rfl, own_capC h, fun i x hx => ⟨g, rfl, (h.lt g rfl).2, ?_⟩⟩
    have hi : i < l.length := (List.getElem?_eq_some_iff.1 hx).1
    have hc := fun j (hj : j < 3) => (h.cellAt (i * 3 + j) (by omega)).trans (cellsK_get l i x j hx hj)
    exact ⟨hc 0 (by omega), hc 1 (by omega), hc 2 (by omega)⟩

instance lawBA : LawfulBEq ByteArray where
  eq_of_beq h := (MapKept.bytes_beq _ _).1 h
  rfl := (MapKept.bytes_beq _ _).2 rfl
/-- What is wrong with columns: the names ahead are given. -/
def colsGo : List Col → List ByteArray → Nat
  | [], _ => 0
  | c :: cs, seen => if colE c.1 c.2.1 = 0 ∧ c.1 ∉ seen then colsGo cs (seen ++ [c.1]) else 30
def colsE (l : List Col) : Nat := if l.length < 1 ∨ 32 < l.length then 30 else colsGo l []

/-- A map that has counted each of these names once. -/
structure SM (es : Array MapEntry) (seen : List ByteArray) : Prop where
  key : ∀ x ∈ es.toList, MapKept.IsKey .string x.key
  one : ∀ x ∈ es.toList, x.val = .int .i64 1
  pw : es.toList.Pairwise (fun x y => x.key ≠ y.key)
  iff : ∀ nm, nm ∈ seen ↔ ∃ x ∈ es.toList, x.key = .string nm
theorem SM.nil : SM #[] [] := ⟨by simp, by simp, by simp, by simp⟩
theorem check_nm (w : World) (b : Bool) (s : ByteArray) : (Instr.checkKey b 10000 9 (.string s)).run Tryz.prog w = .ok () w := MapKept.run_checkKey (k := .string s) str_und (by simp [MapKept.IsKey]) b 9999
theorem look_nf {w : World} {r clock : Nat} {es : Array MapEntry} {s : ByteArray} (hb : w.heap[r]? = some (.map es clock)) (hf : Instr.findNow .string (.string s) es.toList 0 = some none) :
    (Instr.lookup 95 (.map (some r)) (.string s) false).run Tryz.prog w = .ok (.int .i64 0) w := by
  simp [Instr.lookup, run_underlying map_und, MapKept.run_getObj_map hb, check_nm, MapKept.run_findKey str_und hf, zero_int w, Result.andThen]
theorem look_fd {w : World} {r clock j : Nat} {v : Value} {es : Array MapEntry} {s : ByteArray} (hb : w.heap[r]? = some (.map es clock)) (hf : Instr.findNow .string (.string s) es.toList 0 = some (some (j, v))) :
    (Instr.lookup 95 (.map (some r)) (.string s) false).run Tryz.prog w = .ok v w := by
  simp [Instr.lookup, run_underlying map_und, MapKept.run_getObj_map hb, check_nm, MapKept.run_findKey str_und hf, Result.andThen]
theorem put_nf {w : World} {r clock : Nat} {es : Array MapEntry} {s : ByteArray} (v : Value) (hb : w.heap[r]? = some (.map es clock)) (hf : Instr.findNow .string (.string s) es.toList 0 = some none) :
    (Instr.mapUpdate 95 (.map (some r)) (.string s) v).run Tryz.prog w = .ok () (setM w r (es.push { key := .string s, val := v, born := clock }) (clock + 1)) := by
  simp [Instr.mapUpdate, run_underlying map_und, MapKept.run_getObj_map hb, check_nm, MapKept.run_findKey str_und hf, MapKept.run_setObj_map _ hb, Result.andThen, setM]
theorem put_fd {w : World} {r clock j : Nat} {u : Value} {es : Array MapEntry} {s : ByteArray} (v : Value) (hb : w.heap[r]? = some (.map es clock)) (hf : Instr.findNow .string (.string s) es.toList 0 = some (some (j, u))) (hk : (es[j]?).map (·.key) = some (.string s)) :
    (Instr.mapUpdate 95 (.map (some r)) (.string s) v).run Tryz.prog w = .ok () (setM w r (es.modify j fun e => { e with key := .string s, val := v }) clock) := by
  simp [Instr.mapUpdate, run_underlying map_und, MapKept.run_getObj_map hb, check_nm, MapKept.run_findKey str_und hf, MapKept.run_setObj_map _ hb, Result.andThen, setM, hk, MapKept.run_keyThatStays (d := .string) (k := .string s) (by simp [MapKept.IsKey])]
set_option maxRecDepth 100000 in
/-- One more name is counted: how often it was there, and how often it is then. -/
theorem seen_step {es : Array MapEntry} {seen : List ByteArray} (h : SM es seen) (nm : ByteArray) (r clock : Nat) :
    ∃ (V : Int) (es' : Array MapEntry) (clock' : Nat),
      ((V = 0 ∧ nm ∉ seen ∧ SM es' (seen ++ [nm])) ∨ (V = 1 ∧ nm ∈ seen)) ∧
      (∀ w : World, w.heap[r]? = some (.map es clock) → (Instr.lookup 95 (.map (some r)) (.string nm) false).run Tryz.prog w = .ok (.int .i64 V) w) ∧
      (∀ w : World, w.heap[r]? = some (.map es clock) → (Instr.mapUpdate 95 (.map (some r)) (.string nm) (.int .i64 (V + 1))).run Tryz.prog w = .ok () (setM w r es' clock')) ∧
      (∀ w : World, w.heap[r]? = some (.map es' clock') → (Instr.lookup 95 (.map (some r)) (.string nm) false).run Tryz.prog w = .ok (.int .i64 (V + 1)) w) := by
  have hik : MapKept.IsKey .string (.string nm) := by simp [MapKept.IsKey]
  rcases MapKept.findNow_spec hik es.toList 0 h.key with ⟨hf, hno⟩ | ⟨j, e, hf, hj, he⟩
  · have hk' : ∀ x ∈ (es.push { key := .string nm, val := .int .i64 (0 + 1), born := clock }).toList, MapKept.IsKey .string x.key := by
      intro x hx
      rw [Array.toList_push] at hx
      rcases List.mem_append.1 hx with hx | hx
      · exact h.key x hx
      · rw [List.mem_singleton] at hx; subst hx; exact hik
    have hsm : SM (es.push { key := .string nm, val := .int .i64 (0 + 1), born := clock }) (seen ++ [nm]) := by
      refine ⟨hk', ?_, ?_, ?_⟩
      · intro x hx
        rw [Array.toList_push] at hx
        rcases List.mem_append.1 hx with hx | hx
        · exact h.one x hx
        · rw [List.mem_singleton] at hx; subst hx; rfl
      · rw [Array.toList_push, List.pairwise_append]
        refine ⟨h.pw, by simp, fun x hx y hy => ?_⟩
        rw [List.mem_singleton] at hy; subst hy
        exact hno x hx
      · intro m
        rw [List.mem_append, h.iff m, Array.toList_push]
        constructor
        · rintro (⟨x, hx, hk⟩ | hm)
          · exact ⟨x, List.mem_append_left _ hx, hk⟩
          · rw [List.mem_singleton] at hm; subst hm
            exact ⟨_, List.mem_append_right _ (List.mem_singleton.2 rfl), rfl⟩
        · rintro ⟨x, hx, hk⟩
          rcases List.mem_append.1 hx with hx | hx
          · exact .inl ⟨x, hx, hk⟩
          · rw [List.mem_singleton] at hx; subst hx
            injection hk with hk
            exact .inr (List.mem_singleton.2 hk.symm)
    refine ⟨0, _, clock + 1, .inl ⟨rfl, ?_, hsm⟩, fun w hb => look_nf hb hf, fun w hb => put_nf _ hb hf, fun w hb => ?_⟩
    · intro hm
      obtain ⟨x, hx, hk⟩ := (h.iff nm).1 hm
      exact hno x hx hk
    · rcases MapKept.findNow_spec hik _ 0 hk' with ⟨_, hno2⟩ | ⟨j, e, hf2, hj2, _⟩
      · exact absurd rfl (hno2 _ (by rw [Array.toList_push]; exact List.mem_append_right _ (List.mem_singleton.2 rfl)))
      · have := hsm.one e (List.mem_of_getElem? hj2)
        rw [this] at hf2
        exact look_fd hb hf2
  · rw [Nat.zero_add] at hf
    have hv := h.one e (List.mem_of_getElem? hj)
    rw [hv] at hf
    have hjk : (es[j]?).map (·.key) = some (.string nm) := by
      rw [← Array.getElem?_toList, hj]; simp [he]
    have hk' : ∀ x ∈ (es.modify j fun e => { e with key := .string nm, val := .int .i64 (1 + 1) }).toList, MapKept.IsKey .string x.key := by
      refine MapKept.isKey_modify h.key j _ (fun x hx => ?_)
      rw [hx] at hjk
      simpa using hjk.symm
    refine ⟨1, _, clock, .inr ⟨rfl, (h.iff nm).2 ⟨e, List.mem_of_getElem? hj, he⟩⟩, fun w hb => look_fd hb hf, fun w hb => put_fd _ hb hf hjk, fun w hb => ?_⟩
    have hlt : j < es.toList.length := (List.getElem?_eq_some_iff.1 hj).1
    rcases MapKept.findNow_spec hik _ 0 hk' with ⟨_, hno2⟩ | ⟨i, e2, hf2, hi2, he2⟩
    · refine absurd ?_ (hno2 { e with key := .string nm, val := .int .i64 (1 + 1) } ?_)
      · rfl
      · refine List.mem_of_getElem? (i := j) ?_
        rw [Array.getElem?_toList, Array.getElem?_modify, if_pos rfl, ← Array.getElem?_toList, hj]; rfl
    · rw [Array.getElem?_toList, Array.getElem?_modify] at hi2
      by_cases hij : j = i
      · rw [if_pos hij, ← Array.getElem?_toList, ← hij, hj] at hi2
        injection hi2 with hi2
        rw [← hi2] at hf2
        exact look_fd hb hf2
      · rw [if_neg hij, ← Array.getElem?_toList] at hi2
        exfalso
        have hlt2 : i < es.toList.length := (List.getElem?_eq_some_iff.1 hi2).1
        have h1 := (List.getElem?_eq_some_iff.1 hj).2
        have h2 := (List.getElem?_eq_some_iff.1 hi2).2
        rcases Nat.lt_or_gt_of_ne hij with hl | hl
        · exact (List.pairwise_iff_getElem.1 h.pw) j i hlt hlt2 hl (by rw [h1, h2, he, he2])
        · exact (List.pairwise_iff_getElem.1 h.pw) i j hlt2 hlt hl (by rw [h1, h2, he, he2])
end Go.Proofs.YtfkgmodgkifelaaGreatDoor
namespace Go.Proofs.YtfkgmodgkifelaaGreatDoor
open Go.RowKit

theorem colsGo_ok {c : Col} {cs : List Col} {seen : List ByteArray} (h : colE c.1 c.2.1 = 0) (hn : c.1 ∉ seen) : colsGo (c :: cs) seen = colsGo cs (seen ++ [c.1]) := by
  show (if _ then _ else _) = _
  rw [if_pos ⟨h, hn⟩]
theorem colsGo_bad {c : Col} {cs : List Col} {seen : List ByteArray} (h : ¬ (colE c.1 c.2.1 = 0 ∧ c.1 ∉ seen)) : colsGo (c :: cs) seen = 30 := by
  show (if _ then _ else _) = _
  rw [if_neg h]
theorem dropK_at {α : Type} {l : List α} {i : Nat} {x : α} (h : l[i]? = some x) : l.drop i = x :: l.drop (i + 1) := by
  have hi := (List.getElem?_eq_some_iff.1 h).1
  rw [List.drop_eq_getElem_cons hi, (List.getElem?_eq_some_iff.1 h).2]
theorem take_at {α : Type} {l : List α} {i : Nat} {x : α} (h : l[i]? = some x) : l.take (i + 1) = l.take i ++ [x] := by
  rw [List.take_add_one, h]; rfl
set_option maxHeartbeats 4000000 in
set_option maxRecDepth 100000 in
theorem columns_any (l : List Col) (hl : l.length ≤ 100000) (hnm : ∀ c ∈ l, c.1.size ≤ maxLen) (v : Value) (w : World) (hT : Tabs w) (hv : InK w v l) :
    Calls Tryz.prog 14 #[v] w fun e w' => e = .returned (.int .i64 (colsE l : Nat)) ∧ Below w.heap.size w w' := by
  obtain ⟨A, ca, rfl, hlc, hcell⟩ := hv
  have HC := hide hcell
  have HNM := hide hnm
  have HT := hide hT
  obtain ⟨R, hR⟩ : ∃ R, colsE l = R := ⟨_, rfl⟩
  rw [hR]
  unfold colsE at hR
  have HR := hide hR
  clear hcell hnm hT hR hlc
  generalize hn : l.length = n at *
  have HN := hide hn
  clear hn
  have hmm := fun w1 : World => run_makeMap_plain (P := Tryz.prog) w1 95
  by_cases h1 : n < 1
  · have g1 : (n : Int) < 1 := by omega
    obtain rfl : R = 30 := by rw [← HR.out, if_pos (.inl h1)]
    clear h1 HR
    go_enter Tryz.func14, Tryz.ntmps14
    go_wp2_with fail
    go_ret
    exact ⟨rfl, Below.refl _ _⟩
  · have g1 : decide ((n : Int) < 1) = false := by rw [decide_eq_false_iff_not]; omega
    have g1' : decide (n < 1) = false := by rw [decide_eq_false_iff_not]; omega
    by_cases h2 : 32 < n
    · have g2 : (32 : Int) < (n : Int) := by omega
      obtain rfl : R = 30 := by rw [← HR.out, if_pos (.inr h2)]
      clear h1 h2 HR
      go_enter Tryz.func14, Tryz.ntmps14
      go_wp2_with fail
      go_ret
      exact ⟨rfl, Below.refl _ _⟩
    · have g2 : decide ((32 : Int) < (n : Int)) = false := by rw [decide_eq_false_iff_not]; omega
      have g2' : decide (32 < n) = false := by rw [decide_eq_false_iff_not]; omega
      have hr0 := HR.out
      rw [if_neg (by omega)] at hr0
      have HR0 := hide hr0
      clear h1 h2 HR hr0
      go_enter Tryz.func14, Tryz.ntmps14
      go_wp2_with fail
      go_loopw [17] (fun iv wr => ∃ (i : Nat) (es : Array MapEntry) (ck : Nat), i ≤ n ∧ iv = .int .i64 (i : Int) ∧ Hid (wr.heap[w.heap.size]? = some (.map es ck)) ∧ Hid (SM es ((l.take i).map (·.1))) ∧ Hid (colsGo (l.drop i) ((l.take i).map (·.1)) = R) ∧ Hid (Below w.heap.size w wr)) (fun iv _ => n - (intOf iv).toNat)
      case atStart => exact ⟨0, #[], 0, by omega, rfl, hide (Array.getElem?_push_size), hide SM.nil, hide HR0.out, hide ((Below.refl _ _).alloc (Nat.le_refl _) _)⟩
      case round =>
        obtain ⟨i, es, ck, hi, rfl, hm, hsm, hgo, hb⟩ := hrel
        by_cases hlt : i < n
        · obtain ⟨x, hx⟩ : ∃ x, l[i]? = some x := ⟨l[i]'(by rw [HN.out]; exact hlt), List.getElem?_eq_getElem _⟩
          obtain ⟨g, hA, hg, hat⟩ := HC.out i x hx
          subst hA
          obtain ⟨a0, a1, a2⟩ := hat.below hb.out hg
          have hgo2 := hgo.out
          rw [dropK_at hx] at hgo2
          have HGO := hide hgo2
          have HTK := hide (show (l.take (i + 1)).map (·.1) = (l.take i).map (·.1) ++ [x.1] by rw [take_at hx]; simp)
          have hxs := HNM.out x (List.mem_of_getElem? hx)
          obtain ⟨nm, k, nl⟩ := x
          simp only at a0 a1 a2 hxs HGO HTK
          obtain ⟨V, es', ck', hV, hlk, hup, hlk2⟩ := seen_step hsm.out nm w.heap.size ck
          have HV := hide hV
          have KL2 := hide hlk2
          have hv0 : 0 ≤ V := by rcases hV with h | h <;> omega
          have hv1 : V ≤ 1 := by rcases hV with h | h <;> omega
          have hwr : IntKind.i64.wrap (V + 1) = V + 1 := by rcases hV with ⟨rfl, _⟩ | ⟨rfl, _⟩ <;> rfl
          have hMlt : w.heap.size < wr.heap.size := (Array.getElem?_eq_some_iff.1 hm.out).1
          obtain ⟨w2, hw2⟩ : ∃ w2, wr.alloc (.cells #[.string nm, .int .i64 k, .bool nl] 23) = w2 := ⟨_, rfl⟩
          have hm2 : w2.heap[w.heap.size]? = some (.map es ck) := by rw [← hw2]; exact (Below.heap_alloc _ _ _ hMlt).trans hm.out
          have hk2 : Blk w2 wr.heap.size 23 #[.string nm, .int .i64 k, .bool nl] := by rw [← hw2]; exact Blk.new _ _ _
          have hl2 := hlk w2 hm2
          have hu2 := hup w2 hm2
          have hb2 : Below w.heap.size w w2 := by rw [← hw2]; exact hb.out.alloc hb.out.size _
          obtain ⟨w3, hw3⟩ : ∃ w3, setM w2 w.heap.size es' ck' = w3 := ⟨_, rfl⟩
          have hf3 : Fr w2 w3 (fun j => j = w.heap.size) := by rw [← hw3]; exact setM_fr _ _ _ _
          have hm3 : w3.heap[w.heap.size]? = some (.map es' ck') := by rw [← hw3]; exact setM_at hm2 _ _
          have hk3 := hk2.fr hf3 (by omega)
          have hb3 : Below w.heap.size w w3 := hb2.trans (hf3.below hb2.size (fun j hj => by omega))
          rw [hw3] at hu2
          have k0 := hk3.cell 0
          have k1 := hk3.cell 1
          have q0 := hk2.cell 0
          simp at k0 k1 q0
          have HM3 := hide hm3
          have HB3 := hide hb3
          have HT3 := hide (HT.out.below hb3)
          have HK3 := hide hk3
          have KV := hide (valid_any nm w3 hxs HT3.out)
          have hnl : (nm.size : Int) ≤ 9223372036854775807 := by unfold maxLen at hxs; omega
          have hi0 : (0 : Int) ≤ (i : Int) := by omega
          have hi1 : (i : Int) < (n : Int) := by omega
          have HLT := hide hlt
          clear hw3 hm3 hb3 hk3 hf3 hb2 hm2 hk2 hm hsm hgo hb hlt hgo2 hxs hV hlk hup hlk2 hat hx
          by_cases h0 : nm.size = 0
          · obtain rfl : 30 = R := by rw [← HGO.out]; exact (colsGo_bad (by rintro ⟨h, _⟩; unfold colE at h; rw [if_pos (.inl h0)] at h; cases h)).symm
            have hnm0 : nm = ByteArray.empty := by
              cases nm with
              | mk d =>
                have : d = #[] := Array.eq_empty_of_size_eq_zero h0
                subst this; rfl
            have hq : (nm.toList == ByteArray.empty.toList) = true := by rw [hnm0]; exact beq_self_eq_true _
            have hq2 : nm.toList.isEmpty = true := by rw [hnm0, ByteArray.toList_eq]; rfl
            clear KV hnm0 h0 HGO
            go_wp2_with fail
            go_ret
            exact ⟨rfl, HB3.out⟩
          · have hq : (nm.toList == ByteArray.empty.toList) = false := str_nil nm h0
            have hq2 : nm.toList.isEmpty = false := by
              cases he : nm.toList.isEmpty
              · rfl
              · rw [ByteArray.toList_eq, List.isEmpty_iff] at he
                exact absurd (show nm.size = 0 by rw [← ByteArray.size_data, ← Array.length_toList, he]; rfl) h0
            by_cases h64 : 64 < nm.size
            · obtain rfl : 30 = R := by rw [← HGO.out]; exact (colsGo_bad (by rintro ⟨h, _⟩; unfold colE at h; rw [if_pos (.inr (.inl h64))] at h; cases h)).symm
              have h64' : (64 : Int) < (nm.size : Int) := by omega
              clear KV h0 HGO h64
              go_wp2_with fail
              go_ret
              exact ⟨rfl, HB3.out⟩
            · have h64' : (nm.size : Int) ≤ 64 := by omega
              cases hv : Lib.validD nm.data.toList
              · obtain rfl : 30 = R := by rw [← HGO.out]; exact (colsGo_bad (by rintro ⟨h, _⟩; unfold colE at h; rw [if_pos (.inr (.inr (.inl hv)))] at h; cases h)).symm
                rw [hv] at KV
                clear h0 HGO h64 hv
                go_wp2_with fail
                refine KV.out.mono ?_
                rintro e w4 ⟨rfl, hb4⟩
                have HB4 := hide (HB3.out.trans (hb4.mono HB3.out.size))
                clear hb4
                go_wp2_with fail
                go_ret
                exact ⟨rfl, HB4.out⟩
              · rw [hv] at KV
                by_cases hk : k < 1 ∨ 6 < k
                · obtain rfl : 30 = R := by rw [← HGO.out]; exact (colsGo_bad (by rintro ⟨h, _⟩; unfold colE at h; rw [if_pos (.inr (.inr (.inr hk)))] at h; cases h)).symm
                  have KI := hide (fun w => sis_no k hk w)
                  clear h0 HGO h64 hv hk
                  go_wp2_with fail
                  refine KV.out.mono ?_
                  rintro e w4 ⟨rfl, hb4⟩
                  have hk4 := HK3.out.below hb4 HK3.out.lt
                  have HB4 := hide (HB3.out.trans (hb4.mono HB3.out.size))
                  have j0 := hk4.cell 0
                  have j1 := hk4.cell 1
                  simp at j0 j1
                  clear hb4 k0 k1 hk4 hl2 hu2 hw2
                  go_wp2_with fail
                  refine (KI.out _).mono ?_
                  rintro e w5 ⟨rfl, rfl⟩
                  go_wp2_with fail
                  go_ret
                  exact ⟨rfl, HB4.out⟩
                · have KI := hide (fun w => sis_yes k (by omega) (by omega) w)
                  have HOK := hide (show colE nm k = 0 by
                    unfold colE; rw [if_neg]
                    rintro (h | h | h | h | h)
                    · exact h0 h
                    · exact h64 h
                    · rw [hv] at h; cases h
                    · exact hk (.inl h)
                    · exact hk (.inr h))
                  clear h0 h64 hv hk
                  go_wp2_with fail
                  refine KV.out.mono ?_
                  rintro e w4 ⟨rfl, hb4⟩
                  have hk4 := HK3.out.below hb4 HK3.out.lt
                  have hm4 : w4.heap[w.heap.size]? = some (.map es' ck') := (hb4.block _ (Array.getElem?_eq_some_iff.1 HM3.out).1).trans HM3.out
                  have HB4 := hide (HB3.out.trans (hb4.mono HB3.out.size))
                  have j0 := hk4.cell 0
                  have j1 := hk4.cell 1
                  simp at j0 j1
                  have hl4 := KL2.out w4 hm4
                  have HM4 := hide hm4
                  clear hb4 k0 k1 hk4 hl2 hu2 hm4 hw2
                  go_wp2_with fail
                  refine (KI.out _).mono ?_
                  rintro e w5 ⟨rfl, rfl⟩
                  rcases HV.out with ⟨rfl, hno, hsm'⟩ | ⟨rfl, hin⟩
                  · have hgo3 := HGO.out
                    rw [colsGo_ok HOK.out hno] at hgo3
                    have HGG := hide hgo3
                    have HSM := hide hsm'
                    clear HGO hgo3 hsm' hno HV
                    go_wp2_with fail
                    go_roundw
                    case rel => exact ⟨i + 1, es', ck', by have := HLT.out; omega, by go_num, HM4, hide (by rw [HTK.out]; exact HSM.out), hide (by rw [HTK.out]; exact HGG.out), HB4⟩
                    case measure => have := HLT.out; simp [intOf]; omega
                  · obtain rfl : 30 = R := by rw [← HGO.out]; exact (colsGo_bad (by rintro ⟨_, h⟩; exact h hin)).symm
                    clear HGO HV hin
                    go_wp2_with fail
                    go_ret
                    exact ⟨rfl, HB4.out⟩
        · obtain rfl : n = i := by omega
          obtain rfl : 0 = R := by
            rw [← hgo.out, List.drop_of_length_le (by rw [HN.out]; exact Nat.le_refl _)]; rfl
          have HB := hide hb.out
          clear hm hsm hgo hb hlt hi
          go_wp2_with fail
          go_ret
          exact ⟨rfl, HB.out⟩
end Go.Proofs.YtfkgmodgkifelaaGreatDoor
namespace Go.Proofs.YtfkgmodgkifelaaGreatDoor
open Go.RowKit

theorem colsGo_get : ∀ (l : List Col) (seen : List ByteArray), colsGo l seen = 0 → ∀ (i : Nat) (x : Col), l[i]? = some x → colE x.1 x.2.1 = 0 ∧ x.1 ∉ seen ∧ ∀ k, k < i → ∀ y, l[k]? = some y → x.1 ≠ y.1 := by
  intro l
  induction l with
  | nil => intro seen _ i x h; simp at h
  | cons c cs ih =>
    intro seen h i x hx
    by_cases hc : colE c.1 c.2.1 = 0 ∧ c.1 ∉ seen
    · rw [colsGo_ok hc.1 hc.2] at h
      cases i with
      | zero =>
        obtain rfl : c = x := by simpa using hx
        exact ⟨hc.1, hc.2, fun k hk => by omega⟩
      | succ i =>
        obtain ⟨h1, h2, h3⟩ := ih _ h i x (by simpa using hx)
        refine ⟨h1, fun hm => h2 (List.mem_append_left _ hm), fun k hk y hy => ?_⟩
        cases k with
        | zero =>
          obtain rfl : c = y := by simpa using hy
          intro he
          exact h2 (List.mem_append_right _ (by rw [he]; exact List.mem_singleton.2 rfl))
        | succ k => exact h3 k (by omega) y (by simpa using hy)
    · rw [colsGo_bad hc] at h; cases h
/-- What columns that may be are. -/
structure ColsOk (l : List Col) : Prop where
  pos : 1 ≤ l.length
  le : l.length ≤ 32
  one : ∀ x ∈ l, colE x.1 x.2.1 = 0
  two : ∀ (i k : Nat) (x y : Col), l[i]? = some x → l[k]? = some y → k < i → x.1 ≠ y.1
theorem colsE_ok {l : List Col} (h : colsE l = 0) : ColsOk l := by
  unfold colsE at h
  by_cases hc : l.length < 1 ∨ 32 < l.length
  · rw [if_pos hc] at h; cases h
  · rw [if_neg hc] at h
    refine ⟨by omega, by omega, fun x hx => ?_, fun i k x y hi hk hlt => ?_⟩
    · obtain ⟨i, hi⟩ := List.getElem?_of_mem hx
      exact (colsGo_get l [] h i x hi).1
    · exact (colsGo_get l [] h i x hi).2.2 k hlt y hk
theorem colE_ok {nm : ByteArray} {k : Int} (h : colE nm k = 0) : nm.size ≠ 0 ∧ nm.size ≤ 64 ∧ Lib.validD nm.data.toList = true ∧ 1 ≤ k ∧ k ≤ 6 := by
  unfold colE at h
  by_cases hc : nm.size = 0 ∨ 64 < nm.size ∨ Lib.validD nm.data.toList = false ∨ k < 1 ∨ 6 < k
  · rw [if_pos hc] at h; cases h
  · refine ⟨fun h => hc (.inl h), by omega, ?_, by omega, by omega⟩
    cases hv : Lib.validD nm.data.toList
    · exact absurd (.inr (.inr (.inl hv))) hc
    · rfl
theorem str_ne {a b : ByteArray} (h : a ≠ b) : (a.toList == b.toList) = false := by
  rw [beq_eq_false_iff_ne]
  intro he
  rw [ByteArray.toList_eq, ByteArray.toList_eq] at he
  exact h (WideShapes.bytes_inj he)
set_option maxHeartbeats 4000000 in
set_option maxRecDepth 100000 in
theorem scolumns_ok (l : List Col) (hok : colsE l = 0) (v : Value) (w : World) (hT : Tabs w) (hv : InK w v l) :
    Calls Tryz.prog 16 #[v] w fun e w' => e = .returned (.bool true) ∧ Below w.heap.size w w' := by
  obtain ⟨A, ca, rfl, hlc, hcell⟩ := hv
  have HOK := hide (colsE_ok hok)
  have HC := hide hcell
  have HT := hide hT
  have h1 := (colsE_ok hok).pos
  have h2 := (colsE_ok hok).le
  clear hcell hT hlc hok
  generalize hn : l.length = n at *
  have HN := hide hn
  clear hn
  have g1 : (1 : Int) ≤ (n : Int) := by omega
  have g2 : (n : Int) ≤ 32 := by omega
  clear h1 h2
  go_enter Tryz.func16, Tryz.ntmps16
  go_wp2_with fail
  go_loopw [3] (fun iv wr => ∃ i : Nat, i ≤ n ∧ iv = .int .i64 (i : Int) ∧ Hid (Below w.heap.size w wr)) (fun iv _ => n - (intOf iv).toNat)
  case atStart => exact ⟨0, by omega, rfl, hide (Below.refl _ _)⟩
  case round =>
    obtain ⟨i, hi, rfl, hb⟩ := hrel
    by_cases hlt : i < n
    · obtain ⟨x, hx⟩ : ∃ x, l[i]? = some x := ⟨l[i]'(by rw [HN.out]; exact hlt), List.getElem?_eq_getElem _⟩
      obtain ⟨g, hA, hg, hat⟩ := HC.out i x hx
      subst hA
      have HX := hide hx
      have HAT := hide hat
      have HG := hide hg
      obtain ⟨s0, s64, sv, sk1, sk6⟩ := colE_ok (HOK.out.one x (List.mem_of_getElem? hx))
      have HS := hide (And.intro s0 (And.intro s64 (And.intro sv (And.intro sk1 sk6))))
      have hi0 : (0 : Int) ≤ (i : Int) := by omega
      have hi1 : (i : Int) < (n : Int) := by omega
      have HLT := hide hlt
      clear hlt hx hat hg s0 s64 sv sk1 sk6
      go_wp2_with fail
      go_loopw [4] (fun kv wr => ∃ k : Nat, k ≤ i ∧ kv = .int .i64 (k : Int) ∧ Hid (Below w.heap.size w wr)) (fun kv _ => i - (intOf kv).toNat)
      case atStart => exact ⟨0, by omega, rfl, hb⟩
      case round =>
        obtain ⟨k, hk, rfl, hb2⟩ := hrel
        by_cases hkt : k < i
        · obtain ⟨y, hy⟩ : ∃ y, l[k]? = some y := ⟨l[k]'(by rw [HN.out]; have := HLT.out; omega), List.getElem?_eq_getElem _⟩
          obtain ⟨g', hA', hg', hat'⟩ := HC.out k y hy
          have hgg : g' = g := by injection hA' with h; injection h with h; exact h.symm
          subst hgg
          obtain ⟨a0, a1, a2⟩ := HAT.out.below hb2.out HG.out
          obtain ⟨b0, b1, b2⟩ := hat'.below hb2.out HG.out
          have hne := str_ne (HOK.out.two i k x y HX.out hy hkt)
          obtain ⟨xn, xk, xl⟩ := x
          obtain ⟨yn, yk, yl⟩ := y
          simp only at a0 a1 a2 b0 b1 b2 hne
          have hk0 : (0 : Int) ≤ (k : Int) := by omega
          have hk1 : (k : Int) < (n : Int) := by omega
          have hk2 : (k : Int) < (i : Int) := by omega
          have HKT := hide hkt
          have HB2 := hide (Below.drew hb2.out)
          clear hy hA' hg' hat' hkt hb2 a1 a2 b1 b2
          go_wp2_with fail
          go_region
          go_wp2_with fail
          go_roundw
          case rel => exact ⟨k + 1, by have := HKT.out; omega, by go_num, HB2⟩
          case measure => have := HKT.out; simp [intOf]; omega
        · obtain rfl : k = i := by omega
          obtain ⟨s0, s64, sv, sk1, sk6⟩ := HS.out
          obtain ⟨a0, a1, a2⟩ := HAT.out.below hb2.out HG.out
          have hxs : x.1.size ≤ maxLen := by unfold maxLen; omega
          have KV := hide (valid_any x.1 _ hxs (HT.out.below hb2.out))
          rw [sv] at KV
          have HAA := hide (fun w' (h : Below _ _ w') => HAT.out.below h HG.out)
          obtain ⟨nm, kk, nl⟩ := x
          simp only at a0 a1 a2 s0 s64 sk1 sk6 KV HAA
          have hq : (nm.toList == ByteArray.empty.toList) = false := str_nil nm s0
          have hq2 : nm.toList.isEmpty = false := by
            cases he : nm.toList.isEmpty
            · rfl
            · rw [ByteArray.toList_eq, List.isEmpty_iff] at he
              exact absurd (show nm.size = 0 by rw [← ByteArray.size_data, ← Array.length_toList, he]; rfl) s0
          have h64' : (nm.size : Int) ≤ 64 := by omega
          have hnl : (nm.size : Int) ≤ 9223372036854775807 := by omega
          have hd1 : decide (kk < 1) = false := by rw [decide_eq_false_iff_not]; omega
          have hd6 : decide ((6 : Int) < kk) = false := by rw [decide_eq_false_iff_not]; omega
          have HB2 := hide hb2.out
          clear hb2 hkt hk s0 s64 sv hxs sk1 sk6
          go_wp2_with fail
          refine KV.out.mono ?_
          rintro e w4 ⟨rfl, hb4⟩
          have HB4 := hide (HB2.out.trans (hb4.mono HB2.out.size))
          clear hb4 a0 a1 a2
          obtain ⟨a0, a1, a2⟩ := HAA.out _ HB4.out
          go_wp2_with fail
          go_roundw
          case rel => exact ⟨k + 1, by have := HLT.out; omega, by go_num, HB4⟩
          case measure => have := HLT.out; simp [intOf]; omega
    · obtain rfl : n = i := by omega
      have HB := hide hb.out
      clear hb hlt hi
      go_wp2_with fail
      go_ret
      exact ⟨rfl, HB.out⟩
end Go.Proofs.YtfkgmodgkifelaaGreatDoor
