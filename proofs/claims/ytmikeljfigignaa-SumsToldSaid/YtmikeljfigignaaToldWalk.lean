import Derived.Test.YtmikeljfigignaaSums5
import Derived.Test.YtmikeljfigignaaOpen
import Derived.Test.YtmikeljfigignaaToldPlain
import Derived.Laws.IdiomStrings
import Derived.Laws.BytesArg
import Derived.RegionTactic
import Derived.BigRegion
namespace Go.Proofs.Ytmikeljfigignaa
open Go.RowKit

/-- A block that begins with bytes, none of them frozen. -/
def Row8 (w : World) (b : Nat) (l : List Nat) : Prop := b < w.heap.size ∧ ∀ i, i < l.length → w.cell? ⟨b, i, none⟩ = some (.int .u8 (l.getD i 0 : Nat)) ∧ w.frozen? ⟨b, i, none⟩ = false
namespace Row8
variable {w : World} {b : Nat} {l : List Nat}
theorem cell (h : Row8 w b l) {i : Nat} (hi : i < l.length) : w.cell? ⟨b, i, none⟩ = some (.int .u8 (l.getD i 0 : Nat)) := (h.2 i hi).1
theorem frozen (h : Row8 w b l) {i : Nat} (hi : i < l.length) : w.frozen? ⟨b, i, none⟩ = false := (h.2 i hi).2
theorem drew (h : Row8 w b l) : Row8 w.drew b l := h
theorem drewN (h : Row8 w b l) (n : Nat) : Row8 (w.drewN n) b l := h
theorem set (h : Row8 w b l) (i : Nat) (v : Nat) (hi : i < l.length) : Row8 (w.setCell ⟨b, i, none⟩ (.int .u8 (v : Nat))) b (l.set i v) := by
  refine ⟨by simpa [World.setCell] using h.1, fun j hj => ?_⟩
  have hj' : j < l.length := by simpa using hj
  refine ⟨?_, (World.frozen?_setCell _ _ _ _).trans (h.frozen hj')⟩
  by_cases e : j = i
  · subst e
    rw [World.cell?_setCell_same _ _ _ (h.cell hj')]
    simp [hj']
  · rw [World.cell?_setCell_other _ _ _ _ (by simp), h.cell hj']
    rw [List.getD_eq_getElem?_getD, List.getD_eq_getElem?_getD, List.getElem?_set_ne (by omega)]
end Row8
theorem bn_getD (s : ByteArray) (i : Nat) : (bn s).getD i 0 = (s.data.toList.getD i 0).toNat := by
  simp only [bn, List.getD_eq_getElem?_getD, List.getElem?_map]
  cases s.data.toList[i]? <;> rfl
/-- '[]byte(s)': the row that it makes. -/
theorem row8_made (w : World) (s : ByteArray) (c e : Nat) (n m : Nat) (hn : s.size ≤ n) : Row8 (w.alloc (.cells (bytesRow s c) e (n, m))) w.heap.size (bn s) := by
  refine ⟨by simp, fun i hi => ?_⟩
  have hi' : i < s.size := by simpa [bn] using hi
  have hg : (w.alloc (.cells (bytesRow s c) e (n, m))).heap[w.heap.size]? = some (.cells (bytesRow s c) e (n, m)) := heap_alloc_last w _
  constructor
  · simp only [World.cell?, hg]
    have : (bytesRow s c)[i]? = some (.int .u8 (((bn s).getD i 0 : Nat) : Int)) := by
      rw [bn_getD]
      unfold bytesRow
      rw [Array.getElem?_append_left (by simpa using hi')]
      simp [List.getD, hi']
    simpa using this
  · simp only [World.frozen?, hg]
    simp; omega
theorem bn_strOfNums (l : List Nat) (hl : ∀ b ∈ l, b < 256) : bn (strOfNums (l.map fun b : Nat => (b : Int))) = l := by
  unfold bn
  rw [strOfNums_data, List.map_map, List.map_map]
  conv => rhs; rw [← List.map_id l]
  refine List.map_congr_left fun b hb => ?_
  have := hl b hb
  simp [Function.comp]
  omega
theorem row8_string {w : World} {b : Nat} {l : List Nat} (h : Row8 w b l) (cap : Nat) : (convert 33 9 (.slice (some ⟨b, 0, none⟩) l.length cap)).run Try.prog w = .ok (.string (strOfNums (l.map fun b : Nat => (b : Int)))) w :=
  run_convert_bytes_arg w 33 5 Try.underlying33 Try.underlying5 b 0 l.length cap (l.map fun b : Nat => (b : Int)) (by simp) (fun i hi => by
    rw [Nat.zero_add, h.cell hi]
    simp [List.getD, hi]) 9 Try.underlying9
set_option maxHeartbeats 1000000 in
set_option maxRecDepth 100000 in
theorem sumsTold_walk (s : ByteArray) (hs : s.size ≤ maxLen) (at0 : Int) (w1 : (Lit.int .i64 at0).wf = true) (v2 : Value) (w2 : ∃ f : Nat → Nat, v2 = .agg (arr 4 fun i => .int .u8 (f i)) ∧ ∀ i, f i < 256) (w : World) :
    Calls Try.prog 4 #[.string s, .int .i64 at0, v2] w fun e w' => e = .returned (.bool true) ∧ Below w.heap.size w w' := by
  obtain ⟨f, rfl, hf⟩ := w2
  unfold maxLen at hs
  have hat := bounds_i64 w1
  clear w1
  have KA := hide (awake03)
  by_cases h : 1000 < s.size ∨ at0 < 0 ∨ s.size ≤ at0
  · have HB := hide ((Below.refl w.heap.size w).alloc (Nat.le_refl _) (Obj.cells (arr 4 fun i => .int .u8 (f i)) 32))
    go_enter Try.func4, Try.ntmps4
    go_wp2_with fail
    all_goals
      refine (KA.out _).mono ?_
      rintro e w1 ⟨rfl, hb1⟩
      have hb2 := HB.out.trans (hb1.mono HB.out.size)
      go_wp2
      go_ret
      exact ⟨rfl, hb2⟩
  · obtain ⟨p, rfl⟩ : ∃ p : Nat, at0 = p := ⟨at0.toNat, by omega⟩
    have hA : s.size ≤ 1000 ∧ p < s.size := by omega
    obtain ⟨h1, h2⟩ := hA
    clear h hat
    have hcv := fun w => run_bytes_of_string (P := Try.prog) w 9 33 5 s Try.underlying9 Try.underlying33 Try.underlying5
    have hd1 : decide (1000 < (s.size : Int)) = false := by rw [decide_eq_false_iff_not]; omega
    have hd2 : decide ((p : Int) < 0) = false := by rw [decide_eq_false_iff_not]; omega
    have hd3 : decide (s.size ≤ p) = false := by rw [decide_eq_false_iff_not]; omega
    go_enter Try.func4, Try.ntmps4
    go_wp2_with fail
    generalize hC : grownCap (w.alloc (Obj.cells (arr 4 fun i => Value.int IntKind.u8 (f i : Nat)) 32)) s.size 0 5 = C
    have HF : Hid (∀ i, i < 4 → (((w.alloc (Obj.cells (arr 4 fun i => Value.int IntKind.u8 (f i : Nat)) 32)).alloc (Obj.cells (bytesRow s C) 5 ((bytesRow s C).size, (bytesRow s C).size + 1))).drew).cell? ⟨w.heap.size, i, none⟩ = some (.int .u8 (f i : Nat))) := by
      intro i hi
      have h1 := (((Blk.new w (arr 4 fun i => Value.int IntKind.u8 (f i : Nat)) 32).alloc (Obj.cells (bytesRow s C) 5 ((bytesRow s C).size, (bytesRow s C).size + 1))).drew).cell i
      rw [h1, arr_get hi]
    have HR : Row8 (((w.alloc (Obj.cells (arr 4 fun i => Value.int IntKind.u8 (f i : Nat)) 32)).alloc (Obj.cells (bytesRow s C) 5 ((bytesRow s C).size, (bytesRow s C).size + 1))).drew) (w.heap.size + 1) (bn s) := by
      have := row8_made (w.alloc (Obj.cells (arr 4 fun i => Value.int IntKind.u8 (f i : Nat)) 32)) s C 5 (bytesRow s C).size ((bytesRow s C).size + 1) (by unfold bytesRow; simp)
      simpa using this.drew
    have HB : Below w.heap.size w (((w.alloc (Obj.cells (arr 4 fun i => Value.int IntKind.u8 (f i : Nat)) 32)).alloc (Obj.cells (bytesRow s C) 5 ((bytesRow s C).size, (bytesRow s C).size + 1))).drew) :=
      (((Below.refl _ _).alloc (Nat.le_refl _) _).alloc (by simp) _).drew
    clear hC hcv
    generalize ((w.alloc (Obj.cells (arr 4 fun i => Value.int IntKind.u8 (f i : Nat)) 32)).alloc (Obj.cells (bytesRow s C) 5 ((bytesRow s C).size, (bytesRow s C).size + 1))).drew = W at *
    go_loopw [8, 9] (fun t i wr => ∃ k : Nat, k ≤ 4 ∧ p + k ≤ s.size ∧ i = .int .i64 k ∧ t = .bool (anyN f k) ∧ Row8 wr (w.heap.size + 1) (turnN (bn s) p f k) ∧ Hid (∀ i, i < 4 → wr.cell? ⟨w.heap.size, i, none⟩ = some (.int .u8 (f i : Nat))) ∧ Below w.heap.size w wr) (fun _ i _ => 4 - (intOf i).toNat)
    case atStart => exact ⟨0, by omega, by omega, rfl, rfl, HR, HF, HB⟩
    case round =>
      obtain ⟨k, hk, hpk, rfl, rfl, HR1, HF1, HB1⟩ := hrel
      by_cases hlt : k < 4 ∧ p + k < s.size
      · obtain ⟨hk4, hpk4⟩ := hlt
        have hl : p + k < (turnN (bn s) p f k).length := by rw [turnN_length, bn_len]; exact hpk4
        have hc1 := HR1.cell hl
        have hf1 := HR1.frozen hl
        have hc2 := HF1.out k hk4
        have HN : Hid (turnN (bn s) p f (k + 1) = (turnN (bn s) p f k).set (p + k) ((turnN (bn s) p f k).getD (p + k) 0 ^^^ f k)) := rfl
        have HT : Hid (anyN f (k + 1) = (anyN f k || (f k != 0))) := rfl
        have hx0 : (turnN (bn s) p f k).getD (p + k) 0 < 256 := by
          rw [List.getD_eq_getElem?_getD, List.getElem?_eq_getElem hl]
          exact turnN_lt _ _ _ _ (bn_lt s) hf _ (List.getElem_mem hl)
        have hfk := hf k
        generalize hx : (turnN (bn s) p f k).getD (p + k) 0 = x at hc1 hx0 HN
        have hxor : bits .xor .u8 (x : Int) ((f k : Nat) : Int) = ((x ^^^ f k : Nat) : Int) := u8_xor_nat x (f k) hx0 hfk
        clear hx hf
        have hnb : ((f k : Int) != 0) = (f k != 0) := by
          by_cases h0 : f k = 0
          · rw [h0]; rfl
          · rw [bne_iff_ne.2 h0, bne_iff_ne]; omega
        have HR2 := HR1.set (p + k) (x ^^^ f k) hl
        have HF2 : Hid (∀ i, i < 4 → (wr.setCell ⟨w.heap.size + 1, p + k, none⟩ (.int .u8 ((x ^^^ f k : Nat) : Int))).cell? ⟨w.heap.size, i, none⟩ = some (.int .u8 (f i : Nat))) := by
          intro i hi
          rw [World.cell?_setCell_other _ _ _ _ (by simp)]
          exact HF1.out i hi
        have HB2 := HB1.setCell (p := ⟨w.heap.size + 1, p + k, none⟩) (by show w.heap.size ≤ w.heap.size + 1; omega) (.int .u8 ((x ^^^ f k : Nat) : Int))
        have hmk : (4 - (k + 1)) < 4 - k := by omega
        generalize hT : anyN f k = T at *
        have HT2 := hide hT
        clear hT
        cases T
        all_goals
          go_wp2_with fail
          go_region
          go_wp2
          go_roundw
          case rel => exact ⟨k + 1, by omega, by omega, by go_num, by rw [HT.out]; simp, by rw [HN.out]; exact HR2, HF2, HB2.drew⟩
          case measure => simp [intOf] <;> omega
      · have hlen : (turnN (bn s) p f k).length = s.size := by rw [turnN_length, bn_len]
        have hcv := row8_string HR1 C
        rw [hlen] at hcv
        have hsz : (strOfNums ((turnN (bn s) p f k).map fun b : Nat => (b : Int))).size ≤ maxLen := by rw [strOfNums_size, List.length_map, hlen]; unfold maxLen; omega
        have htold := told (bn s) p f hf k hk (by rw [bn_len]; exact hpk)
        have K1 : Hid (∀ w, Calls Try.prog 17 #[.string (strOfNums ((turnN (bn s) p f k).map fun b : Nat => (b : Int)))] w fun e w' => e = .returned (.int .u32 ((crc (turnN (bn s) p f k) : Nat) : Int)) ∧ Below w.heap.size w w') := by
          intro w
          have := crc_any _ hsz w
          rwa [bn_strOfNums _ (turnN_lt _ _ _ _ (bn_lt s) hf)] at this
        have K2 : Hid (∀ w, Calls Try.prog 17 #[.string s] w fun e w' => e = .returned (.int .u32 ((crc (bn s) : Nat) : Int)) ∧ Below w.heap.size w w') := fun w => crc_any s (by unfold maxLen; omega) w
        clear hsz HF1
        generalize strOfNums ((turnN (bn s) p f k).map fun b : Nat => (b : Int)) = S at hcv K1
        have hb : (((crc (turnN (bn s) p f k) : Nat) : Int) != ((crc (bn s) : Nat) : Int)) = anyN f k := by
          rw [← htold]
          by_cases h0 : crc (turnN (bn s) p f k) = crc (bn s)
          · rw [h0]; simp
          · rw [bne_iff_ne.2 h0, bne_iff_ne]; omega
        clear htold
        generalize crc (turnN (bn s) p f k) = c1 at hb K1
        generalize crc (bn s) = c2 at hb K2
        generalize anyN f k = T at hb
        have hlt : k = 4 ∨ ¬ (p + k < s.size) := by omega
        clear HR1
        by_cases h4 : k = 4
        all_goals
          first | subst h4 | skip
          go_wp2_with fail
          refine (K1.out _).mono ?_
          rintro e w1 ⟨rfl, hb1⟩
          have hb2 := HB1.trans (hb1.mono HB1.size)
          clear hb1
          go_wp2_with fail
          refine (K2.out _).mono ?_
          rintro e w2 ⟨rfl, hb3⟩
          have hb4 := hb2.trans (hb3.mono hb2.size)
          clear hb3
          go_wp2_with fail
          refine (KA.out _).mono ?_
          rintro e w3 ⟨rfl, hb5⟩
          have hb6 := hb4.trans (hb5.mono hb4.size)
          clear hb5
          go_wp2
          go_ret
          exact ⟨rfl, hb6⟩
end Go.Proofs.Ytmikeljfigignaa
