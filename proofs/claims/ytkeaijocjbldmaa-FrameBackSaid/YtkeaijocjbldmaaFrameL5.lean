/- Frames one behind the other: what they are as bytes; the walk of FrameJoins. -/
import Derived.Test.YtkeaijocjbldmaaFrameO
import Derived.Test.YtkeaijocjbldmaaFrameL
namespace Go.Proofs.Ytkeaijocjbldmaa
open Go.RowKit Go.ChangeShapes Go.WideShapes

/-- How the frames' bytes are handed on. -/
def AllPost (l : List FrI) (w : World) (e : Ending) (w' : World) : Prop :=
  e = .returned (.tuple #[.string (if allB l = true then strN (sealsN (frk l)) else { data := #[] }), .bool (allB l)]) ∧ Below w.heap.size w w'
theorem allPost_no {l : List FrI} {w w' : World} (h : allB l = false) (hb : Below w.heap.size w w') : AllPost l w (.returned (.tuple #[.string { data := #[] }, .bool false])) w' := by
  unfold AllPost
  rw [h]
  exact ⟨rfl, hb⟩
theorem allPost_yes {l : List FrI} {w w' : World} (h : allB l = true) (hb : Below w.heap.size w w') : AllPost l w (.returned (.tuple #[.string (strN (sealsN (frk l))), .bool true])) w' := by
  unfold AllPost
  rw [h]
  exact ⟨rfl, hb⟩
theorem frk_snoc {l : List FrI} {k : Nat} {f : FrI} (h : l[k]? = some f) : frk (l.take (k + 1)) = frk (l.take k) ++ [(f.k, bn f.b)] := by
  rw [List.take_add_one, h]
  simp [frk]
set_option maxHeartbeats 2000000 in
set_option maxRecDepth 100000 in
theorem all_any (A : Option Addr) (c : Nat) (l : List FrI) (hl : l.length ≤ maxLen) (w : World) (h : InFr w A l) :
    Calls Try.prog 40 #[.slice A l.length c] w (AllPost l w) := by
  unfold maxLen at hl
  have H := hide h
  clear h
  go_enter Try.func40, Try.ntmps40
  go_wp2_with fail
  go_loopw [4, 5] (fun sv iv wr => ∃ k : Nat, k ≤ l.length ∧ iv = .int .i64 (k : Int) ∧ sv = .string (strN (sealsN (frk (l.take k)))) ∧ Hid (∀ f ∈ l.take k, f.b.size ≤ 200 ∧ f.k ≠ 0) ∧ Hid (0 < k → l.length ≤ 20) ∧ Below w.heap.size w wr) (fun _ iv _ => l.length - (intOf iv).toNat)
  case atStart => exact ⟨0, by omega, rfl, congrArg Value.string strN_nil.symm, fun f hf => by simp at hf, fun h => absurd h (by omega), Below.refl _ _⟩
  case round =>
    obtain ⟨k, hk, rfl, rfl, HG, HL, hb⟩ := hrel
    by_cases hlt : k < l.length
    · obtain ⟨f, hf⟩ : ∃ f, l[k]? = some f := ⟨_, List.getElem?_eq_getElem hlt⟩
      have hfm := List.mem_of_getElem? hf
      have hwf := H.out.1 f hfm
      have hS := hide (frk_snoc hf)
      obtain ⟨b, of, rfl, hcl⟩ := H.out.cells hf
      have HCL := hide hcl
      obtain ⟨c0, c1, c2⟩ := hcl wr hb
      clear hcl
      have hkl := hwf.k1
      have hbl := hwf.b1
      have hbl' := hbl
      unfold maxLen at hbl
      by_cases h20 : 20 < l.length
      · have hno : allB l = false := by unfold allB; rw [decide_eq_false_iff_not]; omega
        have HNO := hide hno
        clear hno hf hfm hwf
        go_wp2_with fail
        go_ret2
        exact allPost_no HNO.out hb
      have hd1 : decide (20 < (l.length : Int)) = false := by rw [decide_eq_false_iff_not]; omega
      by_cases h200 : 200 < f.b.size
      · have hno : allB l = false := by unfold allB; rw [decide_eq_false_iff_not]; intro hh; have := (hh.2 f hfm).1; omega
        have HNO := hide hno
        clear hno hf hfm hwf
        go_wp2_with fail
        go_ret2
        exact allPost_no HNO.out hb
      have hd2 : decide (200 < (f.b.size : Int)) = false := by rw [decide_eq_false_iff_not]; omega
      by_cases hk0 : f.k = 0
      · have hno : allB l = false := by unfold allB; rw [decide_eq_false_iff_not]; intro hh; exact (hh.2 f hfm).2 hk0
        have HNO := hide hno
        have hkb : ((f.k : Int) == 0) = true := by rw [beq_iff_eq]; omega
        clear hno hf hfm hwf hk0
        go_wp2_with fail
        go_ret2
        exact allPost_no HNO.out hb
      have hkb : ((f.k : Int) == 0) = false := by rw [beq_eq_false_iff_ne]; omega
      have HG2 : Hid (∀ g ∈ l.take (k + 1), g.b.size ≤ 200 ∧ g.k ≠ 0) := by
        intro g hg
        rw [List.take_add_one, hf] at hg
        rcases List.mem_append.1 hg with hg | hg
        · exact HG.out g hg
        · have : g = f := by simpa using hg
          subst this
          exact ⟨by omega, hk0⟩
      have HK : Hid (∀ w1, Calls Try.prog 33 #[.int .u8 (f.k : Nat), .string f.b] w1 fun e w' => e = .returned (.string (strN (sealN f.k (bn f.b)))) ∧ Below w1.heap.size w1 w') := fun w1 => by
        have := seal_any f.k f.b hkl hbl' w1
        rw [if_neg (by omega)] at this
        exact this
      have hsl := seals_len (l.take k) (fun g hg => (HG.out g hg).1)
      have hlk : (l.take k).length ≤ 20 := by rw [List.length_take]; omega
      have hsn : (sealN f.k (bn f.b)).length ≤ 300 := by
        have := uvar_len10 (x := f.b.size) (by omega)
        rw [sealN_len, bn_len]; unfold sizeN; omega
      obtain ⟨X, HX⟩ : ∃ X, Hid (X = sealsN (frk (l.take (k + 1)))) := ⟨_, rfl⟩
      have HXX : Hid (X = sealsN (frk (l.take k)) ++ sealN f.k (bn f.b)) := by show _ = _; rw [HX.out, hS.out, sealsN_snoc]
      generalize sealsN (frk (l.take k)) = Y at *
      generalize sealN f.k (bn f.b) = Z at *
      have hst : strN Y ++ strN Z = strN X := by rw [HXX.out, strN_append]
      have hadd := fun w1 => run_string_add_sum (P := Try.prog) w1 (strN Y) (strN Z) (by rw [strN_size, strN_size]; omega)
      have hki0 : (0 : Int) ≤ (k : Int) := by omega
      have hki1 : (k : Int) < (l.length : Int) := by omega
      clear hf hfm hwf hk0
      go_wp2_with fail
      go_region_held3 (fun w' => w'.cell? ⟨b, of + k * 3, none⟩ = some (.int .u8 (f.k : Nat)) ∧ w'.cell? ⟨b, of + k * 3 + 1, none⟩ = some (.string f.b)) (first | go_keep | assumption) (first | (go_at_call 33; refine (HK.out _).mono ?_; rintro e w2 ⟨rfl, hb2⟩; have hcc := HCL.out w2 (hb.drew.trans (hb2.mono hb.drew.size)); have hcc2 : w2.cell? ⟨b, of + k * 3, none⟩ = some (.int .u8 (f.k : Nat)) ∧ w2.cell? ⟨b, of + k * 3 + 1, none⟩ = some (.string f.b) := ⟨hcc.1, hcc.2.1⟩))
      all_goals
        have hb3 := hb.drew.trans (hb2.mono hb.drew.size)
        clear hst hadd c0 c1 c2 hcc hcc2 hki0 hki1
        go_wp2_with fail
        go_roundw
        case rel => exact ⟨k + 1, by omega, by go_num, by rw [← HX.out], HG2, fun _ => by omega, hb3⟩
        case measure => simp [intOf] <;> omega
    · have hk8 : k = l.length := by omega
      subst hk8
      have hyes : allB l = true := by
        unfold allB
        rw [decide_eq_true_eq]
        refine ⟨?_, fun f hf => HG.out f (by rw [List.take_length]; exact hf)⟩
        rcases Nat.eq_zero_or_pos l.length with h0 | h0
        · omega
        · exact HL.out h0
      have HY := hide hyes
      clear hyes
      rw [List.take_length]
      go_wp2_with fail
      go_ret2
      exact allPost_yes HY.out hb
end Go.Proofs.Ytkeaijocjbldmaa
