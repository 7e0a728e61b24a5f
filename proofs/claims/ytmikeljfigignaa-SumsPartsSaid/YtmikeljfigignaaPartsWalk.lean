import Derived.Test.YtmikeljfigignaaSums5
import Derived.Test.YtmikeljfigignaaOpen
import Derived.Deep.RegionHeld3
namespace Go.Proofs.Ytmikeljfigignaa
open Go.RowKit

theorem bn_append (s t : ByteArray) : bn (s ++ t) = bn s ++ bn t := by simp [bn]
/-- The first k texts, one behind the other. -/
def catN (l : List ByteArray) : Nat → ByteArray
  | 0 => { data := #[] }
  | k + 1 => catN l k ++ l.getD k ByteArray.empty
theorem crc_ltp (s : ByteArray) : crc (bn s) < 4294967296 := Nat.xor_lt_two_pow (n := 32) (reg_lt (Nat.xor_lt_two_pow (n := 32) (by omega) (by unfold ones; omega)) (bn_lt s)) (by unfold ones; omega)
theorem joined_all (s t : ByteArray) (ht : t.size ≤ 200) (w : World) :
    Calls Try.prog 27 #[.int .u32 (crc (bn s) : Nat), .int .u32 (crc (bn t) : Nat), .int .i64 (t.size : Nat)] w fun e w' => e = .returned (.int .u32 ((crc (bn (s ++ t)) : Nat) : Int)) ∧ w = w' := by
  by_cases h0 : t.size = 0
  · refine (joined_none _ _ _ (by omega) w).mono fun e w' ⟨he, hw⟩ => ⟨?_, hw⟩
    rw [he, bn_append, show bn t = [] from List.eq_nil_of_length_eq_zero (by rw [bn_len]; exact h0), List.append_nil]
  · refine (joined_any _ _ t.size (crc_ltp s) (crc_ltp t) (by omega) (by omega) w).mono fun e w' ⟨he, hw⟩ => ⟨?_, hw⟩
    rw [he, bn_append, crc_append, bn_len]
theorem more_all (s t : ByteArray) (ht : t.size ≤ 200) (w : World) :
    Calls Try.prog 26 #[.int .u32 (crc (bn s) : Nat), .string t] w fun e w' => e = .returned (.int .u32 ((crc (bn (s ++ t)) : Nat) : Int)) ∧ Below w.heap.size w w' := by
  have := more_any (crc (bn s)) (crc_ltp s) t (by unfold maxLen; omega) w
  rwa [show more (crc (bn s)) (bn t) = crc (bn (s ++ t)) from by rw [bn_append]; exact more_append 0 _ _] at this
set_option maxHeartbeats 1000000 in
set_option maxRecDepth 100000 in
theorem sumsParts_walk (w : World) (v : Value) (w0 : ∃ l : List ByteArray, InSl w v l.length (fun i => .string (l.getD i ByteArray.empty)) ∧ ∀ s ∈ l, s.size ≤ maxLen) :
    Calls Try.prog 10 #[v] w fun e w' => e = .returned (.bool true) ∧ Below w.heap.size w w' := by
  obtain ⟨l, ⟨hmax, hsl⟩, hsz⟩ := w0
  have KA := hide (awake03)
  unfold maxLen at hmax
  rcases hsl with ⟨h0, a, c, rfl⟩ | ⟨hpos, b, o, c, rfl, hc, hb, hcell⟩
  · have hl : l = [] := List.eq_nil_of_length_eq_zero h0
    subst hl
    have K1 : Hid (∀ w, Calls Try.prog 17 #[.string { data := #[] }] w fun e w' => e = .returned (.int .u32 0) ∧ Below w.heap.size w w') := fun w => crc_c0 w
    clear hmax hsz h0
    go_enter Try.func10, Try.ntmps10
    go_wp2_with fail
    refine wp_loop_rounds 1 ?_
    rw [rounds_succ]
    go_wp2_with fail
    refine (K1.out _).mono ?_
    rintro e w1 ⟨rfl, hb1⟩
    go_wp2_with fail
    refine (KA.out _).mono ?_
    rintro e w2 ⟨rfl, hb2⟩
    have hb3 := hb1.trans (hb2.mono hb1.size)
    go_wp2
    go_ret
    exact ⟨rfl, hb3⟩
  by_cases h30 : 30 < l.length
  · clear hcell hsz
    go_enter Try.func10, Try.ntmps10
    go_wp2_with fail
    refine (KA.out _).mono ?_
    rintro e w1 ⟨rfl, hb1⟩
    go_wp2
    go_ret
    exact ⟨rfl, hb1⟩
  have hd30 : decide (30 < (l.length : Int)) = false := by rw [decide_eq_false_iff_not]; omega
  have hd30' : decide (30 < l.length) = false := by rw [decide_eq_false_iff_not]; omega
  have HC := hide hcell
  have HZ := hide hsz
  clear hcell hsz
  have HCR : Hid (((crc (bn (catN l 0)) : Nat) : Int) = 0) := by show _ = _; rw [show catN l 0 = s_0 from rfl, crc0]; rfl
  have HZ0 : (catN l 0).size ≤ 200 * 0 := Nat.le_refl 0
  go_enter Try.func10, Try.ntmps10
  go_wp2_with fail
  go_loopw [3, 4, 5, 6] (fun al x y i wr => ∃ k : Nat, k ≤ l.length ∧ i = .int .i64 k ∧ al = .string (catN l k) ∧ (catN l k).size ≤ 200 * k ∧ x = .int .u32 (crc (bn (catN l k)) : Nat) ∧ y = .int .u32 (crc (bn (catN l k)) : Nat) ∧ Below w.heap.size w wr) (fun _ _ _ i _ => l.length - (intOf i).toNat)
  case atStart => exact ⟨0, by omega, rfl, rfl, HZ0, by rw [HCR.out], by rw [HCR.out], Below.refl _ _⟩
  case round =>
    obtain ⟨k, hk, rfl, rfl, hs200, rfl, rfl, hbw⟩ := hrel
    by_cases hlt : k < l.length
    · have hck := (hbw.cell (p := ⟨b, o + k, none⟩) hb).trans (HC.out k hlt)
      have HN : Hid (catN l (k + 1) = catN l k ++ l.getD k ByteArray.empty) := rfl
      generalize l.getD k ByteArray.empty = t at hck HN
      generalize hS : catN l k = S at *
      have HS := hide hS
      clear hS
      by_cases h200 : 200 < t.size
      · go_wp2_with fail
        refine (KA.out _).mono ?_
        rintro e w1 ⟨rfl, hb1⟩
        have hb2 := hbw.trans (hb1.mono hbw.size)
        go_wp2
        go_ret
        exact ⟨rfl, hb2⟩
      · have h200' : t.size ≤ 200 := by omega
        have K1 : Hid (∀ w, Calls Try.prog 26 #[.int .u32 (crc (bn S) : Nat), .string t] w fun e w' => e = .returned (.int .u32 ((crc (bn (S ++ t)) : Nat) : Int)) ∧ Below w.heap.size w w') := fun w => more_all S t h200' w
        have K2 : Hid (∀ w, Calls Try.prog 17 #[.string t] w fun e w' => e = .returned (.int .u32 ((crc (bn t) : Nat) : Int)) ∧ Below w.heap.size w w') := fun w => crc_any t (by unfold maxLen; omega) w
        have K3 : Hid (∀ w, Calls Try.prog 27 #[.int .u32 (crc (bn S) : Nat), .int .u32 (crc (bn t) : Nat), .int .i64 (t.size : Nat)] w fun e w' => e = .returned (.int .u32 ((crc (bn (S ++ t)) : Nat) : Int)) ∧ w = w') := fun w => joined_all S t h200' w
        have hsz2 : Hid ((S ++ t).size ≤ 200 * (k + 1)) := by show _ ≤ _; rw [ByteArray.size_append]; omega
        have hsm : S.size + t.size ≤ 9223372036854775807 := by omega
        go_wp2_with fail
        refine (K1.out _).mono ?_
        rintro e w1 ⟨rfl, hb1⟩
        have hbw1 := hbw.trans (hb1.mono hbw.size)
        have hck1 := (hb1.cell (p := ⟨b, o + k, none⟩) (Nat.lt_of_lt_of_le hb hbw.size)).trans hck
        clear hck
        go_wp2_with fail
        have hlt1 : b < w1.heap.size := Nat.lt_of_lt_of_le hb hbw1.size
        clear hbw hb1
        go_region_held3 (fun w' => w'.cell? ⟨b, o + k, none⟩ = some (.string t)) (first | go_keep | assumption) (first | (go_at_call 17; refine (K2.out _).mono ?_; rintro e w2 ⟨rfl, hb2⟩; have hck2 : w2.cell? ⟨b, o + k, none⟩ = some (.string t) := (hb2.cell (p := ⟨b, o + k, none⟩) (by simpa using hlt1)).trans (by simpa using hck1)) | (go_at_call 27; refine (K3.out _).mono ?_; rintro e w2 ⟨rfl, rfl⟩))
        all_goals
          have hb3 := hbw1.drew.trans (hb2.mono (by simpa using hbw1.size))
          go_wp2_with fail
          go_roundw
          case rel => exact ⟨k + 1, by omega, by go_num, by rw [HN.out], by rw [HN.out]; exact hsz2.out, by rw [HN.out], by rw [HN.out], hb3⟩
          case measure => simp [intOf] <;> omega
    · have hk8 : k = l.length := by omega
      subst hk8
      have K1 : Hid (∀ w, Calls Try.prog 17 #[.string (catN l l.length)] w fun e w' => e = .returned (.int .u32 ((crc (bn (catN l l.length)) : Nat) : Int)) ∧ Below w.heap.size w w') := fun w => crc_any _ (by unfold maxLen; omega) w
      go_wp2_with fail
      refine (K1.out _).mono ?_
      rintro e w1 ⟨rfl, hb1⟩
      have hb2 := hbw.trans (hb1.mono hbw.size)
      clear hb1 hbw
      go_wp2_with fail
      refine (KA.out _).mono ?_
      rintro e w2 ⟨rfl, hb3⟩
      have hb4 := hb2.trans (hb3.mono hb2.size)
      go_wp2
      go_ret
      exact ⟨rfl, hb4⟩
end Go.Proofs.Ytmikeljfigignaa
