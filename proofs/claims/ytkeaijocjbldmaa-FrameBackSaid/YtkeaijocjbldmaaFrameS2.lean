/- All frames, as the document has them. -/
import Derived.Test.YtkeaijocjbldmaaFrameS
import Derived.Test.YtkeaijocjbldmaaFrameP2
import Derived.Test.YtkeaijocjbldmaaOwn
import Derived.Deep.AppendLies
namespace Go.Proofs.Ytkeaijocjbldmaa
open Go.RowKit

theorem info_rf : (Try.prog.info? 66).map (fun i => (i.zero, i.size, i.bytes)) = some (some (.agg #[.int .u8 0, .string { data := #[] }, .int .i64 0]), 3, 32) := by kernel_rfl
theorem info_ff : (Try.prog.info? 65).map (fun i => (i.zero, i.size, i.bytes)) = some (some (.agg #[.int .u8 0, .string { data := #[] }, .int .i64 0]), 3, 32) := by kernel_rfl
/-- How a scan ends: frames of one's own. -/
def ScanPost (t : TypeId) (w : World) (D : List Nat) (e : Ending) (w' : World) : Prop :=
  ∃ v, e = .returned (.tuple #[v, .int .i64 ((scanN D 0).2.1 : Nat), .int .i64 ((scanN D 0).2.2 : Nat)]) ∧ w'.ownsRow w.heap.size t 3 v (scanN D 0).1.length ((scanN D 0).1.flatMap cells3) ∧ Below w.heap.size w w'
set_option maxHeartbeats 2000000 in
set_option maxRecDepth 100000 in
theorem refscan_any (s : ByteArray) (hs : s.size ≤ 1000000) (w : World) :
    Calls Try.prog 39 #[.string s] w (ScanPost 66 w (bn s)) := by
  have hbl := bn_len s
  have HBL := hide (bn_lt s)
  obtain ⟨i0, hi, hz0, hz1, hz2⟩ := info_parts info_rf
  have H0 := hide (scan1_0 (bn s))
  go_enter Try.func39, Try.ntmps39
  go_wp2_with fail
  go_loopw [5, 6] (fun ov av wr => ∃ (p : Nat) (out : List (Nat × List Nat × Nat)), p ≤ s.size ∧ out.length ≤ p ∧ av = .int .i64 (p : Int) ∧ Hid (Scan1 (bn s) out p) ∧ wr.ownsRow w.heap.size 66 3 ov out.length (out.flatMap cells3) ∧ Below w.heap.size w wr) (fun _ av _ => s.size - (intOf av).toNat)
  case atStart => exact ⟨0, [], by omega, by simp, rfl, H0, World.ownsRow_nil _ _ _ _, Below.refl _ _⟩
  case round =>
    obtain ⟨p, out, hp, hop, rfl, HS, hown, hb⟩ := hrel
    by_cases hlt : p < s.size
    · have KN : Hid (∀ w1, Calls Try.prog 37 #[.string (s.extract p s.size)] w1 fun e w' => e = .returned (.tuple #[.int .u8 ((nextN ((bn s).drop p)).1 : Nat), .string (strN (nextN ((bn s).drop p)).2.1), .int .i64 ((nextN ((bn s).drop p)).2.2.1 : Nat), .int .i64 ((nextN ((bn s).drop p)).2.2.2 : Nat)]) ∧ Below w1.heap.size w1 w') := fun w1 => by
        have := refnext_any (s.extract p s.size) (by rw [ByteArray.size_extract]; omega) w1
        rw [bn_drop] at this
        exact this
      have hbad := scan1_bad HS.out (by omega)
      have hon := scan1_on HS.out (by omega)
      have hok := nextN_ok (D := (bn s).drop p)
      rw [List.length_drop, hbl] at hok
      generalize nextN ((bn s).drop p) = T at *
      obtain ⟨k, bd, n, er⟩ := T
      simp only at KN hbad hon hok
      by_cases he : er = 0
      · subst he
        have hn := hok rfl
        have HN := hide (hon rfl)
        have HC := hide (cells3_snoc out (k, bd, p))
        have hop2 : out.length + 1 ≤ p + n := by omega
        have hpn : p + n ≤ s.size := by omega
        clear hbad hon hok
        obtain ⟨Ao, co, rfl⟩ := own_form3 hown
        go_wp2_with fail
        refine (KN.out _).mono ?_
        rintro e w1 ⟨rfl, hb1⟩
        have hown1 := own_fr hown (Fr.of_below hb1 (fun _ => False)) (fun _ _ h => h)
        have hbb := hb.trans (hb1.mono hb.size)
        clear hown
        go_wp2_with (at_builtin; refine wpList_append_own _ rfl _ _ 61 rfl w.heap.size 66 i0 _ 3 32 Try.underlying61 hi hz0 hz1 hz2 rfl (by decide) _ _ _ rfl (hown1.alloc _) ⟨w1.heap.size, 0, none⟩ 1 1 [.int .u8 (k : Nat), .string (strN bd), .int .i64 (p : Nat)] rfl rfl (World.news_of_block (Blk.new _ _ _).out) (by simp [Value.oneCell']) (by simp only [maxLen]; omega) (by omega) (by simpa using Nat.le_succ_of_le hbb.size) ?_; intro v' w2 hown2 hgrow2 _)
        have hb2 : Below w.heap.size w w2 := (hbb.alloc hbb.size _).grown hgrow2 (by simpa using Nat.le_succ_of_le hbb.size) (fun k hk => (hown1.lt k hk).1)
        have hown3 : w2.ownsRow w.heap.size 66 3 v' (out ++ [(k, bd, p)]).length ((out ++ [(k, bd, p)]).flatMap cells3) := by
          rw [HC.out, List.length_append]
          exact hown2
        clear hown2 hgrow2 hown1
        go_roundw
        case rel => exact ⟨p + n, out ++ [(k, bd, p)], hpn, by rw [List.length_append]; exact hop2, by go_num, HN, hown3, hb2⟩
        case measure => simp [intOf] <;> omega
      · have HE := hide (hbad he)
        have hne : ((er : Int) != 0) = true := by rw [bne_iff_ne]; omega
        clear hbad hon hok
        go_wp2_with fail
        refine (KN.out _).mono ?_
        rintro e w1 ⟨rfl, hb1⟩
        have hown1 := own_fr hown (Fr.of_below hb1 (fun _ => False)) (fun _ _ h => h)
        have hbb := hb.trans (hb1.mono hb.size)
        go_wp2_with fail
        go_ret3
        unfold ScanPost
        rw [HE.out]
        exact ⟨_, rfl, hown1, hbb⟩
    · have HE := hide (scan1_done HS.out (by omega))
      go_wp2_with fail
      go_ret3
      unfold ScanPost
      rw [HE.out]
      exact ⟨_, rfl, hown, hb⟩
end Go.Proofs.Ytkeaijocjbldmaa
