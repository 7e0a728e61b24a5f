/-
  The law ColumnReads of armarium (armarium/armariumlaw12.ColumnReads): for every input the call returns true, and each argument reads behind the call as it read before; the tied card.
  Conditions: none beyond the form's own and the two listed tables of utf8 (tied to the text). The frame below was written by a program of ours (wip/gencard.py); the walk stands in the imported texts.
-/
import Derived.Test.YtfkgmodgkifelaaGreatDoorTie
import Derived.Test.YtfkgmodgkifelaaGreatDoorCards
import Derived.WalkKit
import Derived.ProofKit
import Derived.OpenShut
import Derived.ShutString
import Derived.LaidMore
import Derived.Lay
import Derived.SevenTiedAt
import Derived.Stop.Joined
import Derived.PinnedBridge
import Derived.Lib.LaidU8T
import Derived.Below
import Derived.Lib.SmallJoins
import Derived.ChangeArms
import Derived.Test.YtfkgmodgkifelaaGreatDoorUtf
import Derived.Test.YtfkgmodgkifelaaGreatDoorJ43
namespace Go.Proofs.YtfkgmodgkifelaaGreatDoor.columnReads
open Go.ChangeShapes Go.WideShapes Go.ChangeAt Go.RowKit
open Go.ChangeMaps (open_string shut_string)
open Go.Joins (open_agg3 shut_agg3)
set_option linter.unusedVariables false

theorem own : ownKnob Tryz.prog.godebug = none := by kernel_rfl
theorem accept_eq : (Rows.laid_unicode_utf8_acceptRanges : DataW Unit) = Lib.acceptData := by kernel_rfl
theorem first_eq : Rows.laid_unicode_utf8_first = Lib.firstData := Pinned.utf8First_eq
theorem tabs {W : World} (h : laidMetH Tryz.prog Rows.columnReadsRow.laid W) : Tabs W := by
  rw [MakeChecks.laidMetH_plain _ _ _ (by kernel_rfl)] at h
  have h1 := Lib.laidMet.reads h (.head _)
  have h2 := Lib.laidMet.reads h (.tail _ (.head _))
  rw [accept_eq] at h1
  rw [first_eq] at h2
  exact utf8Tabs_of_readsT (U8Types.of196 utfLays) ⟨by kernel_rfl, by kernel_rfl, by kernel_rfl, by kernel_rfl, by kernel_rfl, by kernel_rfl, by kernel_rfl⟩ h2 h1
set_option maxRecDepth 100000 in
theorem lifted (os : Os) (started : os.Started) (H : Type) (enc : TypeId × Value → H) :
    ReturnsInHanded {} Tryz.checked os 3 .any (fun w args => (Rows.columnReadsSpec.pre enc Tryz.prog Tryz.f3 Rows.columnReadsRow.domain false w args ∧ laidMetH Tryz.prog Rows.columnReadsRow.laid w) ∧ sizedMet enc Tryz.prog Tryz.f3 (OpenSpec.ofChange Rows.columnReadsSpec) false w args)
      (Rows.columnReadsSpec.post enc Tryz.prog Tryz.f3 false true false false) := by
  refine returnsInHanded_of_change_and (C := Tryz.checked) (X := fun w _ => laidMetH Tryz.prog Rows.columnReadsRow.laid w) (fun _ _ _ hh h => h.of_heap hh) own started (by kernel_rfl) Tryz.func3
    (ChangeSpec.witness_shaped (enc := enc) (C := Tryz.checked) (os := os) (X := fun w _ => laidMetH Tryz.prog Rows.columnReadsRow.laid w) false (World.laidAll Tryz.prog os Rows.columnReadsRow.laid) #[.agg #[.string ByteArray.empty, .int .i64 0, .bool false], .string ByteArray.empty] 8 (World.laidAll_os _ _ _)
      (World.shaped_of_ZipB (by kernel_rfl) (by kernel_rfl)) (by kernel_rfl) (by kernel_rfl) (by kernel_rfl)
      (by rw [MakeChecks.laidMetH_plain _ _ _ (by kernel_rfl)]; exact laidMet_laidAll _ (by kernel_rfl) (by kernel_rfl))) ?_
  intro W base args ds gs before hval0 hW hc _ hL _
  have hval : ∀ (j : Nat) t v, Tryz.f3.params[j]? = some t → args[j]? = some v → Value.okWide Tryz.prog W .any base t v := hval0
  have hW' := hW
  obtain ⟨p, q, hA0, hV, rfl, _, _⟩ := hW
  have hA : DataW.TrodAll enc Tryz.prog W 0 (fun _ => true) true Tryz.f3.params.toList args.toList ds p := hA0
  rw [Tryz.params3] at hA hval
  obtain ⟨v0, vs0, d0, ds0, p0, q0, hargs, rfl, rfl, h0, r0⟩ := trodAll_cons hA
  obtain ⟨v1, vs1, d1, ds1, p1, q1, rfl, rfl, rfl, h1, r1⟩ := trodAll_cons r0
  obtain ⟨rfl, rfl, rfl⟩ := trodAll_nil r1
  obtain rfl : args = #[v0, v1] := by cases args; simp_all
  obtain ⟨rfl, rfl⟩ := trodVars_none hV
  obtain ⟨c00, c01, c02, y00, y01, y02, m0, rfl, rfl, rfl, hy00, hy01, hy02⟩ := open_agg3 Tryz.underlying23 (by kernel_rfl) (show Tryz.prog.cellsOf 23 = 3 by kernel_rfl) (hval 0 23 v0 rfl rfl) h0
  obtain ⟨a0, e00, rfl, w0⟩ := DataW.trod_string Tryz.underlying9 hy00
  obtain ⟨b0, e01, rfl, z0⟩ := DataW.trod_int Tryz.underlying3 hy01
  obtain ⟨n0, e02, rfl⟩ := DataW.trod_bool Tryz.underlying4 hy02
  simp at e00 e01 e02
  subst e00 e01 e02
  have sh0 : ∀ (W' : World) (sp : Nat → Bool), DataW.Trod enc Tryz.prog W' 0 sp true 23 (.agg #[.string a0, .int .i64 b0, .bool n0]) (.agg [.lit (.string a0.data.toList), .lit (.int .i64 b0), .lit (.bool n0)]) [] := fun W' sp => shut_agg3 (y0 := (.lit (.string a0.data.toList), [])) (y1 := (.lit (.int .i64 b0), [])) (y2 := (.lit (.bool n0), [])) Tryz.underlying23 (by kernel_rfl) (show Tryz.prog.cellsOf 23 = 3 by kernel_rfl) ⟨1, by simp [DataW.trod, Tryz.underlying9, w0]⟩ ⟨1, by simp [DataW.trod, Tryz.underlying3, z0]⟩ ⟨1, by simp [DataW.trod, Tryz.underlying4]⟩
  obtain ⟨a1, rfl, rfl, rfl, w1⟩ := open_string Tryz.underlying9 (hval 1 9 v1 rfl rfl) h1
  have hT := tabs hL
  clear hA0 hval0 hL
  refine (columnReads_walk (w := W) a0 w0 b0 n0 a1 w1 hT).mono fun e W' ⟨he, bel⟩ => ?_
  subst he
  exact ⟨_, rfl, _, _, _, [], _, [], hW', trodAll_mk1 (shut_bool Tryz.underlying4 _), (trodAll_cons_mk (sh0 _ _) (trodAll_cons_mk (shut_string Tryz.underlying9 w1) trodAll_mk0)), rfl, bel.frame _, fun h => by cases h⟩

theorem over : Rows.columnReadsRow.holds Tryz.pinned (OpenSpec.ofChange Rows.columnReadsSpec) :=
  OpenClaim.holds_of_wide 3 Tryz.f3 rfl rfl rfl rfl rfl rfl rfl ⟨rfl, rfl, rfl, rfl, rfl⟩ rfl rfl rfl rfl rfl (by kernel_rfl) Tryz.func3 (by kernel_rfl)
    (of_decide_eq_true (by kernel_rfl)) (by unfold Func.isWrapper; first | (rw [if_pos (by decide +kernel)]; kernel_rfl) | (rw [if_neg (by decide +kernel)]; exact ⟨rfl, rfl⟩))
    (fun os started H enc _ => lifted os started H enc)

theorem proved : Rows.ColumnReadsCardSaid :=
  Claim7.holds_tied_plain_at .later [] [.data, .pinned] true Rows.columnReadsCard.stood.harness false over (fun _ h => by cases h) (by kernel_rfl) (fun _ h => by cases h) columnReads_row_tie rfl ⟨rfl, rfl⟩ (by kernel_rfl) rfl
    (fun f fn hf hfn => by
      obtain rfl : f = 3 := Option.some.inj ((show Tryz.prog.funcNamed Rows.columnReadsRow.func = some 3 by kernel_rfl).symm.trans hf) |>.symm
      obtain rfl : fn = Tryz.f3 := (Option.some.inj (Tryz.func3.symm.trans hfn)).symm
      exact ⟨by kernel_rfl, fun j t ht => by
        rw [Tryz.params3] at ht
        have hm : t ∈ [23, 9] := by simpa using Array.mem_of_getElem? ht
        have hall : ([23, 9].all fun u => !Tryz.prog.wantsStandIn u) = true := by kernel_rfl
        exact (show Tryz.prog.wantsStandIn t = false by simpa using List.all_eq_true.1 hall t hm)⟩)
    (by kernel_rfl)
#print axioms proved
end Go.Proofs.YtfkgmodgkifelaaGreatDoor.columnReads
