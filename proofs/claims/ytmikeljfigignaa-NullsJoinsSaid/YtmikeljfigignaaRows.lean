/-
  No cell of these rows narrows 'for every input' (looked for: loops, veiled, ifaces, maps, wideKeys, modest, calm, conditions, laid).
  DERIVED. THE GIVEN ROWS OF THIS SEAT. 8 by the template 'for every input the law returns true; each argument reads behind the call as it read before'; 0 by the template 'total and deterministic' (their statements: YtmikeljfigignaaTotals.lean).
  GIVEN WITH THE SEED: the statements are not yours to turn. If you find one false, say at which input.
  Laid BY PROGRAM, IN A SANDBOX (cutbox-rows.mjs): the forced cells as the released guide's own fill.sh prints them over the translation bfed369a5fcecccc… (all of the seat's roots in one cut). By AI agents, Wed Nov 11 2026. No macro, syntax, notation, axiom, sorry.
-/
import Derived.Test.YtmikeljfigignaaChecked
import GoSem.Claim
import GoSem.ClaimJoined
import GoSem.ClaimMapViews
import Derived.JoinedTies
import Derived.KernelRfl
namespace Go.Proofs.Ytmikeljfigignaa
/- THE CELL 'sum', in the pinned program and in every row, IS THE sha256 OF THE DUMP (.gsa) THAT YtmikeljfigignaaProg.lean LOADS. Nothing in Lean hashes anything: it is a label: what it is worth is what the hold of that sum in a sandbox is worth. -/
noncomputable def Try.pinned : Pinned := { name := "ytmikeljfigignaa", sum := "bfed369a5fceccccd380837486e953f380aca67ff273816b8709aba7cc481674", checked := Try.checked }
namespace Rows
def none {H : Type} : Left H := { results := [], args := [] }

/-- 'armariumlaw03.SumsGear': WHATEVER THE INPUT: true; the input reads as it did. -/
def sumsGearSpec : ChangeSpec := { name := "sumsGear", fn := fun _ => fun
  | [d1, d2, d3] => { results := [.lit (.bool true)], args := [d1, d2, d3] }
  | _ => none }
def sumsGearRow : OpenClaim := { program := "ytmikeljfigignaa", sum := "bfed369a5fceccccd380837486e953f380aca67ff273816b8709aba7cc481674", func := "armarium/armariumlaw03.SumsGear", spec := "sumsGear", unfollowed := true, recurses := true, apart := false }
def SumsGearSaid : Prop := sumsGearRow.holds Try.pinned (OpenSpec.ofChange sumsGearSpec)

/-- ITS FALSE NEIGHBOUR: 'it returns false'. Refute it at one input. -/
def sumsGearWrong : ChangeSpec := { name := "sumsGear", fn := fun _ => fun
  | [d1, d2, d3] => { results := [.lit (.bool false)], args := [d1, d2, d3] }
  | _ => none }
def SumsGearWrongFalsely : Prop := sumsGearRow.holds Try.pinned (OpenSpec.ofChange sumsGearWrong)

/-- 'armariumlaw03.SumsTold': WHATEVER THE INPUT: true; the input reads as it did. -/
def sumsToldSpec : ChangeSpec := { name := "sumsTold", fn := fun _ => fun
  | [d1, d2, d3] => { results := [.lit (.bool true)], args := [d1, d2, d3] }
  | _ => none }
def sumsToldRow : OpenClaim := { program := "ytmikeljfigignaa", sum := "bfed369a5fceccccd380837486e953f380aca67ff273816b8709aba7cc481674", func := "armarium/armariumlaw03.SumsTold", spec := "sumsTold", unfollowed := true, recurses := true, apart := false }
def SumsToldSaid : Prop := sumsToldRow.holds Try.pinned (OpenSpec.ofChange sumsToldSpec)

/-- ITS FALSE NEIGHBOUR: 'it returns false'. Refute it at one input. -/
def sumsToldWrong : ChangeSpec := { name := "sumsTold", fn := fun _ => fun
  | [d1, d2, d3] => { results := [.lit (.bool false)], args := [d1, d2, d3] }
  | _ => none }
def SumsToldWrongFalsely : Prop := sumsToldRow.holds Try.pinned (OpenSpec.ofChange sumsToldWrong)

/-- 'armariumlaw03.SumsRolls': WHATEVER THE INPUT: true; the input reads as it did. -/
def sumsRollsSpec : ChangeSpec := { name := "sumsRolls", fn := fun _ => fun
  | [d1, d2, d3] => { results := [.lit (.bool true)], args := [d1, d2, d3] }
  | _ => none }
def sumsRollsRow : OpenClaim := { program := "ytmikeljfigignaa", sum := "bfed369a5fceccccd380837486e953f380aca67ff273816b8709aba7cc481674", func := "armarium/armariumlaw03.SumsRolls", spec := "sumsRolls", unfollowed := true, recurses := true, apart := false }
def SumsRollsSaid : Prop := sumsRollsRow.holds Try.pinned (OpenSpec.ofChange sumsRollsSpec)

/-- ITS FALSE NEIGHBOUR: 'it returns false'. Refute it at one input. -/
def sumsRollsWrong : ChangeSpec := { name := "sumsRolls", fn := fun _ => fun
  | [d1, d2, d3] => { results := [.lit (.bool false)], args := [d1, d2, d3] }
  | _ => none }
def SumsRollsWrongFalsely : Prop := sumsRollsRow.holds Try.pinned (OpenSpec.ofChange sumsRollsWrong)

/-- 'armariumlaw07.NullsPacks': WHATEVER THE INPUT: true; the input reads as it did. -/
def nullsPacksSpec : ChangeSpec := { name := "nullsPacks", fn := fun _ => fun
  | [d] => { results := [.lit (.bool true)], args := [d] }
  | _ => none }
def nullsPacksRow : OpenClaim := { program := "ytmikeljfigignaa", sum := "bfed369a5fceccccd380837486e953f380aca67ff273816b8709aba7cc481674", func := "armarium/armariumlaw07.NullsPacks", spec := "nullsPacks", apart := false }
def NullsPacksSaid : Prop := nullsPacksRow.holds Try.pinned (OpenSpec.ofChange nullsPacksSpec)

/-- ITS FALSE NEIGHBOUR: 'it returns false'. Refute it at one input. -/
def nullsPacksWrong : ChangeSpec := { name := "nullsPacks", fn := fun _ => fun
  | [d] => { results := [.lit (.bool false)], args := [d] }
  | _ => none }
def NullsPacksWrongFalsely : Prop := nullsPacksRow.holds Try.pinned (OpenSpec.ofChange nullsPacksWrong)

/-- 'armariumlaw07.NullsUnpacks': WHATEVER THE INPUT: true; the input reads as it did. -/
def nullsUnpacksSpec : ChangeSpec := { name := "nullsUnpacks", fn := fun _ => fun
  | [d1, d2] => { results := [.lit (.bool true)], args := [d1, d2] }
  | _ => none }
def nullsUnpacksRow : OpenClaim := { program := "ytmikeljfigignaa", sum := "bfed369a5fceccccd380837486e953f380aca67ff273816b8709aba7cc481674", func := "armarium/armariumlaw07.NullsUnpacks", spec := "nullsUnpacks", apart := false }
def NullsUnpacksSaid : Prop := nullsUnpacksRow.holds Try.pinned (OpenSpec.ofChange nullsUnpacksSpec)

/-- ITS FALSE NEIGHBOUR: 'it returns false'. Refute it at one input. -/
def nullsUnpacksWrong : ChangeSpec := { name := "nullsUnpacks", fn := fun _ => fun
  | [d1, d2] => { results := [.lit (.bool false)], args := [d1, d2] }
  | _ => none }
def NullsUnpacksWrongFalsely : Prop := nullsUnpacksRow.holds Try.pinned (OpenSpec.ofChange nullsUnpacksWrong)

/-- 'armariumlaw07.NullsJoins': WHATEVER THE INPUT: true; the input reads as it did. -/
def nullsJoinsSpec : ChangeSpec := { name := "nullsJoins", fn := fun _ => fun
  | [d1, d2] => { results := [.lit (.bool true)], args := [d1, d2] }
  | _ => none }
def nullsJoinsRow : OpenClaim := { program := "ytmikeljfigignaa", sum := "bfed369a5fceccccd380837486e953f380aca67ff273816b8709aba7cc481674", func := "armarium/armariumlaw07.NullsJoins", spec := "nullsJoins", apart := false }
def NullsJoinsSaid : Prop := nullsJoinsRow.holds Try.pinned (OpenSpec.ofChange nullsJoinsSpec)

/-- ITS FALSE NEIGHBOUR: 'it returns false'. Refute it at one input. -/
def nullsJoinsWrong : ChangeSpec := { name := "nullsJoins", fn := fun _ => fun
  | [d1, d2] => { results := [.lit (.bool false)], args := [d1, d2] }
  | _ => none }
def NullsJoinsWrongFalsely : Prop := nullsJoinsRow.holds Try.pinned (OpenSpec.ofChange nullsJoinsWrong)

/-- 'armariumlaw03.SumsCrc': WHATEVER THE INPUT: true; the input reads as it did. -/
def sumsCrcSpec : ChangeSpec := { name := "sumsCrc", fn := fun _ => fun
  | [d1, d2] => { results := [.lit (.bool true)], args := [d1, d2] }
  | _ => none }
def sumsCrcRow : OpenClaim := { program := "ytmikeljfigignaa", sum := "bfed369a5fceccccd380837486e953f380aca67ff273816b8709aba7cc481674", func := "armarium/armariumlaw03.SumsCrc", spec := "sumsCrc", unfollowed := true, recurses := true, apart := false }
def SumsCrcSaid : Prop := sumsCrcRow.holds Try.pinned (OpenSpec.ofChange sumsCrcSpec)

/-- ITS FALSE NEIGHBOUR: 'it returns false'. Refute it at one input. -/
def sumsCrcWrong : ChangeSpec := { name := "sumsCrc", fn := fun _ => fun
  | [d1, d2] => { results := [.lit (.bool false)], args := [d1, d2] }
  | _ => none }
def SumsCrcWrongFalsely : Prop := sumsCrcRow.holds Try.pinned (OpenSpec.ofChange sumsCrcWrong)

/-- 'armariumlaw03.SumsParts': WHATEVER THE INPUT: true; the input reads as it did. -/
def sumsPartsSpec : ChangeSpec := { name := "sumsParts", fn := fun _ => fun
  | [d] => { results := [.lit (.bool true)], args := [d] }
  | _ => none }
def sumsPartsRow : OpenClaim := { program := "ytmikeljfigignaa", sum := "bfed369a5fceccccd380837486e953f380aca67ff273816b8709aba7cc481674", func := "armarium/armariumlaw03.SumsParts", spec := "sumsParts", unfollowed := true, recurses := true, apart := false }
def SumsPartsSaid : Prop := sumsPartsRow.holds Try.pinned (OpenSpec.ofChange sumsPartsSpec)

/-- ITS FALSE NEIGHBOUR: 'it returns false'. Refute it at one input. -/
def sumsPartsWrong : ChangeSpec := { name := "sumsParts", fn := fun _ => fun
  | [d] => { results := [.lit (.bool false)], args := [d] }
  | _ => none }
def SumsPartsWrongFalsely : Prop := sumsPartsRow.holds Try.pinned (OpenSpec.ofChange sumsPartsWrong)

/- THE SECOND FORM. 'bulk': how many values and letters a reading holds, each counted each time it is reached (what is shared counts as often as it is met; a slice's spare places count too). A statement '..UptoSaid' is the law's where the arguments, and the package variables that the reading takes, are together of bulk at most 1048576: NARROWER than '..Said'. Prove '..Said' where nothing that the law and all that it calls make is longer than what came in: it says more and counts as full. Else prove '..UptoSaid'. A law counts once. -/
mutual
def uptoBulk {H : Type} : DataW H → Nat
  | .lit (.string bytes) => bytes.length + 1
  | .lit _ => 1
  | .nil => 1
  | .ptr d => uptoBulk d + 1
  | .slice elems spare => uptoBulkAll elems + uptoBulkAll spare + 1
  | .agg parts => uptoBulkAll parts + 1
  | .iface _ d => uptoBulk d + 1
  | .map entries => uptoBulkEntries entries + 1
  | .held _ => 1
def uptoBulkAll {H : Type} : List (DataW H) → Nat
  | [] => 0
  | d :: r => uptoBulk d + uptoBulkAll r
def uptoBulkEntries {H : Type} : List (Lit × DataW H) → Nat
  | [] => 0
  | x :: r => uptoBulkEntry x + uptoBulkEntries r
def uptoBulkEntry {H : Type} : Lit × DataW H → Nat
  | (.string bytes, d) => bytes.length + uptoBulk d + 1
  | (_, d) => uptoBulk d + 1
 end
def uptoSmall : (H : Type) → List (DataW H) → Bool := fun _ ds => decide (uptoBulkAll ds ≤ 1048576)
def OpenSpec.upto (s : _root_.Go.ChangeSpec) : _root_.Go.OpenSpec := { _root_.Go.OpenSpec.ofChange s with cond := some uptoSmall }

/-- 'armariumlaw03.SumsGear', WHERE WHAT IT READS IS OF BULK AT MOST 1048576: true; the input reads as it did. -/
def sumsGearUptoRow : OpenClaim := { program := "ytmikeljfigignaa", sum := "bfed369a5fceccccd380837486e953f380aca67ff273816b8709aba7cc481674", func := "armarium/armariumlaw03.SumsGear", spec := "sumsGear", unfollowed := true, recurses := true, apart := false, narrowed := true }
def SumsGearUptoSaid : Prop := sumsGearUptoRow.holds Try.pinned (OpenSpec.upto sumsGearSpec)

/-- 'armariumlaw03.SumsTold', WHERE WHAT IT READS IS OF BULK AT MOST 1048576: true; the input reads as it did. -/
def sumsToldUptoRow : OpenClaim := { program := "ytmikeljfigignaa", sum := "bfed369a5fceccccd380837486e953f380aca67ff273816b8709aba7cc481674", func := "armarium/armariumlaw03.SumsTold", spec := "sumsTold", unfollowed := true, recurses := true, apart := false, narrowed := true }
def SumsToldUptoSaid : Prop := sumsToldUptoRow.holds Try.pinned (OpenSpec.upto sumsToldSpec)

/-- 'armariumlaw03.SumsRolls', WHERE WHAT IT READS IS OF BULK AT MOST 1048576: true; the input reads as it did. -/
def sumsRollsUptoRow : OpenClaim := { program := "ytmikeljfigignaa", sum := "bfed369a5fceccccd380837486e953f380aca67ff273816b8709aba7cc481674", func := "armarium/armariumlaw03.SumsRolls", spec := "sumsRolls", unfollowed := true, recurses := true, apart := false, narrowed := true }
def SumsRollsUptoSaid : Prop := sumsRollsUptoRow.holds Try.pinned (OpenSpec.upto sumsRollsSpec)

/-- 'armariumlaw07.NullsPacks', WHERE WHAT IT READS IS OF BULK AT MOST 1048576: true; the input reads as it did. -/
def nullsPacksUptoRow : OpenClaim := { program := "ytmikeljfigignaa", sum := "bfed369a5fceccccd380837486e953f380aca67ff273816b8709aba7cc481674", func := "armarium/armariumlaw07.NullsPacks", spec := "nullsPacks", apart := false, narrowed := true }
def NullsPacksUptoSaid : Prop := nullsPacksUptoRow.holds Try.pinned (OpenSpec.upto nullsPacksSpec)

/-- 'armariumlaw07.NullsUnpacks', WHERE WHAT IT READS IS OF BULK AT MOST 1048576: true; the input reads as it did. -/
def nullsUnpacksUptoRow : OpenClaim := { program := "ytmikeljfigignaa", sum := "bfed369a5fceccccd380837486e953f380aca67ff273816b8709aba7cc481674", func := "armarium/armariumlaw07.NullsUnpacks", spec := "nullsUnpacks", apart := false, narrowed := true }
def NullsUnpacksUptoSaid : Prop := nullsUnpacksUptoRow.holds Try.pinned (OpenSpec.upto nullsUnpacksSpec)

/-- 'armariumlaw07.NullsJoins', WHERE WHAT IT READS IS OF BULK AT MOST 1048576: true; the input reads as it did. -/
def nullsJoinsUptoRow : OpenClaim := { program := "ytmikeljfigignaa", sum := "bfed369a5fceccccd380837486e953f380aca67ff273816b8709aba7cc481674", func := "armarium/armariumlaw07.NullsJoins", spec := "nullsJoins", apart := false, narrowed := true }
def NullsJoinsUptoSaid : Prop := nullsJoinsUptoRow.holds Try.pinned (OpenSpec.upto nullsJoinsSpec)

/-- 'armariumlaw03.SumsCrc', WHERE WHAT IT READS IS OF BULK AT MOST 1048576: true; the input reads as it did. -/
def sumsCrcUptoRow : OpenClaim := { program := "ytmikeljfigignaa", sum := "bfed369a5fceccccd380837486e953f380aca67ff273816b8709aba7cc481674", func := "armarium/armariumlaw03.SumsCrc", spec := "sumsCrc", unfollowed := true, recurses := true, apart := false, narrowed := true }
def SumsCrcUptoSaid : Prop := sumsCrcUptoRow.holds Try.pinned (OpenSpec.upto sumsCrcSpec)

/-- 'armariumlaw03.SumsParts', WHERE WHAT IT READS IS OF BULK AT MOST 1048576: true; the input reads as it did. -/
def sumsPartsUptoRow : OpenClaim := { program := "ytmikeljfigignaa", sum := "bfed369a5fceccccd380837486e953f380aca67ff273816b8709aba7cc481674", func := "armarium/armariumlaw03.SumsParts", spec := "sumsParts", unfollowed := true, recurses := true, apart := false, narrowed := true }
def SumsPartsUptoSaid : Prop := sumsPartsUptoRow.holds Try.pinned (OpenSpec.upto sumsPartsSpec)

end Rows
end Go.Proofs.Ytmikeljfigignaa
