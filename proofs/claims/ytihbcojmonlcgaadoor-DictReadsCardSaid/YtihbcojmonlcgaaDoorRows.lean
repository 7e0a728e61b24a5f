/-
  NARROWER THAN 'FOR EVERY INPUT', by the rows' own cells (each row's printed sentence says how): SchemaLarge: laid · PlainGets: laid · PlainReads: laid · DeltaReads: laid · RunsReads: laid · DictReads: laid.
  DERIVED. THE GIVEN ROWS OF THIS SEAT. 6 by the template 'for every input the law returns true; each argument reads behind the call as it read before'; 0 by the template 'total and deterministic' (their statements: YtihbcojmonlcgaaDoorTotals.lean).
  GIVEN WITH THE SEED: the statements are not yours to turn. If you find one false, say at which input.
  Laid BY PROGRAM, IN A SANDBOX (cutbox-rows.mjs): the forced cells as the released guide's own fill.sh prints them over the translation 5ae896e07543e14d… (all of the seat's roots in one cut). By AI agents, Wed Nov 11 2026. No macro, syntax, notation, axiom, sorry.
-/
import Derived.Test.YtihbcojmonlcgaaDoorChecked
import GoSem.PinnedTables
import GoSem.Claim
import GoSem.ClaimJoined
import GoSem.ClaimMapViews
import Derived.JoinedTies
import Derived.KernelRfl
namespace Go.Proofs.YtihbcojmonlcgaaDoor
/- THE CELL 'sum', in the pinned program and in every row, IS THE sha256 OF THE DUMP (.gsa) THAT YtihbcojmonlcgaaDoorProg.lean LOADS. Nothing in Lean hashes anything: it is a label: what it is worth is what the hold of that sum in a sandbox is worth. -/
noncomputable def Tryd.pinned : Pinned := { name := "ytihbcojmonlcgaadoor", sum := "5ae896e07543e14dbbacdf79c456f2d93e4320711af7242533f52a98a662c2fd", checked := Tryd.checked }
namespace Rows
def none {H : Type} : Left H := { results := [], args := [] }

/- WHAT THE LISTED PACKAGE-LEVEL VARIABLES READ AS WHEN THE CALL BEGINS. Each datum BY PROGRAM (the guide's laid-datum.mjs) off the statement by which the dump's own 'gosem.cut.vars' lays the variable. In a bare row this is a premise. The card (YtihbcojmonlcgaaDoorCards.lean) ties it to the program's text. -/
def laid_unicode_utf8_acceptRanges {H : Type} : DataW H := .agg [.agg [.lit (.int .u8 128), .lit (.int .u8 191)], .agg [.lit (.int .u8 160), .lit (.int .u8 191)], .agg [.lit (.int .u8 128), .lit (.int .u8 159)], .agg [.lit (.int .u8 144), .lit (.int .u8 191)], .agg [.lit (.int .u8 128), .lit (.int .u8 143)], .agg [.lit (.int .u8 0), .lit (.int .u8 0)], .agg [.lit (.int .u8 0), .lit (.int .u8 0)], .agg [.lit (.int .u8 0), .lit (.int .u8 0)], .agg [.lit (.int .u8 0), .lit (.int .u8 0)], .agg [.lit (.int .u8 0), .lit (.int .u8 0)], .agg [.lit (.int .u8 0), .lit (.int .u8 0)], .agg [.lit (.int .u8 0), .lit (.int .u8 0)], .agg [.lit (.int .u8 0), .lit (.int .u8 0)], .agg [.lit (.int .u8 0), .lit (.int .u8 0)], .agg [.lit (.int .u8 0), .lit (.int .u8 0)], .agg [.lit (.int .u8 0), .lit (.int .u8 0)]]
/-- One of Go's own tables, pinned by name: the form's constant. -/
def laid_unicode_utf8_first : DataW Unit := Go.Pinned.utf8First

/-- 'armariumlaw06.SchemaLarge': WHATEVER THE INPUT: true; the input reads as it did. -/
def schemaLargeSpec : ChangeSpec := { name := "schemaLarge", fn := fun _ => fun
  | [d1, d2] => { results := [.lit (.bool true)], args := [d1, d2] }
  | _ => none }
def schemaLargeRow : OpenClaim := { program := "ytihbcojmonlcgaadoor", sum := "5ae896e07543e14dbbacdf79c456f2d93e4320711af7242533f52a98a662c2fd", func := "armarium/armariumlaw06.SchemaLarge", spec := "schemaLarge", unfollowed := true, recurses := true, named := ["unicode/utf8.first", "unicode/utf8.acceptRanges"], plainKeys := false, apart := false, laid := [("unicode/utf8.acceptRanges", laid_unicode_utf8_acceptRanges), ("unicode/utf8.first", laid_unicode_utf8_first)] }
def SchemaLargeSaid : Prop := schemaLargeRow.holds Tryd.pinned (OpenSpec.ofChange schemaLargeSpec)

/-- ITS FALSE NEIGHBOUR: 'it returns false'. Refute it at one input. -/
def schemaLargeWrong : ChangeSpec := { name := "schemaLarge", fn := fun _ => fun
  | [d1, d2] => { results := [.lit (.bool false)], args := [d1, d2] }
  | _ => none }
def SchemaLargeWrongFalsely : Prop := schemaLargeRow.holds Tryd.pinned (OpenSpec.ofChange schemaLargeWrong)

/-- 'armariumlaw08.PlainGets': WHATEVER THE INPUT: true; the input reads as it did. -/
def plainGetsSpec : ChangeSpec := { name := "plainGets", fn := fun _ => fun
  | [d1, d2] => { results := [.lit (.bool true)], args := [d1, d2] }
  | _ => none }
def plainGetsRow : OpenClaim := { program := "ytihbcojmonlcgaadoor", sum := "5ae896e07543e14dbbacdf79c456f2d93e4320711af7242533f52a98a662c2fd", func := "armarium/armariumlaw08.PlainGets", spec := "plainGets", named := ["unicode/utf8.first", "unicode/utf8.acceptRanges"], plainKeys := false, apart := false, laid := [("unicode/utf8.acceptRanges", laid_unicode_utf8_acceptRanges), ("unicode/utf8.first", laid_unicode_utf8_first)] }
def PlainGetsSaid : Prop := plainGetsRow.holds Tryd.pinned (OpenSpec.ofChange plainGetsSpec)

/-- ITS FALSE NEIGHBOUR: 'it returns false'. Refute it at one input. -/
def plainGetsWrong : ChangeSpec := { name := "plainGets", fn := fun _ => fun
  | [d1, d2] => { results := [.lit (.bool false)], args := [d1, d2] }
  | _ => none }
def PlainGetsWrongFalsely : Prop := plainGetsRow.holds Tryd.pinned (OpenSpec.ofChange plainGetsWrong)

/-- 'armariumlaw08.PlainReads': WHATEVER THE INPUT: true; the input reads as it did. -/
def plainReadsSpec : ChangeSpec := { name := "plainReads", fn := fun _ => fun
  | [d1, d2, d3] => { results := [.lit (.bool true)], args := [d1, d2, d3] }
  | _ => none }
def plainReadsRow : OpenClaim := { program := "ytihbcojmonlcgaadoor", sum := "5ae896e07543e14dbbacdf79c456f2d93e4320711af7242533f52a98a662c2fd", func := "armarium/armariumlaw08.PlainReads", spec := "plainReads", named := ["unicode/utf8.first", "unicode/utf8.acceptRanges"], plainKeys := false, apart := false, laid := [("unicode/utf8.acceptRanges", laid_unicode_utf8_acceptRanges), ("unicode/utf8.first", laid_unicode_utf8_first)] }
def PlainReadsSaid : Prop := plainReadsRow.holds Tryd.pinned (OpenSpec.ofChange plainReadsSpec)

/-- ITS FALSE NEIGHBOUR: 'it returns false'. Refute it at one input. -/
def plainReadsWrong : ChangeSpec := { name := "plainReads", fn := fun _ => fun
  | [d1, d2, d3] => { results := [.lit (.bool false)], args := [d1, d2, d3] }
  | _ => none }
def PlainReadsWrongFalsely : Prop := plainReadsRow.holds Tryd.pinned (OpenSpec.ofChange plainReadsWrong)

/-- 'armariumlaw10.DeltaReads': WHATEVER THE INPUT: true; the input reads as it did. -/
def deltaReadsSpec : ChangeSpec := { name := "deltaReads", fn := fun _ => fun
  | [d1, d2, d3] => { results := [.lit (.bool true)], args := [d1, d2, d3] }
  | _ => none }
def deltaReadsRow : OpenClaim := { program := "ytihbcojmonlcgaadoor", sum := "5ae896e07543e14dbbacdf79c456f2d93e4320711af7242533f52a98a662c2fd", func := "armarium/armariumlaw10.DeltaReads", spec := "deltaReads", named := ["unicode/utf8.first", "unicode/utf8.acceptRanges"], plainKeys := false, apart := false, laid := [("unicode/utf8.acceptRanges", laid_unicode_utf8_acceptRanges), ("unicode/utf8.first", laid_unicode_utf8_first)] }
def DeltaReadsSaid : Prop := deltaReadsRow.holds Tryd.pinned (OpenSpec.ofChange deltaReadsSpec)

/-- ITS FALSE NEIGHBOUR: 'it returns false'. Refute it at one input. -/
def deltaReadsWrong : ChangeSpec := { name := "deltaReads", fn := fun _ => fun
  | [d1, d2, d3] => { results := [.lit (.bool false)], args := [d1, d2, d3] }
  | _ => none }
def DeltaReadsWrongFalsely : Prop := deltaReadsRow.holds Tryd.pinned (OpenSpec.ofChange deltaReadsWrong)

/-- 'armariumlaw09.RunsReads': WHATEVER THE INPUT: true; the input reads as it did. -/
def runsReadsSpec : ChangeSpec := { name := "runsReads", fn := fun _ => fun
  | [d1, d2, d3] => { results := [.lit (.bool true)], args := [d1, d2, d3] }
  | _ => none }
def runsReadsRow : OpenClaim := { program := "ytihbcojmonlcgaadoor", sum := "5ae896e07543e14dbbacdf79c456f2d93e4320711af7242533f52a98a662c2fd", func := "armarium/armariumlaw09.RunsReads", spec := "runsReads", unfollowed := true, recurses := true, named := ["unicode/utf8.first", "unicode/utf8.acceptRanges"], plainKeys := false, apart := false, laid := [("unicode/utf8.acceptRanges", laid_unicode_utf8_acceptRanges), ("unicode/utf8.first", laid_unicode_utf8_first)] }
def RunsReadsSaid : Prop := runsReadsRow.holds Tryd.pinned (OpenSpec.ofChange runsReadsSpec)

/-- ITS FALSE NEIGHBOUR: 'it returns false'. Refute it at one input. -/
def runsReadsWrong : ChangeSpec := { name := "runsReads", fn := fun _ => fun
  | [d1, d2, d3] => { results := [.lit (.bool false)], args := [d1, d2, d3] }
  | _ => none }
def RunsReadsWrongFalsely : Prop := runsReadsRow.holds Tryd.pinned (OpenSpec.ofChange runsReadsWrong)

/-- 'armariumlaw11.DictReads': WHATEVER THE INPUT: true; the input reads as it did. -/
def dictReadsSpec : ChangeSpec := { name := "dictReads", fn := fun _ => fun
  | [d1, d2, d3] => { results := [.lit (.bool true)], args := [d1, d2, d3] }
  | _ => none }
def dictReadsRow : OpenClaim := { program := "ytihbcojmonlcgaadoor", sum := "5ae896e07543e14dbbacdf79c456f2d93e4320711af7242533f52a98a662c2fd", func := "armarium/armariumlaw11.DictReads", spec := "dictReads", named := ["unicode/utf8.first", "unicode/utf8.acceptRanges"], plainKeys := false, apart := false, laid := [("unicode/utf8.acceptRanges", laid_unicode_utf8_acceptRanges), ("unicode/utf8.first", laid_unicode_utf8_first)] }
def DictReadsSaid : Prop := dictReadsRow.holds Tryd.pinned (OpenSpec.ofChange dictReadsSpec)

/-- ITS FALSE NEIGHBOUR: 'it returns false'. Refute it at one input. -/
def dictReadsWrong : ChangeSpec := { name := "dictReads", fn := fun _ => fun
  | [d1, d2, d3] => { results := [.lit (.bool false)], args := [d1, d2, d3] }
  | _ => none }
def DictReadsWrongFalsely : Prop := dictReadsRow.holds Tryd.pinned (OpenSpec.ofChange dictReadsWrong)

/- THE SECOND FORM. 'bulk': how many values and letters a reading holds, each counted each time it is reached (what is shared counts as often as it is met; a slice's spare places count too). A statement '..UptoSaid' is the law's where the arguments, and the package variables that the reading takes, are together of bulk at most 1048576: NARROWER than '..Said'. Prove '..Said' where nothing that the law and all that it calls make is longer than what came in: it says more and counts as full. Else prove '..UptoSaid'. A law counts once. -/
mutual
def uptoBulk {H : Type} : DataW H → Nat
  | .lit (.string bytes) => bytes.length + 1
  | .lit _ => 1
  | .nil => 1
  | .ptr d => uptoBulk d + 1
  | .slice elems spare => uptoBulkAll elems + uptoBulkAll spare + 1
  | .agg parts => uptoBulkAll parts + 1
  | .iface _ d => uptoBulk d + 1
  | .map entries => uptoBulkEntries entries + 1
  | .held _ => 1
def uptoBulkAll {H : Type} : List (DataW H) → Nat
  | [] => 0
  | d :: r => uptoBulk d + uptoBulkAll r
def uptoBulkEntries {H : Type} : List (Lit × DataW H) → Nat
  | [] => 0
  | x :: r => uptoBulkEntry x + uptoBulkEntries r
def uptoBulkEntry {H : Type} : Lit × DataW H → Nat
  | (.string bytes, d) => bytes.length + uptoBulk d + 1
  | (_, d) => uptoBulk d + 1
 end
def uptoSmall : (H : Type) → List (DataW H) → Bool := fun _ ds => decide (uptoBulkAll ds ≤ 1048576)
def OpenSpec.upto (s : _root_.Go.ChangeSpec) : _root_.Go.OpenSpec := { _root_.Go.OpenSpec.ofChange s with cond := some uptoSmall }

/-- 'armariumlaw06.SchemaLarge', WHERE WHAT IT READS IS OF BULK AT MOST 1048576: true; the input reads as it did. -/
def schemaLargeUptoRow : OpenClaim := { program := "ytihbcojmonlcgaadoor", sum := "5ae896e07543e14dbbacdf79c456f2d93e4320711af7242533f52a98a662c2fd", func := "armarium/armariumlaw06.SchemaLarge", spec := "schemaLarge", unfollowed := true, recurses := true, named := ["unicode/utf8.first", "unicode/utf8.acceptRanges"], plainKeys := false, apart := false, laid := [("unicode/utf8.acceptRanges", laid_unicode_utf8_acceptRanges), ("unicode/utf8.first", laid_unicode_utf8_first)], narrowed := true }
def SchemaLargeUptoSaid : Prop := schemaLargeUptoRow.holds Tryd.pinned (OpenSpec.upto schemaLargeSpec)

/-- 'armariumlaw08.PlainGets', WHERE WHAT IT READS IS OF BULK AT MOST 1048576: true; the input reads as it did. -/
def plainGetsUptoRow : OpenClaim := { program := "ytihbcojmonlcgaadoor", sum := "5ae896e07543e14dbbacdf79c456f2d93e4320711af7242533f52a98a662c2fd", func := "armarium/armariumlaw08.PlainGets", spec := "plainGets", named := ["unicode/utf8.first", "unicode/utf8.acceptRanges"], plainKeys := false, apart := false, laid := [("unicode/utf8.acceptRanges", laid_unicode_utf8_acceptRanges), ("unicode/utf8.first", laid_unicode_utf8_first)], narrowed := true }
def PlainGetsUptoSaid : Prop := plainGetsUptoRow.holds Tryd.pinned (OpenSpec.upto plainGetsSpec)

/-- 'armariumlaw08.PlainReads', WHERE WHAT IT READS IS OF BULK AT MOST 1048576: true; the input reads as it did. -/
def plainReadsUptoRow : OpenClaim := { program := "ytihbcojmonlcgaadoor", sum := "5ae896e07543e14dbbacdf79c456f2d93e4320711af7242533f52a98a662c2fd", func := "armarium/armariumlaw08.PlainReads", spec := "plainReads", named := ["unicode/utf8.first", "unicode/utf8.acceptRanges"], plainKeys := false, apart := false, laid := [("unicode/utf8.acceptRanges", laid_unicode_utf8_acceptRanges), ("unicode/utf8.first", laid_unicode_utf8_first)], narrowed := true }
def PlainReadsUptoSaid : Prop := plainReadsUptoRow.holds Tryd.pinned (OpenSpec.upto plainReadsSpec)

/-- 'armariumlaw10.DeltaReads', WHERE WHAT IT READS IS OF BULK AT MOST 1048576: true; the input reads as it did. -/
def deltaReadsUptoRow : OpenClaim := { program := "ytihbcojmonlcgaadoor", sum := "5ae896e07543e14dbbacdf79c456f2d93e4320711af7242533f52a98a662c2fd", func := "armarium/armariumlaw10.DeltaReads", spec := "deltaReads", named := ["unicode/utf8.first", "unicode/utf8.acceptRanges"], plainKeys := false, apart := false, laid := [("unicode/utf8.acceptRanges", laid_unicode_utf8_acceptRanges), ("unicode/utf8.first", laid_unicode_utf8_first)], narrowed := true }
def DeltaReadsUptoSaid : Prop := deltaReadsUptoRow.holds Tryd.pinned (OpenSpec.upto deltaReadsSpec)

/-- 'armariumlaw09.RunsReads', WHERE WHAT IT READS IS OF BULK AT MOST 1048576: true; the input reads as it did. -/
def runsReadsUptoRow : OpenClaim := { program := "ytihbcojmonlcgaadoor", sum := "5ae896e07543e14dbbacdf79c456f2d93e4320711af7242533f52a98a662c2fd", func := "armarium/armariumlaw09.RunsReads", spec := "runsReads", unfollowed := true, recurses := true, named := ["unicode/utf8.first", "unicode/utf8.acceptRanges"], plainKeys := false, apart := false, laid := [("unicode/utf8.acceptRanges", laid_unicode_utf8_acceptRanges), ("unicode/utf8.first", laid_unicode_utf8_first)], narrowed := true }
def RunsReadsUptoSaid : Prop := runsReadsUptoRow.holds Tryd.pinned (OpenSpec.upto runsReadsSpec)

/-- 'armariumlaw11.DictReads', WHERE WHAT IT READS IS OF BULK AT MOST 1048576: true; the input reads as it did. -/
def dictReadsUptoRow : OpenClaim := { program := "ytihbcojmonlcgaadoor", sum := "5ae896e07543e14dbbacdf79c456f2d93e4320711af7242533f52a98a662c2fd", func := "armarium/armariumlaw11.DictReads", spec := "dictReads", named := ["unicode/utf8.first", "unicode/utf8.acceptRanges"], plainKeys := false, apart := false, laid := [("unicode/utf8.acceptRanges", laid_unicode_utf8_acceptRanges), ("unicode/utf8.first", laid_unicode_utf8_first)], narrowed := true }
def DictReadsUptoSaid : Prop := dictReadsUptoRow.holds Tryd.pinned (OpenSpec.upto dictReadsSpec)

end Rows
end Go.Proofs.YtihbcojmonlcgaaDoor
