/-
  DERIVED. GIVEN WITH THE SEED: THE CARDS: each row of YtihbcojmonlcgaaDoorRows.lean that lists a variable, with what it lists TIED to the program's text (the seventh form; the later family's looks); each row that meets fmt, with fmt's text TOLD by the authors' own Lean function (tested against real Go, not proved from fmt's source: count such statements apart). THE CARD IS WHAT COUNTS. Prove the row's statement (the work); the ties are given (YtihbcojmonlcgaaDoorTie.lean); close each card by the builder's one call (the guide's Derived/Test/ToyasCard.lean, 'card_holds'). Laid BY PROGRAM, IN A SANDBOX (cutbox-door.mjs). By AI agents, Wed Nov 11 2026. No macro, syntax, notation, axiom, sorry.
-/
import Derived.Test.YtihbcojmonlcgaaDoorRows
import GoSem.ClaimSeven
namespace Go.Proofs.YtihbcojmonlcgaaDoor
namespace Rows

/-- THE TIED CARD OF 'armariumlaw06.SchemaLarge'. -/
def schemaLargeCard : Claim7 := { stood := { row := schemaLargeRow, standIns := [], harness := (true, "09c605506312b2e930b4861e19a5af7687546d0cfcdb3f3381a84fa70e2c1843"), looks := false }, kinds := [], alts := [], laidByText := true, laidKinds := [.data, .pinned], laidTests := true, laidLooks := .later }
def SchemaLargeCardSaid : Prop := Claim7.holds Tryd.pinned (.plain (OpenSpec.ofChange schemaLargeSpec)) schemaLargeCard

/-- THE TIED CARD OF 'armariumlaw08.PlainGets'. -/
def plainGetsCard : Claim7 := { stood := { row := plainGetsRow, standIns := [], harness := (true, "09c605506312b2e930b4861e19a5af7687546d0cfcdb3f3381a84fa70e2c1843"), looks := false }, kinds := [], alts := [], laidByText := true, laidKinds := [.data, .pinned], laidTests := true, laidLooks := .later }
def PlainGetsCardSaid : Prop := Claim7.holds Tryd.pinned (.plain (OpenSpec.ofChange plainGetsSpec)) plainGetsCard

/-- THE TIED CARD OF 'armariumlaw08.PlainReads'. -/
def plainReadsCard : Claim7 := { stood := { row := plainReadsRow, standIns := [], harness := (true, "09c605506312b2e930b4861e19a5af7687546d0cfcdb3f3381a84fa70e2c1843"), looks := false }, kinds := [], alts := [], laidByText := true, laidKinds := [.data, .pinned], laidTests := true, laidLooks := .later }
def PlainReadsCardSaid : Prop := Claim7.holds Tryd.pinned (.plain (OpenSpec.ofChange plainReadsSpec)) plainReadsCard

/-- THE TIED CARD OF 'armariumlaw10.DeltaReads'. -/
def deltaReadsCard : Claim7 := { stood := { row := deltaReadsRow, standIns := [], harness := (true, "09c605506312b2e930b4861e19a5af7687546d0cfcdb3f3381a84fa70e2c1843"), looks := false }, kinds := [], alts := [], laidByText := true, laidKinds := [.data, .pinned], laidTests := true, laidLooks := .later }
def DeltaReadsCardSaid : Prop := Claim7.holds Tryd.pinned (.plain (OpenSpec.ofChange deltaReadsSpec)) deltaReadsCard

/-- THE TIED CARD OF 'armariumlaw09.RunsReads'. -/
def runsReadsCard : Claim7 := { stood := { row := runsReadsRow, standIns := [], harness := (true, "09c605506312b2e930b4861e19a5af7687546d0cfcdb3f3381a84fa70e2c1843"), looks := false }, kinds := [], alts := [], laidByText := true, laidKinds := [.data, .pinned], laidTests := true, laidLooks := .later }
def RunsReadsCardSaid : Prop := Claim7.holds Tryd.pinned (.plain (OpenSpec.ofChange runsReadsSpec)) runsReadsCard

/-- THE TIED CARD OF 'armariumlaw11.DictReads'. -/
def dictReadsCard : Claim7 := { stood := { row := dictReadsRow, standIns := [], harness := (true, "09c605506312b2e930b4861e19a5af7687546d0cfcdb3f3381a84fa70e2c1843"), looks := false }, kinds := [], alts := [], laidByText := true, laidKinds := [.data, .pinned], laidTests := true, laidLooks := .later }
def DictReadsCardSaid : Prop := Claim7.holds Tryd.pinned (.plain (OpenSpec.ofChange dictReadsSpec)) dictReadsCard

/-- THE SECOND FORM's CARD OF 'armariumlaw06.SchemaLarge'. -/
def schemaLargeUptoCard : Claim7 := { stood := { row := schemaLargeUptoRow, standIns := [], harness := (true, "09c605506312b2e930b4861e19a5af7687546d0cfcdb3f3381a84fa70e2c1843"), looks := false }, kinds := [], alts := [], laidByText := true, laidKinds := [.data, .pinned], laidTests := true, laidLooks := .later }
def SchemaLargeUptoCardSaid : Prop := Claim7.holds Tryd.pinned (.plain (OpenSpec.upto schemaLargeSpec)) schemaLargeUptoCard

/-- THE SECOND FORM's CARD OF 'armariumlaw08.PlainGets'. -/
def plainGetsUptoCard : Claim7 := { stood := { row := plainGetsUptoRow, standIns := [], harness := (true, "09c605506312b2e930b4861e19a5af7687546d0cfcdb3f3381a84fa70e2c1843"), looks := false }, kinds := [], alts := [], laidByText := true, laidKinds := [.data, .pinned], laidTests := true, laidLooks := .later }
def PlainGetsUptoCardSaid : Prop := Claim7.holds Tryd.pinned (.plain (OpenSpec.upto plainGetsSpec)) plainGetsUptoCard

/-- THE SECOND FORM's CARD OF 'armariumlaw08.PlainReads'. -/
def plainReadsUptoCard : Claim7 := { stood := { row := plainReadsUptoRow, standIns := [], harness := (true, "09c605506312b2e930b4861e19a5af7687546d0cfcdb3f3381a84fa70e2c1843"), looks := false }, kinds := [], alts := [], laidByText := true, laidKinds := [.data, .pinned], laidTests := true, laidLooks := .later }
def PlainReadsUptoCardSaid : Prop := Claim7.holds Tryd.pinned (.plain (OpenSpec.upto plainReadsSpec)) plainReadsUptoCard

/-- THE SECOND FORM's CARD OF 'armariumlaw10.DeltaReads'. -/
def deltaReadsUptoCard : Claim7 := { stood := { row := deltaReadsUptoRow, standIns := [], harness := (true, "09c605506312b2e930b4861e19a5af7687546d0cfcdb3f3381a84fa70e2c1843"), looks := false }, kinds := [], alts := [], laidByText := true, laidKinds := [.data, .pinned], laidTests := true, laidLooks := .later }
def DeltaReadsUptoCardSaid : Prop := Claim7.holds Tryd.pinned (.plain (OpenSpec.upto deltaReadsSpec)) deltaReadsUptoCard

/-- THE SECOND FORM's CARD OF 'armariumlaw09.RunsReads'. -/
def runsReadsUptoCard : Claim7 := { stood := { row := runsReadsUptoRow, standIns := [], harness := (true, "09c605506312b2e930b4861e19a5af7687546d0cfcdb3f3381a84fa70e2c1843"), looks := false }, kinds := [], alts := [], laidByText := true, laidKinds := [.data, .pinned], laidTests := true, laidLooks := .later }
def RunsReadsUptoCardSaid : Prop := Claim7.holds Tryd.pinned (.plain (OpenSpec.upto runsReadsSpec)) runsReadsUptoCard

/-- THE SECOND FORM's CARD OF 'armariumlaw11.DictReads'. -/
def dictReadsUptoCard : Claim7 := { stood := { row := dictReadsUptoRow, standIns := [], harness := (true, "09c605506312b2e930b4861e19a5af7687546d0cfcdb3f3381a84fa70e2c1843"), looks := false }, kinds := [], alts := [], laidByText := true, laidKinds := [.data, .pinned], laidTests := true, laidLooks := .later }
def DictReadsUptoCardSaid : Prop := Claim7.holds Tryd.pinned (.plain (OpenSpec.upto dictReadsSpec)) dictReadsUptoCard
end Rows
end Go.Proofs.YtihbcojmonlcgaaDoor
