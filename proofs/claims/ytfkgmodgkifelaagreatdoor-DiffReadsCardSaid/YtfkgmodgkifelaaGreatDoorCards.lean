/-
  DERIVED. GIVEN WITH THE SEED: THE CARDS: each row of YtfkgmodgkifelaaGreatDoorRows.lean that lists a variable, with what it lists TIED to the program's text (the seventh form; the later family's looks); each row that meets fmt, with fmt's text TOLD by the authors' own Lean function (tested against real Go, not proved from fmt's source: count such statements apart). THE CARD IS WHAT COUNTS. Prove the row's statement (the work); the ties are given (YtfkgmodgkifelaaGreatDoorTie.lean); close each card by the builder's one call (the guide's Derived/Test/ToyasCard.lean, 'card_holds'). Laid BY PROGRAM, IN A SANDBOX (cutbox-door.mjs). By AI agents, Wed Nov 11 2026. No macro, syntax, notation, axiom, sorry.
-/
import Derived.Test.YtfkgmodgkifelaaGreatDoorRows
import GoSem.ClaimSeven
namespace Go.Proofs.YtfkgmodgkifelaaGreatDoor
namespace Rows

/-- THE TIED CARD OF 'armariumlaw12.ColumnReads'. -/
def columnReadsCard : Claim7 := { stood := { row := columnReadsRow, standIns := [], harness := (true, "96f0bff4992445d0f550f12202d23730075f6c01b2cfb2d9f2846ce5535ca3ee"), looks := false }, kinds := [], alts := [], laidByText := true, laidKinds := [.data, .pinned], laidTests := true, laidLooks := .later }
def ColumnReadsCardSaid : Prop := Claim7.holds Tryz.pinned (.plain (OpenSpec.ofChange columnReadsSpec)) columnReadsCard

/-- THE TIED CARD OF 'armariumlaw21.DiffReads'. -/
def diffReadsCard : Claim7 := { stood := { row := diffReadsRow, standIns := [], harness := (true, "96f0bff4992445d0f550f12202d23730075f6c01b2cfb2d9f2846ce5535ca3ee"), looks := false }, kinds := [], alts := [], laidByText := true, laidKinds := [.data, .pinned], laidTests := true, laidLooks := .later }
def DiffReadsCardSaid : Prop := Claim7.holds Tryz.pinned (.plain (OpenSpec.ofChange diffReadsSpec)) diffReadsCard

/-- THE SECOND FORM's CARD OF 'armariumlaw12.ColumnReads'. -/
def columnReadsUptoCard : Claim7 := { stood := { row := columnReadsUptoRow, standIns := [], harness := (true, "96f0bff4992445d0f550f12202d23730075f6c01b2cfb2d9f2846ce5535ca3ee"), looks := false }, kinds := [], alts := [], laidByText := true, laidKinds := [.data, .pinned], laidTests := true, laidLooks := .later }
def ColumnReadsUptoCardSaid : Prop := Claim7.holds Tryz.pinned (.plain (OpenSpec.upto columnReadsSpec)) columnReadsUptoCard

/-- THE SECOND FORM's CARD OF 'armariumlaw21.DiffReads'. -/
def diffReadsUptoCard : Claim7 := { stood := { row := diffReadsUptoRow, standIns := [], harness := (true, "96f0bff4992445d0f550f12202d23730075f6c01b2cfb2d9f2846ce5535ca3ee"), looks := false }, kinds := [], alts := [], laidByText := true, laidKinds := [.data, .pinned], laidTests := true, laidLooks := .later }
def DiffReadsUptoCardSaid : Prop := Claim7.holds Tryz.pinned (.plain (OpenSpec.upto diffReadsSpec)) diffReadsUptoCard
end Rows
end Go.Proofs.YtfkgmodgkifelaaGreatDoor
