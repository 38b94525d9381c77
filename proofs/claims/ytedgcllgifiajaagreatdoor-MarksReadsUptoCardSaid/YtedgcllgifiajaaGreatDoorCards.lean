/-
  DERIVED. GIVEN WITH THE SEED: THE CARDS: each row of YtedgcllgifiajaaGreatDoorRows.lean that lists a variable, with what it lists TIED to the program's text (the seventh form; the later family's looks); each row that meets fmt, with fmt's text TOLD by the authors' own Lean function (tested against real Go, not proved from fmt's source: count such statements apart). THE CARD IS WHAT COUNTS. Prove the row's statement (the work); the ties are given (YtedgcllgifiajaaGreatDoorTie.lean); close each card by the builder's one call (the guide's Derived/Test/ToyasCard.lean, 'card_holds'). Laid BY PROGRAM, IN A SANDBOX (cutbox-door.mjs). By AI agents, Wed Nov 11 2026. No macro, syntax, notation, axiom, sorry.
-/
import Derived.Test.YtedgcllgifiajaaGreatDoorRows
import GoSem.ClaimSeven
namespace Go.Proofs.YtedgcllgifiajaaGreatDoor
namespace Rows

/-- THE TIED CARD OF 'fathomlaw03.MarksReads'. -/
def marksReadsCard : Claim7 := { stood := { row := marksReadsRow, standIns := [], harness := (true, "01530e0304641a5a64f7dab8484fb080b85f9c343db421e6a943d7968f75a97e"), looks := true }, kinds := [], alts := [], laidByText := true, laidKinds := [.data, .data, .data, .data, .sentinel, .sentinel, .listed, .data, .pinned], laidTests := true, laidLooks := .later }
def MarksReadsCardSaid : Prop := Claim7.holds Tryz.pinned (.plain (OpenSpec.ofChange marksReadsSpec)) marksReadsCard

/-- THE TIED CARD OF 'fathomlaw03.MarksKeep'. -/
def marksKeepCard : Claim7 := { stood := { row := marksKeepRow, standIns := [], harness := (true, "01530e0304641a5a64f7dab8484fb080b85f9c343db421e6a943d7968f75a97e"), looks := true }, kinds := [], alts := [], laidByText := true, laidKinds := [.data, .data, .data, .data, .sentinel, .sentinel, .listed, .data, .pinned], laidTests := true, laidLooks := .later }
def MarksKeepCardSaid : Prop := Claim7.holds Tryz.pinned (.plain (OpenSpec.ofChange marksKeepSpec)) marksKeepCard

/-- THE SECOND FORM's CARD OF 'fathomlaw03.MarksReads'. -/
def marksReadsUptoCard : Claim7 := { stood := { row := marksReadsUptoRow, standIns := [], harness := (true, "01530e0304641a5a64f7dab8484fb080b85f9c343db421e6a943d7968f75a97e"), looks := true }, kinds := [], alts := [], laidByText := true, laidKinds := [.data, .data, .data, .data, .sentinel, .sentinel, .listed, .data, .pinned], laidTests := true, laidLooks := .later }
def MarksReadsUptoCardSaid : Prop := Claim7.holds Tryz.pinned (.plain (OpenSpec.upto marksReadsSpec)) marksReadsUptoCard

/-- THE SECOND FORM's CARD OF 'fathomlaw03.MarksKeep'. -/
def marksKeepUptoCard : Claim7 := { stood := { row := marksKeepUptoRow, standIns := [], harness := (true, "01530e0304641a5a64f7dab8484fb080b85f9c343db421e6a943d7968f75a97e"), looks := true }, kinds := [], alts := [], laidByText := true, laidKinds := [.data, .data, .data, .data, .sentinel, .sentinel, .listed, .data, .pinned], laidTests := true, laidLooks := .later }
def MarksKeepUptoCardSaid : Prop := Claim7.holds Tryz.pinned (.plain (OpenSpec.upto marksKeepSpec)) marksKeepUptoCard
end Rows
end Go.Proofs.YtedgcllgifiajaaGreatDoor
