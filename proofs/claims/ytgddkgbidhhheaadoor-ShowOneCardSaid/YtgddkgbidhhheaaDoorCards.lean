/-
  DERIVED. GIVEN WITH THE SEED: THE CARDS: each row of YtgddkgbidhhheaaDoorRows.lean that lists a variable, with what it lists TIED to the program's text (the seventh form; the later family's looks); each row that meets fmt, with fmt's text TOLD by the authors' own Lean function (tested against real Go, not proved from fmt's source: count such statements apart). THE CARD IS WHAT COUNTS. Prove the row's statement (the work); the ties are given (YtgddkgbidhhheaaDoorTie.lean); close each card by the builder's one call (the guide's Derived/Test/ToyasCard.lean, 'card_holds'). Laid BY PROGRAM, IN A SANDBOX (cutbox-door.mjs). By AI agents, Wed Nov 11 2026. No macro, syntax, notation, axiom, sorry.
-/
import Derived.Test.YtgddkgbidhhheaaDoorRows
import GoSem.ClaimSeven
namespace Go.Proofs.YtgddkgbidhhheaaDoor
namespace Rows

/-- THE TIED CARD OF 'fathomlaw05.ShowPrints'. -/
def showPrintsCard : Claim7 := { stood := { row := showPrintsRow, standIns := [], harness := (true, "f2670ae5cd5e05d189efab96ab1c39204fac09f3e2651e608fdf8fce0c344bf1"), looks := true }, kinds := [], alts := [], laidByText := true, laidKinds := [.data, .data, .data], laidTests := true, laidLooks := .later }
def ShowPrintsCardSaid : Prop := Claim7.holds Tryd.pinned (.plain (OpenSpec.ofChange showPrintsSpec)) showPrintsCard

/-- THE TIED CARD OF 'fathomlaw05.ShowOne'. -/
def showOneCard : Claim7 := { stood := { row := showOneRow, standIns := [], harness := (true, "f2670ae5cd5e05d189efab96ab1c39204fac09f3e2651e608fdf8fce0c344bf1"), looks := true }, kinds := [], alts := [], laidByText := true, laidKinds := [.data, .data, .data], laidTests := true, laidLooks := .later }
def ShowOneCardSaid : Prop := Claim7.holds Tryd.pinned (.plain (OpenSpec.ofChange showOneSpec)) showOneCard

/-- THE TIED CARD OF 'fathomlaw05.ShowKeep'. -/
def showKeepCard : Claim7 := { stood := { row := showKeepRow, standIns := [], harness := (true, "f2670ae5cd5e05d189efab96ab1c39204fac09f3e2651e608fdf8fce0c344bf1"), looks := true }, kinds := [], alts := [], laidByText := true, laidKinds := [.data, .data, .data], laidTests := true, laidLooks := .later }
def ShowKeepCardSaid : Prop := Claim7.holds Tryd.pinned (.plain (OpenSpec.ofChange showKeepSpec)) showKeepCard

/-- THE SECOND FORM's CARD OF 'fathomlaw05.ShowPrints'. -/
def showPrintsUptoCard : Claim7 := { stood := { row := showPrintsUptoRow, standIns := [], harness := (true, "f2670ae5cd5e05d189efab96ab1c39204fac09f3e2651e608fdf8fce0c344bf1"), looks := true }, kinds := [], alts := [], laidByText := true, laidKinds := [.data, .data, .data], laidTests := true, laidLooks := .later }
def ShowPrintsUptoCardSaid : Prop := Claim7.holds Tryd.pinned (.plain (OpenSpec.upto showPrintsSpec)) showPrintsUptoCard

/-- THE SECOND FORM's CARD OF 'fathomlaw05.ShowOne'. -/
def showOneUptoCard : Claim7 := { stood := { row := showOneUptoRow, standIns := [], harness := (true, "f2670ae5cd5e05d189efab96ab1c39204fac09f3e2651e608fdf8fce0c344bf1"), looks := true }, kinds := [], alts := [], laidByText := true, laidKinds := [.data, .data, .data], laidTests := true, laidLooks := .later }
def ShowOneUptoCardSaid : Prop := Claim7.holds Tryd.pinned (.plain (OpenSpec.upto showOneSpec)) showOneUptoCard

/-- THE SECOND FORM's CARD OF 'fathomlaw05.ShowKeep'. -/
def showKeepUptoCard : Claim7 := { stood := { row := showKeepUptoRow, standIns := [], harness := (true, "f2670ae5cd5e05d189efab96ab1c39204fac09f3e2651e608fdf8fce0c344bf1"), looks := true }, kinds := [], alts := [], laidByText := true, laidKinds := [.data, .data, .data], laidTests := true, laidLooks := .later }
def ShowKeepUptoCardSaid : Prop := Claim7.holds Tryd.pinned (.plain (OpenSpec.upto showKeepSpec)) showKeepUptoCard
end Rows
end Go.Proofs.YtgddkgbidhhheaaDoor
