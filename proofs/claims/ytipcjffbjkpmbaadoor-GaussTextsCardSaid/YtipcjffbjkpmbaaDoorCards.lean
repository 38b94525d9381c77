/-
  DERIVED. GIVEN WITH THE SEED: THE CARDS: each row of YtipcjffbjkpmbaaDoorRows.lean that lists a variable, with what it lists TIED to the program's text (the seventh form; the later family's looks); each row that meets fmt, with fmt's text TOLD by the authors' own Lean function (tested against real Go, not proved from fmt's source: count such statements apart). THE CARD IS WHAT COUNTS. Prove the row's statement (the work); the ties are given (YtipcjffbjkpmbaaDoorTie.lean); close each card by the builder's one call (the guide's Derived/Test/ToyasCard.lean, 'card_holds'). Laid BY PROGRAM, IN A SANDBOX (cutbox-door.mjs). By AI agents, Wed Nov 11 2026. No macro, syntax, notation, axiom, sorry.
-/
import Derived.Test.YtipcjffbjkpmbaaDoorRows
import GoSem.ClaimSeven
namespace Go.Proofs.YtipcjffbjkpmbaaDoor
namespace Rows

/-- THE TIED CARD OF 'fathomlaw01.GaussMakes'. -/
def gaussMakesCard : Claim7 := { stood := { row := gaussMakesRow, standIns := [], harness := (true, "838a5bbd192e06da64eb391c0884cf05c889ca993f3e5d091dab51481c50f825"), looks := true }, kinds := [], alts := [], laidByText := true, laidKinds := [.data, .data, .data], laidTests := true, laidLooks := .later }
def GaussMakesCardSaid : Prop := Claim7.holds Tryd.pinned (.plain (OpenSpec.ofChange gaussMakesSpec)) gaussMakesCard

/-- THE TIED CARD OF 'fathomlaw01.GaussThree'. -/
def gaussThreeCard : Claim7 := { stood := { row := gaussThreeRow, standIns := [], harness := (true, "838a5bbd192e06da64eb391c0884cf05c889ca993f3e5d091dab51481c50f825"), looks := true }, kinds := [], alts := [], laidByText := true, laidKinds := [.data, .data, .data], laidTests := true, laidLooks := .later }
def GaussThreeCardSaid : Prop := Claim7.holds Tryd.pinned (.plain (OpenSpec.ofChange gaussThreeSpec)) gaussThreeCard

/-- THE TIED CARD OF 'fathomlaw01.GaussSums'. -/
def gaussSumsCard : Claim7 := { stood := { row := gaussSumsRow, standIns := [], harness := (true, "838a5bbd192e06da64eb391c0884cf05c889ca993f3e5d091dab51481c50f825"), looks := true }, kinds := [], alts := [], laidByText := true, laidKinds := [.data, .data, .data], laidTests := true, laidLooks := .later }
def GaussSumsCardSaid : Prop := Claim7.holds Tryd.pinned (.plain (OpenSpec.ofChange gaussSumsSpec)) gaussSumsCard

/-- THE TIED CARD OF 'fathomlaw01.GaussOrder'. -/
def gaussOrderCard : Claim7 := { stood := { row := gaussOrderRow, standIns := [], harness := (true, "838a5bbd192e06da64eb391c0884cf05c889ca993f3e5d091dab51481c50f825"), looks := true }, kinds := [], alts := [], laidByText := true, laidKinds := [.data, .data, .data], laidTests := true, laidLooks := .later }
def GaussOrderCardSaid : Prop := Claim7.holds Tryd.pinned (.plain (OpenSpec.ofChange gaussOrderSpec)) gaussOrderCard

/-- THE TIED CARD OF 'fathomlaw01.GaussUnits'. -/
def gaussUnitsCard : Claim7 := { stood := { row := gaussUnitsRow, standIns := [], harness := (true, "838a5bbd192e06da64eb391c0884cf05c889ca993f3e5d091dab51481c50f825"), looks := true }, kinds := [], alts := [], laidByText := true, laidKinds := [.data, .data, .data], laidTests := true, laidLooks := .later }
def GaussUnitsCardSaid : Prop := Claim7.holds Tryd.pinned (.plain (OpenSpec.ofChange gaussUnitsSpec)) gaussUnitsCard

/-- THE TIED CARD OF 'fathomlaw01.GaussQuos'. -/
def gaussQuosCard : Claim7 := { stood := { row := gaussQuosRow, standIns := [], harness := (true, "838a5bbd192e06da64eb391c0884cf05c889ca993f3e5d091dab51481c50f825"), looks := true }, kinds := [], alts := [], laidByText := true, laidKinds := [.data, .data, .data], laidTests := true, laidLooks := .later }
def GaussQuosCardSaid : Prop := Claim7.holds Tryd.pinned (.plain (OpenSpec.ofChange gaussQuosSpec)) gaussQuosCard

/-- THE TIED CARD OF 'fathomlaw01.GaussTexts'. -/
def gaussTextsCard : Claim7 := { stood := { row := gaussTextsRow, standIns := [], harness := (true, "838a5bbd192e06da64eb391c0884cf05c889ca993f3e5d091dab51481c50f825"), looks := true }, kinds := [], alts := [], laidByText := true, laidKinds := [.data, .data, .data, .data, .sentinel, .sentinel, .pinned], laidTests := true, laidLooks := .later }
def GaussTextsCardSaid : Prop := Claim7.holds Tryd.pinned (.plain (OpenSpec.ofChange gaussTextsSpec)) gaussTextsCard

/-- THE TIED CARD OF 'fathomlaw01.GaussBack'. -/
def gaussBackCard : Claim7 := { stood := { row := gaussBackRow, standIns := [], harness := (true, "838a5bbd192e06da64eb391c0884cf05c889ca993f3e5d091dab51481c50f825"), looks := true }, kinds := [], alts := [], laidByText := true, laidKinds := [.data, .data, .data, .data, .sentinel, .sentinel, .pinned], laidTests := true, laidLooks := .later }
def GaussBackCardSaid : Prop := Claim7.holds Tryd.pinned (.plain (OpenSpec.ofChange gaussBackSpec)) gaussBackCard

/-- THE SECOND FORM's CARD OF 'fathomlaw01.GaussMakes'. -/
def gaussMakesUptoCard : Claim7 := { stood := { row := gaussMakesUptoRow, standIns := [], harness := (true, "838a5bbd192e06da64eb391c0884cf05c889ca993f3e5d091dab51481c50f825"), looks := true }, kinds := [], alts := [], laidByText := true, laidKinds := [.data, .data, .data], laidTests := true, laidLooks := .later }
def GaussMakesUptoCardSaid : Prop := Claim7.holds Tryd.pinned (.plain (OpenSpec.upto gaussMakesSpec)) gaussMakesUptoCard

/-- THE SECOND FORM's CARD OF 'fathomlaw01.GaussThree'. -/
def gaussThreeUptoCard : Claim7 := { stood := { row := gaussThreeUptoRow, standIns := [], harness := (true, "838a5bbd192e06da64eb391c0884cf05c889ca993f3e5d091dab51481c50f825"), looks := true }, kinds := [], alts := [], laidByText := true, laidKinds := [.data, .data, .data], laidTests := true, laidLooks := .later }
def GaussThreeUptoCardSaid : Prop := Claim7.holds Tryd.pinned (.plain (OpenSpec.upto gaussThreeSpec)) gaussThreeUptoCard

/-- THE SECOND FORM's CARD OF 'fathomlaw01.GaussSums'. -/
def gaussSumsUptoCard : Claim7 := { stood := { row := gaussSumsUptoRow, standIns := [], harness := (true, "838a5bbd192e06da64eb391c0884cf05c889ca993f3e5d091dab51481c50f825"), looks := true }, kinds := [], alts := [], laidByText := true, laidKinds := [.data, .data, .data], laidTests := true, laidLooks := .later }
def GaussSumsUptoCardSaid : Prop := Claim7.holds Tryd.pinned (.plain (OpenSpec.upto gaussSumsSpec)) gaussSumsUptoCard

/-- THE SECOND FORM's CARD OF 'fathomlaw01.GaussOrder'. -/
def gaussOrderUptoCard : Claim7 := { stood := { row := gaussOrderUptoRow, standIns := [], harness := (true, "838a5bbd192e06da64eb391c0884cf05c889ca993f3e5d091dab51481c50f825"), looks := true }, kinds := [], alts := [], laidByText := true, laidKinds := [.data, .data, .data], laidTests := true, laidLooks := .later }
def GaussOrderUptoCardSaid : Prop := Claim7.holds Tryd.pinned (.plain (OpenSpec.upto gaussOrderSpec)) gaussOrderUptoCard

/-- THE SECOND FORM's CARD OF 'fathomlaw01.GaussUnits'. -/
def gaussUnitsUptoCard : Claim7 := { stood := { row := gaussUnitsUptoRow, standIns := [], harness := (true, "838a5bbd192e06da64eb391c0884cf05c889ca993f3e5d091dab51481c50f825"), looks := true }, kinds := [], alts := [], laidByText := true, laidKinds := [.data, .data, .data], laidTests := true, laidLooks := .later }
def GaussUnitsUptoCardSaid : Prop := Claim7.holds Tryd.pinned (.plain (OpenSpec.upto gaussUnitsSpec)) gaussUnitsUptoCard

/-- THE SECOND FORM's CARD OF 'fathomlaw01.GaussQuos'. -/
def gaussQuosUptoCard : Claim7 := { stood := { row := gaussQuosUptoRow, standIns := [], harness := (true, "838a5bbd192e06da64eb391c0884cf05c889ca993f3e5d091dab51481c50f825"), looks := true }, kinds := [], alts := [], laidByText := true, laidKinds := [.data, .data, .data], laidTests := true, laidLooks := .later }
def GaussQuosUptoCardSaid : Prop := Claim7.holds Tryd.pinned (.plain (OpenSpec.upto gaussQuosSpec)) gaussQuosUptoCard

/-- THE SECOND FORM's CARD OF 'fathomlaw01.GaussTexts'. -/
def gaussTextsUptoCard : Claim7 := { stood := { row := gaussTextsUptoRow, standIns := [], harness := (true, "838a5bbd192e06da64eb391c0884cf05c889ca993f3e5d091dab51481c50f825"), looks := true }, kinds := [], alts := [], laidByText := true, laidKinds := [.data, .data, .data, .data, .sentinel, .sentinel, .pinned], laidTests := true, laidLooks := .later }
def GaussTextsUptoCardSaid : Prop := Claim7.holds Tryd.pinned (.plain (OpenSpec.upto gaussTextsSpec)) gaussTextsUptoCard

/-- THE SECOND FORM's CARD OF 'fathomlaw01.GaussBack'. -/
def gaussBackUptoCard : Claim7 := { stood := { row := gaussBackUptoRow, standIns := [], harness := (true, "838a5bbd192e06da64eb391c0884cf05c889ca993f3e5d091dab51481c50f825"), looks := true }, kinds := [], alts := [], laidByText := true, laidKinds := [.data, .data, .data, .data, .sentinel, .sentinel, .pinned], laidTests := true, laidLooks := .later }
def GaussBackUptoCardSaid : Prop := Claim7.holds Tryd.pinned (.plain (OpenSpec.upto gaussBackSpec)) gaussBackUptoCard
end Rows
end Go.Proofs.YtipcjffbjkpmbaaDoor
