/-
  DERIVED. GIVEN WITH THE SEED: THE CARDS: each row of YtgddkgbidhhheaaGreatDoorRows.lean that lists a variable, with what it lists TIED to the program's text (the seventh form; the later family's looks); each row that meets fmt, with fmt's text TOLD by the authors' own Lean function (tested against real Go, not proved from fmt's source: count such statements apart). THE CARD IS WHAT COUNTS. Prove the row's statement (the work); the ties are given (YtgddkgbidhhheaaGreatDoorTie.lean); close each card by the builder's one call (the guide's Derived/Test/ToyasCard.lean, 'card_holds'). Laid BY PROGRAM, IN A SANDBOX (cutbox-door.mjs). By AI agents, Wed Nov 11 2026. No macro, syntax, notation, axiom, sorry.
-/
import Derived.Test.YtgddkgbidhhheaaGreatDoorRows
import GoSem.ClaimSeven
namespace Go.Proofs.YtgddkgbidhhheaaGreatDoor
namespace Rows

/-- THE TIED CARD OF 'fathomlaw05.ShowLeast'. -/
def showLeastCard : Claim7 := { stood := { row := showLeastRow, standIns := [], harness := (true, "b42192d535cddff9a9135e5a2e25949f4dc8aac1810210101f057c0d1b7ce8d7"), looks := true }, kinds := [], alts := [], laidByText := true, laidKinds := [.data, .data, .data, .data, .sentinel, .sentinel, .listed, .data, .pinned], laidTests := true, laidLooks := .later }
def ShowLeastCardSaid : Prop := Claim7.holds Tryz.pinned (.plain (OpenSpec.ofChange showLeastSpec)) showLeastCard

/-- THE TIED CARD OF 'fathomlaw04.LangParses'. -/
def langParsesCard : Claim7 := { stood := { row := langParsesRow, standIns := [], harness := (true, "b42192d535cddff9a9135e5a2e25949f4dc8aac1810210101f057c0d1b7ce8d7"), looks := true }, kinds := [], alts := [], laidByText := true, laidKinds := [.data, .data, .data, .data, .sentinel, .sentinel, .listed, .data, .pinned], laidTests := true, laidLooks := .later }
def LangParsesCardSaid : Prop := Claim7.holds Tryz.pinned (.plain (OpenSpec.ofChange langParsesSpec)) langParsesCard

/-- THE TIED CARD OF 'fathomlaw04.LangFaults'. -/
def langFaultsCard : Claim7 := { stood := { row := langFaultsRow, standIns := [], harness := (true, "b42192d535cddff9a9135e5a2e25949f4dc8aac1810210101f057c0d1b7ce8d7"), looks := true }, kinds := [], alts := [], laidByText := true, laidKinds := [.data, .data, .data, .data, .sentinel, .sentinel, .listed, .data, .pinned], laidTests := true, laidLooks := .later }
def LangFaultsCardSaid : Prop := Claim7.holds Tryz.pinned (.plain (OpenSpec.ofChange langFaultsSpec)) langFaultsCard

/-- THE TIED CARD OF 'fathomlaw04.LangWider'. -/
def langWiderCard : Claim7 := { stood := { row := langWiderRow, standIns := [], harness := (true, "b42192d535cddff9a9135e5a2e25949f4dc8aac1810210101f057c0d1b7ce8d7"), looks := true }, kinds := [], alts := [], laidByText := true, laidKinds := [.data, .data, .data, .data, .sentinel, .sentinel, .listed, .data, .pinned], laidTests := true, laidLooks := .later }
def LangWiderCardSaid : Prop := Claim7.holds Tryz.pinned (.plain (OpenSpec.ofChange langWiderSpec)) langWiderCard

/-- THE TIED CARD OF 'fathomlaw04.LangSpaced'. -/
def langSpacedCard : Claim7 := { stood := { row := langSpacedRow, standIns := [], harness := (true, "b42192d535cddff9a9135e5a2e25949f4dc8aac1810210101f057c0d1b7ce8d7"), looks := true }, kinds := [], alts := [], laidByText := true, laidKinds := [.data, .data, .data, .data, .sentinel, .sentinel, .listed, .data, .pinned], laidTests := true, laidLooks := .later }
def LangSpacedCardSaid : Prop := Claim7.holds Tryz.pinned (.plain (OpenSpec.ofChange langSpacedSpec)) langSpacedCard

/-- THE TIED CARD OF 'fathomlaw04.LangJoined'. -/
def langJoinedCard : Claim7 := { stood := { row := langJoinedRow, standIns := [], harness := (true, "b42192d535cddff9a9135e5a2e25949f4dc8aac1810210101f057c0d1b7ce8d7"), looks := true }, kinds := [], alts := [], laidByText := true, laidKinds := [.data, .data, .data, .data, .sentinel, .sentinel, .listed, .data, .pinned], laidTests := true, laidLooks := .later }
def LangJoinedCardSaid : Prop := Claim7.holds Tryz.pinned (.plain (OpenSpec.ofChange langJoinedSpec)) langJoinedCard

/-- THE TIED CARD OF 'fathomlaw04.LangBracketed'. -/
def langBracketedCard : Claim7 := { stood := { row := langBracketedRow, standIns := [], harness := (true, "b42192d535cddff9a9135e5a2e25949f4dc8aac1810210101f057c0d1b7ce8d7"), looks := true }, kinds := [], alts := [], laidByText := true, laidKinds := [.data, .data, .data, .data, .sentinel, .sentinel, .listed, .data, .pinned], laidTests := true, laidLooks := .later }
def LangBracketedCardSaid : Prop := Claim7.holds Tryz.pinned (.plain (OpenSpec.ofChange langBracketedSpec)) langBracketedCard

/-- THE TIED CARD OF 'fathomlaw04.LangKeep'. -/
def langKeepCard : Claim7 := { stood := { row := langKeepRow, standIns := [], harness := (true, "b42192d535cddff9a9135e5a2e25949f4dc8aac1810210101f057c0d1b7ce8d7"), looks := true }, kinds := [], alts := [], laidByText := true, laidKinds := [.data, .data, .data, .data, .sentinel, .sentinel, .listed, .data, .pinned], laidTests := true, laidLooks := .later }
def LangKeepCardSaid : Prop := Claim7.holds Tryz.pinned (.plain (OpenSpec.ofChange langKeepSpec)) langKeepCard

/-- THE TIED CARD OF 'fathomlaw05.ShowBack'. -/
def showBackCard : Claim7 := { stood := { row := showBackRow, standIns := [], harness := (true, "b42192d535cddff9a9135e5a2e25949f4dc8aac1810210101f057c0d1b7ce8d7"), looks := true }, kinds := [], alts := [], laidByText := true, laidKinds := [.data, .data, .data, .data, .sentinel, .sentinel, .listed, .data, .pinned], laidTests := true, laidLooks := .later }
def ShowBackCardSaid : Prop := Claim7.holds Tryz.pinned (.plain (OpenSpec.ofChange showBackSpec)) showBackCard

/-- THE SECOND FORM's CARD OF 'fathomlaw05.ShowLeast'. -/
def showLeastUptoCard : Claim7 := { stood := { row := showLeastUptoRow, standIns := [], harness := (true, "b42192d535cddff9a9135e5a2e25949f4dc8aac1810210101f057c0d1b7ce8d7"), looks := true }, kinds := [], alts := [], laidByText := true, laidKinds := [.data, .data, .data, .data, .sentinel, .sentinel, .listed, .data, .pinned], laidTests := true, laidLooks := .later }
def ShowLeastUptoCardSaid : Prop := Claim7.holds Tryz.pinned (.plain (OpenSpec.upto showLeastSpec)) showLeastUptoCard

/-- THE SECOND FORM's CARD OF 'fathomlaw04.LangParses'. -/
def langParsesUptoCard : Claim7 := { stood := { row := langParsesUptoRow, standIns := [], harness := (true, "b42192d535cddff9a9135e5a2e25949f4dc8aac1810210101f057c0d1b7ce8d7"), looks := true }, kinds := [], alts := [], laidByText := true, laidKinds := [.data, .data, .data, .data, .sentinel, .sentinel, .listed, .data, .pinned], laidTests := true, laidLooks := .later }
def LangParsesUptoCardSaid : Prop := Claim7.holds Tryz.pinned (.plain (OpenSpec.upto langParsesSpec)) langParsesUptoCard

/-- THE SECOND FORM's CARD OF 'fathomlaw04.LangFaults'. -/
def langFaultsUptoCard : Claim7 := { stood := { row := langFaultsUptoRow, standIns := [], harness := (true, "b42192d535cddff9a9135e5a2e25949f4dc8aac1810210101f057c0d1b7ce8d7"), looks := true }, kinds := [], alts := [], laidByText := true, laidKinds := [.data, .data, .data, .data, .sentinel, .sentinel, .listed, .data, .pinned], laidTests := true, laidLooks := .later }
def LangFaultsUptoCardSaid : Prop := Claim7.holds Tryz.pinned (.plain (OpenSpec.upto langFaultsSpec)) langFaultsUptoCard

/-- THE SECOND FORM's CARD OF 'fathomlaw04.LangWider'. -/
def langWiderUptoCard : Claim7 := { stood := { row := langWiderUptoRow, standIns := [], harness := (true, "b42192d535cddff9a9135e5a2e25949f4dc8aac1810210101f057c0d1b7ce8d7"), looks := true }, kinds := [], alts := [], laidByText := true, laidKinds := [.data, .data, .data, .data, .sentinel, .sentinel, .listed, .data, .pinned], laidTests := true, laidLooks := .later }
def LangWiderUptoCardSaid : Prop := Claim7.holds Tryz.pinned (.plain (OpenSpec.upto langWiderSpec)) langWiderUptoCard

/-- THE SECOND FORM's CARD OF 'fathomlaw04.LangSpaced'. -/
def langSpacedUptoCard : Claim7 := { stood := { row := langSpacedUptoRow, standIns := [], harness := (true, "b42192d535cddff9a9135e5a2e25949f4dc8aac1810210101f057c0d1b7ce8d7"), looks := true }, kinds := [], alts := [], laidByText := true, laidKinds := [.data, .data, .data, .data, .sentinel, .sentinel, .listed, .data, .pinned], laidTests := true, laidLooks := .later }
def LangSpacedUptoCardSaid : Prop := Claim7.holds Tryz.pinned (.plain (OpenSpec.upto langSpacedSpec)) langSpacedUptoCard

/-- THE SECOND FORM's CARD OF 'fathomlaw04.LangJoined'. -/
def langJoinedUptoCard : Claim7 := { stood := { row := langJoinedUptoRow, standIns := [], harness := (true, "b42192d535cddff9a9135e5a2e25949f4dc8aac1810210101f057c0d1b7ce8d7"), looks := true }, kinds := [], alts := [], laidByText := true, laidKinds := [.data, .data, .data, .data, .sentinel, .sentinel, .listed, .data, .pinned], laidTests := true, laidLooks := .later }
def LangJoinedUptoCardSaid : Prop := Claim7.holds Tryz.pinned (.plain (OpenSpec.upto langJoinedSpec)) langJoinedUptoCard

/-- THE SECOND FORM's CARD OF 'fathomlaw04.LangBracketed'. -/
def langBracketedUptoCard : Claim7 := { stood := { row := langBracketedUptoRow, standIns := [], harness := (true, "b42192d535cddff9a9135e5a2e25949f4dc8aac1810210101f057c0d1b7ce8d7"), looks := true }, kinds := [], alts := [], laidByText := true, laidKinds := [.data, .data, .data, .data, .sentinel, .sentinel, .listed, .data, .pinned], laidTests := true, laidLooks := .later }
def LangBracketedUptoCardSaid : Prop := Claim7.holds Tryz.pinned (.plain (OpenSpec.upto langBracketedSpec)) langBracketedUptoCard

/-- THE SECOND FORM's CARD OF 'fathomlaw04.LangKeep'. -/
def langKeepUptoCard : Claim7 := { stood := { row := langKeepUptoRow, standIns := [], harness := (true, "b42192d535cddff9a9135e5a2e25949f4dc8aac1810210101f057c0d1b7ce8d7"), looks := true }, kinds := [], alts := [], laidByText := true, laidKinds := [.data, .data, .data, .data, .sentinel, .sentinel, .listed, .data, .pinned], laidTests := true, laidLooks := .later }
def LangKeepUptoCardSaid : Prop := Claim7.holds Tryz.pinned (.plain (OpenSpec.upto langKeepSpec)) langKeepUptoCard

/-- THE SECOND FORM's CARD OF 'fathomlaw05.ShowBack'. -/
def showBackUptoCard : Claim7 := { stood := { row := showBackUptoRow, standIns := [], harness := (true, "b42192d535cddff9a9135e5a2e25949f4dc8aac1810210101f057c0d1b7ce8d7"), looks := true }, kinds := [], alts := [], laidByText := true, laidKinds := [.data, .data, .data, .data, .sentinel, .sentinel, .listed, .data, .pinned], laidTests := true, laidLooks := .later }
def ShowBackUptoCardSaid : Prop := Claim7.holds Tryz.pinned (.plain (OpenSpec.upto showBackSpec)) showBackUptoCard
end Rows
end Go.Proofs.YtgddkgbidhhheaaGreatDoor
