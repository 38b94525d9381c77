/-
  DERIVED. GIVEN WITH THE SEED: THE CARDS: each row of YtbhkclkahblfnaaGreatDoorRows.lean that lists a variable, with what it lists TIED to the program's text (the seventh form; the later family's looks); each row that meets fmt, with fmt's text TOLD by the authors' own Lean function (tested against real Go, not proved from fmt's source: count such statements apart). THE CARD IS WHAT COUNTS. Prove the row's statement (the work); the ties are given (YtbhkclkahblfnaaGreatDoorTie.lean); close each card by the builder's one call (the guide's Derived/Test/ToyasCard.lean, 'card_holds'). Laid BY PROGRAM, IN A SANDBOX (cutbox-door.mjs). By AI agents, Wed Nov 11 2026. No macro, syntax, notation, axiom, sorry.
-/
import Derived.Test.YtbhkclkahblfnaaGreatDoorRows
import GoSem.ClaimSeven
namespace Go.Proofs.YtbhkclkahblfnaaGreatDoor
namespace Rows

/-- THE TIED CARD OF 'fathomlaw09.ValueTexts'. -/
def valueTextsCard : Claim7 := { stood := { row := valueTextsRow, standIns := [], harness := (true, "61404b9c47a5d557fc5632c1da0521d94e966686eae8b39ea59b19ac103ef425"), looks := true }, kinds := [], alts := [], laidByText := true, laidKinds := [.data, .data, .data, .data, .sentinel, .sentinel, .pinned], laidTests := true, laidLooks := .later }
def ValueTextsCardSaid : Prop := Claim7.holds Tryz.pinned (.plain (OpenSpec.ofChange valueTextsSpec)) valueTextsCard

/-- THE TIED CARD OF 'fathomlaw09.ValueParses'. -/
def valueParsesCard : Claim7 := { stood := { row := valueParsesRow, standIns := [], harness := (true, "61404b9c47a5d557fc5632c1da0521d94e966686eae8b39ea59b19ac103ef425"), looks := true }, kinds := [], alts := [], laidByText := true, laidKinds := [.data, .data, .data, .data, .sentinel, .sentinel, .pinned], laidTests := true, laidLooks := .later }
def ValueParsesCardSaid : Prop := Claim7.holds Tryz.pinned (.plain (OpenSpec.ofChange valueParsesSpec)) valueParsesCard

/-- THE TIED CARD OF 'fathomlaw09.ValueBack'. -/
def valueBackCard : Claim7 := { stood := { row := valueBackRow, standIns := [], harness := (true, "61404b9c47a5d557fc5632c1da0521d94e966686eae8b39ea59b19ac103ef425"), looks := true }, kinds := [], alts := [], laidByText := true, laidKinds := [.data, .data, .data, .data, .sentinel, .sentinel, .pinned], laidTests := true, laidLooks := .later }
def ValueBackCardSaid : Prop := Claim7.holds Tryz.pinned (.plain (OpenSpec.ofChange valueBackSpec)) valueBackCard

/-- THE TIED CARD OF 'fathomlaw09.ValueLine'. -/
def valueLineCard : Claim7 := { stood := { row := valueLineRow, standIns := [], harness := (true, "61404b9c47a5d557fc5632c1da0521d94e966686eae8b39ea59b19ac103ef425"), looks := true }, kinds := [], alts := [], laidByText := true, laidKinds := [.data, .data, .data, .data, .sentinel, .sentinel, .pinned], laidTests := true, laidLooks := .later }
def ValueLineCardSaid : Prop := Claim7.holds Tryz.pinned (.plain (OpenSpec.ofChange valueLineSpec)) valueLineCard

/-- THE TIED CARD OF 'fathomlaw09.ValueKeep'. -/
def valueKeepCard : Claim7 := { stood := { row := valueKeepRow, standIns := [], harness := (true, "61404b9c47a5d557fc5632c1da0521d94e966686eae8b39ea59b19ac103ef425"), looks := true }, kinds := [], alts := [], laidByText := true, laidKinds := [.data, .data, .data, .data, .sentinel, .sentinel, .pinned], laidTests := true, laidLooks := .later }
def ValueKeepCardSaid : Prop := Claim7.holds Tryz.pinned (.plain (OpenSpec.ofChange valueKeepSpec)) valueKeepCard

/-- THE TIED CARD OF 'fathomlaw05.ShowLeast'. -/
def showLeastCard : Claim7 := { stood := { row := showLeastRow, standIns := [], harness := (true, "61404b9c47a5d557fc5632c1da0521d94e966686eae8b39ea59b19ac103ef425"), looks := true }, kinds := [], alts := [], laidByText := true, laidKinds := [.data, .data, .data, .data, .sentinel, .sentinel, .listed, .data, .pinned], laidTests := true, laidLooks := .later }
def ShowLeastCardSaid : Prop := Claim7.holds Tryz.pinned (.plain (OpenSpec.ofChange showLeastSpec)) showLeastCard

/-- THE TIED CARD OF 'fathomlaw04.LangParses'. -/
def langParsesCard : Claim7 := { stood := { row := langParsesRow, standIns := [], harness := (true, "61404b9c47a5d557fc5632c1da0521d94e966686eae8b39ea59b19ac103ef425"), looks := true }, kinds := [], alts := [], laidByText := true, laidKinds := [.data, .data, .data, .data, .sentinel, .sentinel, .listed, .data, .pinned], laidTests := true, laidLooks := .later }
def LangParsesCardSaid : Prop := Claim7.holds Tryz.pinned (.plain (OpenSpec.ofChange langParsesSpec)) langParsesCard

/-- THE TIED CARD OF 'fathomlaw04.LangFaults'. -/
def langFaultsCard : Claim7 := { stood := { row := langFaultsRow, standIns := [], harness := (true, "61404b9c47a5d557fc5632c1da0521d94e966686eae8b39ea59b19ac103ef425"), looks := true }, kinds := [], alts := [], laidByText := true, laidKinds := [.data, .data, .data, .data, .sentinel, .sentinel, .listed, .data, .pinned], laidTests := true, laidLooks := .later }
def LangFaultsCardSaid : Prop := Claim7.holds Tryz.pinned (.plain (OpenSpec.ofChange langFaultsSpec)) langFaultsCard

/-- THE TIED CARD OF 'fathomlaw04.LangWider'. -/
def langWiderCard : Claim7 := { stood := { row := langWiderRow, standIns := [], harness := (true, "61404b9c47a5d557fc5632c1da0521d94e966686eae8b39ea59b19ac103ef425"), looks := true }, kinds := [], alts := [], laidByText := true, laidKinds := [.data, .data, .data, .data, .sentinel, .sentinel, .listed, .data, .pinned], laidTests := true, laidLooks := .later }
def LangWiderCardSaid : Prop := Claim7.holds Tryz.pinned (.plain (OpenSpec.ofChange langWiderSpec)) langWiderCard

/-- THE SECOND FORM's CARD OF 'fathomlaw09.ValueTexts'. -/
def valueTextsUptoCard : Claim7 := { stood := { row := valueTextsUptoRow, standIns := [], harness := (true, "61404b9c47a5d557fc5632c1da0521d94e966686eae8b39ea59b19ac103ef425"), looks := true }, kinds := [], alts := [], laidByText := true, laidKinds := [.data, .data, .data, .data, .sentinel, .sentinel, .pinned], laidTests := true, laidLooks := .later }
def ValueTextsUptoCardSaid : Prop := Claim7.holds Tryz.pinned (.plain (OpenSpec.upto valueTextsSpec)) valueTextsUptoCard

/-- THE SECOND FORM's CARD OF 'fathomlaw09.ValueParses'. -/
def valueParsesUptoCard : Claim7 := { stood := { row := valueParsesUptoRow, standIns := [], harness := (true, "61404b9c47a5d557fc5632c1da0521d94e966686eae8b39ea59b19ac103ef425"), looks := true }, kinds := [], alts := [], laidByText := true, laidKinds := [.data, .data, .data, .data, .sentinel, .sentinel, .pinned], laidTests := true, laidLooks := .later }
def ValueParsesUptoCardSaid : Prop := Claim7.holds Tryz.pinned (.plain (OpenSpec.upto valueParsesSpec)) valueParsesUptoCard

/-- THE SECOND FORM's CARD OF 'fathomlaw09.ValueBack'. -/
def valueBackUptoCard : Claim7 := { stood := { row := valueBackUptoRow, standIns := [], harness := (true, "61404b9c47a5d557fc5632c1da0521d94e966686eae8b39ea59b19ac103ef425"), looks := true }, kinds := [], alts := [], laidByText := true, laidKinds := [.data, .data, .data, .data, .sentinel, .sentinel, .pinned], laidTests := true, laidLooks := .later }
def ValueBackUptoCardSaid : Prop := Claim7.holds Tryz.pinned (.plain (OpenSpec.upto valueBackSpec)) valueBackUptoCard

/-- THE SECOND FORM's CARD OF 'fathomlaw09.ValueLine'. -/
def valueLineUptoCard : Claim7 := { stood := { row := valueLineUptoRow, standIns := [], harness := (true, "61404b9c47a5d557fc5632c1da0521d94e966686eae8b39ea59b19ac103ef425"), looks := true }, kinds := [], alts := [], laidByText := true, laidKinds := [.data, .data, .data, .data, .sentinel, .sentinel, .pinned], laidTests := true, laidLooks := .later }
def ValueLineUptoCardSaid : Prop := Claim7.holds Tryz.pinned (.plain (OpenSpec.upto valueLineSpec)) valueLineUptoCard

/-- THE SECOND FORM's CARD OF 'fathomlaw09.ValueKeep'. -/
def valueKeepUptoCard : Claim7 := { stood := { row := valueKeepUptoRow, standIns := [], harness := (true, "61404b9c47a5d557fc5632c1da0521d94e966686eae8b39ea59b19ac103ef425"), looks := true }, kinds := [], alts := [], laidByText := true, laidKinds := [.data, .data, .data, .data, .sentinel, .sentinel, .pinned], laidTests := true, laidLooks := .later }
def ValueKeepUptoCardSaid : Prop := Claim7.holds Tryz.pinned (.plain (OpenSpec.upto valueKeepSpec)) valueKeepUptoCard

/-- THE SECOND FORM's CARD OF 'fathomlaw05.ShowLeast'. -/
def showLeastUptoCard : Claim7 := { stood := { row := showLeastUptoRow, standIns := [], harness := (true, "61404b9c47a5d557fc5632c1da0521d94e966686eae8b39ea59b19ac103ef425"), looks := true }, kinds := [], alts := [], laidByText := true, laidKinds := [.data, .data, .data, .data, .sentinel, .sentinel, .listed, .data, .pinned], laidTests := true, laidLooks := .later }
def ShowLeastUptoCardSaid : Prop := Claim7.holds Tryz.pinned (.plain (OpenSpec.upto showLeastSpec)) showLeastUptoCard

/-- THE SECOND FORM's CARD OF 'fathomlaw04.LangParses'. -/
def langParsesUptoCard : Claim7 := { stood := { row := langParsesUptoRow, standIns := [], harness := (true, "61404b9c47a5d557fc5632c1da0521d94e966686eae8b39ea59b19ac103ef425"), looks := true }, kinds := [], alts := [], laidByText := true, laidKinds := [.data, .data, .data, .data, .sentinel, .sentinel, .listed, .data, .pinned], laidTests := true, laidLooks := .later }
def LangParsesUptoCardSaid : Prop := Claim7.holds Tryz.pinned (.plain (OpenSpec.upto langParsesSpec)) langParsesUptoCard

/-- THE SECOND FORM's CARD OF 'fathomlaw04.LangFaults'. -/
def langFaultsUptoCard : Claim7 := { stood := { row := langFaultsUptoRow, standIns := [], harness := (true, "61404b9c47a5d557fc5632c1da0521d94e966686eae8b39ea59b19ac103ef425"), looks := true }, kinds := [], alts := [], laidByText := true, laidKinds := [.data, .data, .data, .data, .sentinel, .sentinel, .listed, .data, .pinned], laidTests := true, laidLooks := .later }
def LangFaultsUptoCardSaid : Prop := Claim7.holds Tryz.pinned (.plain (OpenSpec.upto langFaultsSpec)) langFaultsUptoCard

/-- THE SECOND FORM's CARD OF 'fathomlaw04.LangWider'. -/
def langWiderUptoCard : Claim7 := { stood := { row := langWiderUptoRow, standIns := [], harness := (true, "61404b9c47a5d557fc5632c1da0521d94e966686eae8b39ea59b19ac103ef425"), looks := true }, kinds := [], alts := [], laidByText := true, laidKinds := [.data, .data, .data, .data, .sentinel, .sentinel, .listed, .data, .pinned], laidTests := true, laidLooks := .later }
def LangWiderUptoCardSaid : Prop := Claim7.holds Tryz.pinned (.plain (OpenSpec.upto langWiderSpec)) langWiderUptoCard
end Rows
end Go.Proofs.YtbhkclkahblfnaaGreatDoor
