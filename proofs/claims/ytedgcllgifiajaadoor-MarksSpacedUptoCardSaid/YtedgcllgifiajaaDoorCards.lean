/-
  DERIVED. GIVEN WITH THE SEED: THE CARDS: each row of YtedgcllgifiajaaDoorRows.lean that lists a variable, with what it lists TIED to the program's text (the seventh form; the later family's looks); each row that meets fmt, with fmt's text TOLD by the authors' own Lean function (tested against real Go, not proved from fmt's source: count such statements apart). THE CARD IS WHAT COUNTS. Prove the row's statement (the work); the ties are given (YtedgcllgifiajaaDoorTie.lean); close each card by the builder's one call (the guide's Derived/Test/ToyasCard.lean, 'card_holds'). Laid BY PROGRAM, IN A SANDBOX (cutbox-door.mjs). By AI agents, Wed Nov 11 2026. No macro, syntax, notation, axiom, sorry.
-/
import Derived.Test.YtedgcllgifiajaaDoorRows
import GoSem.ClaimSeven
namespace Go.Proofs.YtedgcllgifiajaaDoor
namespace Rows

/-- THE TIED CARD OF 'fathomlaw03.MarksWords'. -/
def marksWordsCard : Claim7 := { stood := { row := marksWordsRow, standIns := [], harness := (true, "ab185a7d5d1870089b431079e0f6d042f477405dde82f40b41e02dcb76351804"), looks := true }, kinds := [], alts := [], laidByText := true, laidKinds := [.data, .data, .data, .data, .sentinel, .sentinel, .listed, .data, .pinned], laidTests := true, laidLooks := .later }
def MarksWordsCardSaid : Prop := Claim7.holds Tryd.pinned (.plain (OpenSpec.ofChange marksWordsSpec)) marksWordsCard

/-- THE TIED CARD OF 'fathomlaw03.MarksCover'. -/
def marksCoverCard : Claim7 := { stood := { row := marksCoverRow, standIns := [], harness := (true, "ab185a7d5d1870089b431079e0f6d042f477405dde82f40b41e02dcb76351804"), looks := true }, kinds := [], alts := [], laidByText := true, laidKinds := [.data, .data, .data, .data, .sentinel, .sentinel, .listed, .data, .pinned], laidTests := true, laidLooks := .later }
def MarksCoverCardSaid : Prop := Claim7.holds Tryd.pinned (.plain (OpenSpec.ofChange marksCoverSpec)) marksCoverCard

/-- THE TIED CARD OF 'fathomlaw03.MarksJoined'. -/
def marksJoinedCard : Claim7 := { stood := { row := marksJoinedRow, standIns := [], harness := (true, "ab185a7d5d1870089b431079e0f6d042f477405dde82f40b41e02dcb76351804"), looks := true }, kinds := [], alts := [], laidByText := true, laidKinds := [.data, .data, .data, .data, .sentinel, .sentinel, .listed, .data, .pinned], laidTests := true, laidLooks := .later }
def MarksJoinedCardSaid : Prop := Claim7.holds Tryd.pinned (.plain (OpenSpec.ofChange marksJoinedSpec)) marksJoinedCard

/-- THE TIED CARD OF 'fathomlaw03.MarksSpaced'. -/
def marksSpacedCard : Claim7 := { stood := { row := marksSpacedRow, standIns := [], harness := (true, "ab185a7d5d1870089b431079e0f6d042f477405dde82f40b41e02dcb76351804"), looks := true }, kinds := [], alts := [], laidByText := true, laidKinds := [.data, .data, .data, .data, .sentinel, .sentinel, .listed, .data, .pinned], laidTests := true, laidLooks := .later }
def MarksSpacedCardSaid : Prop := Claim7.holds Tryd.pinned (.plain (OpenSpec.ofChange marksSpacedSpec)) marksSpacedCard

/-- THE TIED CARD OF 'fathomlaw03.MarksFaults'. -/
def marksFaultsCard : Claim7 := { stood := { row := marksFaultsRow, standIns := [], harness := (true, "ab185a7d5d1870089b431079e0f6d042f477405dde82f40b41e02dcb76351804"), looks := true }, kinds := [], alts := [], laidByText := true, laidKinds := [.data, .data, .data, .data, .sentinel, .sentinel, .listed, .data, .pinned], laidTests := true, laidLooks := .later }
def MarksFaultsCardSaid : Prop := Claim7.holds Tryd.pinned (.plain (OpenSpec.ofChange marksFaultsSpec)) marksFaultsCard

/-- THE SECOND FORM's CARD OF 'fathomlaw03.MarksWords'. -/
def marksWordsUptoCard : Claim7 := { stood := { row := marksWordsUptoRow, standIns := [], harness := (true, "ab185a7d5d1870089b431079e0f6d042f477405dde82f40b41e02dcb76351804"), looks := true }, kinds := [], alts := [], laidByText := true, laidKinds := [.data, .data, .data, .data, .sentinel, .sentinel, .listed, .data, .pinned], laidTests := true, laidLooks := .later }
def MarksWordsUptoCardSaid : Prop := Claim7.holds Tryd.pinned (.plain (OpenSpec.upto marksWordsSpec)) marksWordsUptoCard

/-- THE SECOND FORM's CARD OF 'fathomlaw03.MarksCover'. -/
def marksCoverUptoCard : Claim7 := { stood := { row := marksCoverUptoRow, standIns := [], harness := (true, "ab185a7d5d1870089b431079e0f6d042f477405dde82f40b41e02dcb76351804"), looks := true }, kinds := [], alts := [], laidByText := true, laidKinds := [.data, .data, .data, .data, .sentinel, .sentinel, .listed, .data, .pinned], laidTests := true, laidLooks := .later }
def MarksCoverUptoCardSaid : Prop := Claim7.holds Tryd.pinned (.plain (OpenSpec.upto marksCoverSpec)) marksCoverUptoCard

/-- THE SECOND FORM's CARD OF 'fathomlaw03.MarksJoined'. -/
def marksJoinedUptoCard : Claim7 := { stood := { row := marksJoinedUptoRow, standIns := [], harness := (true, "ab185a7d5d1870089b431079e0f6d042f477405dde82f40b41e02dcb76351804"), looks := true }, kinds := [], alts := [], laidByText := true, laidKinds := [.data, .data, .data, .data, .sentinel, .sentinel, .listed, .data, .pinned], laidTests := true, laidLooks := .later }
def MarksJoinedUptoCardSaid : Prop := Claim7.holds Tryd.pinned (.plain (OpenSpec.upto marksJoinedSpec)) marksJoinedUptoCard

/-- THE SECOND FORM's CARD OF 'fathomlaw03.MarksSpaced'. -/
def marksSpacedUptoCard : Claim7 := { stood := { row := marksSpacedUptoRow, standIns := [], harness := (true, "ab185a7d5d1870089b431079e0f6d042f477405dde82f40b41e02dcb76351804"), looks := true }, kinds := [], alts := [], laidByText := true, laidKinds := [.data, .data, .data, .data, .sentinel, .sentinel, .listed, .data, .pinned], laidTests := true, laidLooks := .later }
def MarksSpacedUptoCardSaid : Prop := Claim7.holds Tryd.pinned (.plain (OpenSpec.upto marksSpacedSpec)) marksSpacedUptoCard

/-- THE SECOND FORM's CARD OF 'fathomlaw03.MarksFaults'. -/
def marksFaultsUptoCard : Claim7 := { stood := { row := marksFaultsUptoRow, standIns := [], harness := (true, "ab185a7d5d1870089b431079e0f6d042f477405dde82f40b41e02dcb76351804"), looks := true }, kinds := [], alts := [], laidByText := true, laidKinds := [.data, .data, .data, .data, .sentinel, .sentinel, .listed, .data, .pinned], laidTests := true, laidLooks := .later }
def MarksFaultsUptoCardSaid : Prop := Claim7.holds Tryd.pinned (.plain (OpenSpec.upto marksFaultsSpec)) marksFaultsUptoCard
end Rows
end Go.Proofs.YtedgcllgifiajaaDoor
