/-
  DERIVED. GIVEN WITH THE SEED: THE CARDS: each row of YtfnaahkgegfbnaaGreatDoorRows.lean that lists a variable, with what it lists TIED to the program's text (the seventh form; the later family's looks); each row that meets fmt, with fmt's text TOLD by the authors' own Lean function (tested against real Go, not proved from fmt's source: count such statements apart). THE CARD IS WHAT COUNTS. Prove the row's statement (the work); the ties are given (YtfnaahkgegfbnaaGreatDoorTie.lean); close each card by the builder's one call (the guide's Derived/Test/ToyasCard.lean, 'card_holds'). Laid BY PROGRAM, IN A SANDBOX (cutbox-door.mjs). By AI agents, Wed Nov 11 2026. No macro, syntax, notation, axiom, sorry.
-/
import Derived.Test.YtfnaahkgegfbnaaGreatDoorRows
import GoSem.ClaimSeven
namespace Go.Proofs.YtfnaahkgegfbnaaGreatDoor
namespace Rows

/-- THE TIED CARD OF 'sleuthlaw36.SyntaxNames'. -/
def syntaxNamesCard : Claim7 := { stood := { row := syntaxNamesRow, standIns := [], harness := (true, "1abad5bb4458264481b3d0498f758d58fc5421754bfb356a042f95fde6cb9f7e"), looks := true }, kinds := [], alts := [], laidByText := true, laidKinds := [.data, .data, .data, .sentinel, .sentinel, .listed, .data, .widerDeep, .widerDeep, .widerDeep, .widerDeep], laidTests := true, laidLooks := .later }
def SyntaxNamesCardSaid : Prop := Claim7.holds Tryz.pinned (.plain (OpenSpec.ofChange syntaxNamesSpec)) syntaxNamesCard

/-- THE TIED CARD OF 'sleuthlaw36.SyntaxParses'. -/
def syntaxParsesCard : Claim7 := { stood := { row := syntaxParsesRow, standIns := [], harness := (true, "1abad5bb4458264481b3d0498f758d58fc5421754bfb356a042f95fde6cb9f7e"), looks := true }, kinds := [], alts := [], laidByText := true, laidKinds := [.data, .data, .data, .sentinel, .sentinel, .listed, .data, .widerDeep, .widerDeep, .widerDeep, .widerDeep], laidTests := true, laidLooks := .later }
def SyntaxParsesCardSaid : Prop := Claim7.holds Tryz.pinned (.plain (OpenSpec.ofChange syntaxParsesSpec)) syntaxParsesCard

/-- THE TIED CARD OF 'sleuthlaw36.SyntaxWords'. -/
def syntaxWordsCard : Claim7 := { stood := { row := syntaxWordsRow, standIns := [], harness := (true, "1abad5bb4458264481b3d0498f758d58fc5421754bfb356a042f95fde6cb9f7e"), looks := true }, kinds := [], alts := [], laidByText := true, laidKinds := [.data, .data, .data, .sentinel, .sentinel, .listed, .data, .widerDeep, .widerDeep, .widerDeep, .widerDeep], laidTests := true, laidLooks := .later }
def SyntaxWordsCardSaid : Prop := Claim7.holds Tryz.pinned (.plain (OpenSpec.ofChange syntaxWordsSpec)) syntaxWordsCard

/-- THE TIED CARD OF 'sleuthlaw36.SyntaxSpaces'. -/
def syntaxSpacesCard : Claim7 := { stood := { row := syntaxSpacesRow, standIns := [], harness := (true, "1abad5bb4458264481b3d0498f758d58fc5421754bfb356a042f95fde6cb9f7e"), looks := true }, kinds := [], alts := [], laidByText := true, laidKinds := [.data, .data, .data, .sentinel, .sentinel, .listed, .data, .widerDeep, .widerDeep, .widerDeep, .widerDeep], laidTests := true, laidLooks := .later }
def SyntaxSpacesCardSaid : Prop := Claim7.holds Tryz.pinned (.plain (OpenSpec.ofChange syntaxSpacesSpec)) syntaxSpacesCard

/-- THE TIED CARD OF 'sleuthlaw36.SyntaxEnds'. -/
def syntaxEndsCard : Claim7 := { stood := { row := syntaxEndsRow, standIns := [], harness := (true, "1abad5bb4458264481b3d0498f758d58fc5421754bfb356a042f95fde6cb9f7e"), looks := true }, kinds := [], alts := [], laidByText := true, laidKinds := [.data, .data, .data, .sentinel, .sentinel, .listed, .data, .widerDeep, .widerDeep, .widerDeep, .widerDeep], laidTests := true, laidLooks := .later }
def SyntaxEndsCardSaid : Prop := Claim7.holds Tryz.pinned (.plain (OpenSpec.ofChange syntaxEndsSpec)) syntaxEndsCard

/-- THE TIED CARD OF 'sleuthlaw36.SyntaxPreds'. -/
def syntaxPredsCard : Claim7 := { stood := { row := syntaxPredsRow, standIns := [], harness := (true, "1abad5bb4458264481b3d0498f758d58fc5421754bfb356a042f95fde6cb9f7e"), looks := true }, kinds := [], alts := [], laidByText := true, laidKinds := [.data, .data, .data, .sentinel, .sentinel, .listed, .data, .widerDeep, .widerDeep, .widerDeep, .widerDeep], laidTests := true, laidLooks := .later }
def SyntaxPredsCardSaid : Prop := Claim7.holds Tryz.pinned (.plain (OpenSpec.ofChange syntaxPredsSpec)) syntaxPredsCard

/-- THE TIED CARD OF 'sleuthlaw36.SyntaxRaw'. -/
def syntaxRawCard : Claim7 := { stood := { row := syntaxRawRow, standIns := [], harness := (true, "1abad5bb4458264481b3d0498f758d58fc5421754bfb356a042f95fde6cb9f7e"), looks := true }, kinds := [], alts := [], laidByText := true, laidKinds := [.data, .data, .data, .sentinel, .sentinel, .listed, .data, .widerDeep, .widerDeep, .widerDeep, .widerDeep], laidTests := true, laidLooks := .later }
def SyntaxRawCardSaid : Prop := Claim7.holds Tryz.pinned (.plain (OpenSpec.ofChange syntaxRawSpec)) syntaxRawCard

/-- THE TIED CARD OF 'sleuthlaw36.SyntaxTrees'. -/
def syntaxTreesCard : Claim7 := { stood := { row := syntaxTreesRow, standIns := [], harness := (true, "1abad5bb4458264481b3d0498f758d58fc5421754bfb356a042f95fde6cb9f7e"), looks := true }, kinds := [], alts := [], laidByText := true, laidKinds := [.data, .data, .data, .sentinel, .sentinel, .listed, .data, .widerDeep, .widerDeep, .widerDeep, .widerDeep], laidTests := true, laidLooks := .later }
def SyntaxTreesCardSaid : Prop := Claim7.holds Tryz.pinned (.plain (OpenSpec.ofChange syntaxTreesSpec)) syntaxTreesCard

/-- THE TIED CARD OF 'sleuthlaw36.SyntaxQueries'. -/
def syntaxQueriesCard : Claim7 := { stood := { row := syntaxQueriesRow, standIns := [], harness := (true, "1abad5bb4458264481b3d0498f758d58fc5421754bfb356a042f95fde6cb9f7e"), looks := true }, kinds := [], alts := [], laidByText := true, laidKinds := [.data, .data, .data, .sentinel, .sentinel, .listed, .data, .widerDeep, .widerDeep, .widerDeep, .widerDeep], laidTests := true, laidLooks := .later }
def SyntaxQueriesCardSaid : Prop := Claim7.holds Tryz.pinned (.plain (OpenSpec.ofChange syntaxQueriesSpec)) syntaxQueriesCard

/-- THE TIED CARD OF 'sleuthlaw36.SyntaxChecks'. -/
def syntaxChecksCard : Claim7 := { stood := { row := syntaxChecksRow, standIns := [], harness := (true, "1abad5bb4458264481b3d0498f758d58fc5421754bfb356a042f95fde6cb9f7e"), looks := true }, kinds := [], alts := [], laidByText := true, laidKinds := [.data, .data, .data, .sentinel, .sentinel, .listed, .data, .widerDeep, .widerDeep, .widerDeep, .widerDeep], laidTests := true, laidLooks := .later }
def SyntaxChecksCardSaid : Prop := Claim7.holds Tryz.pinned (.plain (OpenSpec.ofChange syntaxChecksSpec)) syntaxChecksCard

/-- THE SECOND FORM's CARD OF 'sleuthlaw36.SyntaxNames'. -/
def syntaxNamesUptoCard : Claim7 := { stood := { row := syntaxNamesUptoRow, standIns := [], harness := (true, "1abad5bb4458264481b3d0498f758d58fc5421754bfb356a042f95fde6cb9f7e"), looks := true }, kinds := [], alts := [], laidByText := true, laidKinds := [.data, .data, .data, .sentinel, .sentinel, .listed, .data, .widerDeep, .widerDeep, .widerDeep, .widerDeep], laidTests := true, laidLooks := .later }
def SyntaxNamesUptoCardSaid : Prop := Claim7.holds Tryz.pinned (.plain (OpenSpec.upto syntaxNamesSpec)) syntaxNamesUptoCard

/-- THE SECOND FORM's CARD OF 'sleuthlaw36.SyntaxParses'. -/
def syntaxParsesUptoCard : Claim7 := { stood := { row := syntaxParsesUptoRow, standIns := [], harness := (true, "1abad5bb4458264481b3d0498f758d58fc5421754bfb356a042f95fde6cb9f7e"), looks := true }, kinds := [], alts := [], laidByText := true, laidKinds := [.data, .data, .data, .sentinel, .sentinel, .listed, .data, .widerDeep, .widerDeep, .widerDeep, .widerDeep], laidTests := true, laidLooks := .later }
def SyntaxParsesUptoCardSaid : Prop := Claim7.holds Tryz.pinned (.plain (OpenSpec.upto syntaxParsesSpec)) syntaxParsesUptoCard

/-- THE SECOND FORM's CARD OF 'sleuthlaw36.SyntaxWords'. -/
def syntaxWordsUptoCard : Claim7 := { stood := { row := syntaxWordsUptoRow, standIns := [], harness := (true, "1abad5bb4458264481b3d0498f758d58fc5421754bfb356a042f95fde6cb9f7e"), looks := true }, kinds := [], alts := [], laidByText := true, laidKinds := [.data, .data, .data, .sentinel, .sentinel, .listed, .data, .widerDeep, .widerDeep, .widerDeep, .widerDeep], laidTests := true, laidLooks := .later }
def SyntaxWordsUptoCardSaid : Prop := Claim7.holds Tryz.pinned (.plain (OpenSpec.upto syntaxWordsSpec)) syntaxWordsUptoCard

/-- THE SECOND FORM's CARD OF 'sleuthlaw36.SyntaxSpaces'. -/
def syntaxSpacesUptoCard : Claim7 := { stood := { row := syntaxSpacesUptoRow, standIns := [], harness := (true, "1abad5bb4458264481b3d0498f758d58fc5421754bfb356a042f95fde6cb9f7e"), looks := true }, kinds := [], alts := [], laidByText := true, laidKinds := [.data, .data, .data, .sentinel, .sentinel, .listed, .data, .widerDeep, .widerDeep, .widerDeep, .widerDeep], laidTests := true, laidLooks := .later }
def SyntaxSpacesUptoCardSaid : Prop := Claim7.holds Tryz.pinned (.plain (OpenSpec.upto syntaxSpacesSpec)) syntaxSpacesUptoCard

/-- THE SECOND FORM's CARD OF 'sleuthlaw36.SyntaxEnds'. -/
def syntaxEndsUptoCard : Claim7 := { stood := { row := syntaxEndsUptoRow, standIns := [], harness := (true, "1abad5bb4458264481b3d0498f758d58fc5421754bfb356a042f95fde6cb9f7e"), looks := true }, kinds := [], alts := [], laidByText := true, laidKinds := [.data, .data, .data, .sentinel, .sentinel, .listed, .data, .widerDeep, .widerDeep, .widerDeep, .widerDeep], laidTests := true, laidLooks := .later }
def SyntaxEndsUptoCardSaid : Prop := Claim7.holds Tryz.pinned (.plain (OpenSpec.upto syntaxEndsSpec)) syntaxEndsUptoCard

/-- THE SECOND FORM's CARD OF 'sleuthlaw36.SyntaxPreds'. -/
def syntaxPredsUptoCard : Claim7 := { stood := { row := syntaxPredsUptoRow, standIns := [], harness := (true, "1abad5bb4458264481b3d0498f758d58fc5421754bfb356a042f95fde6cb9f7e"), looks := true }, kinds := [], alts := [], laidByText := true, laidKinds := [.data, .data, .data, .sentinel, .sentinel, .listed, .data, .widerDeep, .widerDeep, .widerDeep, .widerDeep], laidTests := true, laidLooks := .later }
def SyntaxPredsUptoCardSaid : Prop := Claim7.holds Tryz.pinned (.plain (OpenSpec.upto syntaxPredsSpec)) syntaxPredsUptoCard

/-- THE SECOND FORM's CARD OF 'sleuthlaw36.SyntaxRaw'. -/
def syntaxRawUptoCard : Claim7 := { stood := { row := syntaxRawUptoRow, standIns := [], harness := (true, "1abad5bb4458264481b3d0498f758d58fc5421754bfb356a042f95fde6cb9f7e"), looks := true }, kinds := [], alts := [], laidByText := true, laidKinds := [.data, .data, .data, .sentinel, .sentinel, .listed, .data, .widerDeep, .widerDeep, .widerDeep, .widerDeep], laidTests := true, laidLooks := .later }
def SyntaxRawUptoCardSaid : Prop := Claim7.holds Tryz.pinned (.plain (OpenSpec.upto syntaxRawSpec)) syntaxRawUptoCard

/-- THE SECOND FORM's CARD OF 'sleuthlaw36.SyntaxTrees'. -/
def syntaxTreesUptoCard : Claim7 := { stood := { row := syntaxTreesUptoRow, standIns := [], harness := (true, "1abad5bb4458264481b3d0498f758d58fc5421754bfb356a042f95fde6cb9f7e"), looks := true }, kinds := [], alts := [], laidByText := true, laidKinds := [.data, .data, .data, .sentinel, .sentinel, .listed, .data, .widerDeep, .widerDeep, .widerDeep, .widerDeep], laidTests := true, laidLooks := .later }
def SyntaxTreesUptoCardSaid : Prop := Claim7.holds Tryz.pinned (.plain (OpenSpec.upto syntaxTreesSpec)) syntaxTreesUptoCard

/-- THE SECOND FORM's CARD OF 'sleuthlaw36.SyntaxQueries'. -/
def syntaxQueriesUptoCard : Claim7 := { stood := { row := syntaxQueriesUptoRow, standIns := [], harness := (true, "1abad5bb4458264481b3d0498f758d58fc5421754bfb356a042f95fde6cb9f7e"), looks := true }, kinds := [], alts := [], laidByText := true, laidKinds := [.data, .data, .data, .sentinel, .sentinel, .listed, .data, .widerDeep, .widerDeep, .widerDeep, .widerDeep], laidTests := true, laidLooks := .later }
def SyntaxQueriesUptoCardSaid : Prop := Claim7.holds Tryz.pinned (.plain (OpenSpec.upto syntaxQueriesSpec)) syntaxQueriesUptoCard

/-- THE SECOND FORM's CARD OF 'sleuthlaw36.SyntaxChecks'. -/
def syntaxChecksUptoCard : Claim7 := { stood := { row := syntaxChecksUptoRow, standIns := [], harness := (true, "1abad5bb4458264481b3d0498f758d58fc5421754bfb356a042f95fde6cb9f7e"), looks := true }, kinds := [], alts := [], laidByText := true, laidKinds := [.data, .data, .data, .sentinel, .sentinel, .listed, .data, .widerDeep, .widerDeep, .widerDeep, .widerDeep], laidTests := true, laidLooks := .later }
def SyntaxChecksUptoCardSaid : Prop := Claim7.holds Tryz.pinned (.plain (OpenSpec.upto syntaxChecksSpec)) syntaxChecksUptoCard
end Rows
end Go.Proofs.YtfnaahkgegfbnaaGreatDoor
