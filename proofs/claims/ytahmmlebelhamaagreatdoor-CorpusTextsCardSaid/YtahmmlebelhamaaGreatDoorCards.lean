/-
  DERIVED. GIVEN WITH THE SEED: THE CARDS: each row of YtahmmlebelhamaaGreatDoorRows.lean that lists a variable, with what it lists TIED to the program's text (the seventh form; the later family's looks); each row that meets fmt, with fmt's text TOLD by the authors' own Lean function (tested against real Go, not proved from fmt's source: count such statements apart). THE CARD IS WHAT COUNTS. Prove the row's statement (the work); the ties are given (YtahmmlebelhamaaGreatDoorTie.lean); close each card by the builder's one call (the guide's Derived/Test/ToyasCard.lean, 'card_holds'). Laid BY PROGRAM, IN A SANDBOX (cutbox-door.mjs). By AI agents, Wed Nov 11 2026. No macro, syntax, notation, axiom, sorry.
-/
import Derived.Test.YtahmmlebelhamaaGreatDoorRows
import GoSem.ClaimSeven
namespace Go.Proofs.YtahmmlebelhamaaGreatDoor
namespace Rows

/-- THE TIED CARD OF 'halberdlaw28.CorpusTexts'. -/
def corpusTextsCard : Claim7 := { stood := { row := corpusTextsRow, standIns := [], harness := (true, "9cc68b9a5f6f7c94cfbf135e07e0a5dbe3994c25373f0a7f90dce60ea1aa35d3"), looks := true }, kinds := [], alts := [], laidByText := true, laidKinds := [.data, .data, .data, .data, .sentinel, .sentinel, .pinned], laidTests := true, laidLooks := .later }
def CorpusTextsCardSaid : Prop := Claim7.holds Tryz.pinned (.plain (OpenSpec.ofChange corpusTextsSpec)) corpusTextsCard

/-- THE TIED CARD OF 'halberdlaw28.CorpusAccepted'. -/
def corpusAcceptedCard : Claim7 := { stood := { row := corpusAcceptedRow, standIns := [], harness := (true, "9cc68b9a5f6f7c94cfbf135e07e0a5dbe3994c25373f0a7f90dce60ea1aa35d3"), looks := true }, kinds := [], alts := [], laidByText := true, laidKinds := [.data, .data, .data, .data, .sentinel, .sentinel, .pinned], laidTests := true, laidLooks := .later }
def CorpusAcceptedCardSaid : Prop := Claim7.holds Tryz.pinned (.plain (OpenSpec.ofChange corpusAcceptedSpec)) corpusAcceptedCard

/-- THE SECOND FORM's CARD OF 'halberdlaw28.CorpusTexts'. -/
def corpusTextsUptoCard : Claim7 := { stood := { row := corpusTextsUptoRow, standIns := [], harness := (true, "9cc68b9a5f6f7c94cfbf135e07e0a5dbe3994c25373f0a7f90dce60ea1aa35d3"), looks := true }, kinds := [], alts := [], laidByText := true, laidKinds := [.data, .data, .data, .data, .sentinel, .sentinel, .pinned], laidTests := true, laidLooks := .later }
def CorpusTextsUptoCardSaid : Prop := Claim7.holds Tryz.pinned (.plain (OpenSpec.upto corpusTextsSpec)) corpusTextsUptoCard

/-- THE SECOND FORM's CARD OF 'halberdlaw28.CorpusAccepted'. -/
def corpusAcceptedUptoCard : Claim7 := { stood := { row := corpusAcceptedUptoRow, standIns := [], harness := (true, "9cc68b9a5f6f7c94cfbf135e07e0a5dbe3994c25373f0a7f90dce60ea1aa35d3"), looks := true }, kinds := [], alts := [], laidByText := true, laidKinds := [.data, .data, .data, .data, .sentinel, .sentinel, .pinned], laidTests := true, laidLooks := .later }
def CorpusAcceptedUptoCardSaid : Prop := Claim7.holds Tryz.pinned (.plain (OpenSpec.upto corpusAcceptedSpec)) corpusAcceptedUptoCard
end Rows
end Go.Proofs.YtahmmlebelhamaaGreatDoor
