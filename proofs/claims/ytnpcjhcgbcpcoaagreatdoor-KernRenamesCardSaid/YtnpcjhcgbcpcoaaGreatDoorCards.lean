/-
  DERIVED. GIVEN WITH THE SEED: THE CARDS: each row of YtnpcjhcgbcpcoaaGreatDoorRows.lean that lists a variable, with what it lists TIED to the program's text (the seventh form; the later family's looks); each row that meets fmt, with fmt's text TOLD by the authors' own Lean function (tested against real Go, not proved from fmt's source: count such statements apart). THE CARD IS WHAT COUNTS. Prove the row's statement (the work); the ties are given (YtnpcjhcgbcpcoaaGreatDoorTie.lean); close each card by the builder's one call (the guide's Derived/Test/ToyasCard.lean, 'card_holds'). Laid BY PROGRAM, IN A SANDBOX (cutbox-door.mjs). By AI agents, Wed Nov 11 2026. No macro, syntax, notation, axiom, sorry.
-/
import Derived.Test.YtnpcjhcgbcpcoaaGreatDoorRows
import GoSem.ClaimSeven
namespace Go.Proofs.YtnpcjhcgbcpcoaaGreatDoor
namespace Rows

/-- THE TIED CARD OF 'halberdlaw25.KernRenames'. -/
def kernRenamesCard : Claim7 := { stood := { row := kernRenamesRow, standIns := [], harness := (true, "1525fb98dd080b94fc9e7ffbb63d7de60642e99799163f48b196465642041270"), looks := true }, kinds := [], alts := [], laidByText := true, laidKinds := [.data, .data, .data, .data, .pinned], laidTests := true, laidLooks := .later }
def KernRenamesCardSaid : Prop := Claim7.holds Tryz.pinned (.plain (OpenSpec.ofChange kernRenamesSpec)) kernRenamesCard

/-- THE TIED CARD OF 'halberdlaw25.KernLinks'. -/
def kernLinksCard : Claim7 := { stood := { row := kernLinksRow, standIns := [], harness := (true, "1525fb98dd080b94fc9e7ffbb63d7de60642e99799163f48b196465642041270"), looks := true }, kinds := [], alts := [], laidByText := true, laidKinds := [.data, .data, .data, .data, .pinned], laidTests := true, laidLooks := .later }
def KernLinksCardSaid : Prop := Claim7.holds Tryz.pinned (.plain (OpenSpec.ofChange kernLinksSpec)) kernLinksCard

/-- THE TIED CARD OF 'halberdlaw25.KernSignals'. -/
def kernSignalsCard : Claim7 := { stood := { row := kernSignalsRow, standIns := [], harness := (true, "1525fb98dd080b94fc9e7ffbb63d7de60642e99799163f48b196465642041270"), looks := true }, kinds := [], alts := [], laidByText := true, laidKinds := [.data, .data, .data, .data, .pinned], laidTests := true, laidLooks := .later }
def KernSignalsCardSaid : Prop := Claim7.holds Tryz.pinned (.plain (OpenSpec.ofChange kernSignalsSpec)) kernSignalsCard

/-- THE SECOND FORM's CARD OF 'halberdlaw25.KernRenames'. -/
def kernRenamesUptoCard : Claim7 := { stood := { row := kernRenamesUptoRow, standIns := [], harness := (true, "1525fb98dd080b94fc9e7ffbb63d7de60642e99799163f48b196465642041270"), looks := true }, kinds := [], alts := [], laidByText := true, laidKinds := [.data, .data, .data, .data, .pinned], laidTests := true, laidLooks := .later }
def KernRenamesUptoCardSaid : Prop := Claim7.holds Tryz.pinned (.plain (OpenSpec.upto kernRenamesSpec)) kernRenamesUptoCard

/-- THE SECOND FORM's CARD OF 'halberdlaw25.KernLinks'. -/
def kernLinksUptoCard : Claim7 := { stood := { row := kernLinksUptoRow, standIns := [], harness := (true, "1525fb98dd080b94fc9e7ffbb63d7de60642e99799163f48b196465642041270"), looks := true }, kinds := [], alts := [], laidByText := true, laidKinds := [.data, .data, .data, .data, .pinned], laidTests := true, laidLooks := .later }
def KernLinksUptoCardSaid : Prop := Claim7.holds Tryz.pinned (.plain (OpenSpec.upto kernLinksSpec)) kernLinksUptoCard

/-- THE SECOND FORM's CARD OF 'halberdlaw25.KernSignals'. -/
def kernSignalsUptoCard : Claim7 := { stood := { row := kernSignalsUptoRow, standIns := [], harness := (true, "1525fb98dd080b94fc9e7ffbb63d7de60642e99799163f48b196465642041270"), looks := true }, kinds := [], alts := [], laidByText := true, laidKinds := [.data, .data, .data, .data, .pinned], laidTests := true, laidLooks := .later }
def KernSignalsUptoCardSaid : Prop := Claim7.holds Tryz.pinned (.plain (OpenSpec.upto kernSignalsSpec)) kernSignalsUptoCard
end Rows
end Go.Proofs.YtnpcjhcgbcpcoaaGreatDoor
