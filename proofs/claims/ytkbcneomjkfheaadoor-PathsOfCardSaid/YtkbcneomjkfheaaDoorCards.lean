/-
  DERIVED. GIVEN WITH THE SEED: THE CARDS: each row of YtkbcneomjkfheaaDoorRows.lean that lists a variable, with what it lists TIED to the program's text (the seventh form; the later family's looks); each row that meets fmt, with fmt's text TOLD by the authors' own Lean function (tested against real Go, not proved from fmt's source: count such statements apart). THE CARD IS WHAT COUNTS. Prove the row's statement (the work); the ties are given (YtkbcneomjkfheaaDoorTie.lean); close each card by the builder's one call (the guide's Derived/Test/ToyasCard.lean, 'card_holds'). Laid BY PROGRAM, IN A SANDBOX (cutbox-door.mjs). By AI agents, Wed Nov 11 2026. No macro, syntax, notation, axiom, sorry.
-/
import Derived.Test.YtkbcneomjkfheaaDoorRows
import GoSem.ClaimSeven
namespace Go.Proofs.YtkbcneomjkfheaaDoor
namespace Rows

/-- THE TIED CARD OF 'halberdlaw22.PathsMay'. -/
def pathsMayCard : Claim7 := { stood := { row := pathsMayRow, standIns := [], harness := (true, "de68986c7770b7e2d1fe086e68918cff1622d5a04165d775ff7fd3758c57a148"), looks := true }, kinds := [], alts := [], laidByText := true, laidKinds := [.data, .pinned], laidTests := true, laidLooks := .later }
def PathsMayCardSaid : Prop := Claim7.holds Tryd.pinned (.plain (OpenSpec.ofChange pathsMaySpec)) pathsMayCard

/-- THE TIED CARD OF 'halberdlaw22.PathsLinks'. -/
def pathsLinksCard : Claim7 := { stood := { row := pathsLinksRow, standIns := [], harness := (true, "de68986c7770b7e2d1fe086e68918cff1622d5a04165d775ff7fd3758c57a148"), looks := true }, kinds := [], alts := [], laidByText := true, laidKinds := [.data, .pinned], laidTests := true, laidLooks := .later }
def PathsLinksCardSaid : Prop := Claim7.holds Tryd.pinned (.plain (OpenSpec.ofChange pathsLinksSpec)) pathsLinksCard

/-- THE TIED CARD OF 'halberdlaw22.PathsOf'. -/
def pathsOfCard : Claim7 := { stood := { row := pathsOfRow, standIns := [], harness := (true, "de68986c7770b7e2d1fe086e68918cff1622d5a04165d775ff7fd3758c57a148"), looks := true }, kinds := [], alts := [], laidByText := true, laidKinds := [.data, .pinned], laidTests := true, laidLooks := .later }
def PathsOfCardSaid : Prop := Claim7.holds Tryd.pinned (.plain (OpenSpec.ofChange pathsOfSpec)) pathsOfCard

/-- THE TIED CARD OF 'halberdlaw22.PathsBack'. -/
def pathsBackCard : Claim7 := { stood := { row := pathsBackRow, standIns := [], harness := (true, "de68986c7770b7e2d1fe086e68918cff1622d5a04165d775ff7fd3758c57a148"), looks := true }, kinds := [], alts := [], laidByText := true, laidKinds := [.data, .pinned], laidTests := true, laidLooks := .later }
def PathsBackCardSaid : Prop := Claim7.holds Tryd.pinned (.plain (OpenSpec.ofChange pathsBackSpec)) pathsBackCard

/-- THE SECOND FORM's CARD OF 'halberdlaw22.PathsMay'. -/
def pathsMayUptoCard : Claim7 := { stood := { row := pathsMayUptoRow, standIns := [], harness := (true, "de68986c7770b7e2d1fe086e68918cff1622d5a04165d775ff7fd3758c57a148"), looks := true }, kinds := [], alts := [], laidByText := true, laidKinds := [.data, .pinned], laidTests := true, laidLooks := .later }
def PathsMayUptoCardSaid : Prop := Claim7.holds Tryd.pinned (.plain (OpenSpec.upto pathsMaySpec)) pathsMayUptoCard

/-- THE SECOND FORM's CARD OF 'halberdlaw22.PathsLinks'. -/
def pathsLinksUptoCard : Claim7 := { stood := { row := pathsLinksUptoRow, standIns := [], harness := (true, "de68986c7770b7e2d1fe086e68918cff1622d5a04165d775ff7fd3758c57a148"), looks := true }, kinds := [], alts := [], laidByText := true, laidKinds := [.data, .pinned], laidTests := true, laidLooks := .later }
def PathsLinksUptoCardSaid : Prop := Claim7.holds Tryd.pinned (.plain (OpenSpec.upto pathsLinksSpec)) pathsLinksUptoCard

/-- THE SECOND FORM's CARD OF 'halberdlaw22.PathsOf'. -/
def pathsOfUptoCard : Claim7 := { stood := { row := pathsOfUptoRow, standIns := [], harness := (true, "de68986c7770b7e2d1fe086e68918cff1622d5a04165d775ff7fd3758c57a148"), looks := true }, kinds := [], alts := [], laidByText := true, laidKinds := [.data, .pinned], laidTests := true, laidLooks := .later }
def PathsOfUptoCardSaid : Prop := Claim7.holds Tryd.pinned (.plain (OpenSpec.upto pathsOfSpec)) pathsOfUptoCard

/-- THE SECOND FORM's CARD OF 'halberdlaw22.PathsBack'. -/
def pathsBackUptoCard : Claim7 := { stood := { row := pathsBackUptoRow, standIns := [], harness := (true, "de68986c7770b7e2d1fe086e68918cff1622d5a04165d775ff7fd3758c57a148"), looks := true }, kinds := [], alts := [], laidByText := true, laidKinds := [.data, .pinned], laidTests := true, laidLooks := .later }
def PathsBackUptoCardSaid : Prop := Claim7.holds Tryd.pinned (.plain (OpenSpec.upto pathsBackSpec)) pathsBackUptoCard
end Rows
end Go.Proofs.YtkbcneomjkfheaaDoor
