/-
  DERIVED. GIVEN WITH THE SEED: THE CARDS: each row of YtjafpcagfgklgaaGreatDoorRows.lean that lists a variable, with what it lists TIED to the program's text (the seventh form; the later family's looks); each row that meets fmt, with fmt's text TOLD by the authors' own Lean function (tested against real Go, not proved from fmt's source: count such statements apart). THE CARD IS WHAT COUNTS. Prove the row's statement (the work); the ties are given (YtjafpcagfgklgaaGreatDoorTie.lean); close each card by the builder's one call (the guide's Derived/Test/ToyasCard.lean, 'card_holds'). Laid BY PROGRAM, IN A SANDBOX (cutbox-door.mjs). By AI agents, Wed Nov 11 2026. No macro, syntax, notation, axiom, sorry.
-/
import Derived.Test.YtjafpcagfgklgaaGreatDoorRows
import GoSem.ClaimSeven
namespace Go.Proofs.YtjafpcagfgklgaaGreatDoor
namespace Rows

/-- THE TIED CARD OF 'halberdlaw20.VerifyRange'. -/
def verifyRangeCard : Claim7 := { stood := { row := verifyRangeRow, standIns := [], harness := (true, "3e42c47d7acf9f6f83ca6553e6201841d944df0395046bfce38e433dd2009f87"), looks := true }, kinds := [], alts := [], laidByText := true, laidKinds := [.data, .data, .data, .data, .sentinel, .sentinel, .pinned], laidTests := true, laidLooks := .later }
def VerifyRangeCardSaid : Prop := Claim7.holds Tryz.pinned (.plain (OpenSpec.ofChange verifyRangeSpec)) verifyRangeCard

/-- THE TIED CARD OF 'halberdlaw20.VerifyStack'. -/
def verifyStackCard : Claim7 := { stood := { row := verifyStackRow, standIns := [], harness := (true, "3e42c47d7acf9f6f83ca6553e6201841d944df0395046bfce38e433dd2009f87"), looks := true }, kinds := [], alts := [], laidByText := true, laidKinds := [.data, .data, .data, .data, .sentinel, .sentinel, .pinned], laidTests := true, laidLooks := .later }
def VerifyStackCardSaid : Prop := Claim7.holds Tryz.pinned (.plain (OpenSpec.ofChange verifyStackSpec)) verifyStackCard

/-- THE TIED CARD OF 'halberdlaw20.VerifyFields'. -/
def verifyFieldsCard : Claim7 := { stood := { row := verifyFieldsRow, standIns := [], harness := (true, "3e42c47d7acf9f6f83ca6553e6201841d944df0395046bfce38e433dd2009f87"), looks := true }, kinds := [], alts := [], laidByText := true, laidKinds := [.data, .data, .data, .data, .sentinel, .sentinel, .pinned], laidTests := true, laidLooks := .later }
def VerifyFieldsCardSaid : Prop := Claim7.holds Tryz.pinned (.plain (OpenSpec.ofChange verifyFieldsSpec)) verifyFieldsCard

/-- THE TIED CARD OF 'halberdlaw20.VerifyRegs'. -/
def verifyRegsCard : Claim7 := { stood := { row := verifyRegsRow, standIns := [], harness := (true, "3e42c47d7acf9f6f83ca6553e6201841d944df0395046bfce38e433dd2009f87"), looks := true }, kinds := [], alts := [], laidByText := true, laidKinds := [.data, .data, .data, .data, .sentinel, .sentinel, .pinned], laidTests := true, laidLooks := .later }
def VerifyRegsCardSaid : Prop := Claim7.holds Tryz.pinned (.plain (OpenSpec.ofChange verifyRegsSpec)) verifyRegsCard

/-- THE SECOND FORM's CARD OF 'halberdlaw20.VerifyRange'. -/
def verifyRangeUptoCard : Claim7 := { stood := { row := verifyRangeUptoRow, standIns := [], harness := (true, "3e42c47d7acf9f6f83ca6553e6201841d944df0395046bfce38e433dd2009f87"), looks := true }, kinds := [], alts := [], laidByText := true, laidKinds := [.data, .data, .data, .data, .sentinel, .sentinel, .pinned], laidTests := true, laidLooks := .later }
def VerifyRangeUptoCardSaid : Prop := Claim7.holds Tryz.pinned (.plain (OpenSpec.upto verifyRangeSpec)) verifyRangeUptoCard

/-- THE SECOND FORM's CARD OF 'halberdlaw20.VerifyStack'. -/
def verifyStackUptoCard : Claim7 := { stood := { row := verifyStackUptoRow, standIns := [], harness := (true, "3e42c47d7acf9f6f83ca6553e6201841d944df0395046bfce38e433dd2009f87"), looks := true }, kinds := [], alts := [], laidByText := true, laidKinds := [.data, .data, .data, .data, .sentinel, .sentinel, .pinned], laidTests := true, laidLooks := .later }
def VerifyStackUptoCardSaid : Prop := Claim7.holds Tryz.pinned (.plain (OpenSpec.upto verifyStackSpec)) verifyStackUptoCard

/-- THE SECOND FORM's CARD OF 'halberdlaw20.VerifyFields'. -/
def verifyFieldsUptoCard : Claim7 := { stood := { row := verifyFieldsUptoRow, standIns := [], harness := (true, "3e42c47d7acf9f6f83ca6553e6201841d944df0395046bfce38e433dd2009f87"), looks := true }, kinds := [], alts := [], laidByText := true, laidKinds := [.data, .data, .data, .data, .sentinel, .sentinel, .pinned], laidTests := true, laidLooks := .later }
def VerifyFieldsUptoCardSaid : Prop := Claim7.holds Tryz.pinned (.plain (OpenSpec.upto verifyFieldsSpec)) verifyFieldsUptoCard

/-- THE SECOND FORM's CARD OF 'halberdlaw20.VerifyRegs'. -/
def verifyRegsUptoCard : Claim7 := { stood := { row := verifyRegsUptoRow, standIns := [], harness := (true, "3e42c47d7acf9f6f83ca6553e6201841d944df0395046bfce38e433dd2009f87"), looks := true }, kinds := [], alts := [], laidByText := true, laidKinds := [.data, .data, .data, .data, .sentinel, .sentinel, .pinned], laidTests := true, laidLooks := .later }
def VerifyRegsUptoCardSaid : Prop := Claim7.holds Tryz.pinned (.plain (OpenSpec.upto verifyRegsSpec)) verifyRegsUptoCard
end Rows
end Go.Proofs.YtjafpcagfgklgaaGreatDoor
