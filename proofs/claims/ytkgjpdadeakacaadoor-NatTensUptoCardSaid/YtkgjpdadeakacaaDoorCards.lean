/-
  DERIVED. GIVEN WITH THE SEED: THE CARDS: each row of YtkgjpdadeakacaaDoorRows.lean that lists a variable, with what it lists TIED to the program's text (the seventh form; the later family's looks); each row that meets fmt, with fmt's text TOLD by the authors' own Lean function (tested against real Go, not proved from fmt's source: count such statements apart). THE CARD IS WHAT COUNTS. Prove the row's statement (the work); the ties are given (YtkgjpdadeakacaaDoorTie.lean); close each card by the builder's one call (the guide's Derived/Test/ToyasCard.lean, 'card_holds'). Laid BY PROGRAM, IN A SANDBOX (cutbox-door.mjs). By AI agents, Wed Nov 11 2026. No macro, syntax, notation, axiom, sorry.
-/
import Derived.Test.YtkgjpdadeakacaaDoorRows
import GoSem.ClaimSeven
namespace Go.Proofs.YtkgjpdadeakacaaDoor
namespace Rows

/-- THE TIED CARD OF 'lodestonelaw01.NatRights'. -/
def natRightsCard : Claim7 := { stood := { row := natRightsRow, standIns := [], harness := (true, "671988703815940be751b9ccd91d318f41b2484a78076b5279a49d2d50377935"), looks := false }, kinds := [], alts := [], laidByText := true, laidKinds := [.data, .pinned], laidTests := true, laidLooks := .later }
def NatRightsCardSaid : Prop := Claim7.holds Tryd.pinned (.plain (OpenSpec.ofChange natRightsSpec)) natRightsCard

/-- THE TIED CARD OF 'lodestonelaw01.NatReckons'. -/
def natReckonsCard : Claim7 := { stood := { row := natReckonsRow, standIns := [], harness := (true, "671988703815940be751b9ccd91d318f41b2484a78076b5279a49d2d50377935"), looks := false }, kinds := [], alts := [], laidByText := true, laidKinds := [.data, .pinned], laidTests := true, laidLooks := .later }
def NatReckonsCardSaid : Prop := Claim7.holds Tryd.pinned (.plain (OpenSpec.ofChange natReckonsSpec)) natReckonsCard

/-- THE TIED CARD OF 'lodestonelaw01.NatTexts'. -/
def natTextsCard : Claim7 := { stood := { row := natTextsRow, standIns := [], harness := (true, "671988703815940be751b9ccd91d318f41b2484a78076b5279a49d2d50377935"), looks := false }, kinds := [], alts := [], laidByText := true, laidKinds := [.data, .pinned], laidTests := true, laidLooks := .later }
def NatTextsCardSaid : Prop := Claim7.holds Tryd.pinned (.plain (OpenSpec.ofChange natTextsSpec)) natTextsCard

/-- THE TIED CARD OF 'lodestonelaw01.NatParses'. -/
def natParsesCard : Claim7 := { stood := { row := natParsesRow, standIns := [], harness := (true, "671988703815940be751b9ccd91d318f41b2484a78076b5279a49d2d50377935"), looks := false }, kinds := [], alts := [], laidByText := true, laidKinds := [.data, .pinned], laidTests := true, laidLooks := .later }
def NatParsesCardSaid : Prop := Claim7.holds Tryd.pinned (.plain (OpenSpec.ofChange natParsesSpec)) natParsesCard

/-- THE TIED CARD OF 'lodestonelaw01.NatBack'. -/
def natBackCard : Claim7 := { stood := { row := natBackRow, standIns := [], harness := (true, "671988703815940be751b9ccd91d318f41b2484a78076b5279a49d2d50377935"), looks := false }, kinds := [], alts := [], laidByText := true, laidKinds := [.data, .pinned], laidTests := true, laidLooks := .later }
def NatBackCardSaid : Prop := Claim7.holds Tryd.pinned (.plain (OpenSpec.ofChange natBackSpec)) natBackCard

/-- THE TIED CARD OF 'lodestonelaw01.NatLaws'. -/
def natLawsCard : Claim7 := { stood := { row := natLawsRow, standIns := [], harness := (true, "671988703815940be751b9ccd91d318f41b2484a78076b5279a49d2d50377935"), looks := false }, kinds := [], alts := [], laidByText := true, laidKinds := [.data, .pinned], laidTests := true, laidLooks := .later }
def NatLawsCardSaid : Prop := Claim7.holds Tryd.pinned (.plain (OpenSpec.ofChange natLawsSpec)) natLawsCard

/-- THE TIED CARD OF 'lodestonelaw01.NatTens'. -/
def natTensCard : Claim7 := { stood := { row := natTensRow, standIns := [], harness := (true, "671988703815940be751b9ccd91d318f41b2484a78076b5279a49d2d50377935"), looks := false }, kinds := [], alts := [], laidByText := true, laidKinds := [.data, .pinned], laidTests := true, laidLooks := .later }
def NatTensCardSaid : Prop := Claim7.holds Tryd.pinned (.plain (OpenSpec.ofChange natTensSpec)) natTensCard

/-- THE SECOND FORM's CARD OF 'lodestonelaw01.NatRights'. -/
def natRightsUptoCard : Claim7 := { stood := { row := natRightsUptoRow, standIns := [], harness := (true, "671988703815940be751b9ccd91d318f41b2484a78076b5279a49d2d50377935"), looks := false }, kinds := [], alts := [], laidByText := true, laidKinds := [.data, .pinned], laidTests := true, laidLooks := .later }
def NatRightsUptoCardSaid : Prop := Claim7.holds Tryd.pinned (.plain (OpenSpec.upto natRightsSpec)) natRightsUptoCard

/-- THE SECOND FORM's CARD OF 'lodestonelaw01.NatReckons'. -/
def natReckonsUptoCard : Claim7 := { stood := { row := natReckonsUptoRow, standIns := [], harness := (true, "671988703815940be751b9ccd91d318f41b2484a78076b5279a49d2d50377935"), looks := false }, kinds := [], alts := [], laidByText := true, laidKinds := [.data, .pinned], laidTests := true, laidLooks := .later }
def NatReckonsUptoCardSaid : Prop := Claim7.holds Tryd.pinned (.plain (OpenSpec.upto natReckonsSpec)) natReckonsUptoCard

/-- THE SECOND FORM's CARD OF 'lodestonelaw01.NatTexts'. -/
def natTextsUptoCard : Claim7 := { stood := { row := natTextsUptoRow, standIns := [], harness := (true, "671988703815940be751b9ccd91d318f41b2484a78076b5279a49d2d50377935"), looks := false }, kinds := [], alts := [], laidByText := true, laidKinds := [.data, .pinned], laidTests := true, laidLooks := .later }
def NatTextsUptoCardSaid : Prop := Claim7.holds Tryd.pinned (.plain (OpenSpec.upto natTextsSpec)) natTextsUptoCard

/-- THE SECOND FORM's CARD OF 'lodestonelaw01.NatParses'. -/
def natParsesUptoCard : Claim7 := { stood := { row := natParsesUptoRow, standIns := [], harness := (true, "671988703815940be751b9ccd91d318f41b2484a78076b5279a49d2d50377935"), looks := false }, kinds := [], alts := [], laidByText := true, laidKinds := [.data, .pinned], laidTests := true, laidLooks := .later }
def NatParsesUptoCardSaid : Prop := Claim7.holds Tryd.pinned (.plain (OpenSpec.upto natParsesSpec)) natParsesUptoCard

/-- THE SECOND FORM's CARD OF 'lodestonelaw01.NatBack'. -/
def natBackUptoCard : Claim7 := { stood := { row := natBackUptoRow, standIns := [], harness := (true, "671988703815940be751b9ccd91d318f41b2484a78076b5279a49d2d50377935"), looks := false }, kinds := [], alts := [], laidByText := true, laidKinds := [.data, .pinned], laidTests := true, laidLooks := .later }
def NatBackUptoCardSaid : Prop := Claim7.holds Tryd.pinned (.plain (OpenSpec.upto natBackSpec)) natBackUptoCard

/-- THE SECOND FORM's CARD OF 'lodestonelaw01.NatLaws'. -/
def natLawsUptoCard : Claim7 := { stood := { row := natLawsUptoRow, standIns := [], harness := (true, "671988703815940be751b9ccd91d318f41b2484a78076b5279a49d2d50377935"), looks := false }, kinds := [], alts := [], laidByText := true, laidKinds := [.data, .pinned], laidTests := true, laidLooks := .later }
def NatLawsUptoCardSaid : Prop := Claim7.holds Tryd.pinned (.plain (OpenSpec.upto natLawsSpec)) natLawsUptoCard

/-- THE SECOND FORM's CARD OF 'lodestonelaw01.NatTens'. -/
def natTensUptoCard : Claim7 := { stood := { row := natTensUptoRow, standIns := [], harness := (true, "671988703815940be751b9ccd91d318f41b2484a78076b5279a49d2d50377935"), looks := false }, kinds := [], alts := [], laidByText := true, laidKinds := [.data, .pinned], laidTests := true, laidLooks := .later }
def NatTensUptoCardSaid : Prop := Claim7.holds Tryd.pinned (.plain (OpenSpec.upto natTensSpec)) natTensUptoCard
end Rows
end Go.Proofs.YtkgjpdadeakacaaDoor
