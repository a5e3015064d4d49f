/-
  DERIVED. GIVEN WITH THE SEED: THE CARDS: each row of YtnlhnlmnlfmojaaDoorRows.lean that lists a variable, with what it lists TIED to the program's text (the seventh form; the later family's looks); each row that meets fmt, with fmt's text TOLD by the authors' own Lean function (tested against real Go, not proved from fmt's source: count such statements apart). THE CARD IS WHAT COUNTS. Prove the row's statement (the work); the ties are given (YtnlhnlmnlfmojaaDoorTie.lean); close each card by the builder's one call (the guide's Derived/Test/ToyasCard.lean, 'card_holds'). Laid BY PROGRAM, IN A SANDBOX (cutbox-door.mjs). By AI agents, Wed Nov 11 2026. No macro, syntax, notation, axiom, sorry.
-/
import Derived.Test.YtnlhnlmnlfmojaaDoorRows
import GoSem.ClaimSeven
namespace Go.Proofs.YtnlhnlmnlfmojaaDoor
namespace Rows

/-- THE TIED CARD OF 'lodestonelaw07.SystemChecks'. -/
def systemChecksCard : Claim7 := { stood := { row := systemChecksRow, standIns := [], harness := (true, "2049b02244e1a0f24d0e348ae26748a78d8725ba79c080b759f7cfe9f8a47190"), looks := true }, kinds := [], alts := [], laidByText := true, laidKinds := [.data, .pinned], laidTests := true, laidLooks := .later }
def SystemChecksCardSaid : Prop := Claim7.holds Tryd.pinned (.plain (OpenSpec.ofChange systemChecksSpec)) systemChecksCard

/-- THE TIED CARD OF 'lodestonelaw07.SystemSame'. -/
def systemSameCard : Claim7 := { stood := { row := systemSameRow, standIns := [], harness := (true, "2049b02244e1a0f24d0e348ae26748a78d8725ba79c080b759f7cfe9f8a47190"), looks := true }, kinds := [], alts := [], laidByText := true, laidKinds := [.data, .pinned], laidTests := true, laidLooks := .later }
def SystemSameCardSaid : Prop := Claim7.holds Tryd.pinned (.plain (OpenSpec.ofChange systemSameSpec)) systemSameCard

/-- THE TIED CARD OF 'lodestonelaw07.SystemKinds'. -/
def systemKindsCard : Claim7 := { stood := { row := systemKindsRow, standIns := [], harness := (true, "2049b02244e1a0f24d0e348ae26748a78d8725ba79c080b759f7cfe9f8a47190"), looks := true }, kinds := [], alts := [], laidByText := true, laidKinds := [.data, .pinned], laidTests := true, laidLooks := .later }
def SystemKindsCardSaid : Prop := Claim7.holds Tryd.pinned (.plain (OpenSpec.ofChange systemKindsSpec)) systemKindsCard

/-- THE TIED CARD OF 'lodestonelaw13.PairsExtend'. -/
def pairsExtendCard : Claim7 := { stood := { row := pairsExtendRow, standIns := [], harness := (true, "2049b02244e1a0f24d0e348ae26748a78d8725ba79c080b759f7cfe9f8a47190"), looks := true }, kinds := [], alts := [], laidByText := true, laidKinds := [.data, .pinned], laidTests := true, laidLooks := .later }
def PairsExtendCardSaid : Prop := Claim7.holds Tryd.pinned (.plain (OpenSpec.ofChange pairsExtendSpec)) pairsExtendCard

/-- THE TIED CARD OF 'lodestonelaw13.PairsOf'. -/
def pairsOfCard : Claim7 := { stood := { row := pairsOfRow, standIns := [], harness := (true, "2049b02244e1a0f24d0e348ae26748a78d8725ba79c080b759f7cfe9f8a47190"), looks := true }, kinds := [], alts := [], laidByText := true, laidKinds := [.data, .pinned], laidTests := true, laidLooks := .later }
def PairsOfCardSaid : Prop := Claim7.holds Tryd.pinned (.plain (OpenSpec.ofChange pairsOfSpec)) pairsOfCard

/-- THE TIED CARD OF 'lodestonelaw13.PairsCounted'. -/
def pairsCountedCard : Claim7 := { stood := { row := pairsCountedRow, standIns := [], harness := (true, "2049b02244e1a0f24d0e348ae26748a78d8725ba79c080b759f7cfe9f8a47190"), looks := true }, kinds := [], alts := [], laidByText := true, laidKinds := [.data, .pinned], laidTests := true, laidLooks := .later }
def PairsCountedCardSaid : Prop := Claim7.holds Tryd.pinned (.plain (OpenSpec.ofChange pairsCountedSpec)) pairsCountedCard

/-- THE SECOND FORM's CARD OF 'lodestonelaw07.SystemChecks'. -/
def systemChecksUptoCard : Claim7 := { stood := { row := systemChecksUptoRow, standIns := [], harness := (true, "2049b02244e1a0f24d0e348ae26748a78d8725ba79c080b759f7cfe9f8a47190"), looks := true }, kinds := [], alts := [], laidByText := true, laidKinds := [.data, .pinned], laidTests := true, laidLooks := .later }
def SystemChecksUptoCardSaid : Prop := Claim7.holds Tryd.pinned (.plain (OpenSpec.upto systemChecksSpec)) systemChecksUptoCard

/-- THE SECOND FORM's CARD OF 'lodestonelaw07.SystemSame'. -/
def systemSameUptoCard : Claim7 := { stood := { row := systemSameUptoRow, standIns := [], harness := (true, "2049b02244e1a0f24d0e348ae26748a78d8725ba79c080b759f7cfe9f8a47190"), looks := true }, kinds := [], alts := [], laidByText := true, laidKinds := [.data, .pinned], laidTests := true, laidLooks := .later }
def SystemSameUptoCardSaid : Prop := Claim7.holds Tryd.pinned (.plain (OpenSpec.upto systemSameSpec)) systemSameUptoCard

/-- THE SECOND FORM's CARD OF 'lodestonelaw07.SystemKinds'. -/
def systemKindsUptoCard : Claim7 := { stood := { row := systemKindsUptoRow, standIns := [], harness := (true, "2049b02244e1a0f24d0e348ae26748a78d8725ba79c080b759f7cfe9f8a47190"), looks := true }, kinds := [], alts := [], laidByText := true, laidKinds := [.data, .pinned], laidTests := true, laidLooks := .later }
def SystemKindsUptoCardSaid : Prop := Claim7.holds Tryd.pinned (.plain (OpenSpec.upto systemKindsSpec)) systemKindsUptoCard

/-- THE SECOND FORM's CARD OF 'lodestonelaw13.PairsExtend'. -/
def pairsExtendUptoCard : Claim7 := { stood := { row := pairsExtendUptoRow, standIns := [], harness := (true, "2049b02244e1a0f24d0e348ae26748a78d8725ba79c080b759f7cfe9f8a47190"), looks := true }, kinds := [], alts := [], laidByText := true, laidKinds := [.data, .pinned], laidTests := true, laidLooks := .later }
def PairsExtendUptoCardSaid : Prop := Claim7.holds Tryd.pinned (.plain (OpenSpec.upto pairsExtendSpec)) pairsExtendUptoCard

/-- THE SECOND FORM's CARD OF 'lodestonelaw13.PairsOf'. -/
def pairsOfUptoCard : Claim7 := { stood := { row := pairsOfUptoRow, standIns := [], harness := (true, "2049b02244e1a0f24d0e348ae26748a78d8725ba79c080b759f7cfe9f8a47190"), looks := true }, kinds := [], alts := [], laidByText := true, laidKinds := [.data, .pinned], laidTests := true, laidLooks := .later }
def PairsOfUptoCardSaid : Prop := Claim7.holds Tryd.pinned (.plain (OpenSpec.upto pairsOfSpec)) pairsOfUptoCard

/-- THE SECOND FORM's CARD OF 'lodestonelaw13.PairsCounted'. -/
def pairsCountedUptoCard : Claim7 := { stood := { row := pairsCountedUptoRow, standIns := [], harness := (true, "2049b02244e1a0f24d0e348ae26748a78d8725ba79c080b759f7cfe9f8a47190"), looks := true }, kinds := [], alts := [], laidByText := true, laidKinds := [.data, .pinned], laidTests := true, laidLooks := .later }
def PairsCountedUptoCardSaid : Prop := Claim7.holds Tryd.pinned (.plain (OpenSpec.upto pairsCountedSpec)) pairsCountedUptoCard
end Rows
end Go.Proofs.YtnlhnlmnlfmojaaDoor
