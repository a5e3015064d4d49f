/-
  DERIVED. GIVEN WITH THE SEED: THE CARDS: each row of YtnlhnlmnlfmojaaGreatDoorRows.lean that lists a variable, with what it lists TIED to the program's text (the seventh form; the later family's looks); each row that meets fmt, with fmt's text TOLD by the authors' own Lean function (tested against real Go, not proved from fmt's source: count such statements apart). THE CARD IS WHAT COUNTS. Prove the row's statement (the work); the ties are given (YtnlhnlmnlfmojaaGreatDoorTie.lean); close each card by the builder's one call (the guide's Derived/Test/ToyasCard.lean, 'card_holds'). Laid BY PROGRAM, IN A SANDBOX (cutbox-door.mjs). By AI agents, Wed Nov 11 2026. No macro, syntax, notation, axiom, sorry.
-/
import Derived.Test.YtnlhnlmnlfmojaaGreatDoorRows
import GoSem.ClaimSeven
namespace Go.Proofs.YtnlhnlmnlfmojaaGreatDoor
namespace Rows

/-- THE TIED CARD OF 'lodestonelaw13.PairsEdges'. -/
def pairsEdgesCard : Claim7 := { stood := { row := pairsEdgesRow, standIns := [], harness := (true, "087b8cd13158bb94fbfc31c78e116f76fdee63fb3dbfec44ebfb5584cb7fc980"), looks := true }, kinds := [], alts := [], laidByText := true, laidKinds := [.data, .pinned], laidTests := true, laidLooks := .later }
def PairsEdgesCardSaid : Prop := Claim7.holds Tryz.pinned (.plain (OpenSpec.ofChange pairsEdgesSpec)) pairsEdgesCard

/-- THE TIED CARD OF 'lodestonelaw13.PairsGraph'. -/
def pairsGraphCard : Claim7 := { stood := { row := pairsGraphRow, standIns := [], harness := (true, "087b8cd13158bb94fbfc31c78e116f76fdee63fb3dbfec44ebfb5584cb7fc980"), looks := true }, kinds := [], alts := [], laidByText := true, laidKinds := [.data, .pinned], laidTests := true, laidLooks := .later }
def PairsGraphCardSaid : Prop := Claim7.holds Tryz.pinned (.plain (OpenSpec.ofChange pairsGraphSpec)) pairsGraphCard

/-- THE TIED CARD OF 'lodestonelaw13.PairsFollow'. -/
def pairsFollowCard : Claim7 := { stood := { row := pairsFollowRow, standIns := [], harness := (true, "087b8cd13158bb94fbfc31c78e116f76fdee63fb3dbfec44ebfb5584cb7fc980"), looks := true }, kinds := [], alts := [], laidByText := true, laidKinds := [.data, .pinned], laidTests := true, laidLooks := .later }
def PairsFollowCardSaid : Prop := Claim7.holds Tryz.pinned (.plain (OpenSpec.ofChange pairsFollowSpec)) pairsFollowCard

/-- THE SECOND FORM's CARD OF 'lodestonelaw13.PairsEdges'. -/
def pairsEdgesUptoCard : Claim7 := { stood := { row := pairsEdgesUptoRow, standIns := [], harness := (true, "087b8cd13158bb94fbfc31c78e116f76fdee63fb3dbfec44ebfb5584cb7fc980"), looks := true }, kinds := [], alts := [], laidByText := true, laidKinds := [.data, .pinned], laidTests := true, laidLooks := .later }
def PairsEdgesUptoCardSaid : Prop := Claim7.holds Tryz.pinned (.plain (OpenSpec.upto pairsEdgesSpec)) pairsEdgesUptoCard

/-- THE SECOND FORM's CARD OF 'lodestonelaw13.PairsGraph'. -/
def pairsGraphUptoCard : Claim7 := { stood := { row := pairsGraphUptoRow, standIns := [], harness := (true, "087b8cd13158bb94fbfc31c78e116f76fdee63fb3dbfec44ebfb5584cb7fc980"), looks := true }, kinds := [], alts := [], laidByText := true, laidKinds := [.data, .pinned], laidTests := true, laidLooks := .later }
def PairsGraphUptoCardSaid : Prop := Claim7.holds Tryz.pinned (.plain (OpenSpec.upto pairsGraphSpec)) pairsGraphUptoCard

/-- THE SECOND FORM's CARD OF 'lodestonelaw13.PairsFollow'. -/
def pairsFollowUptoCard : Claim7 := { stood := { row := pairsFollowUptoRow, standIns := [], harness := (true, "087b8cd13158bb94fbfc31c78e116f76fdee63fb3dbfec44ebfb5584cb7fc980"), looks := true }, kinds := [], alts := [], laidByText := true, laidKinds := [.data, .pinned], laidTests := true, laidLooks := .later }
def PairsFollowUptoCardSaid : Prop := Claim7.holds Tryz.pinned (.plain (OpenSpec.upto pairsFollowSpec)) pairsFollowUptoCard
end Rows
end Go.Proofs.YtnlhnlmnlfmojaaGreatDoor
