/-
  DERIVED. GIVEN WITH THE SEED: THE CARDS: each row of YtkdneddcocggdaaGreatDoorRows.lean that lists a variable, with what it lists TIED to the program's text (the seventh form; the later family's looks); each row that meets fmt, with fmt's text TOLD by the authors' own Lean function (tested against real Go, not proved from fmt's source: count such statements apart). THE CARD IS WHAT COUNTS. Prove the row's statement (the work); the ties are given (YtkdneddcocggdaaGreatDoorTie.lean); close each card by the builder's one call (the guide's Derived/Test/ToyasCard.lean, 'card_holds'). Laid BY PROGRAM, IN A SANDBOX (cutbox-door.mjs). By AI agents, Wed Nov 11 2026. No macro, syntax, notation, axiom, sorry.
-/
import Derived.Test.YtkdneddcocggdaaGreatDoorRows
import GoSem.ClaimSeven
namespace Go.Proofs.YtkdneddcocggdaaGreatDoor
namespace Rows

/-- THE TIED CARD OF 'lodestonelaw22.SpellReads'. -/
def spellReadsCard : Claim7 := { stood := { row := spellReadsRow, standIns := [], harness := (true, "e9dbe98d7f0df023a9d2645decc05a71e3df1e2ba6d95cbf0597cdaebc9c5125"), looks := true }, kinds := [], alts := [], laidByText := true, laidKinds := [.data, .data, .data, .data, .sentinel, .sentinel, .pinned], laidTests := true, laidLooks := .later }
def SpellReadsCardSaid : Prop := Claim7.holds Tryz.pinned (.plain (OpenSpec.ofChange spellReadsSpec)) spellReadsCard

/-- THE TIED CARD OF 'lodestonelaw22.SpellShows'. -/
def spellShowsCard : Claim7 := { stood := { row := spellShowsRow, standIns := [], harness := (true, "e9dbe98d7f0df023a9d2645decc05a71e3df1e2ba6d95cbf0597cdaebc9c5125"), looks := true }, kinds := [], alts := [], laidByText := true, laidKinds := [.data, .data, .data, .data, .sentinel, .sentinel, .pinned], laidTests := true, laidLooks := .later }
def SpellShowsCardSaid : Prop := Claim7.holds Tryz.pinned (.plain (OpenSpec.ofChange spellShowsSpec)) spellShowsCard

/-- THE TIED CARD OF 'lodestonelaw22.SpellParses'. -/
def spellParsesCard : Claim7 := { stood := { row := spellParsesRow, standIns := [], harness := (true, "e9dbe98d7f0df023a9d2645decc05a71e3df1e2ba6d95cbf0597cdaebc9c5125"), looks := true }, kinds := [], alts := [], laidByText := true, laidKinds := [.data, .data, .data, .data, .sentinel, .sentinel, .pinned], laidTests := true, laidLooks := .later }
def SpellParsesCardSaid : Prop := Claim7.holds Tryz.pinned (.plain (OpenSpec.ofChange spellParsesSpec)) spellParsesCard

/-- THE TIED CARD OF 'lodestonelaw22.SpellPrints'. -/
def spellPrintsCard : Claim7 := { stood := { row := spellPrintsRow, standIns := [], harness := (true, "e9dbe98d7f0df023a9d2645decc05a71e3df1e2ba6d95cbf0597cdaebc9c5125"), looks := true }, kinds := [], alts := [], laidByText := true, laidKinds := [.data, .data, .data, .data, .sentinel, .sentinel, .pinned], laidTests := true, laidLooks := .later }
def SpellPrintsCardSaid : Prop := Claim7.holds Tryz.pinned (.plain (OpenSpec.ofChange spellPrintsSpec)) spellPrintsCard

/-- THE TIED CARD OF 'lodestonelaw22.SpellTerms'. -/
def spellTermsCard : Claim7 := { stood := { row := spellTermsRow, standIns := [], harness := (true, "e9dbe98d7f0df023a9d2645decc05a71e3df1e2ba6d95cbf0597cdaebc9c5125"), looks := true }, kinds := [], alts := [], laidByText := true, laidKinds := [.data, .data, .data, .data, .sentinel, .sentinel, .pinned], laidTests := true, laidLooks := .later }
def SpellTermsCardSaid : Prop := Claim7.holds Tryz.pinned (.plain (OpenSpec.ofChange spellTermsSpec)) spellTermsCard

/-- THE TIED CARD OF 'lodestonelaw22.SpellBooks'. -/
def spellBooksCard : Claim7 := { stood := { row := spellBooksRow, standIns := [], harness := (true, "e9dbe98d7f0df023a9d2645decc05a71e3df1e2ba6d95cbf0597cdaebc9c5125"), looks := true }, kinds := [], alts := [], laidByText := true, laidKinds := [.data, .data, .data, .data, .sentinel, .sentinel, .pinned], laidTests := true, laidLooks := .later }
def SpellBooksCardSaid : Prop := Claim7.holds Tryz.pinned (.plain (OpenSpec.ofChange spellBooksSpec)) spellBooksCard

/-- THE TIED CARD OF 'lodestonelaw22.SpellAgain'. -/
def spellAgainCard : Claim7 := { stood := { row := spellAgainRow, standIns := [], harness := (true, "e9dbe98d7f0df023a9d2645decc05a71e3df1e2ba6d95cbf0597cdaebc9c5125"), looks := true }, kinds := [], alts := [], laidByText := true, laidKinds := [.data, .data, .data, .data, .sentinel, .sentinel, .pinned], laidTests := true, laidLooks := .later }
def SpellAgainCardSaid : Prop := Claim7.holds Tryz.pinned (.plain (OpenSpec.ofChange spellAgainSpec)) spellAgainCard

/-- THE TIED CARD OF 'lodestonelaw22.SpellNothing'. -/
def spellNothingCard : Claim7 := { stood := { row := spellNothingRow, standIns := [], harness := (true, "e9dbe98d7f0df023a9d2645decc05a71e3df1e2ba6d95cbf0597cdaebc9c5125"), looks := true }, kinds := [], alts := [], laidByText := true, laidKinds := [.data, .data, .data, .data, .sentinel, .sentinel, .pinned], laidTests := true, laidLooks := .later }
def SpellNothingCardSaid : Prop := Claim7.holds Tryz.pinned (.plain (OpenSpec.ofChange spellNothingSpec)) spellNothingCard

/-- THE SECOND FORM's CARD OF 'lodestonelaw22.SpellReads'. -/
def spellReadsUptoCard : Claim7 := { stood := { row := spellReadsUptoRow, standIns := [], harness := (true, "e9dbe98d7f0df023a9d2645decc05a71e3df1e2ba6d95cbf0597cdaebc9c5125"), looks := true }, kinds := [], alts := [], laidByText := true, laidKinds := [.data, .data, .data, .data, .sentinel, .sentinel, .pinned], laidTests := true, laidLooks := .later }
def SpellReadsUptoCardSaid : Prop := Claim7.holds Tryz.pinned (.plain (OpenSpec.upto spellReadsSpec)) spellReadsUptoCard

/-- THE SECOND FORM's CARD OF 'lodestonelaw22.SpellShows'. -/
def spellShowsUptoCard : Claim7 := { stood := { row := spellShowsUptoRow, standIns := [], harness := (true, "e9dbe98d7f0df023a9d2645decc05a71e3df1e2ba6d95cbf0597cdaebc9c5125"), looks := true }, kinds := [], alts := [], laidByText := true, laidKinds := [.data, .data, .data, .data, .sentinel, .sentinel, .pinned], laidTests := true, laidLooks := .later }
def SpellShowsUptoCardSaid : Prop := Claim7.holds Tryz.pinned (.plain (OpenSpec.upto spellShowsSpec)) spellShowsUptoCard

/-- THE SECOND FORM's CARD OF 'lodestonelaw22.SpellParses'. -/
def spellParsesUptoCard : Claim7 := { stood := { row := spellParsesUptoRow, standIns := [], harness := (true, "e9dbe98d7f0df023a9d2645decc05a71e3df1e2ba6d95cbf0597cdaebc9c5125"), looks := true }, kinds := [], alts := [], laidByText := true, laidKinds := [.data, .data, .data, .data, .sentinel, .sentinel, .pinned], laidTests := true, laidLooks := .later }
def SpellParsesUptoCardSaid : Prop := Claim7.holds Tryz.pinned (.plain (OpenSpec.upto spellParsesSpec)) spellParsesUptoCard

/-- THE SECOND FORM's CARD OF 'lodestonelaw22.SpellPrints'. -/
def spellPrintsUptoCard : Claim7 := { stood := { row := spellPrintsUptoRow, standIns := [], harness := (true, "e9dbe98d7f0df023a9d2645decc05a71e3df1e2ba6d95cbf0597cdaebc9c5125"), looks := true }, kinds := [], alts := [], laidByText := true, laidKinds := [.data, .data, .data, .data, .sentinel, .sentinel, .pinned], laidTests := true, laidLooks := .later }
def SpellPrintsUptoCardSaid : Prop := Claim7.holds Tryz.pinned (.plain (OpenSpec.upto spellPrintsSpec)) spellPrintsUptoCard

/-- THE SECOND FORM's CARD OF 'lodestonelaw22.SpellTerms'. -/
def spellTermsUptoCard : Claim7 := { stood := { row := spellTermsUptoRow, standIns := [], harness := (true, "e9dbe98d7f0df023a9d2645decc05a71e3df1e2ba6d95cbf0597cdaebc9c5125"), looks := true }, kinds := [], alts := [], laidByText := true, laidKinds := [.data, .data, .data, .data, .sentinel, .sentinel, .pinned], laidTests := true, laidLooks := .later }
def SpellTermsUptoCardSaid : Prop := Claim7.holds Tryz.pinned (.plain (OpenSpec.upto spellTermsSpec)) spellTermsUptoCard

/-- THE SECOND FORM's CARD OF 'lodestonelaw22.SpellBooks'. -/
def spellBooksUptoCard : Claim7 := { stood := { row := spellBooksUptoRow, standIns := [], harness := (true, "e9dbe98d7f0df023a9d2645decc05a71e3df1e2ba6d95cbf0597cdaebc9c5125"), looks := true }, kinds := [], alts := [], laidByText := true, laidKinds := [.data, .data, .data, .data, .sentinel, .sentinel, .pinned], laidTests := true, laidLooks := .later }
def SpellBooksUptoCardSaid : Prop := Claim7.holds Tryz.pinned (.plain (OpenSpec.upto spellBooksSpec)) spellBooksUptoCard

/-- THE SECOND FORM's CARD OF 'lodestonelaw22.SpellAgain'. -/
def spellAgainUptoCard : Claim7 := { stood := { row := spellAgainUptoRow, standIns := [], harness := (true, "e9dbe98d7f0df023a9d2645decc05a71e3df1e2ba6d95cbf0597cdaebc9c5125"), looks := true }, kinds := [], alts := [], laidByText := true, laidKinds := [.data, .data, .data, .data, .sentinel, .sentinel, .pinned], laidTests := true, laidLooks := .later }
def SpellAgainUptoCardSaid : Prop := Claim7.holds Tryz.pinned (.plain (OpenSpec.upto spellAgainSpec)) spellAgainUptoCard

/-- THE SECOND FORM's CARD OF 'lodestonelaw22.SpellNothing'. -/
def spellNothingUptoCard : Claim7 := { stood := { row := spellNothingUptoRow, standIns := [], harness := (true, "e9dbe98d7f0df023a9d2645decc05a71e3df1e2ba6d95cbf0597cdaebc9c5125"), looks := true }, kinds := [], alts := [], laidByText := true, laidKinds := [.data, .data, .data, .data, .sentinel, .sentinel, .pinned], laidTests := true, laidLooks := .later }
def SpellNothingUptoCardSaid : Prop := Claim7.holds Tryz.pinned (.plain (OpenSpec.upto spellNothingSpec)) spellNothingUptoCard
end Rows
end Go.Proofs.YtkdneddcocggdaaGreatDoor
