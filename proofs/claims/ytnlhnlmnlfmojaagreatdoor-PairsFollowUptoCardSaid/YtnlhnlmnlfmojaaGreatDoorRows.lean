/-
  NARROWER THAN 'FOR EVERY INPUT', by the rows' own cells (each row's printed sentence says how): PairsEdges: laid · PairsGraph: laid · PairsFollow: laid.
  DERIVED. THE GIVEN ROWS OF THIS SEAT. 3 by the template 'for every input the law returns true; each argument reads behind the call as it read before'; 0 by the template 'total and deterministic' (their statements: YtnlhnlmnlfmojaaGreatDoorTotals.lean).
  GIVEN WITH THE SEED: the statements are not yours to turn. If you find one false, say at which input.
  Laid BY PROGRAM, IN A SANDBOX (cutbox-rows.mjs): the forced cells as the released guide's own fill.sh prints them over the translation 59df5513f0884c58… (all of the seat's roots in one cut). By AI agents, Wed Nov 11 2026. No macro, syntax, notation, axiom, sorry.
-/
import Derived.Test.YtnlhnlmnlfmojaaGreatDoorChecked
import GoSem.PinnedTables
import GoSem.Claim
import GoSem.ClaimJoined
import GoSem.ClaimMapViews
import Derived.JoinedTies
import Derived.KernelRfl
namespace Go.Proofs.YtnlhnlmnlfmojaaGreatDoor
/- THE CELL 'sum', in the pinned program and in every row, IS THE sha256 OF THE DUMP (.gsa) THAT YtnlhnlmnlfmojaaGreatDoorProg.lean LOADS. Nothing in Lean hashes anything: it is a label: what it is worth is what the hold of that sum in a sandbox is worth. -/
noncomputable def Tryz.pinned : Pinned := { name := "ytnlhnlmnlfmojaagreatdoor", sum := "59df5513f0884c5809c351d0ac4183c2dfe667cfb040e2713aebdf5a935c7587", checked := Tryz.checked }
namespace Rows
def none {H : Type} : Left H := { results := [], args := [] }

/- WHAT THE LISTED PACKAGE-LEVEL VARIABLES READ AS WHEN THE CALL BEGINS. Each datum BY PROGRAM (the guide's laid-datum.mjs) off the statement by which the dump's own 'gosem.cut.vars' lays the variable. In a bare row this is a premise. The card (YtnlhnlmnlfmojaaGreatDoorCards.lean) ties it to the program's text. -/
def laid_unicode_utf8_acceptRanges {H : Type} : DataW H := .agg [.agg [.lit (.int .u8 128), .lit (.int .u8 191)], .agg [.lit (.int .u8 160), .lit (.int .u8 191)], .agg [.lit (.int .u8 128), .lit (.int .u8 159)], .agg [.lit (.int .u8 144), .lit (.int .u8 191)], .agg [.lit (.int .u8 128), .lit (.int .u8 143)], .agg [.lit (.int .u8 0), .lit (.int .u8 0)], .agg [.lit (.int .u8 0), .lit (.int .u8 0)], .agg [.lit (.int .u8 0), .lit (.int .u8 0)], .agg [.lit (.int .u8 0), .lit (.int .u8 0)], .agg [.lit (.int .u8 0), .lit (.int .u8 0)], .agg [.lit (.int .u8 0), .lit (.int .u8 0)], .agg [.lit (.int .u8 0), .lit (.int .u8 0)], .agg [.lit (.int .u8 0), .lit (.int .u8 0)], .agg [.lit (.int .u8 0), .lit (.int .u8 0)], .agg [.lit (.int .u8 0), .lit (.int .u8 0)], .agg [.lit (.int .u8 0), .lit (.int .u8 0)]]
/-- One of Go's own tables, pinned by name: the form's constant. -/
def laid_unicode_utf8_first : DataW Unit := Go.Pinned.utf8First

/-- 'lodestonelaw13.PairsEdges': WHATEVER THE INPUT: true; the input reads as it did. -/
def pairsEdgesSpec : ChangeSpec := { name := "pairsEdges", fn := fun _ => fun
  | [d1, d2, d3] => { results := [.lit (.bool true)], args := [d1, d2, d3] }
  | _ => none }
def pairsEdgesRow : OpenClaim := { program := "ytnlhnlmnlfmojaagreatdoor", sum := "59df5513f0884c5809c351d0ac4183c2dfe667cfb040e2713aebdf5a935c7587", func := "lodestone/lodestonelaw13.PairsEdges", spec := "pairsEdges", unfollowed := true, recurses := true, named := ["unicode/utf8.first", "unicode/utf8.acceptRanges"], apart := false, laid := [("unicode/utf8.acceptRanges", laid_unicode_utf8_acceptRanges), ("unicode/utf8.first", laid_unicode_utf8_first)] }
def PairsEdgesSaid : Prop := pairsEdgesRow.holds Tryz.pinned (OpenSpec.ofChange pairsEdgesSpec)

/-- ITS FALSE NEIGHBOUR: 'it returns false'. Refute it at one input. -/
def pairsEdgesWrong : ChangeSpec := { name := "pairsEdges", fn := fun _ => fun
  | [d1, d2, d3] => { results := [.lit (.bool false)], args := [d1, d2, d3] }
  | _ => none }
def PairsEdgesWrongFalsely : Prop := pairsEdgesRow.holds Tryz.pinned (OpenSpec.ofChange pairsEdgesWrong)

/-- 'lodestonelaw13.PairsGraph': WHATEVER THE INPUT: true; the input reads as it did. -/
def pairsGraphSpec : ChangeSpec := { name := "pairsGraph", fn := fun _ => fun
  | [d1, d2] => { results := [.lit (.bool true)], args := [d1, d2] }
  | _ => none }
def pairsGraphRow : OpenClaim := { program := "ytnlhnlmnlfmojaagreatdoor", sum := "59df5513f0884c5809c351d0ac4183c2dfe667cfb040e2713aebdf5a935c7587", func := "lodestone/lodestonelaw13.PairsGraph", spec := "pairsGraph", unfollowed := true, recurses := true, named := ["unicode/utf8.first", "unicode/utf8.acceptRanges"], apart := false, laid := [("unicode/utf8.acceptRanges", laid_unicode_utf8_acceptRanges), ("unicode/utf8.first", laid_unicode_utf8_first)] }
def PairsGraphSaid : Prop := pairsGraphRow.holds Tryz.pinned (OpenSpec.ofChange pairsGraphSpec)

/-- ITS FALSE NEIGHBOUR: 'it returns false'. Refute it at one input. -/
def pairsGraphWrong : ChangeSpec := { name := "pairsGraph", fn := fun _ => fun
  | [d1, d2] => { results := [.lit (.bool false)], args := [d1, d2] }
  | _ => none }
def PairsGraphWrongFalsely : Prop := pairsGraphRow.holds Tryz.pinned (OpenSpec.ofChange pairsGraphWrong)

/-- 'lodestonelaw13.PairsFollow': WHATEVER THE INPUT: true; the input reads as it did. -/
def pairsFollowSpec : ChangeSpec := { name := "pairsFollow", fn := fun _ => fun
  | [d1, d2] => { results := [.lit (.bool true)], args := [d1, d2] }
  | _ => none }
def pairsFollowRow : OpenClaim := { program := "ytnlhnlmnlfmojaagreatdoor", sum := "59df5513f0884c5809c351d0ac4183c2dfe667cfb040e2713aebdf5a935c7587", func := "lodestone/lodestonelaw13.PairsFollow", spec := "pairsFollow", unfollowed := true, recurses := true, named := ["unicode/utf8.first", "unicode/utf8.acceptRanges"], apart := false, laid := [("unicode/utf8.acceptRanges", laid_unicode_utf8_acceptRanges), ("unicode/utf8.first", laid_unicode_utf8_first)] }
def PairsFollowSaid : Prop := pairsFollowRow.holds Tryz.pinned (OpenSpec.ofChange pairsFollowSpec)

/-- ITS FALSE NEIGHBOUR: 'it returns false'. Refute it at one input. -/
def pairsFollowWrong : ChangeSpec := { name := "pairsFollow", fn := fun _ => fun
  | [d1, d2] => { results := [.lit (.bool false)], args := [d1, d2] }
  | _ => none }
def PairsFollowWrongFalsely : Prop := pairsFollowRow.holds Tryz.pinned (OpenSpec.ofChange pairsFollowWrong)

/- THE SECOND FORM. 'bulk': how many values and letters a reading holds, each counted each time it is reached (what is shared counts as often as it is met; a slice's spare places count too). A statement '..UptoSaid' is the law's where the arguments, and the package variables that the reading takes, are together of bulk at most 1048576: NARROWER than '..Said'. Prove '..Said' where nothing that the law and all that it calls make is longer than what came in: it says more and counts as full. Else prove '..UptoSaid'. A law counts once. -/
mutual
def uptoBulk {H : Type} : DataW H → Nat
  | .lit (.string bytes) => bytes.length + 1
  | .lit _ => 1
  | .nil => 1
  | .ptr d => uptoBulk d + 1
  | .slice elems spare => uptoBulkAll elems + uptoBulkAll spare + 1
  | .agg parts => uptoBulkAll parts + 1
  | .iface _ d => uptoBulk d + 1
  | .map entries => uptoBulkEntries entries + 1
  | .held _ => 1
def uptoBulkAll {H : Type} : List (DataW H) → Nat
  | [] => 0
  | d :: r => uptoBulk d + uptoBulkAll r
def uptoBulkEntries {H : Type} : List (Lit × DataW H) → Nat
  | [] => 0
  | x :: r => uptoBulkEntry x + uptoBulkEntries r
def uptoBulkEntry {H : Type} : Lit × DataW H → Nat
  | (.string bytes, d) => bytes.length + uptoBulk d + 1
  | (_, d) => uptoBulk d + 1
 end
def uptoSmall : (H : Type) → List (DataW H) → Bool := fun _ ds => decide (uptoBulkAll ds ≤ 1048576)
def OpenSpec.upto (s : _root_.Go.ChangeSpec) : _root_.Go.OpenSpec := { _root_.Go.OpenSpec.ofChange s with cond := some uptoSmall }

/-- 'lodestonelaw13.PairsEdges', WHERE WHAT IT READS IS OF BULK AT MOST 1048576: true; the input reads as it did. -/
def pairsEdgesUptoRow : OpenClaim := { program := "ytnlhnlmnlfmojaagreatdoor", sum := "59df5513f0884c5809c351d0ac4183c2dfe667cfb040e2713aebdf5a935c7587", func := "lodestone/lodestonelaw13.PairsEdges", spec := "pairsEdges", unfollowed := true, recurses := true, named := ["unicode/utf8.first", "unicode/utf8.acceptRanges"], apart := false, laid := [("unicode/utf8.acceptRanges", laid_unicode_utf8_acceptRanges), ("unicode/utf8.first", laid_unicode_utf8_first)], narrowed := true }
def PairsEdgesUptoSaid : Prop := pairsEdgesUptoRow.holds Tryz.pinned (OpenSpec.upto pairsEdgesSpec)

/-- 'lodestonelaw13.PairsGraph', WHERE WHAT IT READS IS OF BULK AT MOST 1048576: true; the input reads as it did. -/
def pairsGraphUptoRow : OpenClaim := { program := "ytnlhnlmnlfmojaagreatdoor", sum := "59df5513f0884c5809c351d0ac4183c2dfe667cfb040e2713aebdf5a935c7587", func := "lodestone/lodestonelaw13.PairsGraph", spec := "pairsGraph", unfollowed := true, recurses := true, named := ["unicode/utf8.first", "unicode/utf8.acceptRanges"], apart := false, laid := [("unicode/utf8.acceptRanges", laid_unicode_utf8_acceptRanges), ("unicode/utf8.first", laid_unicode_utf8_first)], narrowed := true }
def PairsGraphUptoSaid : Prop := pairsGraphUptoRow.holds Tryz.pinned (OpenSpec.upto pairsGraphSpec)

/-- 'lodestonelaw13.PairsFollow', WHERE WHAT IT READS IS OF BULK AT MOST 1048576: true; the input reads as it did. -/
def pairsFollowUptoRow : OpenClaim := { program := "ytnlhnlmnlfmojaagreatdoor", sum := "59df5513f0884c5809c351d0ac4183c2dfe667cfb040e2713aebdf5a935c7587", func := "lodestone/lodestonelaw13.PairsFollow", spec := "pairsFollow", unfollowed := true, recurses := true, named := ["unicode/utf8.first", "unicode/utf8.acceptRanges"], apart := false, laid := [("unicode/utf8.acceptRanges", laid_unicode_utf8_acceptRanges), ("unicode/utf8.first", laid_unicode_utf8_first)], narrowed := true }
def PairsFollowUptoSaid : Prop := pairsFollowUptoRow.holds Tryz.pinned (OpenSpec.upto pairsFollowSpec)

end Rows
end Go.Proofs.YtnlhnlmnlfmojaaGreatDoor
