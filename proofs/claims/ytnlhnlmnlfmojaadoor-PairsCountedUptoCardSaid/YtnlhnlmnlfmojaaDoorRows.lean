/-
  NARROWER THAN 'FOR EVERY INPUT', by the rows' own cells (each row's printed sentence says how): SystemChecks: laid · SystemSame: laid · SystemKinds: laid · PairsExtend: laid · PairsOf: laid · PairsCounted: laid.
  DERIVED. THE GIVEN ROWS OF THIS SEAT. 6 by the template 'for every input the law returns true; each argument reads behind the call as it read before'; 0 by the template 'total and deterministic' (their statements: YtnlhnlmnlfmojaaDoorTotals.lean).
  GIVEN WITH THE SEED: the statements are not yours to turn. If you find one false, say at which input.
  Laid BY PROGRAM, IN A SANDBOX (cutbox-rows.mjs): the forced cells as the released guide's own fill.sh prints them over the translation c0bb42690550ffa2… (all of the seat's roots in one cut). By AI agents, Wed Nov 11 2026. No macro, syntax, notation, axiom, sorry.
-/
import Derived.Test.YtnlhnlmnlfmojaaDoorChecked
import GoSem.PinnedTables
import GoSem.Claim
import GoSem.ClaimJoined
import GoSem.ClaimMapViews
import Derived.JoinedTies
import Derived.KernelRfl
namespace Go.Proofs.YtnlhnlmnlfmojaaDoor
/- THE CELL 'sum', in the pinned program and in every row, IS THE sha256 OF THE DUMP (.gsa) THAT YtnlhnlmnlfmojaaDoorProg.lean LOADS. Nothing in Lean hashes anything: it is a label: what it is worth is what the hold of that sum in a sandbox is worth. -/
noncomputable def Tryd.pinned : Pinned := { name := "ytnlhnlmnlfmojaadoor", sum := "c0bb42690550ffa256fc2df7e5f45677929ad9ecffb889e577168b6f1a82084e", checked := Tryd.checked }
namespace Rows
def none {H : Type} : Left H := { results := [], args := [] }

/- WHAT THE LISTED PACKAGE-LEVEL VARIABLES READ AS WHEN THE CALL BEGINS. Each datum BY PROGRAM (the guide's laid-datum.mjs) off the statement by which the dump's own 'gosem.cut.vars' lays the variable. In a bare row this is a premise. The card (YtnlhnlmnlfmojaaDoorCards.lean) ties it to the program's text. -/
def laid_unicode_utf8_acceptRanges {H : Type} : DataW H := .agg [.agg [.lit (.int .u8 128), .lit (.int .u8 191)], .agg [.lit (.int .u8 160), .lit (.int .u8 191)], .agg [.lit (.int .u8 128), .lit (.int .u8 159)], .agg [.lit (.int .u8 144), .lit (.int .u8 191)], .agg [.lit (.int .u8 128), .lit (.int .u8 143)], .agg [.lit (.int .u8 0), .lit (.int .u8 0)], .agg [.lit (.int .u8 0), .lit (.int .u8 0)], .agg [.lit (.int .u8 0), .lit (.int .u8 0)], .agg [.lit (.int .u8 0), .lit (.int .u8 0)], .agg [.lit (.int .u8 0), .lit (.int .u8 0)], .agg [.lit (.int .u8 0), .lit (.int .u8 0)], .agg [.lit (.int .u8 0), .lit (.int .u8 0)], .agg [.lit (.int .u8 0), .lit (.int .u8 0)], .agg [.lit (.int .u8 0), .lit (.int .u8 0)], .agg [.lit (.int .u8 0), .lit (.int .u8 0)], .agg [.lit (.int .u8 0), .lit (.int .u8 0)]]
/-- One of Go's own tables, pinned by name: the form's constant. -/
def laid_unicode_utf8_first : DataW Unit := Go.Pinned.utf8First

/-- 'lodestonelaw07.SystemChecks': WHATEVER THE INPUT: true; the input reads as it did. -/
def systemChecksSpec : ChangeSpec := { name := "systemChecks", fn := fun _ => fun
  | [d] => { results := [.lit (.bool true)], args := [d] }
  | _ => none }
def systemChecksRow : OpenClaim := { program := "ytnlhnlmnlfmojaadoor", sum := "c0bb42690550ffa256fc2df7e5f45677929ad9ecffb889e577168b6f1a82084e", func := "lodestone/lodestonelaw07.SystemChecks", spec := "systemChecks", unfollowed := true, recurses := true, named := ["unicode/utf8.first", "unicode/utf8.acceptRanges"], apart := false, laid := [("unicode/utf8.acceptRanges", laid_unicode_utf8_acceptRanges), ("unicode/utf8.first", laid_unicode_utf8_first)] }
def SystemChecksSaid : Prop := systemChecksRow.holds Tryd.pinned (OpenSpec.ofChange systemChecksSpec)

/-- ITS FALSE NEIGHBOUR: 'it returns false'. Refute it at one input. -/
def systemChecksWrong : ChangeSpec := { name := "systemChecks", fn := fun _ => fun
  | [d] => { results := [.lit (.bool false)], args := [d] }
  | _ => none }
def SystemChecksWrongFalsely : Prop := systemChecksRow.holds Tryd.pinned (OpenSpec.ofChange systemChecksWrong)

/-- 'lodestonelaw07.SystemSame': WHATEVER THE INPUT: true; the input reads as it did. -/
def systemSameSpec : ChangeSpec := { name := "systemSame", fn := fun _ => fun
  | [d1, d2] => { results := [.lit (.bool true)], args := [d1, d2] }
  | _ => none }
def systemSameRow : OpenClaim := { program := "ytnlhnlmnlfmojaadoor", sum := "c0bb42690550ffa256fc2df7e5f45677929ad9ecffb889e577168b6f1a82084e", func := "lodestone/lodestonelaw07.SystemSame", spec := "systemSame", unfollowed := true, recurses := true, named := ["unicode/utf8.first", "unicode/utf8.acceptRanges"], apart := false, laid := [("unicode/utf8.acceptRanges", laid_unicode_utf8_acceptRanges), ("unicode/utf8.first", laid_unicode_utf8_first)] }
def SystemSameSaid : Prop := systemSameRow.holds Tryd.pinned (OpenSpec.ofChange systemSameSpec)

/-- ITS FALSE NEIGHBOUR: 'it returns false'. Refute it at one input. -/
def systemSameWrong : ChangeSpec := { name := "systemSame", fn := fun _ => fun
  | [d1, d2] => { results := [.lit (.bool false)], args := [d1, d2] }
  | _ => none }
def SystemSameWrongFalsely : Prop := systemSameRow.holds Tryd.pinned (OpenSpec.ofChange systemSameWrong)

/-- 'lodestonelaw07.SystemKinds': WHATEVER THE INPUT: true; the input reads as it did. -/
def systemKindsSpec : ChangeSpec := { name := "systemKinds", fn := fun _ => fun
  | [d1, d2, d3] => { results := [.lit (.bool true)], args := [d1, d2, d3] }
  | _ => none }
def systemKindsRow : OpenClaim := { program := "ytnlhnlmnlfmojaadoor", sum := "c0bb42690550ffa256fc2df7e5f45677929ad9ecffb889e577168b6f1a82084e", func := "lodestone/lodestonelaw07.SystemKinds", spec := "systemKinds", unfollowed := true, recurses := true, named := ["unicode/utf8.first", "unicode/utf8.acceptRanges"], apart := false, laid := [("unicode/utf8.acceptRanges", laid_unicode_utf8_acceptRanges), ("unicode/utf8.first", laid_unicode_utf8_first)] }
def SystemKindsSaid : Prop := systemKindsRow.holds Tryd.pinned (OpenSpec.ofChange systemKindsSpec)

/-- ITS FALSE NEIGHBOUR: 'it returns false'. Refute it at one input. -/
def systemKindsWrong : ChangeSpec := { name := "systemKinds", fn := fun _ => fun
  | [d1, d2, d3] => { results := [.lit (.bool false)], args := [d1, d2, d3] }
  | _ => none }
def SystemKindsWrongFalsely : Prop := systemKindsRow.holds Tryd.pinned (OpenSpec.ofChange systemKindsWrong)

/-- 'lodestonelaw13.PairsExtend': WHATEVER THE INPUT: true; the input reads as it did. -/
def pairsExtendSpec : ChangeSpec := { name := "pairsExtend", fn := fun _ => fun
  | [d] => { results := [.lit (.bool true)], args := [d] }
  | _ => none }
def pairsExtendRow : OpenClaim := { program := "ytnlhnlmnlfmojaadoor", sum := "c0bb42690550ffa256fc2df7e5f45677929ad9ecffb889e577168b6f1a82084e", func := "lodestone/lodestonelaw13.PairsExtend", spec := "pairsExtend", unfollowed := true, recurses := true, named := ["unicode/utf8.first", "unicode/utf8.acceptRanges"], apart := false, laid := [("unicode/utf8.acceptRanges", laid_unicode_utf8_acceptRanges), ("unicode/utf8.first", laid_unicode_utf8_first)] }
def PairsExtendSaid : Prop := pairsExtendRow.holds Tryd.pinned (OpenSpec.ofChange pairsExtendSpec)

/-- ITS FALSE NEIGHBOUR: 'it returns false'. Refute it at one input. -/
def pairsExtendWrong : ChangeSpec := { name := "pairsExtend", fn := fun _ => fun
  | [d] => { results := [.lit (.bool false)], args := [d] }
  | _ => none }
def PairsExtendWrongFalsely : Prop := pairsExtendRow.holds Tryd.pinned (OpenSpec.ofChange pairsExtendWrong)

/-- 'lodestonelaw13.PairsOf': WHATEVER THE INPUT: true; the input reads as it did. -/
def pairsOfSpec : ChangeSpec := { name := "pairsOf", fn := fun _ => fun
  | [d] => { results := [.lit (.bool true)], args := [d] }
  | _ => none }
def pairsOfRow : OpenClaim := { program := "ytnlhnlmnlfmojaadoor", sum := "c0bb42690550ffa256fc2df7e5f45677929ad9ecffb889e577168b6f1a82084e", func := "lodestone/lodestonelaw13.PairsOf", spec := "pairsOf", unfollowed := true, recurses := true, named := ["unicode/utf8.first", "unicode/utf8.acceptRanges"], apart := false, laid := [("unicode/utf8.acceptRanges", laid_unicode_utf8_acceptRanges), ("unicode/utf8.first", laid_unicode_utf8_first)] }
def PairsOfSaid : Prop := pairsOfRow.holds Tryd.pinned (OpenSpec.ofChange pairsOfSpec)

/-- ITS FALSE NEIGHBOUR: 'it returns false'. Refute it at one input. -/
def pairsOfWrong : ChangeSpec := { name := "pairsOf", fn := fun _ => fun
  | [d] => { results := [.lit (.bool false)], args := [d] }
  | _ => none }
def PairsOfWrongFalsely : Prop := pairsOfRow.holds Tryd.pinned (OpenSpec.ofChange pairsOfWrong)

/-- 'lodestonelaw13.PairsCounted': WHATEVER THE INPUT: true; the input reads as it did. -/
def pairsCountedSpec : ChangeSpec := { name := "pairsCounted", fn := fun _ => fun
  | [d] => { results := [.lit (.bool true)], args := [d] }
  | _ => none }
def pairsCountedRow : OpenClaim := { program := "ytnlhnlmnlfmojaadoor", sum := "c0bb42690550ffa256fc2df7e5f45677929ad9ecffb889e577168b6f1a82084e", func := "lodestone/lodestonelaw13.PairsCounted", spec := "pairsCounted", unfollowed := true, recurses := true, named := ["unicode/utf8.first", "unicode/utf8.acceptRanges"], apart := false, laid := [("unicode/utf8.acceptRanges", laid_unicode_utf8_acceptRanges), ("unicode/utf8.first", laid_unicode_utf8_first)] }
def PairsCountedSaid : Prop := pairsCountedRow.holds Tryd.pinned (OpenSpec.ofChange pairsCountedSpec)

/-- ITS FALSE NEIGHBOUR: 'it returns false'. Refute it at one input. -/
def pairsCountedWrong : ChangeSpec := { name := "pairsCounted", fn := fun _ => fun
  | [d] => { results := [.lit (.bool false)], args := [d] }
  | _ => none }
def PairsCountedWrongFalsely : Prop := pairsCountedRow.holds Tryd.pinned (OpenSpec.ofChange pairsCountedWrong)

/- THE SECOND FORM. 'bulk': how many values and letters a reading holds, each counted each time it is reached (what is shared counts as often as it is met; a slice's spare places count too). A statement '..UptoSaid' is the law's where the arguments, and the package variables that the reading takes, are together of bulk at most 1048576: NARROWER than '..Said'. Prove '..Said' where nothing that the law and all that it calls make is longer than what came in: it says more and counts as full. Else prove '..UptoSaid'. A law counts once. -/
mutual
def uptoBulk {H : Type} : DataW H → Nat
  | .lit (.string bytes) => bytes.length + 1
  | .lit _ => 1
  | .nil => 1
  | .ptr d => uptoBulk d + 1
  | .slice elems spare => uptoBulkAll elems + uptoBulkAll spare + 1
  | .agg parts => uptoBulkAll parts + 1
  | .iface _ d => uptoBulk d + 1
  | .map entries => uptoBulkEntries entries + 1
  | .held _ => 1
def uptoBulkAll {H : Type} : List (DataW H) → Nat
  | [] => 0
  | d :: r => uptoBulk d + uptoBulkAll r
def uptoBulkEntries {H : Type} : List (Lit × DataW H) → Nat
  | [] => 0
  | x :: r => uptoBulkEntry x + uptoBulkEntries r
def uptoBulkEntry {H : Type} : Lit × DataW H → Nat
  | (.string bytes, d) => bytes.length + uptoBulk d + 1
  | (_, d) => uptoBulk d + 1
 end
def uptoSmall : (H : Type) → List (DataW H) → Bool := fun _ ds => decide (uptoBulkAll ds ≤ 1048576)
def OpenSpec.upto (s : _root_.Go.ChangeSpec) : _root_.Go.OpenSpec := { _root_.Go.OpenSpec.ofChange s with cond := some uptoSmall }

/-- 'lodestonelaw07.SystemChecks', WHERE WHAT IT READS IS OF BULK AT MOST 1048576: true; the input reads as it did. -/
def systemChecksUptoRow : OpenClaim := { program := "ytnlhnlmnlfmojaadoor", sum := "c0bb42690550ffa256fc2df7e5f45677929ad9ecffb889e577168b6f1a82084e", func := "lodestone/lodestonelaw07.SystemChecks", spec := "systemChecks", unfollowed := true, recurses := true, named := ["unicode/utf8.first", "unicode/utf8.acceptRanges"], apart := false, laid := [("unicode/utf8.acceptRanges", laid_unicode_utf8_acceptRanges), ("unicode/utf8.first", laid_unicode_utf8_first)], narrowed := true }
def SystemChecksUptoSaid : Prop := systemChecksUptoRow.holds Tryd.pinned (OpenSpec.upto systemChecksSpec)

/-- 'lodestonelaw07.SystemSame', WHERE WHAT IT READS IS OF BULK AT MOST 1048576: true; the input reads as it did. -/
def systemSameUptoRow : OpenClaim := { program := "ytnlhnlmnlfmojaadoor", sum := "c0bb42690550ffa256fc2df7e5f45677929ad9ecffb889e577168b6f1a82084e", func := "lodestone/lodestonelaw07.SystemSame", spec := "systemSame", unfollowed := true, recurses := true, named := ["unicode/utf8.first", "unicode/utf8.acceptRanges"], apart := false, laid := [("unicode/utf8.acceptRanges", laid_unicode_utf8_acceptRanges), ("unicode/utf8.first", laid_unicode_utf8_first)], narrowed := true }
def SystemSameUptoSaid : Prop := systemSameUptoRow.holds Tryd.pinned (OpenSpec.upto systemSameSpec)

/-- 'lodestonelaw07.SystemKinds', WHERE WHAT IT READS IS OF BULK AT MOST 1048576: true; the input reads as it did. -/
def systemKindsUptoRow : OpenClaim := { program := "ytnlhnlmnlfmojaadoor", sum := "c0bb42690550ffa256fc2df7e5f45677929ad9ecffb889e577168b6f1a82084e", func := "lodestone/lodestonelaw07.SystemKinds", spec := "systemKinds", unfollowed := true, recurses := true, named := ["unicode/utf8.first", "unicode/utf8.acceptRanges"], apart := false, laid := [("unicode/utf8.acceptRanges", laid_unicode_utf8_acceptRanges), ("unicode/utf8.first", laid_unicode_utf8_first)], narrowed := true }
def SystemKindsUptoSaid : Prop := systemKindsUptoRow.holds Tryd.pinned (OpenSpec.upto systemKindsSpec)

/-- 'lodestonelaw13.PairsExtend', WHERE WHAT IT READS IS OF BULK AT MOST 1048576: true; the input reads as it did. -/
def pairsExtendUptoRow : OpenClaim := { program := "ytnlhnlmnlfmojaadoor", sum := "c0bb42690550ffa256fc2df7e5f45677929ad9ecffb889e577168b6f1a82084e", func := "lodestone/lodestonelaw13.PairsExtend", spec := "pairsExtend", unfollowed := true, recurses := true, named := ["unicode/utf8.first", "unicode/utf8.acceptRanges"], apart := false, laid := [("unicode/utf8.acceptRanges", laid_unicode_utf8_acceptRanges), ("unicode/utf8.first", laid_unicode_utf8_first)], narrowed := true }
def PairsExtendUptoSaid : Prop := pairsExtendUptoRow.holds Tryd.pinned (OpenSpec.upto pairsExtendSpec)

/-- 'lodestonelaw13.PairsOf', WHERE WHAT IT READS IS OF BULK AT MOST 1048576: true; the input reads as it did. -/
def pairsOfUptoRow : OpenClaim := { program := "ytnlhnlmnlfmojaadoor", sum := "c0bb42690550ffa256fc2df7e5f45677929ad9ecffb889e577168b6f1a82084e", func := "lodestone/lodestonelaw13.PairsOf", spec := "pairsOf", unfollowed := true, recurses := true, named := ["unicode/utf8.first", "unicode/utf8.acceptRanges"], apart := false, laid := [("unicode/utf8.acceptRanges", laid_unicode_utf8_acceptRanges), ("unicode/utf8.first", laid_unicode_utf8_first)], narrowed := true }
def PairsOfUptoSaid : Prop := pairsOfUptoRow.holds Tryd.pinned (OpenSpec.upto pairsOfSpec)

/-- 'lodestonelaw13.PairsCounted', WHERE WHAT IT READS IS OF BULK AT MOST 1048576: true; the input reads as it did. -/
def pairsCountedUptoRow : OpenClaim := { program := "ytnlhnlmnlfmojaadoor", sum := "c0bb42690550ffa256fc2df7e5f45677929ad9ecffb889e577168b6f1a82084e", func := "lodestone/lodestonelaw13.PairsCounted", spec := "pairsCounted", unfollowed := true, recurses := true, named := ["unicode/utf8.first", "unicode/utf8.acceptRanges"], apart := false, laid := [("unicode/utf8.acceptRanges", laid_unicode_utf8_acceptRanges), ("unicode/utf8.first", laid_unicode_utf8_first)], narrowed := true }
def PairsCountedUptoSaid : Prop := pairsCountedUptoRow.holds Tryd.pinned (OpenSpec.upto pairsCountedSpec)

end Rows
end Go.Proofs.YtnlhnlmnlfmojaaDoor
