/-
  NARROWER THAN 'FOR EVERY INPUT', by the rows' own cells (each row's printed sentence says how): NatRights: laid · NatReckons: laid · NatTexts: laid · NatParses: laid · NatBack: laid · NatLaws: laid · NatTens: laid.
  DERIVED. THE GIVEN ROWS OF THIS SEAT. 7 by the template 'for every input the law returns true; each argument reads behind the call as it read before'; 0 by the template 'total and deterministic' (their statements: YtkgjpdadeakacaaDoorTotals.lean).
  GIVEN WITH THE SEED: the statements are not yours to turn. If you find one false, say at which input.
  Laid BY PROGRAM, IN A SANDBOX (cutbox-rows.mjs): the forced cells as the released guide's own fill.sh prints them over the translation 35427619064dae5e… (all of the seat's roots in one cut). By AI agents, Wed Nov 11 2026. No macro, syntax, notation, axiom, sorry.
-/
import Derived.Test.YtkgjpdadeakacaaDoorChecked
import GoSem.PinnedTables
import GoSem.Claim
import GoSem.ClaimJoined
import GoSem.ClaimMapViews
import Derived.JoinedTies
import Derived.KernelRfl
namespace Go.Proofs.YtkgjpdadeakacaaDoor
/- THE CELL 'sum', in the pinned program and in every row, IS THE sha256 OF THE DUMP (.gsa) THAT YtkgjpdadeakacaaDoorProg.lean LOADS. Nothing in Lean hashes anything: it is a label: what it is worth is what the hold of that sum in a sandbox is worth. -/
noncomputable def Tryd.pinned : Pinned := { name := "ytkgjpdadeakacaadoor", sum := "35427619064dae5e8596c88b0752c5aeea9678e82bc0d51822c21d5e4a281a6b", checked := Tryd.checked }
namespace Rows
def none {H : Type} : Left H := { results := [], args := [] }

/- WHAT THE LISTED PACKAGE-LEVEL VARIABLES READ AS WHEN THE CALL BEGINS. Each datum BY PROGRAM (the guide's laid-datum.mjs) off the statement by which the dump's own 'gosem.cut.vars' lays the variable. In a bare row this is a premise. The card (YtkgjpdadeakacaaDoorCards.lean) ties it to the program's text. -/
def laid_unicode_utf8_acceptRanges {H : Type} : DataW H := .agg [.agg [.lit (.int .u8 128), .lit (.int .u8 191)], .agg [.lit (.int .u8 160), .lit (.int .u8 191)], .agg [.lit (.int .u8 128), .lit (.int .u8 159)], .agg [.lit (.int .u8 144), .lit (.int .u8 191)], .agg [.lit (.int .u8 128), .lit (.int .u8 143)], .agg [.lit (.int .u8 0), .lit (.int .u8 0)], .agg [.lit (.int .u8 0), .lit (.int .u8 0)], .agg [.lit (.int .u8 0), .lit (.int .u8 0)], .agg [.lit (.int .u8 0), .lit (.int .u8 0)], .agg [.lit (.int .u8 0), .lit (.int .u8 0)], .agg [.lit (.int .u8 0), .lit (.int .u8 0)], .agg [.lit (.int .u8 0), .lit (.int .u8 0)], .agg [.lit (.int .u8 0), .lit (.int .u8 0)], .agg [.lit (.int .u8 0), .lit (.int .u8 0)], .agg [.lit (.int .u8 0), .lit (.int .u8 0)], .agg [.lit (.int .u8 0), .lit (.int .u8 0)]]
/-- One of Go's own tables, pinned by name: the form's constant. -/
def laid_unicode_utf8_first : DataW Unit := Go.Pinned.utf8First

/-- 'lodestonelaw01.NatRights': WHATEVER THE INPUT: true; the input reads as it did. -/
def natRightsSpec : ChangeSpec := { name := "natRights", fn := fun _ => fun
  | [d1, d2] => { results := [.lit (.bool true)], args := [d1, d2] }
  | _ => none }
def natRightsRow : OpenClaim := { program := "ytkgjpdadeakacaadoor", sum := "35427619064dae5e8596c88b0752c5aeea9678e82bc0d51822c21d5e4a281a6b", func := "lodestone/lodestonelaw01.NatRights", spec := "natRights", inPlace := ["internal/bytealg.IndexByteString", "internal/bytealg.IndexString"], named := ["unicode/utf8.first", "unicode/utf8.acceptRanges", "internal/bytealg.MaxLen"], apart := false, laid := [("unicode/utf8.acceptRanges", laid_unicode_utf8_acceptRanges), ("unicode/utf8.first", laid_unicode_utf8_first)] }
def NatRightsSaid : Prop := natRightsRow.holds Tryd.pinned (OpenSpec.ofChange natRightsSpec)

/-- ITS FALSE NEIGHBOUR: 'it returns false'. Refute it at one input. -/
def natRightsWrong : ChangeSpec := { name := "natRights", fn := fun _ => fun
  | [d1, d2] => { results := [.lit (.bool false)], args := [d1, d2] }
  | _ => none }
def NatRightsWrongFalsely : Prop := natRightsRow.holds Tryd.pinned (OpenSpec.ofChange natRightsWrong)

/-- 'lodestonelaw01.NatReckons': WHATEVER THE INPUT: true; the input reads as it did. -/
def natReckonsSpec : ChangeSpec := { name := "natReckons", fn := fun _ => fun
  | [d1, d2] => { results := [.lit (.bool true)], args := [d1, d2] }
  | _ => none }
def natReckonsRow : OpenClaim := { program := "ytkgjpdadeakacaadoor", sum := "35427619064dae5e8596c88b0752c5aeea9678e82bc0d51822c21d5e4a281a6b", func := "lodestone/lodestonelaw01.NatReckons", spec := "natReckons", inPlace := ["internal/bytealg.IndexByteString", "internal/bytealg.IndexString"], named := ["unicode/utf8.first", "unicode/utf8.acceptRanges", "internal/bytealg.MaxLen"], apart := false, laid := [("unicode/utf8.acceptRanges", laid_unicode_utf8_acceptRanges), ("unicode/utf8.first", laid_unicode_utf8_first)] }
def NatReckonsSaid : Prop := natReckonsRow.holds Tryd.pinned (OpenSpec.ofChange natReckonsSpec)

/-- ITS FALSE NEIGHBOUR: 'it returns false'. Refute it at one input. -/
def natReckonsWrong : ChangeSpec := { name := "natReckons", fn := fun _ => fun
  | [d1, d2] => { results := [.lit (.bool false)], args := [d1, d2] }
  | _ => none }
def NatReckonsWrongFalsely : Prop := natReckonsRow.holds Tryd.pinned (OpenSpec.ofChange natReckonsWrong)

/-- 'lodestonelaw01.NatTexts': WHATEVER THE INPUT: true; the input reads as it did. -/
def natTextsSpec : ChangeSpec := { name := "natTexts", fn := fun _ => fun
  | [d] => { results := [.lit (.bool true)], args := [d] }
  | _ => none }
def natTextsRow : OpenClaim := { program := "ytkgjpdadeakacaadoor", sum := "35427619064dae5e8596c88b0752c5aeea9678e82bc0d51822c21d5e4a281a6b", func := "lodestone/lodestonelaw01.NatTexts", spec := "natTexts", inPlace := ["internal/bytealg.IndexByteString", "internal/bytealg.IndexString"], named := ["unicode/utf8.first", "unicode/utf8.acceptRanges", "internal/bytealg.MaxLen"], apart := false, laid := [("unicode/utf8.acceptRanges", laid_unicode_utf8_acceptRanges), ("unicode/utf8.first", laid_unicode_utf8_first)] }
def NatTextsSaid : Prop := natTextsRow.holds Tryd.pinned (OpenSpec.ofChange natTextsSpec)

/-- ITS FALSE NEIGHBOUR: 'it returns false'. Refute it at one input. -/
def natTextsWrong : ChangeSpec := { name := "natTexts", fn := fun _ => fun
  | [d] => { results := [.lit (.bool false)], args := [d] }
  | _ => none }
def NatTextsWrongFalsely : Prop := natTextsRow.holds Tryd.pinned (OpenSpec.ofChange natTextsWrong)

/-- 'lodestonelaw01.NatParses': WHATEVER THE INPUT: true; the input reads as it did. -/
def natParsesSpec : ChangeSpec := { name := "natParses", fn := fun _ => fun
  | [d] => { results := [.lit (.bool true)], args := [d] }
  | _ => none }
def natParsesRow : OpenClaim := { program := "ytkgjpdadeakacaadoor", sum := "35427619064dae5e8596c88b0752c5aeea9678e82bc0d51822c21d5e4a281a6b", func := "lodestone/lodestonelaw01.NatParses", spec := "natParses", inPlace := ["internal/bytealg.IndexByteString", "internal/bytealg.IndexString"], named := ["unicode/utf8.first", "unicode/utf8.acceptRanges", "internal/bytealg.MaxLen"], apart := false, laid := [("unicode/utf8.acceptRanges", laid_unicode_utf8_acceptRanges), ("unicode/utf8.first", laid_unicode_utf8_first)] }
def NatParsesSaid : Prop := natParsesRow.holds Tryd.pinned (OpenSpec.ofChange natParsesSpec)

/-- ITS FALSE NEIGHBOUR: 'it returns false'. Refute it at one input. -/
def natParsesWrong : ChangeSpec := { name := "natParses", fn := fun _ => fun
  | [d] => { results := [.lit (.bool false)], args := [d] }
  | _ => none }
def NatParsesWrongFalsely : Prop := natParsesRow.holds Tryd.pinned (OpenSpec.ofChange natParsesWrong)

/-- 'lodestonelaw01.NatBack': WHATEVER THE INPUT: true; the input reads as it did. -/
def natBackSpec : ChangeSpec := { name := "natBack", fn := fun _ => fun
  | [d1, d2] => { results := [.lit (.bool true)], args := [d1, d2] }
  | _ => none }
def natBackRow : OpenClaim := { program := "ytkgjpdadeakacaadoor", sum := "35427619064dae5e8596c88b0752c5aeea9678e82bc0d51822c21d5e4a281a6b", func := "lodestone/lodestonelaw01.NatBack", spec := "natBack", inPlace := ["internal/bytealg.IndexByteString", "internal/bytealg.IndexString"], named := ["unicode/utf8.first", "unicode/utf8.acceptRanges", "internal/bytealg.MaxLen"], apart := false, laid := [("unicode/utf8.acceptRanges", laid_unicode_utf8_acceptRanges), ("unicode/utf8.first", laid_unicode_utf8_first)] }
def NatBackSaid : Prop := natBackRow.holds Tryd.pinned (OpenSpec.ofChange natBackSpec)

/-- ITS FALSE NEIGHBOUR: 'it returns false'. Refute it at one input. -/
def natBackWrong : ChangeSpec := { name := "natBack", fn := fun _ => fun
  | [d1, d2] => { results := [.lit (.bool false)], args := [d1, d2] }
  | _ => none }
def NatBackWrongFalsely : Prop := natBackRow.holds Tryd.pinned (OpenSpec.ofChange natBackWrong)

/-- 'lodestonelaw01.NatLaws': WHATEVER THE INPUT: true; the input reads as it did. -/
def natLawsSpec : ChangeSpec := { name := "natLaws", fn := fun _ => fun
  | [d1, d2, d3] => { results := [.lit (.bool true)], args := [d1, d2, d3] }
  | _ => none }
def natLawsRow : OpenClaim := { program := "ytkgjpdadeakacaadoor", sum := "35427619064dae5e8596c88b0752c5aeea9678e82bc0d51822c21d5e4a281a6b", func := "lodestone/lodestonelaw01.NatLaws", spec := "natLaws", inPlace := ["internal/bytealg.IndexByteString", "internal/bytealg.IndexString"], named := ["unicode/utf8.first", "unicode/utf8.acceptRanges", "internal/bytealg.MaxLen"], apart := false, laid := [("unicode/utf8.acceptRanges", laid_unicode_utf8_acceptRanges), ("unicode/utf8.first", laid_unicode_utf8_first)] }
def NatLawsSaid : Prop := natLawsRow.holds Tryd.pinned (OpenSpec.ofChange natLawsSpec)

/-- ITS FALSE NEIGHBOUR: 'it returns false'. Refute it at one input. -/
def natLawsWrong : ChangeSpec := { name := "natLaws", fn := fun _ => fun
  | [d1, d2, d3] => { results := [.lit (.bool false)], args := [d1, d2, d3] }
  | _ => none }
def NatLawsWrongFalsely : Prop := natLawsRow.holds Tryd.pinned (OpenSpec.ofChange natLawsWrong)

/-- 'lodestonelaw01.NatTens': WHATEVER THE INPUT: true; the input reads as it did. -/
def natTensSpec : ChangeSpec := { name := "natTens", fn := fun _ => fun
  | [d1, d2] => { results := [.lit (.bool true)], args := [d1, d2] }
  | _ => none }
def natTensRow : OpenClaim := { program := "ytkgjpdadeakacaadoor", sum := "35427619064dae5e8596c88b0752c5aeea9678e82bc0d51822c21d5e4a281a6b", func := "lodestone/lodestonelaw01.NatTens", spec := "natTens", inPlace := ["internal/bytealg.IndexByteString", "internal/bytealg.IndexString"], named := ["unicode/utf8.first", "unicode/utf8.acceptRanges", "internal/bytealg.MaxLen"], apart := false, laid := [("unicode/utf8.acceptRanges", laid_unicode_utf8_acceptRanges), ("unicode/utf8.first", laid_unicode_utf8_first)] }
def NatTensSaid : Prop := natTensRow.holds Tryd.pinned (OpenSpec.ofChange natTensSpec)

/-- ITS FALSE NEIGHBOUR: 'it returns false'. Refute it at one input. -/
def natTensWrong : ChangeSpec := { name := "natTens", fn := fun _ => fun
  | [d1, d2] => { results := [.lit (.bool false)], args := [d1, d2] }
  | _ => none }
def NatTensWrongFalsely : Prop := natTensRow.holds Tryd.pinned (OpenSpec.ofChange natTensWrong)

/- THE SECOND FORM. 'bulk': how many values and letters a reading holds, each counted each time it is reached (what is shared counts as often as it is met; a slice's spare places count too). A statement '..UptoSaid' is the law's where the arguments, and the package variables that the reading takes, are together of bulk at most 1048576: NARROWER than '..Said'. Prove '..Said' where nothing that the law and all that it calls make is longer than what came in: it says more and counts as full. Else prove '..UptoSaid'. A law counts once. -/
mutual
def uptoBulk {H : Type} : DataW H → Nat
  | .lit (.string bytes) => bytes.length + 1
  | .lit _ => 1
  | .nil => 1
  | .ptr d => uptoBulk d + 1
  | .slice elems spare => uptoBulkAll elems + uptoBulkAll spare + 1
  | .agg parts => uptoBulkAll parts + 1
  | .iface _ d => uptoBulk d + 1
  | .map entries => uptoBulkEntries entries + 1
  | .held _ => 1
def uptoBulkAll {H : Type} : List (DataW H) → Nat
  | [] => 0
  | d :: r => uptoBulk d + uptoBulkAll r
def uptoBulkEntries {H : Type} : List (Lit × DataW H) → Nat
  | [] => 0
  | x :: r => uptoBulkEntry x + uptoBulkEntries r
def uptoBulkEntry {H : Type} : Lit × DataW H → Nat
  | (.string bytes, d) => bytes.length + uptoBulk d + 1
  | (_, d) => uptoBulk d + 1
 end
def uptoSmall : (H : Type) → List (DataW H) → Bool := fun _ ds => decide (uptoBulkAll ds ≤ 1048576)
def OpenSpec.upto (s : _root_.Go.ChangeSpec) : _root_.Go.OpenSpec := { _root_.Go.OpenSpec.ofChange s with cond := some uptoSmall }

/-- 'lodestonelaw01.NatRights', WHERE WHAT IT READS IS OF BULK AT MOST 1048576: true; the input reads as it did. -/
def natRightsUptoRow : OpenClaim := { program := "ytkgjpdadeakacaadoor", sum := "35427619064dae5e8596c88b0752c5aeea9678e82bc0d51822c21d5e4a281a6b", func := "lodestone/lodestonelaw01.NatRights", spec := "natRights", inPlace := ["internal/bytealg.IndexByteString", "internal/bytealg.IndexString"], named := ["unicode/utf8.first", "unicode/utf8.acceptRanges", "internal/bytealg.MaxLen"], apart := false, laid := [("unicode/utf8.acceptRanges", laid_unicode_utf8_acceptRanges), ("unicode/utf8.first", laid_unicode_utf8_first)], narrowed := true }
def NatRightsUptoSaid : Prop := natRightsUptoRow.holds Tryd.pinned (OpenSpec.upto natRightsSpec)

/-- 'lodestonelaw01.NatReckons', WHERE WHAT IT READS IS OF BULK AT MOST 1048576: true; the input reads as it did. -/
def natReckonsUptoRow : OpenClaim := { program := "ytkgjpdadeakacaadoor", sum := "35427619064dae5e8596c88b0752c5aeea9678e82bc0d51822c21d5e4a281a6b", func := "lodestone/lodestonelaw01.NatReckons", spec := "natReckons", inPlace := ["internal/bytealg.IndexByteString", "internal/bytealg.IndexString"], named := ["unicode/utf8.first", "unicode/utf8.acceptRanges", "internal/bytealg.MaxLen"], apart := false, laid := [("unicode/utf8.acceptRanges", laid_unicode_utf8_acceptRanges), ("unicode/utf8.first", laid_unicode_utf8_first)], narrowed := true }
def NatReckonsUptoSaid : Prop := natReckonsUptoRow.holds Tryd.pinned (OpenSpec.upto natReckonsSpec)

/-- 'lodestonelaw01.NatTexts', WHERE WHAT IT READS IS OF BULK AT MOST 1048576: true; the input reads as it did. -/
def natTextsUptoRow : OpenClaim := { program := "ytkgjpdadeakacaadoor", sum := "35427619064dae5e8596c88b0752c5aeea9678e82bc0d51822c21d5e4a281a6b", func := "lodestone/lodestonelaw01.NatTexts", spec := "natTexts", inPlace := ["internal/bytealg.IndexByteString", "internal/bytealg.IndexString"], named := ["unicode/utf8.first", "unicode/utf8.acceptRanges", "internal/bytealg.MaxLen"], apart := false, laid := [("unicode/utf8.acceptRanges", laid_unicode_utf8_acceptRanges), ("unicode/utf8.first", laid_unicode_utf8_first)], narrowed := true }
def NatTextsUptoSaid : Prop := natTextsUptoRow.holds Tryd.pinned (OpenSpec.upto natTextsSpec)

/-- 'lodestonelaw01.NatParses', WHERE WHAT IT READS IS OF BULK AT MOST 1048576: true; the input reads as it did. -/
def natParsesUptoRow : OpenClaim := { program := "ytkgjpdadeakacaadoor", sum := "35427619064dae5e8596c88b0752c5aeea9678e82bc0d51822c21d5e4a281a6b", func := "lodestone/lodestonelaw01.NatParses", spec := "natParses", inPlace := ["internal/bytealg.IndexByteString", "internal/bytealg.IndexString"], named := ["unicode/utf8.first", "unicode/utf8.acceptRanges", "internal/bytealg.MaxLen"], apart := false, laid := [("unicode/utf8.acceptRanges", laid_unicode_utf8_acceptRanges), ("unicode/utf8.first", laid_unicode_utf8_first)], narrowed := true }
def NatParsesUptoSaid : Prop := natParsesUptoRow.holds Tryd.pinned (OpenSpec.upto natParsesSpec)

/-- 'lodestonelaw01.NatBack', WHERE WHAT IT READS IS OF BULK AT MOST 1048576: true; the input reads as it did. -/
def natBackUptoRow : OpenClaim := { program := "ytkgjpdadeakacaadoor", sum := "35427619064dae5e8596c88b0752c5aeea9678e82bc0d51822c21d5e4a281a6b", func := "lodestone/lodestonelaw01.NatBack", spec := "natBack", inPlace := ["internal/bytealg.IndexByteString", "internal/bytealg.IndexString"], named := ["unicode/utf8.first", "unicode/utf8.acceptRanges", "internal/bytealg.MaxLen"], apart := false, laid := [("unicode/utf8.acceptRanges", laid_unicode_utf8_acceptRanges), ("unicode/utf8.first", laid_unicode_utf8_first)], narrowed := true }
def NatBackUptoSaid : Prop := natBackUptoRow.holds Tryd.pinned (OpenSpec.upto natBackSpec)

/-- 'lodestonelaw01.NatLaws', WHERE WHAT IT READS IS OF BULK AT MOST 1048576: true; the input reads as it did. -/
def natLawsUptoRow : OpenClaim := { program := "ytkgjpdadeakacaadoor", sum := "35427619064dae5e8596c88b0752c5aeea9678e82bc0d51822c21d5e4a281a6b", func := "lodestone/lodestonelaw01.NatLaws", spec := "natLaws", inPlace := ["internal/bytealg.IndexByteString", "internal/bytealg.IndexString"], named := ["unicode/utf8.first", "unicode/utf8.acceptRanges", "internal/bytealg.MaxLen"], apart := false, laid := [("unicode/utf8.acceptRanges", laid_unicode_utf8_acceptRanges), ("unicode/utf8.first", laid_unicode_utf8_first)], narrowed := true }
def NatLawsUptoSaid : Prop := natLawsUptoRow.holds Tryd.pinned (OpenSpec.upto natLawsSpec)

/-- 'lodestonelaw01.NatTens', WHERE WHAT IT READS IS OF BULK AT MOST 1048576: true; the input reads as it did. -/
def natTensUptoRow : OpenClaim := { program := "ytkgjpdadeakacaadoor", sum := "35427619064dae5e8596c88b0752c5aeea9678e82bc0d51822c21d5e4a281a6b", func := "lodestone/lodestonelaw01.NatTens", spec := "natTens", inPlace := ["internal/bytealg.IndexByteString", "internal/bytealg.IndexString"], named := ["unicode/utf8.first", "unicode/utf8.acceptRanges", "internal/bytealg.MaxLen"], apart := false, laid := [("unicode/utf8.acceptRanges", laid_unicode_utf8_acceptRanges), ("unicode/utf8.first", laid_unicode_utf8_first)], narrowed := true }
def NatTensUptoSaid : Prop := natTensUptoRow.holds Tryd.pinned (OpenSpec.upto natTensSpec)

end Rows
end Go.Proofs.YtkgjpdadeakacaaDoor
