/-
  No cell of these rows narrows 'for every input' (looked for: loops, veiled, ifaces, maps, wideKeys, modest, calm, conditions, laid).
  DERIVED. THE GIVEN ROWS OF THIS SEAT. 6 by the template 'for every input the law returns true; each argument reads behind the call as it read before'; 0 by the template 'total and deterministic' (their statements: YtdndngngdngjjaaTotals.lean).
  GIVEN WITH THE SEED: the statements are not yours to turn. If you find one false, say at which input.
  Laid BY PROGRAM, IN A SANDBOX (cutbox-rows.mjs): the forced cells as the released guide's own fill.sh prints them over the translation 9cff1f5597b839a6… (all of the seat's roots in one cut). By AI agents, Wed Nov 11 2026. No macro, syntax, notation, axiom, sorry.
-/
import Derived.Test.YtdndngngdngjjaaChecked
import GoSem.Claim
import GoSem.ClaimJoined
import GoSem.ClaimMapViews
import Derived.JoinedTies
import Derived.KernelRfl
namespace Go.Proofs.Ytdndngngdngjjaa
/- THE CELL 'sum', in the pinned program and in every row, IS THE sha256 OF THE DUMP (.gsa) THAT YtdndngngdngjjaaProg.lean LOADS. Nothing in Lean hashes anything: it is a label: what it is worth is what the hold of that sum in a sandbox is worth. -/
noncomputable def Try.pinned : Pinned := { name := "ytdndngngdngjjaa", sum := "9cff1f5597b839a65c9f4c7e6c6c238be6d95394d08dc54da25cd8a8f5f7185d", checked := Try.checked }
namespace Rows
def none {H : Type} : Left H := { results := [], args := [] }

/-- 'lodestonelaw14.GraphParts': WHATEVER THE INPUT: true; the input reads as it did. -/
def graphPartsSpec : ChangeSpec := { name := "graphParts", fn := fun _ => fun
  | [d] => { results := [.lit (.bool true)], args := [d] }
  | _ => none }
def graphPartsRow : OpenClaim := { program := "ytdndngngdngjjaa", sum := "9cff1f5597b839a65c9f4c7e6c6c238be6d95394d08dc54da25cd8a8f5f7185d", func := "lodestone/lodestonelaw14.GraphParts", spec := "graphParts", unfollowed := true, recurses := true, apart := false }
def GraphPartsSaid : Prop := graphPartsRow.holds Try.pinned (OpenSpec.ofChange graphPartsSpec)

/-- ITS FALSE NEIGHBOUR: 'it returns false'. Refute it at one input. -/
def graphPartsWrong : ChangeSpec := { name := "graphParts", fn := fun _ => fun
  | [d] => { results := [.lit (.bool false)], args := [d] }
  | _ => none }
def GraphPartsWrongFalsely : Prop := graphPartsRow.holds Try.pinned (OpenSpec.ofChange graphPartsWrong)

/-- 'lodestonelaw14.GraphCircles': WHATEVER THE INPUT: true; the input reads as it did. -/
def graphCirclesSpec : ChangeSpec := { name := "graphCircles", fn := fun _ => fun
  | [d] => { results := [.lit (.bool true)], args := [d] }
  | _ => none }
def graphCirclesRow : OpenClaim := { program := "ytdndngngdngjjaa", sum := "9cff1f5597b839a65c9f4c7e6c6c238be6d95394d08dc54da25cd8a8f5f7185d", func := "lodestone/lodestonelaw14.GraphCircles", spec := "graphCircles", unfollowed := true, recurses := true, apart := false }
def GraphCirclesSaid : Prop := graphCirclesRow.holds Try.pinned (OpenSpec.ofChange graphCirclesSpec)

/-- ITS FALSE NEIGHBOUR: 'it returns false'. Refute it at one input. -/
def graphCirclesWrong : ChangeSpec := { name := "graphCircles", fn := fun _ => fun
  | [d] => { results := [.lit (.bool false)], args := [d] }
  | _ => none }
def GraphCirclesWrongFalsely : Prop := graphCirclesRow.holds Try.pinned (OpenSpec.ofChange graphCirclesWrong)

/-- 'lodestonelaw14.GraphTurned': WHATEVER THE INPUT: true; the input reads as it did. -/
def graphTurnedSpec : ChangeSpec := { name := "graphTurned", fn := fun _ => fun
  | [d] => { results := [.lit (.bool true)], args := [d] }
  | _ => none }
def graphTurnedRow : OpenClaim := { program := "ytdndngngdngjjaa", sum := "9cff1f5597b839a65c9f4c7e6c6c238be6d95394d08dc54da25cd8a8f5f7185d", func := "lodestone/lodestonelaw14.GraphTurned", spec := "graphTurned", unfollowed := true, recurses := true, apart := false }
def GraphTurnedSaid : Prop := graphTurnedRow.holds Try.pinned (OpenSpec.ofChange graphTurnedSpec)

/-- ITS FALSE NEIGHBOUR: 'it returns false'. Refute it at one input. -/
def graphTurnedWrong : ChangeSpec := { name := "graphTurned", fn := fun _ => fun
  | [d] => { results := [.lit (.bool false)], args := [d] }
  | _ => none }
def GraphTurnedWrongFalsely : Prop := graphTurnedRow.holds Try.pinned (OpenSpec.ofChange graphTurnedWrong)

/-- 'lodestonelaw14.GraphRenamed': WHATEVER THE INPUT: true; the input reads as it did. -/
def graphRenamedSpec : ChangeSpec := { name := "graphRenamed", fn := fun _ => fun
  | [d1, d2] => { results := [.lit (.bool true)], args := [d1, d2] }
  | _ => none }
def graphRenamedRow : OpenClaim := { program := "ytdndngngdngjjaa", sum := "9cff1f5597b839a65c9f4c7e6c6c238be6d95394d08dc54da25cd8a8f5f7185d", func := "lodestone/lodestonelaw14.GraphRenamed", spec := "graphRenamed", unfollowed := true, recurses := true, apart := false }
def GraphRenamedSaid : Prop := graphRenamedRow.holds Try.pinned (OpenSpec.ofChange graphRenamedSpec)

/-- ITS FALSE NEIGHBOUR: 'it returns false'. Refute it at one input. -/
def graphRenamedWrong : ChangeSpec := { name := "graphRenamed", fn := fun _ => fun
  | [d1, d2] => { results := [.lit (.bool false)], args := [d1, d2] }
  | _ => none }
def GraphRenamedWrongFalsely : Prop := graphRenamedRow.holds Try.pinned (OpenSpec.ofChange graphRenamedWrong)

/-- 'lodestonelaw14.GraphCounts': WHATEVER THE INPUT: true; the input reads as it did. -/
def graphCountsSpec : ChangeSpec := { name := "graphCounts", fn := fun _ => fun
  | [d] => { results := [.lit (.bool true)], args := [d] }
  | _ => none }
def graphCountsRow : OpenClaim := { program := "ytdndngngdngjjaa", sum := "9cff1f5597b839a65c9f4c7e6c6c238be6d95394d08dc54da25cd8a8f5f7185d", func := "lodestone/lodestonelaw14.GraphCounts", spec := "graphCounts", unfollowed := true, recurses := true, apart := false }
def GraphCountsSaid : Prop := graphCountsRow.holds Try.pinned (OpenSpec.ofChange graphCountsSpec)

/-- ITS FALSE NEIGHBOUR: 'it returns false'. Refute it at one input. -/
def graphCountsWrong : ChangeSpec := { name := "graphCounts", fn := fun _ => fun
  | [d] => { results := [.lit (.bool false)], args := [d] }
  | _ => none }
def GraphCountsWrongFalsely : Prop := graphCountsRow.holds Try.pinned (OpenSpec.ofChange graphCountsWrong)

/-- 'lodestonelaw14.GraphMore': WHATEVER THE INPUT: true; the input reads as it did. -/
def graphMoreSpec : ChangeSpec := { name := "graphMore", fn := fun _ => fun
  | [d1, d2, d3] => { results := [.lit (.bool true)], args := [d1, d2, d3] }
  | _ => none }
def graphMoreRow : OpenClaim := { program := "ytdndngngdngjjaa", sum := "9cff1f5597b839a65c9f4c7e6c6c238be6d95394d08dc54da25cd8a8f5f7185d", func := "lodestone/lodestonelaw14.GraphMore", spec := "graphMore", unfollowed := true, recurses := true, apart := false }
def GraphMoreSaid : Prop := graphMoreRow.holds Try.pinned (OpenSpec.ofChange graphMoreSpec)

/-- ITS FALSE NEIGHBOUR: 'it returns false'. Refute it at one input. -/
def graphMoreWrong : ChangeSpec := { name := "graphMore", fn := fun _ => fun
  | [d1, d2, d3] => { results := [.lit (.bool false)], args := [d1, d2, d3] }
  | _ => none }
def GraphMoreWrongFalsely : Prop := graphMoreRow.holds Try.pinned (OpenSpec.ofChange graphMoreWrong)

/- THE SECOND FORM. 'bulk': how many values and letters a reading holds, each counted each time it is reached (what is shared counts as often as it is met; a slice's spare places count too). A statement '..UptoSaid' is the law's where the arguments, and the package variables that the reading takes, are together of bulk at most 1048576: NARROWER than '..Said'. Prove '..Said' where nothing that the law and all that it calls make is longer than what came in: it says more and counts as full. Else prove '..UptoSaid'. A law counts once. -/
mutual
def uptoBulk {H : Type} : DataW H → Nat
  | .lit (.string bytes) => bytes.length + 1
  | .lit _ => 1
  | .nil => 1
  | .ptr d => uptoBulk d + 1
  | .slice elems spare => uptoBulkAll elems + uptoBulkAll spare + 1
  | .agg parts => uptoBulkAll parts + 1
  | .iface _ d => uptoBulk d + 1
  | .map entries => uptoBulkEntries entries + 1
  | .held _ => 1
def uptoBulkAll {H : Type} : List (DataW H) → Nat
  | [] => 0
  | d :: r => uptoBulk d + uptoBulkAll r
def uptoBulkEntries {H : Type} : List (Lit × DataW H) → Nat
  | [] => 0
  | x :: r => uptoBulkEntry x + uptoBulkEntries r
def uptoBulkEntry {H : Type} : Lit × DataW H → Nat
  | (.string bytes, d) => bytes.length + uptoBulk d + 1
  | (_, d) => uptoBulk d + 1
 end
def uptoSmall : (H : Type) → List (DataW H) → Bool := fun _ ds => decide (uptoBulkAll ds ≤ 1048576)
def OpenSpec.upto (s : _root_.Go.ChangeSpec) : _root_.Go.OpenSpec := { _root_.Go.OpenSpec.ofChange s with cond := some uptoSmall }

/-- 'lodestonelaw14.GraphParts', WHERE WHAT IT READS IS OF BULK AT MOST 1048576: true; the input reads as it did. -/
def graphPartsUptoRow : OpenClaim := { program := "ytdndngngdngjjaa", sum := "9cff1f5597b839a65c9f4c7e6c6c238be6d95394d08dc54da25cd8a8f5f7185d", func := "lodestone/lodestonelaw14.GraphParts", spec := "graphParts", unfollowed := true, recurses := true, apart := false, narrowed := true }
def GraphPartsUptoSaid : Prop := graphPartsUptoRow.holds Try.pinned (OpenSpec.upto graphPartsSpec)

/-- 'lodestonelaw14.GraphCircles', WHERE WHAT IT READS IS OF BULK AT MOST 1048576: true; the input reads as it did. -/
def graphCirclesUptoRow : OpenClaim := { program := "ytdndngngdngjjaa", sum := "9cff1f5597b839a65c9f4c7e6c6c238be6d95394d08dc54da25cd8a8f5f7185d", func := "lodestone/lodestonelaw14.GraphCircles", spec := "graphCircles", unfollowed := true, recurses := true, apart := false, narrowed := true }
def GraphCirclesUptoSaid : Prop := graphCirclesUptoRow.holds Try.pinned (OpenSpec.upto graphCirclesSpec)

/-- 'lodestonelaw14.GraphTurned', WHERE WHAT IT READS IS OF BULK AT MOST 1048576: true; the input reads as it did. -/
def graphTurnedUptoRow : OpenClaim := { program := "ytdndngngdngjjaa", sum := "9cff1f5597b839a65c9f4c7e6c6c238be6d95394d08dc54da25cd8a8f5f7185d", func := "lodestone/lodestonelaw14.GraphTurned", spec := "graphTurned", unfollowed := true, recurses := true, apart := false, narrowed := true }
def GraphTurnedUptoSaid : Prop := graphTurnedUptoRow.holds Try.pinned (OpenSpec.upto graphTurnedSpec)

/-- 'lodestonelaw14.GraphRenamed', WHERE WHAT IT READS IS OF BULK AT MOST 1048576: true; the input reads as it did. -/
def graphRenamedUptoRow : OpenClaim := { program := "ytdndngngdngjjaa", sum := "9cff1f5597b839a65c9f4c7e6c6c238be6d95394d08dc54da25cd8a8f5f7185d", func := "lodestone/lodestonelaw14.GraphRenamed", spec := "graphRenamed", unfollowed := true, recurses := true, apart := false, narrowed := true }
def GraphRenamedUptoSaid : Prop := graphRenamedUptoRow.holds Try.pinned (OpenSpec.upto graphRenamedSpec)

/-- 'lodestonelaw14.GraphCounts', WHERE WHAT IT READS IS OF BULK AT MOST 1048576: true; the input reads as it did. -/
def graphCountsUptoRow : OpenClaim := { program := "ytdndngngdngjjaa", sum := "9cff1f5597b839a65c9f4c7e6c6c238be6d95394d08dc54da25cd8a8f5f7185d", func := "lodestone/lodestonelaw14.GraphCounts", spec := "graphCounts", unfollowed := true, recurses := true, apart := false, narrowed := true }
def GraphCountsUptoSaid : Prop := graphCountsUptoRow.holds Try.pinned (OpenSpec.upto graphCountsSpec)

/-- 'lodestonelaw14.GraphMore', WHERE WHAT IT READS IS OF BULK AT MOST 1048576: true; the input reads as it did. -/
def graphMoreUptoRow : OpenClaim := { program := "ytdndngngdngjjaa", sum := "9cff1f5597b839a65c9f4c7e6c6c238be6d95394d08dc54da25cd8a8f5f7185d", func := "lodestone/lodestonelaw14.GraphMore", spec := "graphMore", unfollowed := true, recurses := true, apart := false, narrowed := true }
def GraphMoreUptoSaid : Prop := graphMoreUptoRow.holds Try.pinned (OpenSpec.upto graphMoreSpec)

end Rows
end Go.Proofs.Ytdndngngdngjjaa
