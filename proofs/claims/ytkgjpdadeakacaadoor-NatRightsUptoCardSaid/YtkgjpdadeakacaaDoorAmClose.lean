/-
  From a function's reading to the given statement: the old memory is read only; what was handed in reads as it did.
-/
import Derived.Test.YtkgjpdadeakacaaDoorAmLib
import Derived.Test.YtkgjpdadeakacaaDoorAmCode
import Derived.Carry
import Derived.ChangeSame
import Derived.Below
namespace Go.Proofs.YtkgjpdadeakacaaDoor.Am
open Go Go.ChangeShapes Go.RowKit
set_option linter.unusedSimpArgs false

/-- The memory as it was handed in, to be read alone. -/
def handed (W : World) : H := fun b => match W.heap[b]? with
  | some (.cells l _ _) => some (.ro l.toList)
  | _ => none
theorem handed_rel (W : World) : Rel (handed W) W := by
  intro b o hb
  unfold handed at hb
  split at hb
  · rename_i l t fz hw
    obtain rfl := Option.some.inj hb
    exact ⟨t, fz, by rw [hw]⟩
  · cases hb
theorem handed_ro {W : World} {b : Nat} : handed W b = none ∨ ∃ l, handed W b = some (.ro l) := by
  unfold handed
  split
  · exact .inr ⟨_, rfl⟩
  · exact .inl rfl
theorem Frame.below {W W' : World} {h' : H} (f : Am.Frame (handed W) W h' W') : Below W.heap.size W W' :=
  ⟨f.os, f.tape, f.output, f.size, fun b hb => f.keep b hb handed_ro⟩
/-- A call that is read to answer true. -/
theorem calls_true {P : Program} {f : FuncId} {args : List Value} {W : World} (h : CS P f args (handed W) (fun v _ => v = .bool true) (fun _ _ => False)) :
    Calls P f args.toArray W fun e w' => e = .returned (.bool true) ∧ Below W.heap.size W w' :=
  h W _ (handed_rel W) (fun v h' w' hv _ fr => ⟨by rw [hv], fr.below⟩) (fun _ _ _ hc => hc.elim)
end Go.Proofs.YtkgjpdadeakacaaDoor.Am
