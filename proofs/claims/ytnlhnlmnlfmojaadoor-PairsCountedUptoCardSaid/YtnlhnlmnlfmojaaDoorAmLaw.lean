/-
  Packed: What every law's end needs: the arguments read behind the call as they did; slices of integers are rows of the handed memory; the world of the witness.
-/
import Derived.Test.YtnlhnlmnlfmojaaDoorPkB
import Derived.Test.YtnlhnlmnlfmojaaDoorRows
import Derived.Test.YtnlhnlmnlfmojaaDoorCards
import Derived.Test.YtnlhnlmnlfmojaaDoorTie
import Derived.WalkKit
import Derived.ProofKit
import Derived.OpenShut
import Derived.ChangeSlices
import Derived.ChangeMaps5
import Derived.Deep.DeepHandedRow
import Derived.Lib.LaidTab
import Derived.Lib.LaidIn
set_option linter.unusedVariables false
set_option linter.unusedSimpArgs false
set_option linter.unnecessarySimpa false
namespace Go.Proofs.YtnlhnlmnlfmojaaDoor.Am
open Go Go.ChangeShapes Go.WideShapes Go.ChangeAt Go.RowKit
set_option linter.unusedSimpArgs false
set_option linter.unusedVariables false
variable {P : Program} {H : Type} {enc : TypeId × Value → H} {W W' : World}

theorem trodAll_stays (hl : laidOutB P = true) (hb : Below W.heap.size W W') : ∀ {ts : List TypeId} {vs : List Value} {ds : List (DataW H)} {ps : List MemPlace},
    ts.all (fun t => P.readableRec t && decide (t < P.types.size)) = true → DataW.TrodAll enc P W 0 (fun _ => true) true ts vs ds ps → (∀ x ∈ ps, x.block < W.heap.size) →
    DataW.TrodAll enc P W' 0 (fun b => decide (b < W.heap.size)) true ts vs ds ps
  | [], vs, ds, ps, _, h, _ => by
    obtain ⟨rfl, rfl, rfl⟩ := trodAll_nil h
    exact trodAll_mk0
  | t :: ts, vs, ds, ps, ht, h, hlt => by
    obtain ⟨v, vs', d, ds', p, q, rfl, rfl, rfl, h0, h1⟩ := trodAll_cons h
    simp only [List.all_cons, Bool.and_eq_true, decide_eq_true_eq] at ht
    exact trodAll_cons_mk (Below.trod hl ht.1.1 ht.1.2 h0 hb fun x hx => hlt x (by simp [hx]))
      (trodAll_stays hl hb (by simpa using ht.2) h1 fun x hx => hlt x (by simp [hx]))
/-- The law's end: it answered true, and only new blocks came. -/
theorem post_true {f : Func} {s : ChangeSpec} {tb : TypeId} {args : Array Value} {ds gs : List (DataW H)} {before : List MemPlace} (hl : laidOutB P = true)
    (hts : f.params.toList.all (fun t => P.readableRec t && decide (t < P.types.size)) = true) (hres : f.resultTypes.toList = [tb]) (htb : P.underlying tb = some .bool) (hvars : s.vars = [])
    (hW : DataW.Whole enc P f.params.toList s.vars false W args.toList ds gs before) (hfn : s.fn H ds = { results := [.lit (.bool true)], args := ds }) (hb : Below W.heap.size W W') :
    s.post enc P f false true false false W args (.bool true) W' := by
  have hW' := hW
  obtain ⟨p, q, hA, hV, rfl, _, _⟩ := hW
  rw [hvars] at hV
  obtain ⟨rfl, rfl⟩ := trodVars_none hV
  have hn : f.resultTypes.size = 1 := by rw [← Array.length_toList, hres]; rfl
  have hlt : ∀ x ∈ p, x.block < W.heap.size := fun x hx => hW'.lt x (by simp [hx])
  refine ⟨ds, [], p ++ [], [], p, [], hW', ?_, ?_, ?_, ?_, fun h => by cases h⟩
  · rw [hres, List.append_nil, hfn, hn]
    exact trodAll_cons_mk (shut_bool htb _) trodAll_mk0
  · rw [List.append_nil, hfn]
    exact trodAll_stays hl hb hts hA hlt
  · rw [hvars, List.append_nil, hfn]; rfl
  · exact hb.frame _

/-- A slice's cells are a row of the handed memory. -/
theorem row_handed {a : Addr} {len cap : Nat} {vs : List Value} (hlen : vs.length = cap) (hl : len ≤ cap) (hc : ∀ i, i < cap → W.cell? (a.add i) = vs[i]?) :
    Row (handed W) (.slice (some a) len cap) (vs.take len) := by
  have hl2 : (vs.take len).length = len := by simp; omega
  by_cases h0 : cap = 0
  · subst h0
    have : len = 0 := by omega
    subst this
    exact Row.empty
  refine ⟨some a, cap, by rw [hl2], by omega, .inr ⟨a, rfl, ?_⟩⟩
  have h1 := hc 0 (by omega)
  have hsome : vs[0]? = some (vs[0]'(by omega)) := List.getElem?_eq_getElem _
  rw [hsome, show a.add 0 = a by simp [Addr.add]] at h1
  unfold World.cell? at h1
  split at h1
  · rename_i c t fz hb
    split at h1
    · cases h1
    · rename_i hs
      have hsp : a.spot = none := by simpa using hs
      have hat : ∀ i, i < cap → c[a.off + i]? = vs[i]? := fun i hi => by
        have := hc i hi
        unfold World.cell? at this
        have e : (a.add i).block = a.block := by unfold Addr.add; split <;> rfl
        have e2 : (a.add i).off = a.off + i := by unfold Addr.add; split <;> simp_all
        have e3 : (a.add i).spot = none := by unfold Addr.add; split <;> simp_all
        rw [e, hb] at this
        simp only [e3, Option.isSome_none, Bool.false_eq_true, if_false, e2] at this
        exact this
      refine ⟨hsp, c.toList, ?_, ?_, ?_⟩
      · simp only [handed, hb, rowOf]
      · have := hat (cap - 1) (by omega)
        rw [List.getElem?_eq_getElem (by omega)] at this
        have := (Array.getElem?_eq_some_iff.mp this).1
        rw [Array.length_toList]; omega
      · rw [hl2]
        apply List.ext_getElem?
        intro i
        rw [List.getElem?_take, List.getElem?_take]
        split
        · rename_i hi
          rw [List.getElem?_drop, Array.getElem?_toList, hat i (by omega)]
        · rfl
  · cases h1

/-! ### the witness's world: settled, the listed variables holding what their initialisers lay -/
mutual
 def flat : DataW Unit → List Value
   | .lit (.int k n) => [.int k n]
   | .lit (.bool b) => [.bool b]
   | .agg ps => flats ps
   | _ => []
 def flats : List (DataW Unit) → List Value
   | [] => []
   | d :: l => flat d ++ flats l
end
def layAll (P : Program) (h : Array Obj) : List (String × DataW Unit) → Array Obj
  | [] => h
  | (n, d) :: l => layAll P (match P.globalNamed n with
    | some g => h.modify g fun
      | .cells _ t frozen => .cells (flat d).toArray t frozen
      | o => o
    | none => h) l
noncomputable def laidWorld (P : Program) (l : List (String × DataW Unit)) (os : Os) : World :=
  { World.holding P os ⟨#[], #[], []⟩ with heap := layAll P (World.holding P os ⟨#[], #[], []⟩).heap l }
theorem own : ownKnob Tryd.prog.godebug = none := by kernel_rfl
theorem laidOut : laidOutB Tryd.pinned.checked.prog = true := by kernel_rfl
end Go.Proofs.YtnlhnlmnlfmojaaDoor.Am
