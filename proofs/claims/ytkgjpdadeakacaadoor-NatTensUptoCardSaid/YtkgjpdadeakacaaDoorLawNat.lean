/-
  Packed: The laws on naturals: slices of limbs that are handed in; the environment of all contracts.
-/
import Derived.Test.YtkgjpdadeakacaaDoorPkD
import Derived.Test.YtkgjpdadeakacaaDoorAmLaw
namespace Go.Proofs.YtkgjpdadeakacaaDoor.Am
open Go Go.Proofs Nats Go.ChangeShapes Go.WideShapes Go.ChangeAt Go.RowKit
set_option linter.unusedSimpArgs false
set_option linter.unusedVariables false
variable {P : Program} {H : Type} {enc : TypeId × Value → H} {W W' : World}

theorem bulk_slice {elems spare : List (DataW H)} : elems.length + 1 ≤ Rows.uptoBulk (.slice elems spare) := by
  have one : ∀ d : DataW H, 1 ≤ Rows.uptoBulk d := fun d => by
    cases d <;> (first | (rename_i l; cases l <;> simp [Rows.uptoBulk] <;> omega) | (simp [Rows.uptoBulk]; try omega))
  have : ∀ l : List (DataW H), l.length ≤ Rows.uptoBulkAll l := fun l => by
    induction l with
    | nil => simp [Rows.uptoBulkAll]
    | cons x r ih => have := one x; simp only [Rows.uptoBulkAll, List.length_cons]; omega
  have := this elems
  simp only [Rows.uptoBulk]; omega
theorem nr_handed {t e : TypeId} {r : Reach} {b0 : Nat} {v : Value} {d : DataW H} {ps : List MemPlace} (ht : P.underlying t = some (.slice e)) (he : P.underlying e = some (.int .u32)) (hc : P.cellsOf e = 1)
    (hval : Value.okWide P W r b0 t v) (h : DataW.Trod enc P W 0 (fun _ => true) true t v d ps) (hb : Rows.uptoBulk d ≤ 1048576) : ∃ l : List Nat, Nr (handed W) v l ∧ l.length ≤ 1048576 := by
  obtain ⟨a, len, cap, rfl⟩ := okWide_slice ht hval
  obtain ⟨fuel, hf⟩ := h
  rcases open_ints ht he hc hf with ⟨hcs, hx⟩ | ⟨a', len', cap', zs, hcs, _, hlc, _, hz, hx, hcell, hwf⟩
  · simp only [Value.cells, List.cons.injEq, Value.slice.injEq, and_true] at hcs
    obtain ⟨rfl, rfl, rfl⟩ := hcs
    exact ⟨[], ⟨Row.nil_, fun x hx => by simp at hx, by decide⟩, by decide⟩
  · simp only [Value.cells, List.cons.injEq, Value.slice.injEq, and_true] at hcs
    obtain ⟨rfl, rfl, rfl⟩ := hcs
    simp only [if_true] at hz
    have hx1 : d = .slice (lits .u32 (zs.take len)) (lits .u32 (zs.drop len)) := by cases hx; rfl
    have hlen : len ≤ 1048576 := by
      have h1 := bulk_slice (elems := lits (H := H) .u32 (zs.take len)) (spare := lits .u32 (zs.drop len))
      rw [← hx1] at h1
      simp only [lits, List.length_map, List.length_take] at h1
      omega
    have hpos : ∀ n ∈ zs, 0 ≤ n ∧ n < 4294967296 := fun n hn => by
      have := hwf n hn
      simp only [Lit.wf, decide_eq_true_eq, Bool.and_eq_true] at this
      have h1 : IntKind.u32.min = 0 := by decide
      have h2 : IntKind.u32.max = 4294967295 := by decide
      omega
    have hr := row_handed (W := W) (a := a') (len := len) (cap := cap) (vs := zs.map (Value.int .u32)) (by simp [hz]) hlc fun i hi => by
      rw [hcell i (by omega), List.getElem?_map, List.getElem?_eq_getElem (by omega)]
      simp [List.getD_eq_getElem?_getD, List.getElem?_eq_getElem (show i < zs.length by omega)]
    have hU : (zs.map (Value.int .u32)).take len = U ((zs.take len).map Int.toNat) := by
      rw [← List.map_take]
      unfold U
      rw [List.map_map]
      apply List.map_congr_left
      intro n hn
      have := hpos n (List.mem_of_mem_take hn)
      simp only [Function.comp_apply, Int.toNat_of_nonneg this.1]
    rw [hU] at hr
    refine ⟨(zs.take len).map Int.toNat, ⟨hr, fun x hx => ?_, ?_⟩, by simp; omega⟩
    · obtain ⟨n, hn, rfl⟩ := List.mem_map.mp hx
      have := hpos n (List.mem_of_mem_take hn)
      show n.toNat < 4294967296
      omega
    · have h40 : (2 : Nat) ^ 40 = 1099511627776 := rfl
      rw [List.length_map, List.length_take]; omega

/-! ### all contracts, of the model's calls -/
abbrev DD : Orc := CS Tryd.prog
theorem right11 : SpecRight DD 11 := spec11 cl11
theorem right12 : SpecRight DD 12 := spec12 cl12
theorem trim29 : SpecTrim DD 29 := spec29 cl29
theorem trim30 : SpecTrim DD 30 := spec30 cl30
theorem fit31 : SpecFit DD 31 := spec31 cl31 trim29
theorem fit32 : SpecFit DD 32 := spec32 cl32 trim30
theorem env : Env3 DD where
  right := right11
  rright := right12
  of := spec13 cl13 trim29
  same := spec14 cl14
  rof := spec15 cl15 trim30
  spoil := spec16 cl16
  lent := spec17 cl17
  add := spec18 cl18 right11 fit31
  radd := spec19 cl19 right12 fit32
  mul := spec20 cl20 right11 fit31
  rmul := spec21 cl21 right12 fit32
  cmp := spec22 cl22 right11 (spec33 cl33 (spec38 cl38)) (spec34 cl34 (spec39 cl39))
  rcmp := spec23 cl23 right12
  kept := spec24 cl24
  text := spec25 cl25 right11 trim29 (spec35 cl35) (spec36 cl36 (spec40 cl40))
  rtext := spec26 cl26 right12 trim30
  parse := spec27 cl27 (spec37 cl37 (spec41 cl41) (spec45 cl45 (spec47 cl47)) (spec42 cl42 (spec47 cl47)))
  rparse := spec28 cl28
theorem shown10 : SpecShown DD 10 := spec10 cl10 env
end Go.Proofs.YtkgjpdadeakacaaDoor.Am
