/-
  Packed: The laws on graphs: what is handed in; all contracts.
-/
import Derived.Test.YtdndngngdngjjaaPkH
import Derived.Test.YtdndngngdngjjaaPkS
import Derived.Test.YtdndngngdngjjaaAmLaw
import Derived.Deep.Slices
namespace Go.Proofs.Ytdndngngdngjjaa.Am
open Go Go.Proofs Go.ChangeShapes Go.WideShapes Go.ChangeAt Go.RowKit Go.Deep Gr
set_option linter.unusedSimpArgs false
set_option linter.unusedVariables false
set_option maxRecDepth 100000
variable {P : Program} {H : Type} {enc : TypeId × Value → H} {W W' : World}

theorem bulk_one : ∀ d : DataW H, 1 ≤ Rows.uptoBulk d := fun d => by
  cases d <;> (first | (rename_i l; cases l <;> simp [Rows.uptoBulk] <;> omega) | (simp [Rows.uptoBulk]; try omega))
theorem bulk_all_len : ∀ l : List (DataW H), l.length ≤ Rows.uptoBulkAll l
  | [] => by simp [Rows.uptoBulkAll]
  | x :: r => by have := bulk_one x; have := bulk_all_len r; simp only [Rows.uptoBulkAll, List.length_cons]; omega
theorem bulk_mem : ∀ {l : List (DataW H)} {d : DataW H}, d ∈ l → Rows.uptoBulk d ≤ Rows.uptoBulkAll l
  | [], d, h => by cases h
  | x :: r, d, h => by
    simp only [Rows.uptoBulkAll]
    rcases List.mem_cons.mp h with rfl | h
    · omega
    · have := bulk_mem h; omega
theorem ir_handed {t e : TypeId} {n : Nat} {v : Value} {y : DataW H × List MemPlace} (ht : P.underlying t = some (.slice e)) (he : P.underlying e = some (.int .i64)) (hc : P.cellsOf e = 1)
    (h : DataW.trod enc P W 0 (fun _ => true) true n t [v] = some y) (hb : Rows.uptoBulk y.1 ≤ 1048576) : ∃ l, Ir (handed W) v l ∧ l.length ≤ 1048576 := by
  rcases open_ints ht he hc h with ⟨hcs, hx⟩ | ⟨a', len', cap', zs, hcs, _, hlc, _, hz, hx, hcell, hwf⟩
  · simp only [List.cons.injEq, and_true] at hcs
    subst hcs
    exact ⟨[], ⟨Row.nil_, by simp, by simp⟩, by simp⟩
  · simp only [List.cons.injEq, and_true] at hcs
    subst hcs
    simp only [if_true] at hz
    have hx1 : y.1 = .slice (lits .i64 (zs.take len')) (lits .i64 (zs.drop len')) := by rw [hx]
    have hlen : len' ≤ 1048576 := by
      rw [hx1] at hb
      have h1 := bulk_all_len (lits (H := H) .i64 (zs.take len'))
      simp only [Rows.uptoBulk] at hb
      simp only [lits, List.length_map, List.length_take] at h1 hb
      omega
    have hr := row_handed (W := W) (a := a') (len := len') (cap := cap') (vs := zs.map (Value.int .i64)) (by simp [hz]) hlc fun i hi => by
      rw [hcell i (by omega), List.getElem?_map, List.getElem?_eq_getElem (by omega)]
      simp [List.getD_eq_getElem?_getD, List.getElem?_eq_getElem (show i < zs.length by omega)]
    have hU : (zs.map (Value.int .i64)).take len' = Z (zs.take len') := by rw [← List.map_take]; rfl
    rw [hU] at hr
    refine ⟨zs.take len', ⟨hr, by rw [List.length_take]; omega, fun x hx => ?_⟩, by rw [List.length_take]; omega⟩
    have := hwf x (List.mem_of_mem_take hx)
    simp only [Lit.wf, decide_eq_true_eq, Bool.and_eq_true] at this
    have h1 : IntKind.i64.min = -9223372036854775808 := by decide
    have h2 : IntKind.i64.max = 9223372036854775807 := by decide
    unfold inI; omega
theorem rw_handed {t e u : TypeId} {r : Reach} {b0 : Nat} {v : Value} {d : DataW H} {ps : List MemPlace} (ht : P.underlying t = some (.slice e)) (he : P.underlying e = some (.slice u)) (hu : P.underlying u = some (.int .i64)) (c1 : P.cellsOf e = 1) (c2 : P.cellsOf u = 1)
    (hval : Value.okWide P W r b0 t v) (h : DataW.Trod enc P W 0 (fun _ => true) true t v d ps) (hb : Rows.uptoBulk d ≤ 1048576) : ∃ g, Rw (handed W) v g ∧ g.length ≤ 1048576 ∧ ∀ t ∈ g, t.length ≤ 1048576 := by
  obtain ⟨a, len, cap, rfl⟩ := okWide_slice ht hval
  obtain ⟨fuel, hf⟩ := h
  rcases open_slice1 ht c1 hf with ⟨hcs, hx⟩ | ⟨a', len', cap', m, n', V, DD, PP, hcs, _, hlc, _, hm, hx, hall⟩
  · simp only [Value.cells, List.cons.injEq, Value.slice.injEq, and_true] at hcs
    obtain ⟨rfl, rfl, rfl⟩ := hcs
    exact ⟨[], ⟨⟨[], Row.nil_, rfl, by simp⟩⟩, by simp, by simp⟩
  · simp only [Value.cells, List.cons.injEq, Value.slice.injEq, and_true] at hcs
    obtain ⟨rfl, rfl, rfl⟩ := hcs
    have hm : m = cap := hm
    subst hm
    have hx1 : d = .slice ((List.range len).map DD) ((List.range (m - len)).map fun j => DD (len + j)) := by cases hx; rfl
    rw [hx1] at hb
    simp only [Rows.uptoBulk] at hb
    have hlen : len ≤ 1048576 := by
      have h1 := bulk_all_len ((List.range len).map DD)
      simp only [List.length_map, List.length_range] at h1
      omega
    have hint : ∀ i, i < len → ∃ x, Ir (handed W) (V i) x ∧ x.length ≤ 1048576 := fun i hi => by
      obtain ⟨_, h0⟩ := hall i (by omega)
      have h4 := bulk_mem (l := (List.range len).map DD) (List.mem_map.mpr ⟨i, List.mem_range.mpr hi, rfl⟩)
      obtain ⟨l0, i0, i1⟩ := ir_handed he hu c2 h0 (show Rows.uptoBulk (DD i) ≤ 1048576 by omega)
      exact ⟨l0, i0, i1⟩
    obtain ⟨X, hX⟩ := Go.Deep.choose_lt (α := List Int) (p := fun i x => Ir (handed W) (V i) x ∧ x.length ≤ 1048576) hint
    have hr := row_handed (W := W) (a := a') (len := len) (cap := m) (vs := (List.range m).map V) (by simp) hlc fun i hi => by
      rw [(hall i hi).1, List.getElem?_map, List.getElem?_range hi]; rfl
    rw [← List.map_take, List.take_range, Nat.min_eq_left hlc] at hr
    refine ⟨(List.range len).map X, ⟨⟨_, hr, by simp, fun i w hw => ?_⟩⟩, by simp; omega, fun t ht => by
      obtain ⟨i, hi, rfl⟩ := List.mem_map.mp ht
      exact (hX i (List.mem_range.mp hi)).2⟩
    rw [List.getElem?_map, Option.map_eq_some_iff] at hw
    obtain ⟨j, hj, rfl⟩ := hw
    obtain ⟨hj1, hj2⟩ := List.getElem?_eq_some_iff.mp hj
    rw [List.length_range] at hj1
    rw [List.getElem_range] at hj2
    subst hj2
    refine ⟨X i, ?_, (hX i hj1).1⟩
    rw [List.getElem?_map, List.getElem?_range hj1]; rfl

/-! ### all contracts, of the model's calls -/
abbrev DD : Orc := CS Try.prog
theorem parts11 : SpecParts DD 11 := spec11 cl11 (spec17 cl17 (spec18 cl18 (spec21 cl21) (spec22 cl22) sortI23)) sortF19'
theorem parts12 : SpecParts DD 12 := spec12 cl12 (spec15 cl15)
theorem same13 : SpecSame DD 13 := spec13 cl13
theorem shown9 : SpecShown DD 9 := fun h k kp hk => spec9 cl9 parts11 same13 hk
theorem copied10 : SpecCopied DD 10 := spec10 cl10
theorem law3 {v : Value} {g : G} {h : Am.H} {k : Kv} {kp : Kp} (r : Rw h v g) (hn : g.length ≤ 1048576) (hk : ∀ h', k (.bool true) h') : DD 3 [v] h k kp := spec3 cl3 shown9 copied10 parts11 parts12 same13 r (by omega) hk
end Go.Proofs.Ytdndngngdngjjaa.Am
