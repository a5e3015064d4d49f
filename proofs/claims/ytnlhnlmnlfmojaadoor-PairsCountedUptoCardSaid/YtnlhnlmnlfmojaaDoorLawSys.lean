/-
  Packed: The laws on systems: systems that are handed in; the environment of all contracts.
-/
import Derived.Test.YtnlhnlmnlfmojaaDoorPkU
import Derived.Test.YtnlhnlmnlfmojaaDoorAmLaw
import Derived.Deep.SlicePairs
import Derived.Lib.SmallJoins
import Derived.Lib.LaidU8
set_option linter.unusedVariables false
set_option linter.unusedSimpArgs false
set_option linter.unnecessarySimpa false
namespace Go.Proofs.YtnlhnlmnlfmojaaDoor.Am
open Go Go.Proofs Sys Go.ChangeShapes Go.WideShapes Go.ChangeAt Go.RowKit Go.Deep Go.Lib
set_option linter.unusedSimpArgs false
set_option linter.unusedVariables false
set_option maxRecDepth 100000
variable {P : Program} {H : Type} {enc : TypeId × Value → H} {W W' : World}

theorem bulk_one : ∀ d : DataW H, 1 ≤ Rows.uptoBulk d := fun d => by
  cases d <;> (first | (rename_i l; cases l <;> simp [Rows.uptoBulk] <;> omega) | (simp [Rows.uptoBulk]; try omega))
theorem bulk_all_len : ∀ l : List (DataW H), l.length ≤ Rows.uptoBulkAll l
  | [] => by simp [Rows.uptoBulkAll]
  | x :: r => by have := bulk_one x; have := bulk_all_len r; simp only [Rows.uptoBulkAll, List.length_cons]; omega
theorem bulk_mem : ∀ {l : List (DataW H)} {d : DataW H}, d ∈ l → Rows.uptoBulk d ≤ Rows.uptoBulkAll l
  | [], d, h => by cases h
  | x :: r, d, h => by
    simp only [Rows.uptoBulkAll]
    rcases List.mem_cons.mp h with rfl | h
    · omega
    · have := bulk_mem h; omega
theorem flat_pairs (V0 V1 : Nat → Value) : ∀ n : Nat, ((List.range n).map fun i => [V0 i, V1 i]).flatten = (List.range (n * 2)).map fun j => if j % 2 = 0 then V0 (j / 2) else V1 (j / 2)
  | 0 => rfl
  | n + 1 => by
    rw [List.range_succ, List.map_append, List.flatten_append, flat_pairs V0 V1 n, show (n + 1) * 2 = n * 2 + 1 + 1 by omega, List.range_succ, List.range_succ]
    simp only [List.map_append, List.map_cons, List.map_nil, List.flatten_cons, List.flatten_nil, List.append_nil, List.append_assoc]
    rw [if_pos (by omega), if_neg (by omega)]
    have e1 : n * 2 / 2 = n := by omega
    have e2 : (n * 2 + 1) / 2 = n := by omega
    rw [e1, e2]; rfl
/-- A slice of pairs of cells is a row of the handed memory. -/
theorem rowK_handed {a : Addr} {len cap : Nat} {V0 V1 : Nat → Value} (hl : len ≤ cap) (hc : ∀ i, i < cap → W.cell? (a.add (i * 2)) = some (V0 i) ∧ W.cell? (a.add (i * 2 + 1)) = some (V1 i)) :
    RowK 2 (handed W) (.slice (some a) len cap) ((List.range len).map fun i => [V0 i, V1 i]) := by
  have hr := row_handed (W := W) (a := a) (len := len * 2) (cap := cap * 2) (vs := (List.range (cap * 2)).map fun j => if j % 2 = 0 then V0 (j / 2) else V1 (j / 2)) (by simp) (by omega) fun j hj => by
    rw [List.getElem?_map, List.getElem?_range hj, Option.map_some]
    obtain ⟨h1, h2⟩ := hc (j / 2) (by omega)
    by_cases hm : j % 2 = 0
    · rw [if_pos hm, ← h1]; congr 2; omega
    · rw [if_neg hm, ← h2]; congr 2; omega
  have ht : ((List.range (cap * 2)).map fun j => if j % 2 = 0 then V0 (j / 2) else V1 (j / 2)).take (len * 2) = ((List.range len).map fun i => [V0 i, V1 i]).flatten := by
    rw [flat_pairs, ← List.map_take, List.take_range, Nat.min_eq_left (by omega)]
  rw [ht] at hr
  obtain ⟨base, cap', he, hc', hb⟩ := hr
  simp only [Value.slice.injEq] at he
  obtain ⟨rfl, he2, rfl⟩ := he
  refine ⟨some a, cap, by simp, by simpa using hl, fun v hv => ?_, ?_⟩
  · obtain ⟨i, _, rfl⟩ := List.mem_map.mp hv; rfl
  · rcases hb with hb | ⟨a', h1, h2, l, h3, h4, h5⟩
    · exact .inl (by omega)
    · refine .inr ⟨a', h1, h2, l, h3, h4, ?_⟩
      rw [← he2] at h5
      simpa using h5
theorem ir_handed {t e : TypeId} {n : Nat} {v : Value} {y : DataW H × List MemPlace} (ht : P.underlying t = some (.slice e)) (he : P.underlying e = some (.int .i64)) (hc : P.cellsOf e = 1)
    (h : DataW.trod enc P W 0 (fun _ => true) true n t [v] = some y) (hb : Rows.uptoBulk y.1 ≤ 1048576) : ∃ l, Ir (handed W) v l ∧ l.length ≤ 1048576 := by
  rcases open_ints ht he hc h with ⟨hcs, hx⟩ | ⟨a', len', cap', zs, hcs, _, hlc, _, hz, hx, hcell, hwf⟩
  · simp only [List.cons.injEq, and_true] at hcs
    subst hcs
    exact ⟨[], ⟨Row.nil_, by simp, by simp⟩, by simp⟩
  · simp only [List.cons.injEq, and_true] at hcs
    subst hcs
    simp only [if_true] at hz
    have hx1 : y.1 = .slice (lits .i64 (zs.take len')) (lits .i64 (zs.drop len')) := by rw [hx]
    have hlen : len' ≤ 1048576 := by
      rw [hx1] at hb
      have h1 := bulk_all_len (lits (H := H) .i64 (zs.take len'))
      simp only [Rows.uptoBulk] at hb
      simp only [lits, List.length_map, List.length_take] at h1 hb
      omega
    have hr := row_handed (W := W) (a := a') (len := len') (cap := cap') (vs := zs.map (Value.int .i64)) (by simp [hz]) hlc fun i hi => by
      rw [hcell i (by omega), List.getElem?_map, List.getElem?_eq_getElem (by omega)]
      simp [List.getD_eq_getElem?_getD, List.getElem?_eq_getElem (show i < zs.length by omega)]
    have hU : (zs.map (Value.int .i64)).take len' = Z (zs.take len') := by rw [← List.map_take]; rfl
    rw [hU] at hr
    refine ⟨zs.take len', ⟨hr, by rw [List.length_take]; omega, fun x hx => ?_⟩, by rw [List.length_take]; omega⟩
    have := hwf x (List.mem_of_mem_take hx)
    simp only [Lit.wf, decide_eq_true_eq, Bool.and_eq_true] at this
    have h1 : IntKind.i64.min = -9223372036854775808 := by decide
    have h2 : IntKind.i64.max = 9223372036854775807 := by decide
    unfold inI; omega
theorem sr_handed {n : Nat} {v : Value} {y : DataW H × List MemPlace} (h : DataW.trod enc Tryd.prog W 0 (fun _ => true) true n 22 [v] = some y) (hb : Rows.uptoBulk y.1 ≤ 1048576) : ∃ sig, Sr (handed W) v sig ∧ sig.length ≤ 1048576 := by
  rcases open_slice_pairs Tryd.underlying22 Tryd.underlying43 (by kernel_rfl) rfl rfl (by kernel_rfl) (by kernel_rfl) h with ⟨hcs, hx⟩ | ⟨a, len, cap, m, n', V0, V1, D0, D1, P0, P1, hcs, _, hlc, _, hm, hx, hall⟩
  · simp only [List.cons.injEq, and_true] at hcs
    subst hcs
    exact ⟨[], ⟨RowK.nil_, by simp, by simp⟩, by simp⟩
  · simp only [List.cons.injEq, and_true] at hcs
    subst hcs
    have hm : m = cap := hm
    subst hm
    have hx1 : y.1 = .slice ((List.range len).map fun i => .agg [D0 i, D1 i]) ((List.range (m - len)).map fun j => .agg [D0 (len + j), D1 (len + j)]) := by rw [hx]
    rw [hx1] at hb
    simp only [Rows.uptoBulk] at hb
    have hlen : len ≤ 1048576 := by
      have h1 := bulk_all_len ((List.range len).map fun i => (.agg [D0 i, D1 i] : DataW H))
      simp only [List.length_map, List.length_range] at h1
      omega
    have hstr : ∀ i, i < m → ∃ x : Sy, V0 i = .string x.1 ∧ V1 i = .int .i64 x.2 ∧ D0 i = .lit (.string x.1.data.toList) := fun i hi => by
      obtain ⟨_, _, h0, h1⟩ := hall i hi
      obtain ⟨s, hs, hs2, _⟩ := DataW.trod_string Tryd.underlying9 h0
      obtain ⟨z, hz, _, _⟩ := DataW.trod_int Tryd.underlying3 h1
      refine ⟨(s, z), by simpa using hs, by simpa using hz, ?_⟩
      have := congrArg Prod.fst hs2
      exact this
    obtain ⟨X, hX⟩ := Go.Deep.choose_lt (α := Sy) (p := fun i x => V0 i = .string x.1 ∧ V1 i = .int .i64 x.2 ∧ D0 i = .lit (.string x.1.data.toList)) hstr
    have hr := rowK_handed (W := W) (a := a) (len := len) (cap := m) (V0 := V0) (V1 := V1) hlc fun i hi => ⟨(hall i hi).1, (hall i hi).2.1⟩
    have hrow : ((List.range len).map fun i => [V0 i, V1 i]) = sgRow ((List.range len).map X) := by
      unfold sgRow
      rw [List.map_map]
      apply List.map_congr_left
      intro i hi
      rw [List.mem_range] at hi
      obtain ⟨h1, h2, _⟩ := hX i (by omega)
      rw [h1, h2]; rfl
    rw [hrow] at hr
    refine ⟨_, ⟨hr, by simp; omega, fun x hx => ?_⟩, by simp; omega⟩
    obtain ⟨i, hi, rfl⟩ := List.mem_map.mp hx
    rw [List.mem_range] at hi
    obtain ⟨_, _, h3⟩ := hX i (by omega)
    have h4 := bulk_mem (l := (List.range len).map fun i => (.agg [D0 i, D1 i] : DataW H)) (List.mem_map.mpr ⟨i, List.mem_range.mpr hi, rfl⟩)
    rw [h3] at h4
    have hsz : ((X i).1.data.toList).length = (X i).1.size := rfl
    simp only [Rows.uptoBulk, Rows.uptoBulkAll, hsz] at h4
    omega
theorem rr_handed {n : Nat} {v : Value} {y : DataW H × List MemPlace} (h : DataW.trod enc Tryd.prog W 0 (fun _ => true) true n 23 [v] = some y) (hb : Rows.uptoBulk y.1 ≤ 1048576) : ∃ rs, Rr (handed W) v rs ∧ rs.length ≤ 1048576 := by
  rcases open_slice_pairs Tryd.underlying23 Tryd.underlying38 (by kernel_rfl) rfl rfl (by kernel_rfl) (by kernel_rfl) h with ⟨hcs, hx⟩ | ⟨a, len, cap, m, n', V0, V1, D0, D1, P0, P1, hcs, _, hlc, _, hm, hx, hall⟩
  · simp only [List.cons.injEq, and_true] at hcs
    subst hcs
    exact ⟨[], ⟨⟨[], RowK.nil_, rfl, by simp⟩, by simp⟩, by simp⟩
  · simp only [List.cons.injEq, and_true] at hcs
    subst hcs
    have hm : m = cap := hm
    subst hm
    have hx1 : y.1 = .slice ((List.range len).map fun i => .agg [D0 i, D1 i]) ((List.range (m - len)).map fun j => .agg [D0 (len + j), D1 (len + j)]) := by rw [hx]
    rw [hx1] at hb
    simp only [Rows.uptoBulk] at hb
    have hlen : len ≤ 1048576 := by
      have h1 := bulk_all_len ((List.range len).map fun i => (.agg [D0 i, D1 i] : DataW H))
      simp only [List.length_map, List.length_range] at h1
      omega
    have hint : ∀ i, i < len → ∃ x : Ru, Ir (handed W) (V0 i) x.1 ∧ Ir (handed W) (V1 i) x.2 := fun i hi => by
      obtain ⟨_, _, h0, h1⟩ := hall i (by omega)
      have h4 := bulk_mem (l := (List.range len).map fun i => (.agg [D0 i, D1 i] : DataW H)) (List.mem_map.mpr ⟨i, List.mem_range.mpr hi, rfl⟩)
      simp only [Rows.uptoBulk, Rows.uptoBulkAll] at h4
      obtain ⟨l0, i0, _⟩ := ir_handed Tryd.underlying30 Tryd.underlying3 (by kernel_rfl) h0 (show Rows.uptoBulk (D0 i) ≤ 1048576 by omega)
      obtain ⟨l1, i1, _⟩ := ir_handed Tryd.underlying30 Tryd.underlying3 (by kernel_rfl) h1 (show Rows.uptoBulk (D1 i) ≤ 1048576 by omega)
      exact ⟨(l0, l1), i0, i1⟩
    obtain ⟨X, hX⟩ := Go.Deep.choose_lt (α := Ru) (p := fun i x => Ir (handed W) (V0 i) x.1 ∧ Ir (handed W) (V1 i) x.2) hint
    have hr := rowK_handed (W := W) (a := a) (len := len) (cap := m) (V0 := V0) (V1 := V1) hlc fun i hi => ⟨(hall i hi).1, (hall i hi).2.1⟩
    have hrow : ((List.range len).map fun i => [V0 i, V1 i]) = ruRow ((List.range len).map fun i => (V0 i, V1 i)) := by
      unfold ruRow
      rw [List.map_map]; rfl
    rw [hrow] at hr
    refine ⟨(List.range len).map X, ⟨⟨_, hr, by simp, fun i v hv => ?_⟩, by simp; omega⟩, by simp; omega⟩
    rw [List.getElem?_map, Option.map_eq_some_iff] at hv
    obtain ⟨j, hj, rfl⟩ := hv
    obtain ⟨hj1, hj2⟩ := List.getElem?_eq_some_iff.mp hj
    rw [List.length_range] at hj1
    rw [List.getElem_range] at hj2
    subst hj2
    refine ⟨X i, ?_, (hX i hj1).1, (hX i hj1).2⟩
    rw [List.getElem?_map, List.getElem?_range hj1]; rfl
theorem ss_handed {r : Reach} {b0 : Nat} {v : Value} {d : DataW H} {ps : List MemPlace} (hval : Value.okWide Tryd.prog W r b0 25 v) (h : DataW.Trod enc Tryd.prog W 0 (fun _ => true) true 25 v d ps) (hb : Rows.uptoBulk d ≤ 1048576) :
    ∃ S, Ss (handed W) v S ∧ S.sig.length ≤ 1048576 ∧ S.rules.length ≤ 1048576 := by
  obtain ⟨v0, v1, y0, y1, n, rfl, rfl, _, h0, h1⟩ := Go.Joins.open_agg2 Tryd.underlying25 (by kernel_rfl) (by kernel_rfl) hval h
  simp only [Rows.uptoBulk, Rows.uptoBulkAll] at hb
  obtain ⟨sig, hs, hs2⟩ := sr_handed h0 (by omega)
  obtain ⟨rs, hr, hr2⟩ := rr_handed h1 (by omega)
  exact ⟨⟨sig, rs⟩, ⟨⟨v0, v1, rfl, hs, hr⟩⟩, hs2, hr2⟩
/-- The tables lie in the handed memory. -/
theorem tabs_handed (h : Utf8Tabs 0 1 W) : Tabs (handed W) := by
  have ro : ∀ b v, W.cell? ⟨b, 0, none⟩ = some v → ∃ l, handed W b = some (.ro l) ∧ ∀ j u, W.cell? ⟨b, j, none⟩ = some u → l[j]? = some u := fun b v hv => by
    unfold World.cell? at hv
    split at hv
    · rename_i c t fz hb
      simp only at hb
      refine ⟨c.toList, by simp only [handed, hb], fun j u hu => ?_⟩
      unfold World.cell? at hu
      simp only [hb] at hu
      simpa using hu
    · cases hv
  obtain ⟨h3, h4⟩ := h
  obtain ⟨l3, a1, a2⟩ := ro 0 _ (h3 0 (by omega))
  obtain ⟨l4, b1, b2⟩ := ro 1 _ (h4 0 (by omega)).1
  exact ⟨l3, l4, a1, b1, fun c hc => a2 c _ (h3 c hc), fun i hi => ⟨b2 _ _ (h4 i hi).1, b2 _ _ (h4 i hi).2⟩⟩
theorem tabs_reads {W : World} (h3 : VarReads Tryd.prog W "unicode/utf8.first" firstData) (h4 : VarReads Tryd.prog W "unicode/utf8.acceptRanges" acceptData) : Utf8Tabs 0 1 W := by
  have L := Tryd.laysValid
  have c5 : Tryd.prog.cellsOf 5 = 1 := by kernel_rfl
  have c2 : Tryd.prog.cellsOf 131 = 2 := by kernel_rfl
  have c256 : Tryd.prog.cellsOf 129 = 256 := by kernel_rfl
  refine ⟨fun c hc => ?_, fun i hi => ?_⟩
  · obtain ⟨g, t, cs, fuel, p, hg, hty, hvar, hd⟩ := h3
    obtain rfl : g = 0 := Option.some.inj (hg.symm.trans (by kernel_rfl))
    obtain rfl : t = 129 := Option.some.inj (hty.symm.trans (by kernel_rfl))
    have hcs := cells_of_tab L.t119 L.t5 c5 c256 hd
    rw [World.var?_cell hg hvar c, ← Array.getElem?_toList, hcs]
    simp [firstTab, hc]
  · obtain ⟨g, t, cs, fuel, p, hg, hty, hvar, hd⟩ := h4
    obtain rfl : g = 1 := Option.some.inj (hg.symm.trans (by kernel_rfl))
    obtain rfl : t = 132 := Option.some.inj (hty.symm.trans (by kernel_rfl))
    obtain ⟨fuel', d, q, hdi, he⟩ := array_elem L.t139 hd i hi
    simp only [List.getElem?_map, List.getElem?_range hi, Option.map_some, Option.some.injEq] at hdi
    subst hdi
    change DataW.trod _ _ _ _ _ _ _ 131 ((cs.toList.drop (i * Tryd.prog.cellsOf 131)).take (Tryd.prog.cellsOf 131)) = _ at he
    rw [c2] at he
    have hcs := ints_of_struct L.t138 (fun j f hj => by
      match j, hj with
      | 0, hj => simp at hj; subst hj; exact ⟨L.t5, rfl, c5⟩
      | 1, hj => simp at hj; subst hj; exact ⟨L.t5, rfl, c5⟩
      | j + 2, hj => simp at hj) c2 he
    have e0 := congrArg (·[0]?) hcs
    have e1 := congrArg (·[1]?) hcs
    simp only [List.getElem?_take, List.getElem?_drop] at e0 e1
    constructor
    · rw [World.var?_cell hg hvar (2 * i), ← Array.getElem?_toList]
      simpa [Nat.mul_comm] using e0
    · rw [World.var?_cell hg hvar (2 * i + 1), ← Array.getElem?_toList]
      simpa [Nat.mul_comm] using e1
theorem tabs_laid {l : List (String × DataW Unit)} (hL : laidMet Tryd.prog l W) (h1 : ("unicode/utf8.first", firstData) ∈ l) (h2 : ("unicode/utf8.acceptRanges", acceptData) ∈ l) : Tabs (handed W) :=
  tabs_handed (tabs_reads (Lib.laidMet.reads hL h1) (Lib.laidMet.reads hL h2))
theorem laid_data : ("unicode/utf8.first", firstData) ∈ [("unicode/utf8.acceptRanges", Rows.laid_unicode_utf8_acceptRanges), ("unicode/utf8.first", Rows.laid_unicode_utf8_first)] ∧ ("unicode/utf8.acceptRanges", acceptData) ∈ [("unicode/utf8.acceptRanges", Rows.laid_unicode_utf8_acceptRanges), ("unicode/utf8.first", Rows.laid_unicode_utf8_first)] := by
  have e1 : firstData = Rows.laid_unicode_utf8_first := by kernel_rfl
  have e2 : acceptData = Rows.laid_unicode_utf8_acceptRanges := by kernel_rfl
  rw [e1, e2]
  exact ⟨by simp, by simp⟩

/-! ### all contracts, of the model's calls -/
abbrev DD : Orc := CS Tryd.prog
theorem name72 : SpecName DD 72 Tabs := spec72 cl72 (spec89 cl89) spec88
theorem name79 : SpecName DD 79 Tabs := spec79 cl79 cl91 (spec92 cl92) (spec93 cl93 (spec92 cl92))
theorem any54 : SpecAny DD 54 := spec54 cl54 cl77
theorem sig44 : SpecSig DD 44 Tabs := spec44 tabs_stay cl44 name72 any54 cl73
theorem sig58 : SpecSig DD 58 Tabs := spec58 tabs_stay cl58 name79 cl59
theorem plain27 : SpecPlain DD 27 Tabs := spec27 tabs_stay cl27 sig44 any54 cl55 cl46 cl74
theorem plain29 : SpecPlain DD 29 Tabs := spec29 tabs_stay cl29 sig58 name79 cl59
theorem vars57 : SpecVars DD 57 := spec57 cl57
theorem vars61 : SpecVars DD 61 := spec61 cl61
theorem grown78 : SpecGrown DD := spec78 cl78 cl90 cl135 cl136
theorem right56 : SpecRight DD 56 := spec56 cl56 grown78
theorem term60 : SpecTerm DD 60 := spec60 cl60
theorem chk66 : SpecCheck DD 66 Tabs := spec66 tabs_stay cl66 cl83 sig44 grown78
theorem chk69 : SpecCheck DD 69 Tabs := spec69 tabs_stay cl69 sig58 term60
theorem rule28 : SpecRule DD 28 := spec28 cl28 right56 vars57 (spec49 cl49 cl75)
theorem rule30 : SpecRule DD 30 := spec30 cl30 term60 vars61 (spec62 cl62)
theorem sys10 : SpecSys DD 10 Tabs := spec10 tabs_stay cl10 plain27 rule28
theorem sys11 : SpecSys DD 11 Tabs := spec11 tabs_stay cl11 plain29 rule30
theorem right31 : SpecRightS DD 31 Tabs := spec31 tabs_stay cl31 sys10
theorem right17 : SpecRightS DD 17 Tabs := spec17 tabs_stay cl17 sys11
theorem var38 : SpecVar DD 38 Tabs := spec38 tabs_stay cl38 cl48 cl67 cl68 chk66
theorem var40 : SpecVar DD 40 Tabs := spec40 tabs_stay cl40 chk69 vars61
theorem same15 : SpecSame DD 15 Tabs := spec15 tabs_stay cl15 right31 cl34 cl35 cl36 cl37 cl39 var38
theorem same16 : SpecSame DD 16 Tabs := spec16 tabs_stay cl16 right17 var40
theorem def12 : SpecDef DD 12 Tabs := spec12 tabs_stay cl12 right31 spec33 spec32
theorem def13 : SpecDef DD 13 Tabs := spec13 tabs_stay cl13 right17
theorem shown9 {h : Am.H} {k : Kv} {kp : Kp} (ht : Tabs h) (hk : ∀ h', Ext h h' → k (.bool true) h') : DD 9 [] h k kp := spec9 tabs_stay cl9 cl26 sys10 def12 same15 ht hk
theorem law3 {v : Value} {S : Sm} {h : Am.H} {k : Kv} {kp : Kp} (q : Ss h v S) (ht : Tabs h) (hk : ∀ h', Ext h h' → k (.bool true) h') : DD 3 [v] h k kp := spec3 tabs_stay cl3 cl14 shown9 sys10 sys11 def12 def13 q ht hk
theorem law4 {va vb : Value} {a b : Sm} {h : Am.H} {k : Kv} {kp : Kp} (qa : Ss h va a) (qb : Ss h vb b) (ht : Tabs h) (hk : ∀ h', Ext h h' → k (.bool true) h') : DD 4 [va, vb] h k kp := spec4 tabs_stay cl4 shown9 same15 same16 qa qb ht hk
end Go.Proofs.YtnlhnlmnlfmojaaDoor.Am
