/-
  Packed: The contracts of the functions on pairs, of the model's calls. The law Follow, of the model's calls: chains that are handed in.
-/
import Derived.Test.YtnlhnlmnlfmojaaGreatDoorLawSys
import Derived.Test.YtnlhnlmnlfmojaaGreatDoorPkQ
import Derived.Test.YtnlhnlmnlfmojaaGreatDoorPkF
set_option linter.unusedVariables false
set_option linter.unusedSimpArgs false
set_option linter.unnecessarySimpa false
namespace Go.Proofs.YtnlhnlmnlfmojaaGreatDoor.Am
open Go Go.Proofs Sys Go.Lib
set_option linter.unusedSimpArgs false
set_option linter.unusedVariables false
set_option maxRecDepth 100000

theorem has49 : SpecHasI DD 50 := spec50 cl50 cl77
theorem grownT78 : SpecGrownT DD 112 := spec78t cl112 (readT cl117 cl151 cl154)
theorem find76 : SpecFind DD 78 Tabs := spec78 tabs_stay cl78 cl100 sig44 grown78 grownT78 cl151 cl154
theorem sub50 : SpecSub DD 51 Tabs := spec51 cl51 find76 cl151 cl154 cl49
theorem ext20 : SpecExt DD 19 Tabs := spec19 tabs_stay cl19 sig44 cl44 cl45 cl71
theorem ext21 : SpecExt DD 13 Tabs := spec13 tabs_stay cl13 plain29
theorem of22 : SpecOf DD 20 Tabs := spec20 tabs_stay cl20 sys10 def12 has49 sub50 cl48 cl49
theorem of23 : SpecOf DD 9 Tabs := spec9 tabs_stay cl9 sys11 def13 (spec31 cl31) (spec33 cl33) cl32
theorem end119 : SpecEnd DD 116 := spec116 cl116 cl152 cl153
theorem can87 : SpecCan DD 56 Tabs := spec56 tabs_stay cl56 cl81 chk66 (spec82 cl82 (spec101 cl101) (spec102 cl102 end119) (spec103 cl103 end119))
theorem edge71 : SpecEdgeX DD 22 Tabs := spec22 tabs_stay cl22 (spec52 tabs_stay cl52 chk66) (spec53 tabs_stay cl53 cl80 has49 sub50) cl55 cl49 (spec54 cl54 cl49) can87
theorem est70 : SpecEst DD 21 Tabs := spec21 tabs_stay cl21 sys10 ext20 def12
theorem edge43 : SpecEdge DD 7 Tabs := spec7 tabs_stay cl7 est70 edge71
theorem graph42 : SpecGraph DD 10 Tabs := spec10 tabs_stay cl10 est70 edge71
theorem row25 : SpecSameRow DD 12 := same25 cl12
theorem shown19 : SpecShown DD 6 Tabs := fun h k kp ht hk => spec6 tabs_stay cl6 cl18 ext20 of22 graph42 row25 edge43 ht hk
end Go.Proofs.YtnlhnlmnlfmojaaGreatDoor.Am

namespace Go.Proofs.YtnlhnlmnlfmojaaGreatDoor.Am
open Go Go.Proofs Sys Go.Lib Go.ChangeShapes Go.WideShapes Go.ChangeAt Go.RowKit Go.Deep
set_option linter.unusedSimpArgs false
set_option linter.unusedVariables false
set_option maxRecDepth 100000
variable {P : Program} {H : Type} {enc : TypeId × Value → H} {W W' : World}
theorem in_wf {x : Int} (h : (Lit.int .i64 x).wf = true) : inI x := by
  simp only [Lit.wf, decide_eq_true_eq, Bool.and_eq_true] at h
  have h1 : IntKind.i64.min = -9223372036854775808 := by decide
  have h2 : IntKind.i64.max = 9223372036854775807 := by decide
  unfold inI; omega
theorem bs_handed {n : Nat} {v : Value} {y : DataW H × List MemPlace} (h : DataW.trod enc Tryz.prog W 0 (fun _ => true) true n 38 [v] = some y) (hb : Rows.uptoBulk y.1 ≤ 1048576) : ∃ xs, Bs (handed W) v xs := by
  rcases open_slice_pairs Tryz.underlying38 Tryz.underlying75 (by kernel_rfl) rfl rfl (by kernel_rfl) (by kernel_rfl) h with ⟨hcs, hx⟩ | ⟨a, len, cap, m, n', V0, V1, D0, D1, P0, P1, hcs, _, hlc, _, hm, hx, hall⟩
  · simp only [List.cons.injEq, and_true] at hcs
    subst hcs
    exact ⟨[], Bs.nil_⟩
  · simp only [List.cons.injEq, and_true] at hcs
    subst hcs
    have hm : m = cap := hm
    subst hm
    have hx1 : y.1 = .slice ((List.range len).map fun i => .agg [D0 i, D1 i]) ((List.range (m - len)).map fun j => .agg [D0 (len + j), D1 (len + j)]) := by rw [hx]
    rw [hx1] at hb
    simp only [Rows.uptoBulk] at hb
    have hlen : len ≤ 1048576 := by
      have h1 := bulk_all_len ((List.range len).map fun i => (.agg [D0 i, D1 i] : DataW H))
      simp only [List.length_map, List.length_range] at h1
      omega
    have hint : ∀ i, i < len → ∃ x : Int × List Int, V0 i = .int .i64 x.1 ∧ inI x.1 ∧ Ir (handed W) (V1 i) x.2 := fun i hi => by
      obtain ⟨_, _, h0, h1⟩ := hall i (by omega)
      have h4 := bulk_mem (l := (List.range len).map fun i => (.agg [D0 i, D1 i] : DataW H)) (List.mem_map.mpr ⟨i, List.mem_range.mpr hi, rfl⟩)
      simp only [Rows.uptoBulk, Rows.uptoBulkAll] at h4
      obtain ⟨z, hz, _, hw⟩ := DataW.trod_int Tryz.underlying3 h0
      obtain ⟨l1, i1, _⟩ := ir_handed Tryz.underlying26 Tryz.underlying3 (by kernel_rfl) h1 (show Rows.uptoBulk (D1 i) ≤ 1048576 by omega)
      exact ⟨(z, l1), by simpa using hz, in_wf hw, i1⟩
    obtain ⟨X, hX⟩ := Go.Deep.choose_lt (α := Int × List Int) (p := fun i x => V0 i = .int .i64 x.1 ∧ inI x.1 ∧ Ir (handed W) (V1 i) x.2) hint
    have hr := rowK_handed (W := W) (a := a) (len := len) (cap := m) (V0 := V0) (V1 := V1) hlc fun i hi => ⟨(hall i hi).1, (hall i hi).2.1⟩
    have hrow : ((List.range len).map fun i => [V0 i, V1 i]) = bRow ((List.range len).map fun i => (V1 i, X i)) := by
      unfold bRow
      rw [List.map_map]
      apply List.map_congr_left
      intro i hi
      rw [List.mem_range] at hi
      rw [(hX i hi).1]; rfl
    rw [hrow] at hr
    refine ⟨_, hr, by simp; omega, fun x hx => ?_⟩
    obtain ⟨i, hi, rfl⟩ := List.mem_map.mp hx
    rw [List.mem_range] at hi
    exact ⟨(hX i hi).2.2, (hX i hi).2.1⟩
theorem ch_handed {r : Reach} {b0 : Nat} {v : Value} {d : DataW H} {ps : List MemPlace} (hval : Value.okWide Tryz.prog W r b0 40 v) (h : DataW.Trod enc Tryz.prog W 0 (fun _ => true) true 40 v d ps) (hb : Rows.uptoBulk d ≤ 1048576) :
    ∃ P Q v2 v3 xs qs, v = .agg #[.int .i64 P, .int .i64 Q, v2, v3] ∧ inI P ∧ Bs (handed W) v2 xs ∧ Ir (handed W) v3 qs := by
  obtain ⟨v0, v1, v2, v3, y0, y1, y2, y3, n, rfl, rfl, _, h0, h1, h2, h3⟩ := Go.Joins.open_agg4 Tryz.underlying40 (by kernel_rfl) (by kernel_rfl) hval h
  simp only [Rows.uptoBulk, Rows.uptoBulkAll] at hb
  obtain ⟨p, hp, _, hw⟩ := DataW.trod_int Tryz.underlying3 h0
  obtain ⟨q, hq, _, _⟩ := DataW.trod_int Tryz.underlying3 h1
  obtain ⟨xs, hxs⟩ := bs_handed h2 (by omega)
  obtain ⟨qs, hqs, _⟩ := ir_handed Tryz.underlying26 Tryz.underlying3 (by kernel_rfl) h3 (by omega)
  simp only [List.cons.injEq, and_true] at hp hq
  subst hp; subst hq
  exact ⟨p, q, v2, v3, xs, qs, rfl, in_wf hw, hxs, hqs⟩
theorem end33 : SpecEndT DD 33 := spec33 cl33
theorem end66 : SpecEndT DD 66 := spec66 cl66
theorem place64 : SpecPlace DD 64 Tabs := spec64 cl64 chk69
theorem laid37 : SpecLaid4 DD 37 := spec37 cl37 (spec63 cl63)
theorem inner90 : SpecInner DD 90 := spec90 cl90 cl109 (spec108 cl108) end33 (spec110 cl110)
theorem matched67 : SpecMatched DD 67 := spec67 cl67 inner90
theorem right65 : SpecRight8 DD 65 Tabs := spec65 tabs_stay cl65 sys11 term60
theorem all40 : SpecAll DD 40 Tabs := spec40 tabs_stay cl40 right65 end66 matched67
theorem do41 : SpecDo DD 41 Tabs := spec41 tabs_stay cl41 right65 end66 matched67 laid37
theorem subR : SpecSub DD 39 Tabs := spec39 tabs_stay cl39 place64 end33
theorem kids38 : SpecKids DD 38 Tabs := spec38 tabs_stay cl38 place64 end33
theorem repl42 : SpecReplace DD 42 Tabs := spec42 tabs_stay cl42 chk69 place64 end33
theorem apply15 : SpecApply DD 15 Tabs := spec15 tabs_stay cl15 (spec35 tabs_stay cl35 sig58 chk69) chk69 laid37
theorem inside17 : SpecInside DD 17 Tabs := spec17 tabs_stay cl17 cl14 kids38 subR all40 do41 repl42
theorem lawF {va bv qv : Value} {S : Sm} {P Q : Int} {xs : List Bd1} {qs : List Int} {h : Am.H} {k : Kv} {kp : Kp} (hS : Ss h va S) (hP : inI P) (hB : Bs h bv xs) (hQ : Ir h qv qs) (ht : Tabs h) (hk : ∀ h', Ext h h' → k (.bool true) h') : DD 5 [va, .agg #[.int .i64 P, .int .i64 Q, bv, qv]] h k kp :=
  lawFollow tabs_stay cl5 cl14 (fun h k kp ht hk => shown19 h k kp ht hk) of23 ext21 apply15 (spec16 cl16 row25 end33) edge43 inside17 hS ht hP hB hQ hk
end Go.Proofs.YtnlhnlmnlfmojaaGreatDoor.Am
