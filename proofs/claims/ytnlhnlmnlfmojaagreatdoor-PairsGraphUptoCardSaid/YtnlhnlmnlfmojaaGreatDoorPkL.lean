/-
  Packed: The contracts of the functions on pairs, of the model's calls. The laws Edges and Graph, of the model's calls. The law Graph, of the model's calls.
-/
import Derived.Test.YtnlhnlmnlfmojaaGreatDoorLawSys
import Derived.Test.YtnlhnlmnlfmojaaGreatDoorPkQ
import Derived.Test.YtnlhnlmnlfmojaaGreatDoorPkR
set_option linter.unusedVariables false
set_option linter.unusedSimpArgs false
set_option linter.unnecessarySimpa false
namespace Go.Proofs.YtnlhnlmnlfmojaaGreatDoor.Am
open Go Go.Proofs Sys Go.Lib
set_option linter.unusedSimpArgs false
set_option linter.unusedVariables false
set_option maxRecDepth 100000

theorem has49 : SpecHasI DD 50 := spec50 cl50 cl77
theorem grownT78 : SpecGrownT DD 112 := spec78t cl112 (readT cl117 cl151 cl154)
theorem find76 : SpecFind DD 78 Tabs := spec78 tabs_stay cl78 cl100 sig44 grown78 grownT78 cl151 cl154
theorem sub50 : SpecSub DD 51 Tabs := spec51 cl51 find76 cl151 cl154 cl49
theorem ext20 : SpecExt DD 19 Tabs := spec19 tabs_stay cl19 sig44 cl44 cl45 cl71
theorem ext21 : SpecExt DD 13 Tabs := spec13 tabs_stay cl13 plain29
theorem of22 : SpecOf DD 20 Tabs := spec20 tabs_stay cl20 sys10 def12 has49 sub50 cl48 cl49
theorem of23 : SpecOf DD 9 Tabs := spec9 tabs_stay cl9 sys11 def13 (spec31 cl31) (spec33 cl33) cl32
theorem end119 : SpecEnd DD 116 := spec116 cl116 cl152 cl153
theorem can87 : SpecCan DD 56 Tabs := spec56 tabs_stay cl56 cl81 chk66 (spec82 cl82 (spec101 cl101) (spec102 cl102 end119) (spec103 cl103 end119))
theorem edge71 : SpecEdgeX DD 22 Tabs := spec22 tabs_stay cl22 (spec52 tabs_stay cl52 chk66) (spec53 tabs_stay cl53 cl80 has49 sub50) cl55 cl49 (spec54 cl54 cl49) can87
theorem est70 : SpecEst DD 21 Tabs := spec21 tabs_stay cl21 sys10 ext20 def12
theorem edge43 : SpecEdge DD 7 Tabs := spec7 tabs_stay cl7 est70 edge71
theorem graph42 : SpecGraph DD 10 Tabs := spec10 tabs_stay cl10 est70 edge71
theorem row25 : SpecSameRow DD 12 := same25 cl12
theorem shown19 : SpecShown DD 6 Tabs := fun h k kp ht hk => spec6 tabs_stay cl6 cl18 ext20 of22 graph42 row25 edge43 ht hk
end Go.Proofs.YtnlhnlmnlfmojaaGreatDoor.Am

namespace Go.Proofs.YtnlhnlmnlfmojaaGreatDoor.Am
open Go Go.Proofs Sys Go.Lib Go.ChangeShapes Go.WideShapes Go.ChangeAt Go.RowKit Go.Deep
set_option linter.unusedSimpArgs false
set_option linter.unusedVariables false
set_option maxRecDepth 100000
variable {P : Program} {H : Type} {enc : TypeId × Value → H} {W W' : World}
theorem ru_handed {r : Reach} {b0 : Nat} {v : Value} {d : DataW H} {ps : List MemPlace} (hval : Value.okWide Tryz.prog W r b0 28 v) (h : DataW.Trod enc Tryz.prog W 0 (fun _ => true) true 28 v d ps) (hb : Rows.uptoBulk d ≤ 1048576) :
    ∃ v0 v1 l0 l1, v = .agg #[v0, v1] ∧ Ir (handed W) v0 l0 ∧ Ir (handed W) v1 l1 := by
  obtain ⟨v0, v1, y0, y1, n, rfl, rfl, _, h0, h1⟩ := Go.Joins.open_agg2 Tryz.underlying28 (by kernel_rfl) (by kernel_rfl) hval h
  simp only [Rows.uptoBulk, Rows.uptoBulkAll] at hb
  obtain ⟨l0, i0, _⟩ := ir_handed Tryz.underlying26 Tryz.underlying3 (by kernel_rfl) h0 (by omega)
  obtain ⟨l1, i1, _⟩ := ir_handed Tryz.underlying26 Tryz.underlying3 (by kernel_rfl) h1 (by omega)
  exact ⟨v0, v1, l0, l1, rfl, i0, i1⟩
theorem canR : SpecCanR DD 29 Tabs := spec29 tabs_stay cl29 cl57 chk69 (spec58 cl58 (spec83 cl83) cl84 cl85 cl86 cl104)
theorem edgeR : SpecEdge DD 8 Tabs := spec8 tabs_stay cl8 right17 ext21 (spec24 tabs_stay cl24 chk69) def13 (spec25 cl25 (spec31 cl31) (spec33 cl33)) cl27 (spec28r cl28) canR
theorem lawE {va plv prv qlv qrv : Value} {S : Sm} {pR qL pL qR : List Int} {h : Am.H} {k : Kv} {kp : Kp} (hS : Ss h va S) (hpl : Ir h plv pL) (hp : Ir h prv pR) (hq : Ir h qlv qL) (hqr : Ir h qrv qR) (ht : Tabs h) (hk : ∀ h', Ext h h' → k (.bool true) h') : DD 3 [va, .agg #[plv, prv], .agg #[qlv, qrv]] h k kp :=
  lawEdges tabs_stay cl3 (fun h k kp ht hk => shown19 h k kp ht hk) edge43 edgeR (sl_one' hpl.row) (sl_one' hqr.row) hS ht hp hq hk
end Go.Proofs.YtnlhnlmnlfmojaaGreatDoor.Am

namespace Go.Proofs.YtnlhnlmnlfmojaaGreatDoor.Am
open Go Go.Proofs Sys Go.Lib
set_option linter.unusedSimpArgs false
set_option linter.unusedVariables false
theorem lawG {va mv : Value} {S : Sm} {ms : List Ru} {h : Am.H} {k : Kv} {kp : Kp} (hS : Ss h va S) (hm : Rr h mv ms) (hms : ms.length ≤ 1048576) (ht : Tabs h) (hk : ∀ h', Ext h h' → k (.bool true) h') : DD 4 [va, mv] h k kp :=
  lawGraph tabs_stay cl4 (fun h k kp ht hk => shown19 h k kp ht hk) of23 graph42 (spec11 tabs_stay cl11 edgeR) row25 hS hm (by omega) ht hk
end Go.Proofs.YtnlhnlmnlfmojaaGreatDoor.Am
