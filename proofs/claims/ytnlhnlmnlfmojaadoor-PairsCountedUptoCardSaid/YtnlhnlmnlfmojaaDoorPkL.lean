/-
  Packed: The contracts of the functions on pairs, of the model's calls. The law Counted, of the model's calls.
-/
import Derived.Test.YtnlhnlmnlfmojaaDoorLawSys
import Derived.Test.YtnlhnlmnlfmojaaDoorPkQ
import Derived.Test.YtnlhnlmnlfmojaaDoorCtA
set_option linter.unusedVariables false
set_option linter.unusedSimpArgs false
set_option linter.unnecessarySimpa false
namespace Go.Proofs.YtnlhnlmnlfmojaaDoor.Am
open Go Go.Proofs Sys Go.Lib
set_option linter.unusedSimpArgs false
set_option linter.unusedVariables false
set_option maxRecDepth 100000

theorem has49 : SpecHasI DD 49 := spec49 cl49 cl75
theorem grownT78 : SpecGrownT DD 78 := spec78t cl78 (readT cl90 cl135 cl136)
theorem find76 : SpecFind DD 76 Tabs := spec76 tabs_stay cl76 cl83 sig44 grown78 grownT78 cl135 cl136
theorem sub50 : SpecSub DD 50 Tabs := spec50 cl50 find76 cl135 cl136 cl48
theorem ext20 : SpecExt DD 20 Tabs := spec20 tabs_stay cl20 sig44 cl45 cl46 cl74
theorem ext21 : SpecExt DD 21 Tabs := spec21 tabs_stay cl21 plain29
theorem of22 : SpecOf DD 22 Tabs := spec22 tabs_stay cl22 sys10 def12 has49 sub50 cl47 cl48
theorem of23 : SpecOf DD 23 Tabs := spec23 tabs_stay cl23 sys11 def13 (spec51 cl51) (spec53 cl53) cl52
theorem end119 : SpecEnd DD 119 := spec119 cl119 cl137 cl138
theorem can87 : SpecCan DD 87 Tabs := spec87 tabs_stay cl87 cl106 chk66 (spec107 cl107 (spec115 cl115) (spec116 cl116 end119) (spec117 cl117 end119))
theorem edge71 : SpecEdgeX DD 71 Tabs := spec71 tabs_stay cl71 (spec84 tabs_stay cl84 chk66) (spec85 tabs_stay cl85 cl105 has49 sub50) cl67 cl48 (spec86 cl86 cl48) can87
theorem est70 : SpecEst DD 70 Tabs := spec70 tabs_stay cl70 sys10 ext20 def12
theorem edge43 : SpecEdge DD 43 Tabs := spec43 tabs_stay cl43 est70 edge71
theorem graph42 : SpecGraph DD 42 Tabs := spec42 tabs_stay cl42 est70 edge71
theorem row25 : SpecSameRow DD 25 := same25 cl25
theorem shown19 : SpecShown DD 19 Tabs := fun h k kp ht hk => spec19 tabs_stay cl19 cl41 ext20 of22 graph42 row25 edge43 ht hk
end Go.Proofs.YtnlhnlmnlfmojaaDoor.Am

namespace Go.Proofs.YtnlhnlmnlfmojaaDoor.Am
open Go Go.Proofs Sys Go.Lib
set_option linter.unusedSimpArgs false
set_option linter.unusedVariables false
theorem lawC {v : Value} {S : Sm} {h : Am.H} {k : Kv} {kp : Kp} (q : Ss h v S) (ht : Tabs h) (hk : ∀ h', Ext h h' → k (.bool true) h') : DD 8 [v] h k kp := lawCounted tabs_stay cl8 shown19 right17 def13 of22 row25 q ht hk
end Go.Proofs.YtnlhnlmnlfmojaaDoor.Am
