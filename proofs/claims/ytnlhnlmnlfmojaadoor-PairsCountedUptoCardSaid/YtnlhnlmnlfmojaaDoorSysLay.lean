/-
  Packed: Layings of library contracts at this program.
-/
import Derived.Shelf.SlGeneric
import Derived.Ground.NamesProg
import Derived.Ground.GgzProg
import Derived.Ground.SlgmProg
import Derived.Shelf.SlIterI.Nil
import Derived.Shelf.SortM.Plain
import Derived.Shelf.SortM.SortNone
import Derived.Shelf.Unicode.ValidAny
import Derived.Test.YtnlhnlmnlfmojaaDoorProg
set_option linter.unusedVariables false
set_option linter.unusedSimpArgs false
set_option linter.unnecessarySimpa false
namespace Go.Proofs
open Go.Shelf
def Tryd.laysValid_ren : Go.Shelf.Ren := ⟨fun | 196 => 88 | 259 => 108 | n => n, fun | 9 => 9 | 4 => 4 | 3 => 3 | 5 => 5 | 12 => 12 | 119 => 129 | 0 => 0 | 46 => 97 | 139 => 132 | 138 => 131 | 53 => 122 | n => n, fun | 3 => 0 | 4 => 1 | n => n⟩
theorem Tryd.laysValid : Go.Proofs.Lays.n196 Tryd.prog Tryd.laysValid_ren := {
  mixed := by kernel_rfl
  f196 := Tryd.func88.trans (congrArg some (by kernel_rfl))
  f259 := Tryd.func108.trans (congrArg some (by kernel_rfl))
  t0 := Tryd.underlying0
  a0 := Tryd.isAgg0
  z0 := Tryd.sizeOf0
  v0 := Tryd.zeroValue0
  t3 := Tryd.underlying3
  a3 := Tryd.isAgg3
  z3 := Tryd.sizeOf3
  v3 := Tryd.zeroValue3
  t4 := Tryd.underlying4
  a4 := Tryd.isAgg4
  z4 := Tryd.sizeOf4
  v4 := Tryd.zeroValue4
  t5 := Tryd.underlying5
  a5 := Tryd.isAgg5
  z5 := Tryd.sizeOf5
  v5 := Tryd.zeroValue5
  t9 := Tryd.underlying9
  a9 := Tryd.isAgg9
  z9 := Tryd.sizeOf9
  v9 := Tryd.zeroValue9
  t12 := Tryd.underlying12
  a12 := Tryd.isAgg12
  z12 := Tryd.sizeOf12
  v12 := Tryd.zeroValue12
  t46 := Tryd.underlying97
  a46 := Tryd.isAgg97
  z46 := Tryd.sizeOf97
  v46 := Tryd.zeroValue97
  t53 := Tryd.underlying122
  a53 := Tryd.isAgg122
  z53 := Tryd.sizeOf122
  v53 := Tryd.zeroValue122
  t119 := Tryd.underlying129
  a119 := Tryd.isAgg129
  z119 := Tryd.sizeOf129
  t138 := Tryd.underlying131
  a138 := Tryd.isAgg131
  z138 := Tryd.sizeOf131
  v138 := Tryd.zeroValue131
  t139 := Tryd.underlying132
  a139 := Tryd.isAgg132
  z139 := Tryd.sizeOf132
  v139 := Tryd.zeroValue132
  g3 := by kernel_rfl
  g4 := by kernel_rfl }
def Tryd.keysA_ren : Go.Shelf.Ren := ⟨fun | 7 => 33 | 10 => 65 | n => n, fun | 23 => 51 | 26 => 3 | 3 => 3 | 28 => 54 | 0 => 0 | 27 => 53 | 33 => 77 | 4 => 4 | n => n, fun | n => n⟩
theorem Tryd.keysA : Go.Proofs.SlLaysZI.n7 Tryd.prog Tryd.keysA_ren := {
  mixed := by kernel_rfl
  f7 := ⟨Tryd.f33.name, by decide, Tryd.func33.trans (congrArg some (by kernel_rfl))⟩
  f10 := ⟨Tryd.f65.name, by decide, Tryd.func65.trans (congrArg some (by kernel_rfl))⟩
  t0 := Tryd.underlying0
  a0 := Tryd.isAgg0
  z0 := Tryd.sizeOf0
  v0 := Tryd.zeroValue0
  t4 := Tryd.underlying4
  a4 := Tryd.isAgg4
  z4 := Tryd.sizeOf4
  v4 := Tryd.zeroValue4
  t23 := Tryd.underlying51
  a23 := Tryd.isAgg51
  z23 := Tryd.sizeOf51
  v23 := Tryd.zeroValue51
  t26 := Tryd.underlying3
  a26 := Tryd.isAgg3
  z26 := Tryd.sizeOf3
  v26 := Tryd.zeroValue3
  t27 := Tryd.underlying53
  a27 := Tryd.isAgg53
  z27 := Tryd.sizeOf53
  v27 := Tryd.zeroValue53
  t28 := Tryd.underlying54
  a28 := Tryd.isAgg54
  z28 := Tryd.sizeOf54
  v28 := Tryd.zeroValue54
  t33 := Tryd.underlying77
  a33 := Tryd.isAgg77
  z33 := Tryd.sizeOf77
  v33 := Tryd.zeroValue77 }
def Tryd.sortedA_ren : Go.Shelf.Ren := ⟨fun | 6 => 32 | 8 => 63 | 9 => 64 | 11 => 80 | 13 => 82 | 12 => 81 | 23 => 103 | 24 => 104 | 14 => 94 | 15 => 95 | 16 => 96 | 17 => 97 | 18 => 98 | 19 => 99 | 20 => 100 | 21 => 101 | 22 => 102 | 25 => 109 | 26 => 110 | 27 => 111 | 28 => 112 | 29 => 113 | 30 => 114 | 31 => 118 | n => n, fun | 26 => 3 | 28 => 54 | 24 => 30 | 0 => 0 | 3 => 3 | 37 => 97 | 48 => 120 | 50 => 122 | 4 => 4 | 40 => 113 | 39 => 112 | 45 => 93 | 5 => 5 | 9 => 9 | 51 => 134 | 55 => 138 | 57 => 150 | 58 => 151 | 33 => 77 | n => n, fun | n => n⟩
theorem Tryd.sortedA : Go.Proofs.SlLaysZI.n6 Tryd.prog Tryd.sortedA_ren := {
  mixed := by kernel_rfl
  f6 := ⟨Tryd.f32.name, by decide, Tryd.func32.trans (congrArg some (by kernel_rfl))⟩
  f8 := ⟨Tryd.f63.name, by decide, Tryd.func63.trans (congrArg some (by kernel_rfl))⟩
  f11 := ⟨Tryd.f80.name, by decide, Tryd.func80.trans (congrArg some (by kernel_rfl))⟩
  t0 := Tryd.underlying0
  a0 := Tryd.isAgg0
  z0 := Tryd.sizeOf0
  v0 := Tryd.zeroValue0
  t24 := Tryd.underlying30
  a24 := Tryd.isAgg30
  z24 := Tryd.sizeOf30
  v24 := Tryd.zeroValue30
  t26 := Tryd.underlying3
  a26 := Tryd.isAgg3
  z26 := Tryd.sizeOf3
  v26 := Tryd.zeroValue3
  t28 := Tryd.underlying54
  a28 := Tryd.isAgg54
  z28 := Tryd.sizeOf54
  v28 := Tryd.zeroValue54
  i26 := by kernel_rfl }
def Tryd.sortA_ren : Go.Shelf.Ren := ⟨fun | 5 => 64 | 8 => 82 | 7 => 81 | 19 => 103 | 20 => 104 | 10 => 94 | 11 => 95 | 12 => 96 | 13 => 97 | 14 => 98 | 15 => 99 | 16 => 100 | 17 => 101 | 18 => 102 | 30 => 109 | 31 => 110 | 32 => 111 | 33 => 112 | 34 => 113 | 35 => 114 | 40 => 118 | n => n, fun | 23 => 30 | 25 => 3 | 3 => 3 | 32 => 97 | 22 => 30 | 0 => 0 | 44 => 120 | 46 => 122 | 4 => 4 | 36 => 113 | 35 => 112 | 41 => 93 | 5 => 5 | 9 => 9 | 53 => 134 | 57 => 138 | 63 => 150 | 64 => 151 | n => n, fun | n => n⟩
theorem Tryd.sortA : Go.Proofs.SlLaysM.n5 Tryd.prog Tryd.sortA_ren := {
  mixed := by kernel_rfl
  f5 := ⟨Tryd.f64.name, by decide, Tryd.func64.trans (congrArg some (by kernel_rfl))⟩
  f7 := ⟨Tryd.f81.name, by decide, Tryd.func81.trans (congrArg some (by kernel_rfl))⟩
  f8 := Tryd.func82.trans (congrArg some (by kernel_rfl))
  f10 := ⟨Tryd.f94.name, by decide, Tryd.func94.trans (congrArg some (by kernel_rfl))⟩
  f11 := ⟨Tryd.f95.name, by decide, Tryd.func95.trans (congrArg some (by kernel_rfl))⟩
  f12 := ⟨Tryd.f96.name, by decide, Tryd.func96.trans (congrArg some (by kernel_rfl))⟩
  f13 := ⟨Tryd.f97.name, by decide, Tryd.func97.trans (congrArg some (by kernel_rfl))⟩
  f14 := ⟨Tryd.f98.name, by decide, Tryd.func98.trans (congrArg some (by kernel_rfl))⟩
  f15 := ⟨Tryd.f99.name, by decide, Tryd.func99.trans (congrArg some (by kernel_rfl))⟩
  f16 := ⟨Tryd.f100.name, by decide, Tryd.func100.trans (congrArg some (by kernel_rfl))⟩
  f17 := ⟨Tryd.f101.name, by decide, Tryd.func101.trans (congrArg some (by kernel_rfl))⟩
  f18 := ⟨Tryd.f102.name, by decide, Tryd.func102.trans (congrArg some (by kernel_rfl))⟩
  f19 := Tryd.func103.trans (congrArg some (by kernel_rfl))
  f20 := Tryd.func104.trans (congrArg some (by kernel_rfl))
  f30 := ⟨Tryd.f109.name, by decide, Tryd.func109.trans (congrArg some (by kernel_rfl))⟩
  f31 := Tryd.func110.trans (congrArg some (by kernel_rfl))
  f32 := Tryd.func111.trans (congrArg some (by kernel_rfl))
  f33 := ⟨Tryd.f112.name, by decide, Tryd.func112.trans (congrArg some (by kernel_rfl))⟩
  f34 := ⟨Tryd.f113.name, by decide, Tryd.func113.trans (congrArg some (by kernel_rfl))⟩
  f35 := ⟨Tryd.f114.name, by decide, Tryd.func114.trans (congrArg some (by kernel_rfl))⟩
  f40 := ⟨Tryd.f118.name, by decide, Tryd.func118.trans (congrArg some (by kernel_rfl))⟩
  t0 := Tryd.underlying0
  a0 := Tryd.isAgg0
  z0 := Tryd.sizeOf0
  v0 := Tryd.zeroValue0
  t3 := Tryd.underlying3
  a3 := Tryd.isAgg3
  z3 := Tryd.sizeOf3
  v3 := Tryd.zeroValue3
  t4 := Tryd.underlying4
  a4 := Tryd.isAgg4
  z4 := Tryd.sizeOf4
  v4 := Tryd.zeroValue4
  t5 := Tryd.underlying5
  a5 := Tryd.isAgg5
  z5 := Tryd.sizeOf5
  v5 := Tryd.zeroValue5
  t9 := Tryd.underlying9
  a9 := Tryd.isAgg9
  z9 := Tryd.sizeOf9
  v9 := Tryd.zeroValue9
  t22 := Tryd.underlying30
  a22 := Tryd.isAgg30
  z22 := Tryd.sizeOf30
  v22 := Tryd.zeroValue30
  t23 := Tryd.underlying30
  a23 := Tryd.isAgg30
  z23 := Tryd.sizeOf30
  v23 := Tryd.zeroValue30
  t25 := Tryd.underlying3
  a25 := Tryd.isAgg3
  z25 := Tryd.sizeOf3
  v25 := Tryd.zeroValue3
  t32 := Tryd.underlying97
  a32 := Tryd.isAgg97
  z32 := Tryd.sizeOf97
  v32 := Tryd.zeroValue97
  t35 := Tryd.underlying112
  a35 := Tryd.isAgg112
  z35 := Tryd.sizeOf112
  v35 := Tryd.zeroValue112
  t36 := Tryd.underlying113
  a36 := Tryd.isAgg113
  z36 := Tryd.sizeOf113
  v36 := Tryd.zeroValue113
  t41 := Tryd.underlying93
  a41 := Tryd.isAgg93
  z41 := Tryd.sizeOf93
  v41 := Tryd.zeroValue93
  t44 := Tryd.underlying120
  a44 := Tryd.isAgg120
  z44 := Tryd.sizeOf120
  v44 := Tryd.zeroValue120
  t46 := Tryd.underlying122
  a46 := Tryd.isAgg122
  z46 := Tryd.sizeOf122
  v46 := Tryd.zeroValue122
  t53 := Tryd.underlying134
  a53 := Tryd.isAgg134
  z53 := Tryd.sizeOf134
  v53 := Tryd.zeroValue134
  t57 := Tryd.underlying138
  a57 := Tryd.isAgg138
  z57 := Tryd.sizeOf138
  v57 := Tryd.zeroValue138
  t63 := Tryd.underlying150
  a63 := Tryd.isAgg150
  z63 := Tryd.sizeOf150
  v63 := Tryd.zeroValue150
  t64 := Tryd.underlying151
  a64 := Tryd.isAgg151
  z64 := Tryd.sizeOf151
  v64 := Tryd.zeroValue151 }
end Go.Proofs
