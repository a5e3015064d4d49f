/-
  Packed: 
-/
import Derived.Test.YtnlhnlmnlfmojaaDoorPkB
import Derived.Test.YtnlhnlmnlfmojaaDoorProg
set_option linter.unusedVariables false
set_option linter.unusedSimpArgs false
set_option linter.unnecessarySimpa false
namespace Go.Proofs.YtnlhnlmnlfmojaaDoor.Am
open Go Go.Proofs
set_option maxRecDepth 100000
set_option linter.unusedVariables false
theorem wide : Tryd.prog.follows .mixedOrders = true := by kernel_rfl
def lv3 : Lv := Lv.mk 43 [.raw] (fun i => []) (fun i => []) [(2, .bool)] (fun i => none)
def L3 (D : Orc) : Lor := fun b vs h K => match firstId b with | some i => False | none => False
/-- lodestone/lodestonelaw07.SystemChecks -/
def F3 (D : Orc) (a0 : Value) (h : H) (k : Kv) (kp : Kp) : Prop :=
aggW a0 (fun l0 => newW h l0 (fun p1 h2 => D 9 [] h2 (fun v3 h4 => ∃ t5 : Bool, v3 = (Value.bool t5) ∧ ptrW p1 (fun ad6 => ∃ v7 : Value, ∃ v8 : Value, rdN h4 ad6 2 = some [v7, v8] ∧ D 10 [(Value.agg #[v7, v8])] h4 (fun v9 h10 => ∃ x11 : Int, ∃ x12 : Int, v9 = (Value.tuple #[(Value.int IntKind.i64 x11), (Value.int IntKind.i64 x12)]) ∧ ptrW p1 (fun ad13 => ∃ v14 : Value, ∃ v15 : Value, rdN h10 ad13 2 = some [v14, v15] ∧ D 11 [(Value.agg #[v14, v15])] h10 (fun v16 h17 => ∃ x18 : Int, ∃ x19 : Int, v16 = (Value.tuple #[(Value.int IntKind.i64 x18), (Value.int IntKind.i64 x19)]) ∧ ptrW p1 (fun ad20 => ∃ v21 : Value, ∃ v22 : Value, rdN h17 ad20 2 = some [v21, v22] ∧ D 12 [(Value.agg #[v21, v22])] h17 (fun v23 h24 => ∃ v25 : Value, v23 = v25 ∧ ptrW p1 (fun ad26 => ∃ v27 : Value, ∃ v28 : Value, rdN h24 ad26 2 = some [v27, v28] ∧ D 13 [(Value.agg #[v27, v28])] h24 (fun v29 h30 => ∃ v31 : Value, v29 = v31 ∧ D 14 [v25, v31] h30 (fun v32 h33 => ∃ t34 : Bool, v32 = (Value.bool t34) ∧ cond t5 (
cond t34 (
cond (x11 == x18) (
k (Value.bool (x12 == x19)) h33) (
k (Value.bool false) h33)) (
k (Value.bool false) h33)) (
k (Value.bool false) h33)) kp) kp)) kp)) kp)) kp)) kp))
def Cl3 (D : Orc) : Prop := ∀ a0 h k kp, F3 D a0 h k kp → D 3 [a0] h k kp
theorem tieF3 (D : Orc) (a0 : Value) (h : H) (k : Kv) (kp : Kp) : F3 D a0 h k kp = bodyW Tryd.prog D (L3 D) lv3 Tryd.f3 [a0] h k kp := by kernel_rfl
theorem lfp3 : Lfps Tryd.prog (CS Tryd.prog) (L3 (CS Tryd.prog)) lv3 (allLoops (bodyOf Tryd.f3)) := by
  have e : (allLoops (bodyOf Tryd.f3)) = [] := by kernel_rfl
  rw [e]
  exact trivial
theorem cl3 : Cl3 (CS Tryd.prog) := fun a0 h k kp hk =>
  fn_sound wide (fn := Tryd.f3) (by kernel_rfl) (by kernel_rfl) (by kernel_rfl) lfp3 (by rw [tieF3] at hk; exact hk)
def lv4 : Lv := Lv.mk 21 [.raw, .raw] (fun i => []) (fun i => []) [(4, .bool)] (fun i => none)
def L4 (D : Orc) : Lor := fun b vs h K => match firstId b with | some i => False | none => False
/-- lodestone/lodestonelaw07.SystemSame -/
def F4 (D : Orc) (a0 a1 : Value) (h : H) (k : Kv) (kp : Kp) : Prop :=
aggW a0 (fun l0 => newW h l0 (fun p1 h2 => aggW a1 (fun l3 => newW h2 l3 (fun p4 h5 => D 9 [] h5 (fun v6 h7 => ∃ t8 : Bool, v6 = (Value.bool t8) ∧ ptrW p1 (fun ad9 => ∃ v10 : Value, ∃ v11 : Value, rdN h7 ad9 2 = some [v10, v11] ∧ ptrW p4 (fun ad12 => ∃ v13 : Value, ∃ v14 : Value, rdN h7 ad12 2 = some [v13, v14] ∧ D 15 [(Value.agg #[v10, v11]), (Value.agg #[v13, v14])] h7 (fun v15 h16 => ∃ t17 : Bool, v15 = (Value.bool t17) ∧ ptrW p1 (fun ad18 => ∃ v19 : Value, ∃ v20 : Value, rdN h16 ad18 2 = some [v19, v20] ∧ ptrW p4 (fun ad21 => ∃ v22 : Value, ∃ v23 : Value, rdN h16 ad21 2 = some [v22, v23] ∧ D 16 [(Value.agg #[v19, v20]), (Value.agg #[v22, v23])] h16 (fun v24 h25 => ∃ t26 : Bool, v24 = (Value.bool t26) ∧ cond t8 (
k (Value.bool (t17 == t26)) h25) (
k (Value.bool false) h25)) kp))) kp))) kp))))
def Cl4 (D : Orc) : Prop := ∀ a0 a1 h k kp, F4 D a0 a1 h k kp → D 4 [a0, a1] h k kp
theorem tieF4 (D : Orc) (a0 a1 : Value) (h : H) (k : Kv) (kp : Kp) : F4 D a0 a1 h k kp = bodyW Tryd.prog D (L4 D) lv4 Tryd.f4 [a0, a1] h k kp := by kernel_rfl
theorem lfp4 : Lfps Tryd.prog (CS Tryd.prog) (L4 (CS Tryd.prog)) lv4 (allLoops (bodyOf Tryd.f4)) := by
  have e : (allLoops (bodyOf Tryd.f4)) = [] := by kernel_rfl
  rw [e]
  exact trivial
theorem cl4 : Cl4 (CS Tryd.prog) := fun a0 a1 h k kp hk =>
  fn_sound wide (fn := Tryd.f4) (by kernel_rfl) (by kernel_rfl) (by kernel_rfl) lfp4 (by rw [tieF4] at hk; exact hk)
def lv5 : Lv := Lv.mk 184 [.raw, .raw, .int IntKind.i64] (fun i => cond (Nat.beq i 7) ([(1, .raw), (2, .int IntKind.i64), (3, .raw), (9, .raw), (10, .int IntKind.i64)]) (cond (Nat.beq i 16) ([(1, .raw), (3, .raw), (9, .raw), (15, .int IntKind.i64)]) ([]))) (fun i => cond (Nat.beq i 7) ([(0, [(1, .raw), (3, .raw), (9, .raw)])]) (cond (Nat.beq i 16) ([(2, [(3, .raw), (9, .raw)])]) ([]))) [(6, .bool)] (fun i => cond (Nat.beq i 4) (some [(1, .raw), (2, .int IntKind.i64), (3, .raw), (7, .bool), (32, .bool)]) (cond (Nat.beq i 14) (some [(1, .raw), (2, .int IntKind.i64), (3, .raw), (9, .raw), (10, .int IntKind.i64), (11, .raw), (13, .raw)]) (cond (Nat.beq i 12) (some [(1, .raw), (2, .int IntKind.i64), (3, .raw), (9, .raw), (10, .int IntKind.i64), (11, .raw), (13, .raw), (73, .bool)]) (cond (Nat.beq i 21) (some [(1, .raw), (3, .raw), (9, .raw), (15, .int IntKind.i64), (16, .int IntKind.i64)]) (cond (Nat.beq i 28) (some [(3, .raw), (161, .bool)]) (none))))))
def j5_7_14 (D : Orc) (I : List Value → H → Prop) (K : Kl) (a0 a1 a2 a3 a4 a5 a6 : Value) (h63 : H) : Prop :=
intK IntKind.i64 a1 (fun x64 => intK IntKind.i64 a4 (fun x65 => ptrW a3 (fun ad66 => ∃ v67 : Value, rd h63 (Addr.add ad66 1) = some v67 ∧ one a5 = true ∧ 0 < 2 ∧ one a6 = true ∧ 1 < 2 ∧ 2 = 2 ∧ 0 + 2 ≤ 2 ∧ newSl h63 1 [a5, a6] (fun s68 h69 => slenW s68 (fun n70 => srcW h69 2 s68 (n70) (fun w71 => apW h69 2 48 [(Value.slice none 0 0), (Value.slice none 0 0)] v67 (n70) w71 (fun s72 h73 => ptrW a3 (fun ad74 => one s72 = true ∧ 1 = 1 ∧ ∃ h75, wr1 h73 (Addr.add ad74 1) s72 = some h75 ∧ I [a0, (Value.int IntKind.i64 x64), a2, a3, (Value.int IntKind.i64 (IntKind.wrap IntKind.i64 (x65 + (1 : Int))))] h75))))))))
def j5_7_12 (D : Orc) (I : List Value → H → Prop) (K : Kl) (a0 a1 a2 a3 a4 a5 a6 a7 : Value) (h51 : H) : Prop :=
intK IntKind.i64 a1 (fun x52 => intK IntKind.i64 a4 (fun x53 => boolW a7 (fun t54 => cond t54 (
ptrW a2 (fun ad55 => ∃ v56 : Value, rd h51 (Addr.add ad55 1) = some v56 ∧ slAtW v56 x53 2 (fun ad57 => ∃ v58 : Value, rd h51 (Addr.add ad57 0) = some v58 ∧ ptrW a2 (fun ad59 => ∃ v60 : Value, rd h51 (Addr.add ad59 1) = some v60 ∧ slAtW v60 x53 2 (fun ad61 => ∃ v62 : Value, rd h51 (Addr.add ad61 1) = some v62 ∧ j5_7_14 D I K a0 (Value.int IntKind.i64 x52) a2 a3 (Value.int IntKind.i64 x53) v58 v62 h51))))) (
j5_7_14 D I K a0 (Value.int IntKind.i64 x52) a2 a3 (Value.int IntKind.i64 x53) a5 a6 h51))))
def round5_7 (D : Orc) (I : List Value → H → Prop) (K : Kl) (a0 a1 a2 a3 a4 : Value) (h29 : H) : Prop :=
intK IntKind.i64 a1 (fun x30 => intK IntKind.i64 a4 (fun x31 => ptrW a2 (fun ad32 => ∃ v33 : Value, rd h29 (Addr.add ad32 1) = some v33 ∧ lenW v33 (fun n34 => cond (decide (x31 < (n34 : Int))) (
ptrW a2 (fun ad35 => ∃ v36 : Value, rd h29 (Addr.add ad35 1) = some v36 ∧ slAtW v36 x31 2 (fun ad37 => ∃ v38 : Value, rd h29 (Addr.add ad37 0) = some v38 ∧ D 18 [v38, (Value.int IntKind.i64 x30)] h29 (fun v39 h40 => ∃ v41 : Value, ∃ x42 : Int, v39 = (Value.tuple #[v41, (Value.int IntKind.i64 x42)]) ∧ ptrW a2 (fun ad43 => ∃ v44 : Value, rd h40 (Addr.add ad43 1) = some v44 ∧ slAtW v44 x31 2 (fun ad45 => ∃ v46 : Value, rd h40 (Addr.add ad45 1) = some v46 ∧ D 18 [v46, (Value.int IntKind.i64 x30)] h40 (fun v47 h48 => ∃ v49 : Value, ∃ x50 : Int, v47 = (Value.tuple #[v49, (Value.int IntKind.i64 x50)]) ∧ cond (!(x42 != (0 : Int))) (
j5_7_12 D I K a0 (Value.int IntKind.i64 x30) a2 a3 (Value.int IntKind.i64 x31) v41 v49 (Value.bool (x50 != (0 : Int))) h48) (
j5_7_12 D I K a0 (Value.int IntKind.i64 x30) a2 a3 (Value.int IntKind.i64 x31) v41 v49 (Value.bool true) h48)) (fun c h => K (X.p c) [] h)))) (fun c h => K (X.p c) [] h)))) (
K (X.e 0) [a0, a2, a3] h29)))))
def loop5_7 (D : Orc) (vs : List Value) (h : H) (K : Kl) : Prop := ∀ I : List Value → H → Prop, (∀ a0 a1 a2 a3 a4 h, round5_7 D I K a0 a1 a2 a3 a4 h → I [a0, a1, a2, a3, a4] h) → I vs h
def j5_16_21 (D : Orc) (I : List Value → H → Prop) (K : Kl) (a0 a1 a2 a3 a4 : Value) (h89 : H) : Prop :=
intK IntKind.i64 a3 (fun x90 => intK IntKind.i64 a4 (fun x91 => ptrW a2 (fun ad92 => ∃ v93 : Value, rd h89 (Addr.add ad92 1) = some v93 ∧ lenW v93 (fun n94 => (n94 : Int) ≠ 0 ∧ ptrW a2 (fun ad95 => ∃ v96 : Value, rd h89 (Addr.add ad95 1) = some v96 ∧ lenW v96 (fun n97 => (n97 : Int) ≠ 0 ∧ ptrW a2 (fun ad98 => ∃ v99 : Value, rd h89 (Addr.add ad98 1) = some v99 ∧ ptrW a2 (fun ad100 => ∃ v101 : Value, rd h89 (Addr.add ad100 1) = some v101 ∧ ptrW a2 (fun ad102 => ∃ v103 : Value, rd h89 (Addr.add ad102 1) = some v103 ∧ slAtW v103 (Int.tmod x91 (n94 : Int)) 2 (fun ad104 => ∃ v105 : Value, ∃ v106 : Value, rdN h89 ad104 2 = some [v105, v106] ∧ ptrW a2 (fun ad107 => ∃ v108 : Value, rd h89 (Addr.add ad107 1) = some v108 ∧ slAtW v108 (Int.tmod x90 (n97 : Int)) 2 (fun ad109 => ∃ v110 : Value, ∃ v111 : Value, rdN h89 ad109 2 = some [v110, v111] ∧ slAtW v99 (Int.tmod x90 (n97 : Int)) 2 (fun ad112 => 2 = 2 ∧ List.all [v105, v106] one = true ∧ ∃ h113, wr h89 ad112 [v105, v106] = some h113 ∧ (rd h113 (Addr.add ad100 1) = some v101) ∧ slAtW v101 (Int.tmod x91 (n94 : Int)) 2 (fun ad114 => 2 = 2 ∧ List.all [v110, v111] one = true ∧ ∃ h115, wr h113 ad114 [v110, v111] = some h115 ∧ I [a0, a1, a2, (Value.int IntKind.i64 (IntKind.wrap IntKind.i64 (x90 + (1 : Int))))] h115))))))))))))))
def round5_16 (D : Orc) (I : List Value → H → Prop) (K : Kl) (a0 a1 a2 a3 : Value) (h81 : H) : Prop :=
intK IntKind.i64 a3 (fun x82 => lenW a0 (fun n83 => cond (decide (x82 < (n83 : Int))) (
ptrW a2 (fun ad84 => ∃ v85 : Value, rd h81 (Addr.add ad84 1) = some v85 ∧ lenW v85 (fun n86 => cond (decide ((n86 : Int) > (0 : Int))) (
slAtW a0 x82 1 (fun ad87 => ∃ x88 : Int, rd h81 ad87 = some (Value.int IntKind.i64 x88) ∧ cond (decide (x88 < (0 : Int))) (
j5_16_21 D I K a0 a1 a2 (Value.int IntKind.i64 x82) (Value.int IntKind.i64 (IntKind.wrap IntKind.i64 (0 - (IntKind.wrap IntKind.i64 (x88 + (1 : Int)))))) h81) (
j5_16_21 D I K a0 a1 a2 (Value.int IntKind.i64 x82) (Value.int IntKind.i64 x88) h81))) (
K (X.e 2) [a1, a2] h81)))) (
K (X.e 2) [a1, a2] h81)))
def loop5_16 (D : Orc) (vs : List Value) (h : H) (K : Kl) : Prop := ∀ I : List Value → H → Prop, (∀ a0 a1 a2 a3 h, round5_16 D I K a0 a1 a2 a3 h → I [a0, a1, a2, a3] h) → I vs h
def j5__28 (D : Orc) (k : Kv) (kp : Kp) (a0 a1 : Value) (h148 : H) : Prop :=
boolW a1 (fun t149 => cond t149 (
k (Value.bool false) h148) (
ptrW a0 (fun ad150 => ∃ v151 : Value, rd h148 (Addr.add ad150 1) = some v151 ∧ lenW v151 (fun n152 => cond ((n152 : Int) == (0 : Int)) (
k (Value.bool true) h148) (
ptrW a0 (fun ad153 => ∃ v154 : Value, rd h148 (Addr.add ad153 0) = some v154 ∧ ptrW a0 (fun ad155 => ∃ v156 : Value, rd h148 (Addr.add ad155 1) = some v156 ∧ slCutW v156 (some (1 : Int)) none none 2 (fun s157 => one v154 = true ∧ 0 < 2 ∧ one s157 = true ∧ 1 < 2 ∧ newW h148 [(Value.slice none 0 0), (Value.slice none 0 0)] (fun p158 h159 => ptrW p158 (fun ad160 => 2 = 2 ∧ List.all [v154, s157] one = true ∧ ∃ h161, wr h159 ad160 [v154, s157] = some h161 ∧ ptrW a0 (fun ad162 => ∃ v163 : Value, ∃ v164 : Value, rdN h161 ad162 2 = some [v163, v164] ∧ ptrW p158 (fun ad165 => ∃ v166 : Value, ∃ v167 : Value, rdN h161 ad165 2 = some [v166, v167] ∧ D 15 [(Value.agg #[v163, v164]), (Value.agg #[v166, v167])] h161 (fun v168 h169 => ∃ t170 : Bool, v168 = (Value.bool t170) ∧ ptrW p158 (fun ad171 => ∃ v172 : Value, ∃ v173 : Value, rdN h169 ad171 2 = some [v172, v173] ∧ ptrW a0 (fun ad174 => ∃ v175 : Value, ∃ v176 : Value, rdN h169 ad174 2 = some [v175, v176] ∧ D 15 [(Value.agg #[v172, v173]), (Value.agg #[v175, v176])] h169 (fun v177 h178 => ∃ t179 : Bool, v177 = (Value.bool t179) ∧ cond (!t170) (
k (Value.bool (!t179)) h178) (
k (Value.bool false) h178)) kp))) kp))))))))))))
def j5__4 (D : Orc) (k : Kv) (kp : Kp) (a0 a1 a2 a3 a4 : Value) (h13 : H) : Prop :=
intK IntKind.i64 a1 (fun x14 => boolW a3 (fun t15 => boolW a4 (fun t16 => cond t16 (
k (Value.bool t15) h13) (
newSl h13 0 [] (fun s17 h18 => ptrW a2 (fun ad19 => ∃ v20 : Value, rd h18 (Addr.add ad19 0) = some v20 ∧ slenW v20 (fun n21 => srcW h18 2 v20 (n21) (fun w22 => apW h18 2 24 [(Value.string (ByteArray.mk #[])), (Value.int IntKind.i64 (0 : Int))] s17 (n21) w22 (fun s23 h24 => one s23 = true ∧ 0 < 2 ∧ newW h24 [(Value.slice none 0 0), (Value.slice none 0 0)] (fun p25 h26 => ptrW p25 (fun ad27 => 2 = 2 ∧ List.all [s23, (Value.slice none 0 0)] one = true ∧ ∃ h28, wr h26 ad27 [s23, (Value.slice none 0 0)] = some h28 ∧ loop5_7 D [a0, (Value.int IntKind.i64 x14), a2, p25, (Value.int IntKind.i64 (0 : Int))] h28 (fun x77 vs78 h76 => xs x77 (boolW (nth vs78 0) (fun t80 => k (Value.bool t80) h76)) (fun i79 => cond (Nat.beq i79 0) (
loop5_16 D [(nth vs78 0), (nth vs78 1), (nth vs78 2), (Value.int IntKind.i64 (0 : Int))] h76 (fun x117 vs118 h116 => xs x117 (boolW (nth vs118 0) (fun t120 => k (Value.bool t120) h116)) (fun i119 => cond (Nat.beq i119 2) (
ptrW (nth vs118 0) (fun ad121 => ∃ v122 : Value, ∃ v123 : Value, rdN h116 ad121 2 = some [v122, v123] ∧ ptrW (nth vs118 0) (fun ad124 => ∃ v125 : Value, ∃ v126 : Value, rdN h116 ad124 2 = some [v125, v126] ∧ D 15 [(Value.agg #[v122, v123]), (Value.agg #[v125, v126])] h116 (fun v127 h128 => ∃ t129 : Bool, v127 = (Value.bool t129) ∧ ptrW (nth vs118 0) (fun ad130 => ∃ v131 : Value, ∃ v132 : Value, rdN h128 ad130 2 = some [v131, v132] ∧ ptrW (nth vs118 1) (fun ad133 => ∃ v134 : Value, ∃ v135 : Value, rdN h128 ad133 2 = some [v134, v135] ∧ D 15 [(Value.agg #[v131, v132]), (Value.agg #[v134, v135])] h128 (fun v136 h137 => ∃ t138 : Bool, v136 = (Value.bool t138) ∧ ptrW (nth vs118 1) (fun ad139 => ∃ v140 : Value, ∃ v141 : Value, rdN h137 ad139 2 = some [v140, v141] ∧ ptrW (nth vs118 0) (fun ad142 => ∃ v143 : Value, ∃ v144 : Value, rdN h137 ad142 2 = some [v143, v144] ∧ D 15 [(Value.agg #[v140, v141]), (Value.agg #[v143, v144])] h137 (fun v145 h146 => ∃ t147 : Bool, v145 = (Value.bool t147) ∧ cond (!(!t129)) (
cond (!(!t138)) (
j5__28 D k kp (nth vs118 0) (Value.bool (!t147)) h146) (
j5__28 D k kp (nth vs118 0) (Value.bool true) h146)) (
j5__28 D k kp (nth vs118 0) (Value.bool true) h146)) kp))) kp))) kp))) (False)) (fun c => kp c h116))) (False)) (fun c => kp c h76)))))))))))))
def L5 (D : Orc) : Lor := fun b vs h K => match firstId b with | some i => cond (Nat.beq i 7) (loop5_7 D vs h K) (cond (Nat.beq i 16) (loop5_16 D vs h K) (False)) | none => False
/-- lodestone/lodestonelaw07.SystemKinds -/
def F5 (D : Orc) (a0 a1 a2 : Value) (h : H) (k : Kv) (kp : Kp) : Prop :=
intK IntKind.i64 a2 (fun x0 => aggW a0 (fun l1 => newW h l1 (fun p2 h3 => D 9 [] h3 (fun v4 h5 => ∃ t6 : Bool, v4 = (Value.bool t6) ∧ ptrW p2 (fun ad7 => ∃ v8 : Value, ∃ v9 : Value, rdN h5 ad7 2 = some [v8, v9] ∧ D 17 [(Value.agg #[v8, v9])] h5 (fun v10 h11 => ∃ t12 : Bool, v10 = (Value.bool t12) ∧ cond (!(!t6)) (
j5__4 D k kp a1 (Value.int IntKind.i64 x0) p2 (Value.bool t6) (Value.bool (!t12)) h11) (
j5__4 D k kp a1 (Value.int IntKind.i64 x0) p2 (Value.bool t6) (Value.bool true) h11)) kp)) kp)))
def Cl5 (D : Orc) : Prop := ∀ a0 a1 a2 h k kp, F5 D a0 a1 a2 h k kp → D 5 [a0, a1, a2] h k kp
theorem tieR5_7 (D : Orc) (I : List Value → H → Prop) (K : Kl) (a0 a1 a2 a3 a4 : Value) (h : H) : round5_7 D I K a0 a1 a2 a3 a4 h = round Tryd.prog D (L5 D) lv5 (nthC (allLoops (bodyOf Tryd.f5)) 0) I K [a0, a1, a2, a3, a4] h := by kernel_rfl
theorem tieR5_16 (D : Orc) (I : List Value → H → Prop) (K : Kl) (a0 a1 a2 a3 : Value) (h : H) : round5_16 D I K a0 a1 a2 a3 h = round Tryd.prog D (L5 D) lv5 (nthC (allLoops (bodyOf Tryd.f5)) 1) I K [a0, a1, a2, a3] h := by kernel_rfl
theorem tieF5 (D : Orc) (a0 a1 a2 : Value) (h : H) (k : Kv) (kp : Kp) : F5 D a0 a1 a2 h k kp = bodyW Tryd.prog D (L5 D) lv5 Tryd.f5 [a0, a1, a2] h k kp := by kernel_rfl
theorem lfp5 : Lfps Tryd.prog (CS Tryd.prog) (L5 (CS Tryd.prog)) lv5 (allLoops (bodyOf Tryd.f5)) := by
  have e : (allLoops (bodyOf Tryd.f5)) = [nthC (allLoops (bodyOf Tryd.f5)) 0, nthC (allLoops (bodyOf Tryd.f5)) 1] := by kernel_rfl
  rw [e]
  exact ⟨(fun vs h K hk I H => hk I (fun a0 a1 a2 a3 a4 h hr => H _ _ ((tieR5_7 (CS Tryd.prog) I K a0 a1 a2 a3 a4 h) ▸ hr))), (fun vs h K hk I H => hk I (fun a0 a1 a2 a3 h hr => H _ _ ((tieR5_16 (CS Tryd.prog) I K a0 a1 a2 a3 h) ▸ hr))), trivial⟩
theorem cl5 : Cl5 (CS Tryd.prog) := fun a0 a1 a2 h k kp hk =>
  fn_sound wide (fn := Tryd.f5) (by kernel_rfl) (by kernel_rfl) (by kernel_rfl) lfp5 (by rw [tieF5] at hk; exact hk)
def lv9 : Lv := Lv.mk 81 [] (fun i => []) (fun i => []) [(0, .bool)] (fun i => none)
def L9 (D : Orc) : Lor := fun b vs h K => match firstId b with | some i => False | none => False
/-- lodestone/lodestonelaw07.shown -/
def F9 (D : Orc) (h : H) (k : Kv) (kp : Kp) : Prop :=
D 26 [] h (fun v0 h1 => ∃ v2 : Value, ∃ v3 : Value, v0 = (Value.agg #[v2, v3]) ∧ newW h1 [(Value.slice none 0 0), (Value.slice none 0 0)] (fun p4 h5 => ptrW p4 (fun ad6 => 2 = 2 ∧ List.all [v2, v3] one = true ∧ ∃ h7, wr h5 ad6 [v2, v3] = some h7 ∧ ptrW p4 (fun ad8 => ∃ v9 : Value, ∃ v10 : Value, rdN h7 ad8 2 = some [v9, v10] ∧ D 10 [(Value.agg #[v9, v10])] h7 (fun v11 h12 => ∃ x13 : Int, ∃ x14 : Int, v11 = (Value.tuple #[(Value.int IntKind.i64 x13), (Value.int IntKind.i64 x14)]) ∧ ptrW p4 (fun ad15 => ∃ v16 : Value, ∃ v17 : Value, rdN h12 ad15 2 = some [v16, v17] ∧ D 12 [(Value.agg #[v16, v17])] h12 (fun v18 h19 => ∃ v20 : Value, v18 = v20 ∧ D 26 [] h19 (fun v21 h22 => ∃ v23 : Value, ∃ v24 : Value, v21 = (Value.agg #[v23, v24]) ∧ newW h22 [(Value.slice none 0 0), (Value.slice none 0 0)] (fun p25 h26 => ptrW p25 (fun ad27 => 2 = 2 ∧ List.all [v23, v24] one = true ∧ ∃ h28, wr h26 ad27 [v23, v24] = some h28 ∧ ptrW p25 (fun ad29 => ∃ v30 : Value, rd h28 (Addr.add ad29 1) = some v30 ∧ ptrW p25 (fun ad31 => ∃ v32 : Value, rd h28 (Addr.add ad31 1) = some v32 ∧ ptrW p25 (fun ad33 => ∃ v34 : Value, rd h28 (Addr.add ad33 1) = some v34 ∧ slAtW v34 (1 : Int) 2 (fun ad35 => ∃ v36 : Value, ∃ v37 : Value, rdN h28 ad35 2 = some [v36, v37] ∧ ptrW p25 (fun ad38 => ∃ v39 : Value, rd h28 (Addr.add ad38 1) = some v39 ∧ slAtW v39 (0 : Int) 2 (fun ad40 => ∃ v41 : Value, ∃ v42 : Value, rdN h28 ad40 2 = some [v41, v42] ∧ slAtW v30 (0 : Int) 2 (fun ad43 => 2 = 2 ∧ List.all [v36, v37] one = true ∧ ∃ h44, wr h28 ad43 [v36, v37] = some h44 ∧ (rd h44 (Addr.add ad31 1) = some v32) ∧ slAtW v32 (1 : Int) 2 (fun ad45 => 2 = 2 ∧ List.all [v41, v42] one = true ∧ ∃ h46, wr h44 ad45 [v41, v42] = some h46 ∧ ptrW p4 (fun ad47 => ∃ v48 : Value, ∃ v49 : Value, rdN h46 ad47 2 = some [v48, v49] ∧ ptrW p25 (fun ad50 => ∃ v51 : Value, ∃ v52 : Value, rdN h46 ad50 2 = some [v51, v52] ∧ D 15 [(Value.agg #[v48, v49]), (Value.agg #[v51, v52])] h46 (fun v53 h54 => ∃ t55 : Bool, v53 = (Value.bool t55) ∧ ptrW p25 (fun ad56 => ∃ v57 : Value, rd h54 (Addr.add ad56 1) = some v57 ∧ one (Value.int IntKind.i64 (-3 : Int)) = true ∧ 0 < 1 ∧ newSl h54 1 [(Value.int IntKind.i64 (-3 : Int))] (fun s58 h59 => slAtW v57 (0 : Int) 2 (fun ad60 => one s58 = true ∧ 1 = 1 ∧ ∃ h61, wr1 h59 (Addr.add ad60 1) s58 = some h61 ∧ ptrW p25 (fun ad62 => ∃ v63 : Value, ∃ v64 : Value, rdN h61 ad62 2 = some [v63, v64] ∧ D 10 [(Value.agg #[v63, v64])] h61 (fun v65 h66 => ∃ x67 : Int, ∃ x68 : Int, v65 = (Value.tuple #[(Value.int IntKind.i64 x67), (Value.int IntKind.i64 x68)]) ∧ ptrW p4 (fun ad69 => ∃ v70 : Value, ∃ v71 : Value, rdN h66 ad69 2 = some [v70, v71] ∧ ptrW p25 (fun ad72 => ∃ v73 : Value, ∃ v74 : Value, rdN h66 ad72 2 = some [v73, v74] ∧ D 15 [(Value.agg #[v70, v71]), (Value.agg #[v73, v74])] h66 (fun v75 h76 => ∃ t77 : Bool, v75 = (Value.bool t77) ∧ cond (x13 == (0 : Int)) (
cond (x14 == (0 : Int)) (
lenW v20 (fun n78 => cond ((n78 : Int) == (1 : Int)) (
slAtW v20 (0 : Int) 1 (fun ad79 => ∃ x80 : Int, rd h76 ad79 = some (Value.int IntKind.i64 x80) ∧ cond (x80 == (2 : Int)) (
cond t55 (
cond (x67 == (72 : Int)) (
cond (x68 == (0 : Int)) (
k (Value.bool (!t77)) h76) (
k (Value.bool false) h76)) (
k (Value.bool false) h76)) (
k (Value.bool false) h76)) (
k (Value.bool false) h76))) (
k (Value.bool false) h76))) (
k (Value.bool false) h76)) (
k (Value.bool false) h76)) kp))) kp))))) kp))))))))))))) kp) kp)) kp)))) kp
def Cl9 (D : Orc) : Prop := ∀  h k kp, F9 D  h k kp → D 9 [] h k kp
theorem tieF9 (D : Orc) (h : H) (k : Kv) (kp : Kp) : F9 D  h k kp = bodyW Tryd.prog D (L9 D) lv9 Tryd.f9 [] h k kp := by kernel_rfl
theorem lfp9 : Lfps Tryd.prog (CS Tryd.prog) (L9 (CS Tryd.prog)) lv9 (allLoops (bodyOf Tryd.f9)) := by
  have e : (allLoops (bodyOf Tryd.f9)) = [] := by kernel_rfl
  rw [e]
  exact trivial
theorem cl9 : Cl9 (CS Tryd.prog) := fun  h k kp hk =>
  fn_sound wide (fn := Tryd.f9) (by kernel_rfl) (by kernel_rfl) (by kernel_rfl) lfp9 (by rw [tieF9] at hk; exact hk)
def lv10 : Lv := Lv.mk 35 [.raw] (fun i => cond (Nat.beq i 7) ([(1, .raw), (19, .raw), (20, .int IntKind.i64), (21, .int IntKind.i64)]) ([])) (fun i => cond (Nat.beq i 7) ([(0, [])]) ([])) [(2, .int IntKind.i64), (3, .int IntKind.i64)] (fun i => none)
def round10_7 (D : Orc) (I : List Value → H → Prop) (K : Kl) (a0 a1 a2 a3 : Value) (h14 : H) : Prop :=
intK IntKind.i64 a2 (fun x15 => intK IntKind.i64 a3 (fun x16 => cond (decide (x16 < x15)) (
slAtW a1 x16 2 (fun ad17 => ∃ v18 : Value, ∃ v19 : Value, rdN h14 ad17 2 = some [v18, v19] ∧ newW h14 [(Value.slice none 0 0), (Value.slice none 0 0)] (fun p20 h21 => ptrW p20 (fun ad22 => 2 = 2 ∧ List.all [v18, v19] one = true ∧ ∃ h23, wr h21 ad22 [v18, v19] = some h23 ∧ ptrW a0 (fun ad24 => ∃ v25 : Value, rd h23 (Addr.add ad24 0) = some v25 ∧ ptrW p20 (fun ad26 => ∃ v27 : Value, ∃ v28 : Value, rdN h23 ad26 2 = some [v27, v28] ∧ D 28 [v25, (Value.agg #[v27, v28])] h23 (fun v29 h30 => ∃ x31 : Int, v29 = (Value.int IntKind.i64 x31) ∧ cond (x31 != (0 : Int)) (
K X.r [(Value.int IntKind.i64 x31), (Value.int IntKind.i64 x16)] h30) (
I [a0, a1, (Value.int IntKind.i64 x15), (Value.int IntKind.i64 (IntKind.wrap IntKind.i64 (x16 + (1 : Int))))] h30)) (fun c h => K (X.p c) [] h))))))) (
K (X.e 0) [] h14)))
def loop10_7 (D : Orc) (vs : List Value) (h : H) (K : Kl) : Prop := ∀ I : List Value → H → Prop, (∀ a0 a1 a2 a3 h, round10_7 D I K a0 a1 a2 a3 h → I [a0, a1, a2, a3] h) → I vs h
def L10 (D : Orc) : Lor := fun b vs h K => match firstId b with | some i => cond (Nat.beq i 7) (loop10_7 D vs h K) (False) | none => False
/-- lodestone/system.Check -/
def F10 (D : Orc) (a0 : Value) (h : H) (k : Kv) (kp : Kp) : Prop :=
aggW a0 (fun l0 => newW h l0 (fun p1 h2 => ptrW p1 (fun ad3 => ∃ v4 : Value, rd h2 (Addr.add ad3 0) = some v4 ∧ D 27 [v4] h2 (fun v5 h6 => ∃ x7 : Int, v5 = (Value.int IntKind.i64 x7) ∧ cond (x7 != (0 : Int)) (
k (Value.tuple #[(Value.int IntKind.i64 x7), (Value.int IntKind.i64 (-1 : Int))]) h6) (
ptrW p1 (fun ad8 => ∃ v9 : Value, rd h6 (Addr.add ad8 1) = some v9 ∧ lenW v9 (fun n10 => cond (decide ((n10 : Int) > (64 : Int))) (
k (Value.tuple #[(Value.int IntKind.i64 (70 : Int)), (Value.int IntKind.i64 (-1 : Int))]) h6) (
ptrW p1 (fun ad11 => ∃ v12 : Value, rd h6 (Addr.add ad11 1) = some v12 ∧ lenW v12 (fun n13 => loop10_7 D [p1, v12, (Value.int IntKind.i64 (n13 : Int)), (Value.int IntKind.i64 (0 : Int))] h6 (fun x33 vs34 h32 => xs x33 (intK IntKind.i64 (nth vs34 0) (fun x36 => intK IntKind.i64 (nth vs34 1) (fun x37 => k (Value.tuple #[(Value.int IntKind.i64 x36), (Value.int IntKind.i64 x37)]) h32))) (fun i35 => cond (Nat.beq i35 0) (
k (Value.tuple #[(Value.int IntKind.i64 (0 : Int)), (Value.int IntKind.i64 (0 : Int))]) h32) (False)) (fun c => kp c h32))))))))) kp)))
def Cl10 (D : Orc) : Prop := ∀ a0 h k kp, F10 D a0 h k kp → D 10 [a0] h k kp
theorem tieR10_7 (D : Orc) (I : List Value → H → Prop) (K : Kl) (a0 a1 a2 a3 : Value) (h : H) : round10_7 D I K a0 a1 a2 a3 h = round Tryd.prog D (L10 D) lv10 (nthC (allLoops (bodyOf Tryd.f10)) 0) I K [a0, a1, a2, a3] h := by kernel_rfl
theorem tieF10 (D : Orc) (a0 : Value) (h : H) (k : Kv) (kp : Kp) : F10 D a0 h k kp = bodyW Tryd.prog D (L10 D) lv10 Tryd.f10 [a0] h k kp := by kernel_rfl
theorem lfp10 : Lfps Tryd.prog (CS Tryd.prog) (L10 (CS Tryd.prog)) lv10 (allLoops (bodyOf Tryd.f10)) := by
  have e : (allLoops (bodyOf Tryd.f10)) = [nthC (allLoops (bodyOf Tryd.f10)) 0] := by kernel_rfl
  rw [e]
  exact ⟨(fun vs h K hk I H => hk I (fun a0 a1 a2 a3 h hr => H _ _ ((tieR10_7 (CS Tryd.prog) I K a0 a1 a2 a3 h) ▸ hr))), trivial⟩
theorem cl10 : Cl10 (CS Tryd.prog) := fun a0 h k kp hk =>
  fn_sound wide (fn := Tryd.f10) (by kernel_rfl) (by kernel_rfl) (by kernel_rfl) lfp10 (by rw [tieF10] at hk; exact hk)
def lv11 : Lv := Lv.mk 36 [.raw] (fun i => cond (Nat.beq i 7) ([(1, .raw), (5, .int IntKind.i64)]) ([])) (fun i => cond (Nat.beq i 7) ([(0, [])]) ([])) [(2, .int IntKind.i64), (3, .int IntKind.i64)] (fun i => none)
def round11_7 (D : Orc) (I : List Value → H → Prop) (K : Kl) (a0 a1 : Value) (h11 : H) : Prop :=
intK IntKind.i64 a1 (fun x12 => ptrW a0 (fun ad13 => ∃ v14 : Value, rd h11 (Addr.add ad13 1) = some v14 ∧ lenW v14 (fun n15 => cond (decide (x12 < (n15 : Int))) (
ptrW a0 (fun ad16 => ∃ v17 : Value, rd h11 (Addr.add ad16 0) = some v17 ∧ ptrW a0 (fun ad18 => ∃ v19 : Value, rd h11 (Addr.add ad18 1) = some v19 ∧ slAtW v19 x12 2 (fun ad20 => ∃ v21 : Value, ∃ v22 : Value, rdN h11 ad20 2 = some [v21, v22] ∧ D 30 [v17, (Value.agg #[v21, v22])] h11 (fun v23 h24 => ∃ x25 : Int, v23 = (Value.int IntKind.i64 x25) ∧ cond (x25 != (0 : Int)) (
K X.r [(Value.int IntKind.i64 x25), (Value.int IntKind.i64 x12)] h24) (
I [a0, (Value.int IntKind.i64 (IntKind.wrap IntKind.i64 (x12 + (1 : Int))))] h24)) (fun c h => K (X.p c) [] h))))) (
K (X.e 0) [] h11))))
def loop11_7 (D : Orc) (vs : List Value) (h : H) (K : Kl) : Prop := ∀ I : List Value → H → Prop, (∀ a0 a1 h, round11_7 D I K a0 a1 h → I [a0, a1] h) → I vs h
def L11 (D : Orc) : Lor := fun b vs h K => match firstId b with | some i => cond (Nat.beq i 7) (loop11_7 D vs h K) (False) | none => False
/-- lodestone/lodestoneref07.Check -/
def F11 (D : Orc) (a0 : Value) (h : H) (k : Kv) (kp : Kp) : Prop :=
aggW a0 (fun l0 => newW h l0 (fun p1 h2 => ptrW p1 (fun ad3 => ∃ v4 : Value, rd h2 (Addr.add ad3 0) = some v4 ∧ D 29 [v4] h2 (fun v5 h6 => ∃ x7 : Int, v5 = (Value.int IntKind.i64 x7) ∧ cond (x7 != (0 : Int)) (
k (Value.tuple #[(Value.int IntKind.i64 x7), (Value.int IntKind.i64 (-1 : Int))]) h6) (
ptrW p1 (fun ad8 => ∃ v9 : Value, rd h6 (Addr.add ad8 1) = some v9 ∧ lenW v9 (fun n10 => cond (decide ((n10 : Int) > (64 : Int))) (
k (Value.tuple #[(Value.int IntKind.i64 (70 : Int)), (Value.int IntKind.i64 (-1 : Int))]) h6) (
loop11_7 D [p1, (Value.int IntKind.i64 (0 : Int))] h6 (fun x27 vs28 h26 => xs x27 (intK IntKind.i64 (nth vs28 0) (fun x30 => intK IntKind.i64 (nth vs28 1) (fun x31 => k (Value.tuple #[(Value.int IntKind.i64 x30), (Value.int IntKind.i64 x31)]) h26))) (fun i29 => cond (Nat.beq i29 0) (
k (Value.tuple #[(Value.int IntKind.i64 (0 : Int)), (Value.int IntKind.i64 (0 : Int))]) h26) (False)) (fun c => kp c h26))))))) kp)))
def Cl11 (D : Orc) : Prop := ∀ a0 h k kp, F11 D a0 h k kp → D 11 [a0] h k kp
theorem tieR11_7 (D : Orc) (I : List Value → H → Prop) (K : Kl) (a0 a1 : Value) (h : H) : round11_7 D I K a0 a1 h = round Tryd.prog D (L11 D) lv11 (nthC (allLoops (bodyOf Tryd.f11)) 0) I K [a0, a1] h := by kernel_rfl
theorem tieF11 (D : Orc) (a0 : Value) (h : H) (k : Kv) (kp : Kp) : F11 D a0 h k kp = bodyW Tryd.prog D (L11 D) lv11 Tryd.f11 [a0] h k kp := by kernel_rfl
theorem lfp11 : Lfps Tryd.prog (CS Tryd.prog) (L11 (CS Tryd.prog)) lv11 (allLoops (bodyOf Tryd.f11)) := by
  have e : (allLoops (bodyOf Tryd.f11)) = [nthC (allLoops (bodyOf Tryd.f11)) 0] := by kernel_rfl
  rw [e]
  exact ⟨(fun vs h K hk I H => hk I (fun a0 a1 h hr => H _ _ ((tieR11_7 (CS Tryd.prog) I K a0 a1 h) ▸ hr))), trivial⟩
theorem cl11 : Cl11 (CS Tryd.prog) := fun a0 h k kp hk =>
  fn_sound wide (fn := Tryd.f11) (by kernel_rfl) (by kernel_rfl) (by kernel_rfl) lfp11 (by rw [tieF11] at hk; exact hk)
def lv12 : Lv := Lv.mk 28 [.raw] (fun i => cond (Nat.beq i 5) ([(3, .raw), (11, .raw), (12, .int IntKind.i64), (13, .int IntKind.i64)]) ([])) (fun i => cond (Nat.beq i 5) ([(0, [(3, .raw)])]) ([])) [(2, .raw)] (fun i => none)
def round12_5 (D : Orc) (I : List Value → H → Prop) (K : Kl) (a0 a1 a2 a3 : Value) (h14 : H) : Prop :=
intK IntKind.i64 a2 (fun x15 => intK IntKind.i64 a3 (fun x16 => cond (decide (x16 < x15)) (
slAtW a1 x16 2 (fun ad17 => ∃ v18 : Value, ∃ v19 : Value, rdN h14 ad17 2 = some [v18, v19] ∧ newW h14 [(Value.slice none 0 0), (Value.slice none 0 0)] (fun p20 h21 => ptrW p20 (fun ad22 => 2 = 2 ∧ List.all [v18, v19] one = true ∧ ∃ h23, wr h21 ad22 [v18, v19] = some h23 ∧ ptrW p20 (fun ad24 => ∃ v25 : Value, rd h23 (Addr.add ad24 0) = some v25 ∧ slAtW v25 (0 : Int) 1 (fun ad26 => ∃ x27 : Int, rd h23 ad26 = some (Value.int IntKind.i64 x27) ∧ mapU h23 a0 (TypeDesc.int IntKind.i64) (Value.int IntKind.i64 x27) (Value.int IntKind.i64 x16) (fun h28 => I [a0, a1, (Value.int IntKind.i64 x15), (Value.int IntKind.i64 (IntKind.wrap IntKind.i64 (x16 + (1 : Int))))] h28))))))) (
K (X.e 0) [a0] h14)))
def loop12_5 (D : Orc) (vs : List Value) (h : H) (K : Kl) : Prop := ∀ I : List Value → H → Prop, (∀ a0 a1 a2 a3 h, round12_5 D I K a0 a1 a2 a3 h → I [a0, a1, a2, a3] h) → I vs h
def L12 (D : Orc) : Lor := fun b vs h K => match firstId b with | some i => cond (Nat.beq i 5) (loop12_5 D vs h K) (False) | none => False
/-- lodestone/system.Defined -/
def F12 (D : Orc) (a0 : Value) (h : H) (k : Kv) (kp : Kp) : Prop :=
aggW a0 (fun l0 => newW h l0 (fun p1 h2 => ptrW p1 (fun ad3 => ∃ v4 : Value, ∃ v5 : Value, rdN h2 ad3 2 = some [v4, v5] ∧ D 31 [(Value.agg #[v4, v5])] h2 (fun v6 h7 => ∃ t8 : Bool, v6 = (Value.bool t8) ∧ cond (!t8) (
k (Value.slice none 0 0) h7) (
newMap h7 (fun m9 h10 => ptrW p1 (fun ad11 => ∃ v12 : Value, rd h10 (Addr.add ad11 1) = some v12 ∧ lenW v12 (fun n13 => loop12_5 D [m9, v12, (Value.int IntKind.i64 (n13 : Int)), (Value.int IntKind.i64 (0 : Int))] h10 (fun x30 vs31 h29 => xs x30 (k (nth vs31 0) h29) (fun i32 => cond (Nat.beq i32 0) (
D 33 [(nth vs31 0)] h29 (fun v33 h34 => ∃ v35 : Value, v33 = v35 ∧ D 32 [v35] h34 (fun v36 h37 => ∃ v38 : Value, v36 = v38 ∧ k v38 h37) kp) kp) (False)) (fun c => kp c h29))))))) kp)))
def Cl12 (D : Orc) : Prop := ∀ a0 h k kp, F12 D a0 h k kp → D 12 [a0] h k kp
theorem tieR12_5 (D : Orc) (I : List Value → H → Prop) (K : Kl) (a0 a1 a2 a3 : Value) (h : H) : round12_5 D I K a0 a1 a2 a3 h = round Tryd.prog D (L12 D) lv12 (nthC (allLoops (bodyOf Tryd.f12)) 0) I K [a0, a1, a2, a3] h := by kernel_rfl
theorem tieF12 (D : Orc) (a0 : Value) (h : H) (k : Kv) (kp : Kp) : F12 D a0 h k kp = bodyW Tryd.prog D (L12 D) lv12 Tryd.f12 [a0] h k kp := by kernel_rfl
theorem lfp12 : Lfps Tryd.prog (CS Tryd.prog) (L12 (CS Tryd.prog)) lv12 (allLoops (bodyOf Tryd.f12)) := by
  have e : (allLoops (bodyOf Tryd.f12)) = [nthC (allLoops (bodyOf Tryd.f12)) 0] := by kernel_rfl
  rw [e]
  exact ⟨(fun vs h K hk I H => hk I (fun a0 a1 a2 a3 h hr => H _ _ ((tieR12_5 (CS Tryd.prog) I K a0 a1 a2 a3 h) ▸ hr))), trivial⟩
theorem cl12 : Cl12 (CS Tryd.prog) := fun a0 h k kp hk =>
  fn_sound wide (fn := Tryd.f12) (by kernel_rfl) (by kernel_rfl) (by kernel_rfl) lfp12 (by rw [tieF12] at hk; exact hk)
def lv13 : Lv := Lv.mk 43 [.raw] (fun i => cond (Nat.beq i 5) ([(1, .raw), (3, .raw), (4, .int IntKind.i64)]) (cond (Nat.beq i 9) ([(1, .raw), (3, .raw), (4, .int IntKind.i64), (5, .bool), (6, .int IntKind.i64)]) ([]))) (fun i => cond (Nat.beq i 5) ([(0, [(3, .raw)])]) (cond (Nat.beq i 9) ([(2, [(1, .raw), (3, .raw), (4, .int IntKind.i64), (5, .bool)])]) ([]))) [(2, .raw)] (fun i => cond (Nat.beq i 6) (some [(1, .raw), (3, .raw), (4, .int IntKind.i64)]) (cond (Nat.beq i 10) (some [(1, .raw), (3, .raw), (4, .int IntKind.i64), (5, .bool), (6, .int IntKind.i64)]) (none)))
def j13_9_10 (D : Orc) (I : List Value → H → Prop) (K : Kl) (a0 a1 a2 a3 a4 : Value) (h27 : H) : Prop :=
intK IntKind.i64 a2 (fun x28 => boolW a3 (fun t29 => intK IntKind.i64 a4 (fun x30 => I [a0, a1, (Value.int IntKind.i64 x28), (Value.bool t29), (Value.int IntKind.i64 (IntKind.wrap IntKind.i64 (x30 + (1 : Int))))] h27)))
def round13_9 (D : Orc) (I : List Value → H → Prop) (K : Kl) (a0 a1 a2 a3 a4 : Value) (h14 : H) : Prop :=
intK IntKind.i64 a2 (fun x15 => boolW a3 (fun t16 => intK IntKind.i64 a4 (fun x17 => ptrW a0 (fun ad18 => ∃ v19 : Value, rd h14 (Addr.add ad18 1) = some v19 ∧ lenW v19 (fun n20 => cond (decide (x17 < (n20 : Int))) (
cond (!t16) (
ptrW a0 (fun ad21 => ∃ v22 : Value, rd h14 (Addr.add ad21 1) = some v22 ∧ slAtW v22 x17 2 (fun ad23 => ∃ v24 : Value, rd h14 (Addr.add ad23 0) = some v24 ∧ slAtW v24 (0 : Int) 1 (fun ad25 => ∃ x26 : Int, rd h14 ad25 = some (Value.int IntKind.i64 x26) ∧ j13_9_10 D I K a0 a1 (Value.int IntKind.i64 x15) (Value.bool (x26 == x15)) (Value.int IntKind.i64 x17) h14)))) (
j13_9_10 D I K a0 a1 (Value.int IntKind.i64 x15) (Value.bool true) (Value.int IntKind.i64 x17) h14)) (
K (X.e 2) [a0, a1, (Value.int IntKind.i64 x15), (Value.bool t16)] h14))))))
def loop13_9 (D : Orc) (vs : List Value) (h : H) (K : Kl) : Prop := ∀ I : List Value → H → Prop, (∀ a0 a1 a2 a3 a4 h, round13_9 D I K a0 a1 a2 a3 a4 h → I [a0, a1, a2, a3, a4] h) → I vs h
def j13_5_6 (D : Orc) (I : List Value → H → Prop) (K : Kl) (a0 a1 a2 : Value) (h43 : H) : Prop :=
intK IntKind.i64 a2 (fun x44 => I [a0, a1, (Value.int IntKind.i64 (IntKind.wrap IntKind.i64 (x44 + (1 : Int))))] h43)
def round13_5 (D : Orc) (I : List Value → H → Prop) (K : Kl) (a0 a1 a2 : Value) (h9 : H) : Prop :=
intK IntKind.i64 a2 (fun x10 => ptrW a0 (fun ad11 => ∃ v12 : Value, rd h9 (Addr.add ad11 0) = some v12 ∧ lenW v12 (fun n13 => cond (decide (x10 < (n13 : Int))) (
loop13_9 D [a0, a1, (Value.int IntKind.i64 x10), (Value.bool false), (Value.int IntKind.i64 (0 : Int))] h9 (fun x32 vs33 h31 => xs x32 (K X.r [(nth vs33 0)] h31) (fun i34 => cond (Nat.beq i34 2) (
intK IntKind.i64 (nth vs33 2) (fun x35 => boolW (nth vs33 3) (fun t36 => cond t36 (
one (Value.int IntKind.i64 x35) = true ∧ 0 < 1 ∧ newSl h31 1 [(Value.int IntKind.i64 x35)] (fun s37 h38 => slenW s37 (fun n39 => srcW h38 1 s37 (n39) (fun w40 => apW h38 1 8 [(Value.int IntKind.i64 (0 : Int))] (nth vs33 1) (n39) w40 (fun s41 h42 => j13_5_6 D I K (nth vs33 0) s41 (Value.int IntKind.i64 x35) h42))))) (
j13_5_6 D I K (nth vs33 0) (nth vs33 1) (Value.int IntKind.i64 x35) h31)))) (False)) (fun c => (fun c h => K (X.p c) [] h) c h31))) (
K (X.e 0) [a1] h9))))
def loop13_5 (D : Orc) (vs : List Value) (h : H) (K : Kl) : Prop := ∀ I : List Value → H → Prop, (∀ a0 a1 a2 h, round13_5 D I K a0 a1 a2 h → I [a0, a1, a2] h) → I vs h
def L13 (D : Orc) : Lor := fun b vs h K => match firstId b with | some i => cond (Nat.beq i 5) (loop13_5 D vs h K) (cond (Nat.beq i 9) (loop13_9 D vs h K) (False)) | none => False
/-- lodestone/lodestoneref07.Defined -/
def F13 (D : Orc) (a0 : Value) (h : H) (k : Kv) (kp : Kp) : Prop :=
aggW a0 (fun l0 => newW h l0 (fun p1 h2 => ptrW p1 (fun ad3 => ∃ v4 : Value, ∃ v5 : Value, rdN h2 ad3 2 = some [v4, v5] ∧ D 17 [(Value.agg #[v4, v5])] h2 (fun v6 h7 => ∃ t8 : Bool, v6 = (Value.bool t8) ∧ cond (!t8) (
k (Value.slice none 0 0) h7) (
loop13_5 D [p1, (Value.slice none 0 0), (Value.int IntKind.i64 (0 : Int))] h7 (fun x46 vs47 h45 => xs x46 (k (nth vs47 0) h45) (fun i48 => cond (Nat.beq i48 0) (
k (nth vs47 0) h45) (False)) (fun c => kp c h45)))) kp)))
def Cl13 (D : Orc) : Prop := ∀ a0 h k kp, F13 D a0 h k kp → D 13 [a0] h k kp
theorem tieR13_5 (D : Orc) (I : List Value → H → Prop) (K : Kl) (a0 a1 a2 : Value) (h : H) : round13_5 D I K a0 a1 a2 h = round Tryd.prog D (L13 D) lv13 (nthC (allLoops (bodyOf Tryd.f13)) 0) I K [a0, a1, a2] h := by kernel_rfl
theorem tieR13_9 (D : Orc) (I : List Value → H → Prop) (K : Kl) (a0 a1 a2 a3 a4 : Value) (h : H) : round13_9 D I K a0 a1 a2 a3 a4 h = round Tryd.prog D (L13 D) lv13 (nthC (allLoops (bodyOf Tryd.f13)) 1) I K [a0, a1, a2, a3, a4] h := by kernel_rfl
theorem tieF13 (D : Orc) (a0 : Value) (h : H) (k : Kv) (kp : Kp) : F13 D a0 h k kp = bodyW Tryd.prog D (L13 D) lv13 Tryd.f13 [a0] h k kp := by kernel_rfl
theorem lfp13 : Lfps Tryd.prog (CS Tryd.prog) (L13 (CS Tryd.prog)) lv13 (allLoops (bodyOf Tryd.f13)) := by
  have e : (allLoops (bodyOf Tryd.f13)) = [nthC (allLoops (bodyOf Tryd.f13)) 0, nthC (allLoops (bodyOf Tryd.f13)) 1] := by kernel_rfl
  rw [e]
  exact ⟨(fun vs h K hk I H => hk I (fun a0 a1 a2 h hr => H _ _ ((tieR13_5 (CS Tryd.prog) I K a0 a1 a2 h) ▸ hr))), (fun vs h K hk I H => hk I (fun a0 a1 a2 a3 a4 h hr => H _ _ ((tieR13_9 (CS Tryd.prog) I K a0 a1 a2 a3 a4 h) ▸ hr))), trivial⟩
theorem cl13 : Cl13 (CS Tryd.prog) := fun a0 h k kp hk =>
  fn_sound wide (fn := Tryd.f13) (by kernel_rfl) (by kernel_rfl) (by kernel_rfl) lfp13 (by rw [tieF13] at hk; exact hk)
def lv14 : Lv := Lv.mk 26 [.raw, .raw] (fun i => cond (Nat.beq i 4) ([(0, .raw), (1, .raw), (5, .int IntKind.i64)]) ([])) (fun i => cond (Nat.beq i 4) ([(0, [])]) ([])) [(4, .bool)] (fun i => none)
def round14_4 (D : Orc) (I : List Value → H → Prop) (K : Kl) (a0 a1 a2 : Value) (h2 : H) : Prop :=
intK IntKind.i64 a2 (fun x3 => lenW a0 (fun n4 => cond (decide (x3 < (n4 : Int))) (
slAtW a0 x3 1 (fun ad5 => ∃ x6 : Int, rd h2 ad5 = some (Value.int IntKind.i64 x6) ∧ slAtW a1 x3 1 (fun ad7 => ∃ x8 : Int, rd h2 ad7 = some (Value.int IntKind.i64 x8) ∧ cond (x6 != x8) (
K X.r [(Value.bool false)] h2) (
I [a0, a1, (Value.int IntKind.i64 (IntKind.wrap IntKind.i64 (x3 + (1 : Int))))] h2)))) (
K (X.e 0) [] h2)))
def loop14_4 (D : Orc) (vs : List Value) (h : H) (K : Kl) : Prop := ∀ I : List Value → H → Prop, (∀ a0 a1 a2 h, round14_4 D I K a0 a1 a2 h → I [a0, a1, a2] h) → I vs h
def L14 (D : Orc) : Lor := fun b vs h K => match firstId b with | some i => cond (Nat.beq i 4) (loop14_4 D vs h K) (False) | none => False
/-- lodestone/lodestonelaw07.sameInts -/
def F14 (D : Orc) (a0 a1 : Value) (h : H) (k : Kv) (kp : Kp) : Prop :=
lenW a0 (fun n0 => lenW a1 (fun n1 => cond ((n0 : Int) != (n1 : Int)) (
k (Value.bool false) h) (
loop14_4 D [a0, a1, (Value.int IntKind.i64 (0 : Int))] h (fun x10 vs11 h9 => xs x10 (boolW (nth vs11 0) (fun t13 => k (Value.bool t13) h9)) (fun i12 => cond (Nat.beq i12 0) (
k (Value.bool true) h9) (False)) (fun c => kp c h9)))))
def Cl14 (D : Orc) : Prop := ∀ a0 a1 h k kp, F14 D a0 a1 h k kp → D 14 [a0, a1] h k kp
theorem tieR14_4 (D : Orc) (I : List Value → H → Prop) (K : Kl) (a0 a1 a2 : Value) (h : H) : round14_4 D I K a0 a1 a2 h = round Tryd.prog D (L14 D) lv14 (nthC (allLoops (bodyOf Tryd.f14)) 0) I K [a0, a1, a2] h := by kernel_rfl
theorem tieF14 (D : Orc) (a0 a1 : Value) (h : H) (k : Kv) (kp : Kp) : F14 D a0 a1 h k kp = bodyW Tryd.prog D (L14 D) lv14 Tryd.f14 [a0, a1] h k kp := by kernel_rfl
theorem lfp14 : Lfps Tryd.prog (CS Tryd.prog) (L14 (CS Tryd.prog)) lv14 (allLoops (bodyOf Tryd.f14)) := by
  have e : (allLoops (bodyOf Tryd.f14)) = [nthC (allLoops (bodyOf Tryd.f14)) 0] := by kernel_rfl
  rw [e]
  exact ⟨(fun vs h K hk I H => hk I (fun a0 a1 a2 h hr => H _ _ ((tieR14_4 (CS Tryd.prog) I K a0 a1 a2 h) ▸ hr))), trivial⟩
theorem cl14 : Cl14 (CS Tryd.prog) := fun a0 a1 h k kp hk =>
  fn_sound wide (fn := Tryd.f14) (by kernel_rfl) (by kernel_rfl) (by kernel_rfl) lfp14 (by rw [tieF14] at hk; exact hk)
def lv15 : Lv := Lv.mk 55 [.raw, .raw] (fun i => cond (Nat.beq i 5) ([(2, .raw), (5, .raw), (38, .raw), (39, .int IntKind.i64), (40, .int IntKind.i64)]) ([])) (fun i => cond (Nat.beq i 5) ([(0, [])]) ([])) [(4, .bool)] (fun i => cond (Nat.beq i 2) (some [(2, .raw), (3, .raw), (33, .bool)]) (none))
def round15_5 (D : Orc) (I : List Value → H → Prop) (K : Kl) (a0 a1 a2 a3 a4 : Value) (h41 : H) : Prop :=
intK IntKind.i64 a3 (fun x42 => intK IntKind.i64 a4 (fun x43 => cond (decide (x43 < x42)) (
slAtW a2 x43 2 (fun ad44 => ∃ v45 : Value, ∃ v46 : Value, rdN h41 ad44 2 = some [v45, v46] ∧ newW h41 [(Value.slice none 0 0), (Value.slice none 0 0)] (fun p47 h48 => ptrW p47 (fun ad49 => 2 = 2 ∧ List.all [v45, v46] one = true ∧ ∃ h50, wr h48 ad49 [v45, v46] = some h50 ∧ D 36 [a1, (Value.func (Fn.func 37) #[] #[a0, p47])] h50 (fun v51 h52 => ∃ x53 : Int, v51 = (Value.int IntKind.i64 x53) ∧ cond (decide (x53 < (0 : Int))) (
K X.r [(Value.bool false)] h52) (
D 39 [a1, (Value.int IntKind.i64 x53), (Value.int IntKind.i64 (IntKind.wrap IntKind.i64 (x53 + (1 : Int))))] h52 (fun v54 h55 => ∃ v56 : Value, v54 = v56 ∧ I [a0, v56, a2, (Value.int IntKind.i64 x42), (Value.int IntKind.i64 (IntKind.wrap IntKind.i64 (x43 + (1 : Int))))] h55) (fun c h => K (X.p c) [] h))) (fun c h => K (X.p c) [] h))))) (
K (X.e 0) [] h41)))
def loop15_5 (D : Orc) (vs : List Value) (h : H) (K : Kl) : Prop := ∀ I : List Value → H → Prop, (∀ a0 a1 a2 a3 a4 h, round15_5 D I K a0 a1 a2 a3 a4 h → I [a0, a1, a2, a3, a4] h) → I vs h
def j15__2 (D : Orc) (k : Kv) (kp : Kp) (a0 a1 a2 : Value) (h31 : H) : Prop :=
boolW a2 (fun t32 => cond t32 (
k (Value.bool false) h31) (
ptrW a1 (fun ad33 => ∃ v34 : Value, rd h31 (Addr.add ad33 1) = some v34 ∧ D 35 [v34] h31 (fun v35 h36 => ∃ v37 : Value, v35 = v37 ∧ ptrW a0 (fun ad38 => ∃ v39 : Value, rd h36 (Addr.add ad38 1) = some v39 ∧ lenW v39 (fun n40 => loop15_5 D [a0, v37, v39, (Value.int IntKind.i64 (n40 : Int)), (Value.int IntKind.i64 (0 : Int))] h36 (fun x58 vs59 h57 => xs x58 (boolW (nth vs59 0) (fun t61 => k (Value.bool t61) h57)) (fun i60 => cond (Nat.beq i60 0) (
k (Value.bool true) h57) (False)) (fun c => kp c h57))))) kp)))
def L15 (D : Orc) : Lor := fun b vs h K => match firstId b with | some i => cond (Nat.beq i 5) (loop15_5 D vs h K) (False) | none => False
/-- lodestone/system.Same -/
def F15 (D : Orc) (a0 a1 : Value) (h : H) (k : Kv) (kp : Kp) : Prop :=
aggW a0 (fun l0 => newW h l0 (fun p1 h2 => aggW a1 (fun l3 => newW h2 l3 (fun p4 h5 => ptrW p1 (fun ad6 => ∃ v7 : Value, ∃ v8 : Value, rdN h5 ad6 2 = some [v7, v8] ∧ D 31 [(Value.agg #[v7, v8])] h5 (fun v9 h10 => ∃ t11 : Bool, v9 = (Value.bool t11) ∧ cond (!(!t11)) (
ptrW p4 (fun ad12 => ∃ v13 : Value, ∃ v14 : Value, rdN h10 ad12 2 = some [v13, v14] ∧ D 31 [(Value.agg #[v13, v14])] h10 (fun v15 h16 => ∃ t17 : Bool, v15 = (Value.bool t17) ∧ cond (!(!t17)) (
ptrW p1 (fun ad18 => ∃ v19 : Value, rd h16 (Addr.add ad18 0) = some v19 ∧ ptrW p4 (fun ad20 => ∃ v21 : Value, rd h16 (Addr.add ad20 0) = some v21 ∧ D 34 [v19, v21] h16 (fun v22 h23 => ∃ t24 : Bool, v22 = (Value.bool t24) ∧ cond (!(!t24)) (
ptrW p1 (fun ad25 => ∃ v26 : Value, rd h23 (Addr.add ad25 1) = some v26 ∧ lenW v26 (fun n27 => ptrW p4 (fun ad28 => ∃ v29 : Value, rd h23 (Addr.add ad28 1) = some v29 ∧ lenW v29 (fun n30 => j15__2 D k kp p1 p4 (Value.bool ((n27 : Int) != (n30 : Int))) h23))))) (
j15__2 D k kp p1 p4 (Value.bool true) h23)) kp))) (
j15__2 D k kp p1 p4 (Value.bool true) h16)) kp)) (
j15__2 D k kp p1 p4 (Value.bool true) h10)) kp)))))
def Cl15 (D : Orc) : Prop := ∀ a0 a1 h k kp, F15 D a0 a1 h k kp → D 15 [a0, a1] h k kp
theorem tieR15_5 (D : Orc) (I : List Value → H → Prop) (K : Kl) (a0 a1 a2 a3 a4 : Value) (h : H) : round15_5 D I K a0 a1 a2 a3 a4 h = round Tryd.prog D (L15 D) lv15 (nthC (allLoops (bodyOf Tryd.f15)) 0) I K [a0, a1, a2, a3, a4] h := by kernel_rfl
theorem tieF15 (D : Orc) (a0 a1 : Value) (h : H) (k : Kv) (kp : Kp) : F15 D a0 a1 h k kp = bodyW Tryd.prog D (L15 D) lv15 Tryd.f15 [a0, a1] h k kp := by kernel_rfl
theorem lfp15 : Lfps Tryd.prog (CS Tryd.prog) (L15 (CS Tryd.prog)) lv15 (allLoops (bodyOf Tryd.f15)) := by
  have e : (allLoops (bodyOf Tryd.f15)) = [nthC (allLoops (bodyOf Tryd.f15)) 0] := by kernel_rfl
  rw [e]
  exact ⟨(fun vs h K hk I H => hk I (fun a0 a1 a2 a3 a4 h hr => H _ _ ((tieR15_5 (CS Tryd.prog) I K a0 a1 a2 a3 a4 h) ▸ hr))), trivial⟩
theorem cl15 : Cl15 (CS Tryd.prog) := fun a0 a1 h k kp hk =>
  fn_sound wide (fn := Tryd.f15) (by kernel_rfl) (by kernel_rfl) (by kernel_rfl) lfp15 (by rw [tieF15] at hk; exact hk)
def lv16 : Lv := Lv.mk 99 [.raw, .raw] (fun i => cond (Nat.beq i 4) ([(2, .raw), (3, .raw), (5, .int IntKind.i64)]) (cond (Nat.beq i 9) ([(2, .raw), (3, .raw), (6, .int IntKind.i64)]) (cond (Nat.beq i 13) ([(2, .raw), (3, .raw), (6, .int IntKind.i64), (7, .int IntKind.i64), (8, .int IntKind.i64)]) ([])))) (fun i => cond (Nat.beq i 4) ([(0, [(2, .raw), (3, .raw)])]) (cond (Nat.beq i 9) ([(2, [])]) (cond (Nat.beq i 13) ([(4, [(2, .raw), (3, .raw), (6, .int IntKind.i64), (7, .int IntKind.i64)])]) ([])))) [(4, .bool)] (fun i => cond (Nat.beq i 2) (some [(2, .raw), (3, .raw), (34, .bool)]) (cond (Nat.beq i 14) (some [(2, .raw), (3, .raw), (6, .int IntKind.i64), (7, .int IntKind.i64), (8, .int IntKind.i64)]) (cond (Nat.beq i 17) (some [(2, .raw), (3, .raw), (6, .int IntKind.i64), (7, .int IntKind.i64), (8, .int IntKind.i64)]) (none))))
def round16_4 (D : Orc) (I : List Value → H → Prop) (K : Kl) (a0 a1 a2 : Value) (h32 : H) : Prop :=
intK IntKind.i64 a2 (fun x33 => ptrW a0 (fun ad34 => ∃ v35 : Value, rd h32 (Addr.add ad34 0) = some v35 ∧ lenW v35 (fun n36 => cond (decide (x33 < (n36 : Int))) (
ptrW a0 (fun ad37 => ∃ v38 : Value, rd h32 (Addr.add ad37 0) = some v38 ∧ slAtW v38 x33 2 (fun ad39 => ∃ s40 : ByteArray, ∃ x41 : Int, rdN h32 ad39 2 = some [(Value.string s40), (Value.int IntKind.i64 x41)] ∧ ptrW a1 (fun ad42 => ∃ v43 : Value, rd h32 (Addr.add ad42 0) = some v43 ∧ slAtW v43 x33 2 (fun ad44 => ∃ s45 : ByteArray, ∃ x46 : Int, rdN h32 ad44 2 = some [(Value.string s45), (Value.int IntKind.i64 x46)] ∧ cond (!((s40.toList == s45.toList) && ((x41 == x46) && true))) (
K X.r [(Value.bool false)] h32) (
I [a0, a1, (Value.int IntKind.i64 (IntKind.wrap IntKind.i64 (x33 + (1 : Int))))] h32)))))) (
K (X.e 0) [a0, a1] h32))))
def loop16_4 (D : Orc) (vs : List Value) (h : H) (K : Kl) : Prop := ∀ I : List Value → H → Prop, (∀ a0 a1 a2 h, round16_4 D I K a0 a1 a2 h → I [a0, a1, a2] h) → I vs h
def j16_13_14 (D : Orc) (I : List Value → H → Prop) (K : Kl) (a0 a1 a2 a3 a4 : Value) (h98 : H) : Prop :=
intK IntKind.i64 a2 (fun x99 => intK IntKind.i64 a3 (fun x100 => intK IntKind.i64 a4 (fun x101 => I [a0, a1, (Value.int IntKind.i64 x99), (Value.int IntKind.i64 x100), (Value.int IntKind.i64 (IntKind.wrap IntKind.i64 (x101 + (1 : Int))))] h98)))
def j16_13_17 (D : Orc) (I : List Value → H → Prop) (K : Kl) (a0 a1 a2 a3 a4 : Value) (h79 : H) : Prop :=
intK IntKind.i64 a2 (fun x80 => intK IntKind.i64 a3 (fun x81 => intK IntKind.i64 a4 (fun x82 => ptrW a0 (fun ad83 => ∃ v84 : Value, rd h79 (Addr.add ad83 0) = some v84 ∧ ptrW a0 (fun ad85 => ∃ v86 : Value, rd h79 (Addr.add ad85 1) = some v86 ∧ slAtW v86 x80 2 (fun ad87 => ∃ v88 : Value, ∃ v89 : Value, rdN h79 ad87 2 = some [v88, v89] ∧ ptrW a1 (fun ad90 => ∃ v91 : Value, rd h79 (Addr.add ad90 1) = some v91 ∧ slAtW v91 x82 2 (fun ad92 => ∃ v93 : Value, ∃ v94 : Value, rdN h79 ad92 2 = some [v93, v94] ∧ D 40 [v84, (Value.agg #[v88, v89]), (Value.agg #[v93, v94])] h79 (fun v95 h96 => ∃ t97 : Bool, v95 = (Value.bool t97) ∧ cond t97 (
j16_13_14 D I K a0 a1 (Value.int IntKind.i64 x80) (Value.int IntKind.i64 (IntKind.wrap IntKind.i64 (x81 - (1 : Int)))) (Value.int IntKind.i64 x82) h96) (
j16_13_14 D I K a0 a1 (Value.int IntKind.i64 x80) (Value.int IntKind.i64 x81) (Value.int IntKind.i64 x82) h96)) (fun c h => K (X.p c) [] h)))))))))
def round16_13 (D : Orc) (I : List Value → H → Prop) (K : Kl) (a0 a1 a2 a3 a4 : Value) (h57 : H) : Prop :=
intK IntKind.i64 a2 (fun x58 => intK IntKind.i64 a3 (fun x59 => intK IntKind.i64 a4 (fun x60 => ptrW a0 (fun ad61 => ∃ v62 : Value, rd h57 (Addr.add ad61 1) = some v62 ∧ lenW v62 (fun n63 => cond (decide (x60 < (n63 : Int))) (
ptrW a0 (fun ad64 => ∃ v65 : Value, rd h57 (Addr.add ad64 0) = some v65 ∧ ptrW a0 (fun ad66 => ∃ v67 : Value, rd h57 (Addr.add ad66 1) = some v67 ∧ slAtW v67 x58 2 (fun ad68 => ∃ v69 : Value, ∃ v70 : Value, rdN h57 ad68 2 = some [v69, v70] ∧ ptrW a0 (fun ad71 => ∃ v72 : Value, rd h57 (Addr.add ad71 1) = some v72 ∧ slAtW v72 x60 2 (fun ad73 => ∃ v74 : Value, ∃ v75 : Value, rdN h57 ad73 2 = some [v74, v75] ∧ D 40 [v65, (Value.agg #[v69, v70]), (Value.agg #[v74, v75])] h57 (fun v76 h77 => ∃ t78 : Bool, v76 = (Value.bool t78) ∧ cond t78 (
j16_13_17 D I K a0 a1 (Value.int IntKind.i64 x58) (Value.int IntKind.i64 (IntKind.wrap IntKind.i64 (x59 + (1 : Int)))) (Value.int IntKind.i64 x60) h77) (
j16_13_17 D I K a0 a1 (Value.int IntKind.i64 x58) (Value.int IntKind.i64 x59) (Value.int IntKind.i64 x60) h77)) (fun c h => K (X.p c) [] h))))))) (
K (X.e 4) [a0, a1, (Value.int IntKind.i64 x58), (Value.int IntKind.i64 x59)] h57))))))
def loop16_13 (D : Orc) (vs : List Value) (h : H) (K : Kl) : Prop := ∀ I : List Value → H → Prop, (∀ a0 a1 a2 a3 a4 h, round16_13 D I K a0 a1 a2 a3 a4 h → I [a0, a1, a2, a3, a4] h) → I vs h
def round16_9 (D : Orc) (I : List Value → H → Prop) (K : Kl) (a0 a1 a2 : Value) (h52 : H) : Prop :=
intK IntKind.i64 a2 (fun x53 => ptrW a0 (fun ad54 => ∃ v55 : Value, rd h52 (Addr.add ad54 1) = some v55 ∧ lenW v55 (fun n56 => cond (decide (x53 < (n56 : Int))) (
loop16_13 D [a0, a1, (Value.int IntKind.i64 x53), (Value.int IntKind.i64 (0 : Int)), (Value.int IntKind.i64 (0 : Int))] h52 (fun x103 vs104 h102 => xs x103 (boolW (nth vs104 0) (fun t106 => K X.r [(Value.bool t106)] h102)) (fun i105 => cond (Nat.beq i105 4) (
intK IntKind.i64 (nth vs104 2) (fun x107 => intK IntKind.i64 (nth vs104 3) (fun x108 => cond (x108 != (0 : Int)) (
K X.r [(Value.bool false)] h102) (
I [(nth vs104 0), (nth vs104 1), (Value.int IntKind.i64 (IntKind.wrap IntKind.i64 (x107 + (1 : Int))))] h102)))) (False)) (fun c => (fun c h => K (X.p c) [] h) c h102))) (
K (X.e 2) [] h52))))
def loop16_9 (D : Orc) (vs : List Value) (h : H) (K : Kl) : Prop := ∀ I : List Value → H → Prop, (∀ a0 a1 a2 h, round16_9 D I K a0 a1 a2 h → I [a0, a1, a2] h) → I vs h
def j16__2 (D : Orc) (k : Kv) (kp : Kp) (a0 a1 a2 : Value) (h30 : H) : Prop :=
boolW a2 (fun t31 => cond t31 (
k (Value.bool false) h30) (
loop16_4 D [a0, a1, (Value.int IntKind.i64 (0 : Int))] h30 (fun x48 vs49 h47 => xs x48 (boolW (nth vs49 0) (fun t51 => k (Value.bool t51) h47)) (fun i50 => cond (Nat.beq i50 0) (
loop16_9 D [(nth vs49 0), (nth vs49 1), (Value.int IntKind.i64 (0 : Int))] h47 (fun x110 vs111 h109 => xs x110 (boolW (nth vs111 0) (fun t113 => k (Value.bool t113) h109)) (fun i112 => cond (Nat.beq i112 2) (
k (Value.bool true) h109) (False)) (fun c => kp c h109))) (False)) (fun c => kp c h47))))
def L16 (D : Orc) : Lor := fun b vs h K => match firstId b with | some i => cond (Nat.beq i 4) (loop16_4 D vs h K) (cond (Nat.beq i 9) (loop16_9 D vs h K) (cond (Nat.beq i 13) (loop16_13 D vs h K) (False))) | none => False
/-- lodestone/lodestoneref07.Same -/
def F16 (D : Orc) (a0 a1 : Value) (h : H) (k : Kv) (kp : Kp) : Prop :=
aggW a0 (fun l0 => newW h l0 (fun p1 h2 => aggW a1 (fun l3 => newW h2 l3 (fun p4 h5 => ptrW p1 (fun ad6 => ∃ v7 : Value, ∃ v8 : Value, rdN h5 ad6 2 = some [v7, v8] ∧ D 17 [(Value.agg #[v7, v8])] h5 (fun v9 h10 => ∃ t11 : Bool, v9 = (Value.bool t11) ∧ cond (!(!t11)) (
ptrW p4 (fun ad12 => ∃ v13 : Value, ∃ v14 : Value, rdN h10 ad12 2 = some [v13, v14] ∧ D 17 [(Value.agg #[v13, v14])] h10 (fun v15 h16 => ∃ t17 : Bool, v15 = (Value.bool t17) ∧ cond (!(!t17)) (
ptrW p1 (fun ad18 => ∃ v19 : Value, rd h16 (Addr.add ad18 0) = some v19 ∧ lenW v19 (fun n20 => ptrW p4 (fun ad21 => ∃ v22 : Value, rd h16 (Addr.add ad21 0) = some v22 ∧ lenW v22 (fun n23 => cond (!((n20 : Int) != (n23 : Int))) (
ptrW p1 (fun ad24 => ∃ v25 : Value, rd h16 (Addr.add ad24 1) = some v25 ∧ lenW v25 (fun n26 => ptrW p4 (fun ad27 => ∃ v28 : Value, rd h16 (Addr.add ad27 1) = some v28 ∧ lenW v28 (fun n29 => j16__2 D k kp p1 p4 (Value.bool ((n26 : Int) != (n29 : Int))) h16))))) (
j16__2 D k kp p1 p4 (Value.bool true) h16)))))) (
j16__2 D k kp p1 p4 (Value.bool true) h16)) kp)) (
j16__2 D k kp p1 p4 (Value.bool true) h10)) kp)))))
def Cl16 (D : Orc) : Prop := ∀ a0 a1 h k kp, F16 D a0 a1 h k kp → D 16 [a0, a1] h k kp
theorem tieR16_4 (D : Orc) (I : List Value → H → Prop) (K : Kl) (a0 a1 a2 : Value) (h : H) : round16_4 D I K a0 a1 a2 h = round Tryd.prog D (L16 D) lv16 (nthC (allLoops (bodyOf Tryd.f16)) 0) I K [a0, a1, a2] h := by kernel_rfl
theorem tieR16_9 (D : Orc) (I : List Value → H → Prop) (K : Kl) (a0 a1 a2 : Value) (h : H) : round16_9 D I K a0 a1 a2 h = round Tryd.prog D (L16 D) lv16 (nthC (allLoops (bodyOf Tryd.f16)) 1) I K [a0, a1, a2] h := by kernel_rfl
theorem tieR16_13 (D : Orc) (I : List Value → H → Prop) (K : Kl) (a0 a1 a2 a3 a4 : Value) (h : H) : round16_13 D I K a0 a1 a2 a3 a4 h = round Tryd.prog D (L16 D) lv16 (nthC (allLoops (bodyOf Tryd.f16)) 2) I K [a0, a1, a2, a3, a4] h := by kernel_rfl
theorem tieF16 (D : Orc) (a0 a1 : Value) (h : H) (k : Kv) (kp : Kp) : F16 D a0 a1 h k kp = bodyW Tryd.prog D (L16 D) lv16 Tryd.f16 [a0, a1] h k kp := by kernel_rfl
theorem lfp16 : Lfps Tryd.prog (CS Tryd.prog) (L16 (CS Tryd.prog)) lv16 (allLoops (bodyOf Tryd.f16)) := by
  have e : (allLoops (bodyOf Tryd.f16)) = [nthC (allLoops (bodyOf Tryd.f16)) 0, nthC (allLoops (bodyOf Tryd.f16)) 1, nthC (allLoops (bodyOf Tryd.f16)) 2] := by kernel_rfl
  rw [e]
  exact ⟨(fun vs h K hk I H => hk I (fun a0 a1 a2 h hr => H _ _ ((tieR16_4 (CS Tryd.prog) I K a0 a1 a2 h) ▸ hr))), (fun vs h K hk I H => hk I (fun a0 a1 a2 h hr => H _ _ ((tieR16_9 (CS Tryd.prog) I K a0 a1 a2 h) ▸ hr))), (fun vs h K hk I H => hk I (fun a0 a1 a2 a3 a4 h hr => H _ _ ((tieR16_13 (CS Tryd.prog) I K a0 a1 a2 a3 a4 h) ▸ hr))), trivial⟩
theorem cl16 : Cl16 (CS Tryd.prog) := fun a0 a1 h k kp hk =>
  fn_sound wide (fn := Tryd.f16) (by kernel_rfl) (by kernel_rfl) (by kernel_rfl) lfp16 (by rw [tieF16] at hk; exact hk)
def lv17 : Lv := Lv.mk 12 [.raw] (fun i => []) (fun i => []) [(2, .bool)] (fun i => none)
def L17 (D : Orc) : Lor := fun b vs h K => match firstId b with | some i => False | none => False
/-- lodestone/lodestoneref07.Right -/
def F17 (D : Orc) (a0 : Value) (h : H) (k : Kv) (kp : Kp) : Prop :=
aggW a0 (fun l0 => newW h l0 (fun p1 h2 => ptrW p1 (fun ad3 => ∃ v4 : Value, ∃ v5 : Value, rdN h2 ad3 2 = some [v4, v5] ∧ D 11 [(Value.agg #[v4, v5])] h2 (fun v6 h7 => ∃ x8 : Int, ∃ x9 : Int, v6 = (Value.tuple #[(Value.int IntKind.i64 x8), (Value.int IntKind.i64 x9)]) ∧ k (Value.bool (x8 == (0 : Int))) h7) kp)))
def Cl17 (D : Orc) : Prop := ∀ a0 h k kp, F17 D a0 h k kp → D 17 [a0] h k kp
theorem tieF17 (D : Orc) (a0 : Value) (h : H) (k : Kv) (kp : Kp) : F17 D a0 h k kp = bodyW Tryd.prog D (L17 D) lv17 Tryd.f17 [a0] h k kp := by kernel_rfl
theorem lfp17 : Lfps Tryd.prog (CS Tryd.prog) (L17 (CS Tryd.prog)) lv17 (allLoops (bodyOf Tryd.f17)) := by
  have e : (allLoops (bodyOf Tryd.f17)) = [] := by kernel_rfl
  rw [e]
  exact trivial
theorem cl17 : Cl17 (CS Tryd.prog) := fun a0 h k kp hk =>
  fn_sound wide (fn := Tryd.f17) (by kernel_rfl) (by kernel_rfl) (by kernel_rfl) lfp17 (by rw [tieF17] at hk; exact hk)
def lv18 : Lv := Lv.mk 60 [.raw, .int IntKind.i64] (fun i => cond (Nat.beq i 3) ([(0, .raw), (1, .int IntKind.i64), (6, .raw), (7, .int IntKind.i64)]) ([])) (fun i => cond (Nat.beq i 3) ([(0, [(6, .raw)])]) ([])) [(4, .raw), (5, .int IntKind.i64)] (fun i => cond (Nat.beq i 4) (some [(0, .raw), (1, .int IntKind.i64), (6, .raw), (7, .int IntKind.i64)]) (cond (Nat.beq i 9) (some [(0, .raw), (1, .int IntKind.i64), (6, .raw), (7, .int IntKind.i64), (8, .int IntKind.i64), (44, .bool)]) (cond (Nat.beq i 12) (some [(0, .raw), (1, .int IntKind.i64), (6, .raw), (7, .int IntKind.i64), (8, .int IntKind.i64), (53, .bool)]) (none))))
def j18_3_4 (D : Orc) (I : List Value → H → Prop) (K : Kl) (a0 a1 a2 a3 : Value) (h19 : H) : Prop :=
intK IntKind.i64 a1 (fun x20 => intK IntKind.i64 a3 (fun x21 => I [a0, (Value.int IntKind.i64 x20), a2, (Value.int IntKind.i64 (IntKind.wrap IntKind.i64 (x21 + (1 : Int))))] h19))
def j18_3_12 (D : Orc) (I : List Value → H → Prop) (K : Kl) (a0 a1 a2 a3 a4 a5 : Value) (h27 : H) : Prop :=
intK IntKind.i64 a1 (fun x28 => intK IntKind.i64 a3 (fun x29 => intK IntKind.i64 a4 (fun x30 => boolW a5 (fun t31 => cond t31 (
K X.r [(Value.slice none 0 0), (Value.int IntKind.i64 (40 : Int))] h27) (
one (Value.int IntKind.i64 (IntKind.wrap IntKind.i64 ((-1 : Int) - x30))) = true ∧ 0 < 1 ∧ newSl h27 1 [(Value.int IntKind.i64 (IntKind.wrap IntKind.i64 ((-1 : Int) - x30)))] (fun s32 h33 => slenW s32 (fun n34 => srcW h33 1 s32 (n34) (fun w35 => apW h33 1 8 [(Value.int IntKind.i64 (0 : Int))] a2 (n34) w35 (fun s36 h37 => j18_3_4 D I K a0 (Value.int IntKind.i64 x28) s36 (Value.int IntKind.i64 x29) h37)))))))))
def j18_3_9 (D : Orc) (I : List Value → H → Prop) (K : Kl) (a0 a1 a2 a3 a4 a5 : Value) (h22 : H) : Prop :=
intK IntKind.i64 a1 (fun x23 => intK IntKind.i64 a3 (fun x24 => intK IntKind.i64 a4 (fun x25 => boolW a5 (fun t26 => cond t26 (
K X.r [(Value.slice none 0 0), (Value.int IntKind.i64 (40 : Int))] h22) (
cond (!(decide ((IntKind.wrap IntKind.i64 (x25 + x23)) < (0 : Int)))) (
j18_3_12 D I K a0 (Value.int IntKind.i64 x23) a2 (Value.int IntKind.i64 x24) (Value.int IntKind.i64 (IntKind.wrap IntKind.i64 (x25 + x23))) (Value.bool (decide ((IntKind.wrap IntKind.i64 (x25 + x23)) ≥ (1048576 : Int)))) h22) (
j18_3_12 D I K a0 (Value.int IntKind.i64 x23) a2 (Value.int IntKind.i64 x24) (Value.int IntKind.i64 (IntKind.wrap IntKind.i64 (x25 + x23))) (Value.bool true) h22))))))
def round18_3 (D : Orc) (I : List Value → H → Prop) (K : Kl) (a0 a1 a2 a3 : Value) (h3 : H) : Prop :=
intK IntKind.i64 a1 (fun x4 => intK IntKind.i64 a3 (fun x5 => lenW a0 (fun n6 => cond (decide (x5 < (n6 : Int))) (
slAtW a0 x5 1 (fun ad7 => ∃ x8 : Int, rd h3 ad7 = some (Value.int IntKind.i64 x8) ∧ slAtW a0 x5 1 (fun ad9 => ∃ x10 : Int, rd h3 ad9 = some (Value.int IntKind.i64 x10) ∧ cond (decide (x10 ≥ (0 : Int))) (
slAtW a0 x5 1 (fun ad11 => ∃ x12 : Int, rd h3 ad11 = some (Value.int IntKind.i64 x12) ∧ one (Value.int IntKind.i64 x12) = true ∧ 0 < 1 ∧ newSl h3 1 [(Value.int IntKind.i64 x12)] (fun s13 h14 => slenW s13 (fun n15 => srcW h14 1 s13 (n15) (fun w16 => apW h14 1 8 [(Value.int IntKind.i64 (0 : Int))] a2 (n15) w16 (fun s17 h18 => j18_3_4 D I K a0 (Value.int IntKind.i64 x4) s17 (Value.int IntKind.i64 x5) h18)))))) (
cond (!(decide (x4 ≥ (1048576 : Int)))) (
cond (decide (x4 ≥ (0 : Int))) (
j18_3_9 D I K a0 (Value.int IntKind.i64 x4) a2 (Value.int IntKind.i64 x5) (Value.int IntKind.i64 (IntKind.wrap IntKind.i64 ((-1 : Int) - x8))) (Value.bool (decide ((IntKind.wrap IntKind.i64 ((-1 : Int) - x8)) ≥ (IntKind.wrap IntKind.i64 ((1048576 : Int) - x4))))) h3) (
j18_3_9 D I K a0 (Value.int IntKind.i64 x4) a2 (Value.int IntKind.i64 x5) (Value.int IntKind.i64 (IntKind.wrap IntKind.i64 ((-1 : Int) - x8))) (Value.bool false) h3)) (
j18_3_9 D I K a0 (Value.int IntKind.i64 x4) a2 (Value.int IntKind.i64 x5) (Value.int IntKind.i64 (IntKind.wrap IntKind.i64 ((-1 : Int) - x8))) (Value.bool true) h3))))) (
K (X.e 0) [a2] h3))))
def loop18_3 (D : Orc) (vs : List Value) (h : H) (K : Kl) : Prop := ∀ I : List Value → H → Prop, (∀ a0 a1 a2 a3 h, round18_3 D I K a0 a1 a2 a3 h → I [a0, a1, a2, a3] h) → I vs h
def L18 (D : Orc) : Lor := fun b vs h K => match firstId b with | some i => cond (Nat.beq i 3) (loop18_3 D vs h K) (False) | none => False
/-- lodestone/lodestoneref04.Shift -/
def F18 (D : Orc) (a0 a1 : Value) (h : H) (k : Kv) (kp : Kp) : Prop :=
intK IntKind.i64 a1 (fun x0 => newSl h 0 [] (fun s1 h2 => loop18_3 D [a0, (Value.int IntKind.i64 x0), s1, (Value.int IntKind.i64 (0 : Int))] h2 (fun x39 vs40 h38 => xs x39 (intK IntKind.i64 (nth vs40 1) (fun x42 => k (Value.tuple #[(nth vs40 0), (Value.int IntKind.i64 x42)]) h38)) (fun i41 => cond (Nat.beq i41 0) (
k (Value.tuple #[(nth vs40 0), (Value.int IntKind.i64 (0 : Int))]) h38) (False)) (fun c => kp c h38))))
def Cl18 (D : Orc) : Prop := ∀ a0 a1 h k kp, F18 D a0 a1 h k kp → D 18 [a0, a1] h k kp
theorem tieR18_3 (D : Orc) (I : List Value → H → Prop) (K : Kl) (a0 a1 a2 a3 : Value) (h : H) : round18_3 D I K a0 a1 a2 a3 h = round Tryd.prog D (L18 D) lv18 (nthC (allLoops (bodyOf Tryd.f18)) 0) I K [a0, a1, a2, a3] h := by kernel_rfl
theorem tieF18 (D : Orc) (a0 a1 : Value) (h : H) (k : Kv) (kp : Kp) : F18 D a0 a1 h k kp = bodyW Tryd.prog D (L18 D) lv18 Tryd.f18 [a0, a1] h k kp := by kernel_rfl
theorem lfp18 : Lfps Tryd.prog (CS Tryd.prog) (L18 (CS Tryd.prog)) lv18 (allLoops (bodyOf Tryd.f18)) := by
  have e : (allLoops (bodyOf Tryd.f18)) = [nthC (allLoops (bodyOf Tryd.f18)) 0] := by kernel_rfl
  rw [e]
  exact ⟨(fun vs h K hk I H => hk I (fun a0 a1 a2 a3 h hr => H _ _ ((tieR18_3 (CS Tryd.prog) I K a0 a1 a2 a3 h) ▸ hr))), trivial⟩
theorem cl18 : Cl18 (CS Tryd.prog) := fun a0 a1 h k kp hk =>
  fn_sound wide (fn := Tryd.f18) (by kernel_rfl) (by kernel_rfl) (by kernel_rfl) lfp18 (by rw [tieF18] at hk; exact hk)
def lv26 : Lv := Lv.mk 13 [] (fun i => []) (fun i => []) [(0, .raw)] (fun i => none)
def L26 (D : Orc) : Lor := fun b vs h K => match firstId b with | some i => False | none => False
/-- lodestone/lodestonelaw07.adds -/
def F26 (D : Orc) (h : H) (k : Kv) (kp : Kp) : Prop :=
newW h [(Value.slice none 0 0), (Value.slice none 0 0)] (fun p0 h1 => one (Value.string (ByteArray.mk #[122, 101, 114, 111])) = true ∧ 0 < 2 ∧ one (Value.string (ByteArray.mk #[115])) = true ∧ 0 < 2 ∧ one (Value.int IntKind.i64 (1 : Int)) = true ∧ 1 < 2 ∧ one (Value.string (ByteArray.mk #[112, 108, 117, 115])) = true ∧ 0 < 2 ∧ one (Value.int IntKind.i64 (2 : Int)) = true ∧ 1 < 2 ∧ 2 = 2 ∧ 0 + 2 ≤ 6 ∧ 2 = 2 ∧ 2 + 2 ≤ 6 ∧ 2 = 2 ∧ 4 + 2 ≤ 6 ∧ newSl h1 3 [(Value.string (ByteArray.mk #[122, 101, 114, 111])), (Value.int IntKind.i64 (0 : Int)), (Value.string (ByteArray.mk #[115])), (Value.int IntKind.i64 (1 : Int)), (Value.string (ByteArray.mk #[112, 108, 117, 115])), (Value.int IntKind.i64 (2 : Int))] (fun s2 h3 => one (Value.int IntKind.i64 (2 : Int)) = true ∧ 0 < 3 ∧ one (Value.int IntKind.i64 (0 : Int)) = true ∧ 1 < 3 ∧ one (Value.int IntKind.i64 (-2 : Int)) = true ∧ 2 < 3 ∧ newSl h3 3 [(Value.int IntKind.i64 (2 : Int)), (Value.int IntKind.i64 (0 : Int)), (Value.int IntKind.i64 (-2 : Int))] (fun s4 h5 => one (Value.int IntKind.i64 (-2 : Int)) = true ∧ 0 < 1 ∧ newSl h5 1 [(Value.int IntKind.i64 (-2 : Int))] (fun s6 h7 => one s4 = true ∧ 0 < 2 ∧ one s6 = true ∧ 1 < 2 ∧ one (Value.int IntKind.i64 (2 : Int)) = true ∧ 0 < 4 ∧ one (Value.int IntKind.i64 (1 : Int)) = true ∧ 1 < 4 ∧ one (Value.int IntKind.i64 (-1 : Int)) = true ∧ 2 < 4 ∧ one (Value.int IntKind.i64 (-2 : Int)) = true ∧ 3 < 4 ∧ newSl h7 4 [(Value.int IntKind.i64 (2 : Int)), (Value.int IntKind.i64 (1 : Int)), (Value.int IntKind.i64 (-1 : Int)), (Value.int IntKind.i64 (-2 : Int))] (fun s8 h9 => one (Value.int IntKind.i64 (1 : Int)) = true ∧ 0 < 4 ∧ one (Value.int IntKind.i64 (2 : Int)) = true ∧ 1 < 4 ∧ one (Value.int IntKind.i64 (-1 : Int)) = true ∧ 2 < 4 ∧ one (Value.int IntKind.i64 (-2 : Int)) = true ∧ 3 < 4 ∧ newSl h9 4 [(Value.int IntKind.i64 (1 : Int)), (Value.int IntKind.i64 (2 : Int)), (Value.int IntKind.i64 (-1 : Int)), (Value.int IntKind.i64 (-2 : Int))] (fun s10 h11 => one s8 = true ∧ 0 < 2 ∧ one s10 = true ∧ 1 < 2 ∧ 2 = 2 ∧ 0 + 2 ≤ 4 ∧ 2 = 2 ∧ 2 + 2 ≤ 4 ∧ newSl h11 2 [s4, s6, s8, s10] (fun s12 h13 => one s2 = true ∧ 0 < 2 ∧ one s12 = true ∧ 1 < 2 ∧ ptrW p0 (fun ad14 => 2 = 2 ∧ List.all [s2, s12] one = true ∧ ∃ h15, wr h13 ad14 [s2, s12] = some h15 ∧ ptrW p0 (fun ad16 => ∃ v17 : Value, ∃ v18 : Value, rdN h15 ad16 2 = some [v17, v18] ∧ k (Value.agg #[v17, v18]) h15)))))))))
def Cl26 (D : Orc) : Prop := ∀  h k kp, F26 D  h k kp → D 26 [] h k kp
theorem tieF26 (D : Orc) (h : H) (k : Kv) (kp : Kp) : F26 D  h k kp = bodyW Tryd.prog D (L26 D) lv26 Tryd.f26 [] h k kp := by kernel_rfl
theorem lfp26 : Lfps Tryd.prog (CS Tryd.prog) (L26 (CS Tryd.prog)) lv26 (allLoops (bodyOf Tryd.f26)) := by
  have e : (allLoops (bodyOf Tryd.f26)) = [] := by kernel_rfl
  rw [e]
  exact trivial
theorem cl26 : Cl26 (CS Tryd.prog) := fun  h k kp hk =>
  fn_sound wide (fn := Tryd.f26) (by kernel_rfl) (by kernel_rfl) (by kernel_rfl) lfp26 (by rw [tieF26] at hk; exact hk)
def lv27 : Lv := Lv.mk 14 [.raw] (fun i => []) (fun i => []) [(2, .int IntKind.i64)] (fun i => none)
def L27 (D : Orc) : Lor := fun b vs h K => match firstId b with | some i => False | none => False
/-- lodestone/system.plain -/
def F27 (D : Orc) (a0 : Value) (h : H) (k : Kv) (kp : Kp) : Prop :=
D 44 [a0] h (fun v0 h1 => ∃ x2 : Int, v0 = (Value.int IntKind.i64 x2) ∧ cond (x2 != (0 : Int)) (
k (Value.int IntKind.i64 x2) h1) (
lenW a0 (fun n3 => cond (decide ((n3 : Int) > (64 : Int))) (
k (Value.int IntKind.i64 (37 : Int)) h1) (
D 54 [a0, (Value.func (Fn.func 55) #[] #[])] h1 (fun v4 h5 => ∃ t6 : Bool, v4 = (Value.bool t6) ∧ cond t6 (
k (Value.int IntKind.i64 (34 : Int)) h5) (
k (Value.int IntKind.i64 (0 : Int)) h5)) kp)))) kp
def Cl27 (D : Orc) : Prop := ∀ a0 h k kp, F27 D a0 h k kp → D 27 [a0] h k kp
theorem tieF27 (D : Orc) (a0 : Value) (h : H) (k : Kv) (kp : Kp) : F27 D a0 h k kp = bodyW Tryd.prog D (L27 D) lv27 Tryd.f27 [a0] h k kp := by kernel_rfl
theorem lfp27 : Lfps Tryd.prog (CS Tryd.prog) (L27 (CS Tryd.prog)) lv27 (allLoops (bodyOf Tryd.f27)) := by
  have e : (allLoops (bodyOf Tryd.f27)) = [] := by kernel_rfl
  rw [e]
  exact trivial
theorem cl27 : Cl27 (CS Tryd.prog) := fun a0 h k kp hk =>
  fn_sound wide (fn := Tryd.f27) (by kernel_rfl) (by kernel_rfl) (by kernel_rfl) lfp27 (by rw [tieF27] at hk; exact hk)
def lv28 : Lv := Lv.mk 55 [.raw, .raw] (fun i => cond (Nat.beq i 13) ([(7, .raw), (44, .raw), (45, .int IntKind.i64), (46, .int IntKind.i64)]) ([])) (fun i => cond (Nat.beq i 13) ([(1, [])]) ([])) [(4, .int IntKind.i64)] (fun i => none)
def round28_13 (D : Orc) (I : List Value → H → Prop) (K : Kl) (a0 a1 a2 a3 : Value) (h36 : H) : Prop :=
intK IntKind.i64 a2 (fun x37 => intK IntKind.i64 a3 (fun x38 => cond (decide (x38 < x37)) (
slAtW a1 x38 1 (fun ad39 => ∃ x40 : Int, rd h36 ad39 = some (Value.int IntKind.i64 x40) ∧ D 49 [a0, (Value.int IntKind.i64 x40)] h36 (fun v41 h42 => ∃ t43 : Bool, v41 = (Value.bool t43) ∧ cond (!t43) (
K X.r [(Value.int IntKind.i64 (72 : Int))] h42) (
I [a0, a1, (Value.int IntKind.i64 x37), (Value.int IntKind.i64 (IntKind.wrap IntKind.i64 (x38 + (1 : Int))))] h42)) (fun c h => K (X.p c) [] h))) (
K (X.e 1) [] h36)))
def loop28_13 (D : Orc) (vs : List Value) (h : H) (K : Kl) : Prop := ∀ I : List Value → H → Prop, (∀ a0 a1 a2 a3 h, round28_13 D I K a0 a1 a2 a3 h → I [a0, a1, a2, a3] h) → I vs h
def L28 (D : Orc) : Lor := fun b vs h K => match firstId b with | some i => cond (Nat.beq i 13) (loop28_13 D vs h K) (False) | none => False
/-- lodestone/system.rule -/
def F28 (D : Orc) (a0 a1 : Value) (h : H) (k : Kv) (kp : Kp) : Prop :=
aggW a1 (fun l0 => newW h l0 (fun p1 h2 => ptrW p1 (fun ad3 => ∃ v4 : Value, rd h2 (Addr.add ad3 0) = some v4 ∧ D 56 [a0, v4] h2 (fun v5 h6 => ∃ x7 : Int, v5 = (Value.int IntKind.i64 x7) ∧ cond (x7 != (0 : Int)) (
k (Value.int IntKind.i64 x7) h6) (
ptrW p1 (fun ad8 => ∃ v9 : Value, rd h6 (Addr.add ad8 1) = some v9 ∧ D 56 [a0, v9] h6 (fun v10 h11 => ∃ x12 : Int, v10 = (Value.int IntKind.i64 x12) ∧ cond (x12 != (0 : Int)) (
k (Value.int IntKind.i64 x12) h11) (
ptrW p1 (fun ad13 => ∃ v14 : Value, rd h11 (Addr.add ad13 0) = some v14 ∧ lenW v14 (fun n15 => ptrW p1 (fun ad16 => ∃ v17 : Value, rd h11 (Addr.add ad16 1) = some v17 ∧ lenW v17 (fun n18 => minMax true [(Value.int IntKind.i64 (n15 : Int)), (Value.int IntKind.i64 (n18 : Int))] (fun v19 => intK IntKind.i64 v19 (fun x20 => cond (decide (x20 > (512 : Int))) (
k (Value.int IntKind.i64 (2 : Int)) h11) (
ptrW p1 (fun ad21 => ∃ v22 : Value, rd h11 (Addr.add ad21 0) = some v22 ∧ slAtW v22 (0 : Int) 1 (fun ad23 => ∃ x24 : Int, rd h11 ad23 = some (Value.int IntKind.i64 x24) ∧ cond (decide (x24 < (0 : Int))) (
k (Value.int IntKind.i64 (71 : Int)) h11) (
ptrW p1 (fun ad25 => ∃ v26 : Value, rd h11 (Addr.add ad25 0) = some v26 ∧ D 57 [v26] h11 (fun v27 h28 => ∃ v29 : Value, v27 = v29 ∧ ptrW p1 (fun ad30 => ∃ v31 : Value, rd h28 (Addr.add ad30 1) = some v31 ∧ D 57 [v31] h28 (fun v32 h33 => ∃ v34 : Value, v32 = v34 ∧ lenW v34 (fun n35 => loop28_13 D [v29, v34, (Value.int IntKind.i64 (n35 : Int)), (Value.int IntKind.i64 (0 : Int))] h33 (fun x45 vs46 h44 => xs x45 (intK IntKind.i64 (nth vs46 0) (fun x48 => k (Value.int IntKind.i64 x48) h44)) (fun i47 => cond (Nat.beq i47 1) (
k (Value.int IntKind.i64 (0 : Int)) h44) (False)) (fun c => kp c h44)))) kp)) kp))))))))))))) kp))) kp)))
def Cl28 (D : Orc) : Prop := ∀ a0 a1 h k kp, F28 D a0 a1 h k kp → D 28 [a0, a1] h k kp
theorem tieR28_13 (D : Orc) (I : List Value → H → Prop) (K : Kl) (a0 a1 a2 a3 : Value) (h : H) : round28_13 D I K a0 a1 a2 a3 h = round Tryd.prog D (L28 D) lv28 (nthC (allLoops (bodyOf Tryd.f28)) 0) I K [a0, a1, a2, a3] h := by kernel_rfl
theorem tieF28 (D : Orc) (a0 a1 : Value) (h : H) (k : Kv) (kp : Kp) : F28 D a0 a1 h k kp = bodyW Tryd.prog D (L28 D) lv28 Tryd.f28 [a0, a1] h k kp := by kernel_rfl
theorem lfp28 : Lfps Tryd.prog (CS Tryd.prog) (L28 (CS Tryd.prog)) lv28 (allLoops (bodyOf Tryd.f28)) := by
  have e : (allLoops (bodyOf Tryd.f28)) = [nthC (allLoops (bodyOf Tryd.f28)) 0] := by kernel_rfl
  rw [e]
  exact ⟨(fun vs h K hk I H => hk I (fun a0 a1 a2 a3 h hr => H _ _ ((tieR28_13 (CS Tryd.prog) I K a0 a1 a2 a3 h) ▸ hr))), trivial⟩
theorem cl28 : Cl28 (CS Tryd.prog) := fun a0 a1 h k kp hk =>
  fn_sound wide (fn := Tryd.f28) (by kernel_rfl) (by kernel_rfl) (by kernel_rfl) lfp28 (by rw [tieF28] at hk; exact hk)
def lv29 : Lv := Lv.mk 25 [.raw] (fun i => cond (Nat.beq i 7) ([(0, .raw), (4, .int IntKind.i64)]) ([])) (fun i => cond (Nat.beq i 7) ([(0, [])]) ([])) [(2, .int IntKind.i64)] (fun i => none)
def round29_7 (D : Orc) (I : List Value → H → Prop) (K : Kl) (a0 a1 : Value) (h4 : H) : Prop :=
intK IntKind.i64 a1 (fun x5 => lenW a0 (fun n6 => cond (decide (x5 < (n6 : Int))) (
slAtW a0 x5 2 (fun ad7 => ∃ s8 : ByteArray, rd h4 (Addr.add ad7 0) = some (Value.string s8) ∧ D 59 [(Value.string s8)] h4 (fun v9 h10 => ∃ t11 : Bool, v9 = (Value.bool t11) ∧ cond t11 (
K X.r [(Value.int IntKind.i64 (34 : Int))] h10) (
I [a0, (Value.int IntKind.i64 (IntKind.wrap IntKind.i64 (x5 + (1 : Int))))] h10)) (fun c h => K (X.p c) [] h))) (
K (X.e 0) [] h4)))
def loop29_7 (D : Orc) (vs : List Value) (h : H) (K : Kl) : Prop := ∀ I : List Value → H → Prop, (∀ a0 a1 h, round29_7 D I K a0 a1 h → I [a0, a1] h) → I vs h
def L29 (D : Orc) : Lor := fun b vs h K => match firstId b with | some i => cond (Nat.beq i 7) (loop29_7 D vs h K) (False) | none => False
/-- lodestone/lodestoneref07.Plain -/
def F29 (D : Orc) (a0 : Value) (h : H) (k : Kv) (kp : Kp) : Prop :=
D 58 [a0] h (fun v0 h1 => ∃ x2 : Int, v0 = (Value.int IntKind.i64 x2) ∧ cond (x2 != (0 : Int)) (
k (Value.int IntKind.i64 x2) h1) (
lenW a0 (fun n3 => cond (decide ((n3 : Int) > (64 : Int))) (
k (Value.int IntKind.i64 (37 : Int)) h1) (
loop29_7 D [a0, (Value.int IntKind.i64 (0 : Int))] h1 (fun x13 vs14 h12 => xs x13 (intK IntKind.i64 (nth vs14 0) (fun x16 => k (Value.int IntKind.i64 x16) h12)) (fun i15 => cond (Nat.beq i15 0) (
k (Value.int IntKind.i64 (0 : Int)) h12) (False)) (fun c => kp c h12)))))) kp
def Cl29 (D : Orc) : Prop := ∀ a0 h k kp, F29 D a0 h k kp → D 29 [a0] h k kp
theorem tieR29_7 (D : Orc) (I : List Value → H → Prop) (K : Kl) (a0 a1 : Value) (h : H) : round29_7 D I K a0 a1 h = round Tryd.prog D (L29 D) lv29 (nthC (allLoops (bodyOf Tryd.f29)) 0) I K [a0, a1] h := by kernel_rfl
theorem tieF29 (D : Orc) (a0 : Value) (h : H) (k : Kv) (kp : Kp) : F29 D a0 h k kp = bodyW Tryd.prog D (L29 D) lv29 Tryd.f29 [a0] h k kp := by kernel_rfl
theorem lfp29 : Lfps Tryd.prog (CS Tryd.prog) (L29 (CS Tryd.prog)) lv29 (allLoops (bodyOf Tryd.f29)) := by
  have e : (allLoops (bodyOf Tryd.f29)) = [nthC (allLoops (bodyOf Tryd.f29)) 0] := by kernel_rfl
  rw [e]
  exact ⟨(fun vs h K hk I H => hk I (fun a0 a1 h hr => H _ _ ((tieR29_7 (CS Tryd.prog) I K a0 a1 h) ▸ hr))), trivial⟩
theorem cl29 : Cl29 (CS Tryd.prog) := fun a0 h k kp hk =>
  fn_sound wide (fn := Tryd.f29) (by kernel_rfl) (by kernel_rfl) (by kernel_rfl) lfp29 (by rw [tieF29] at hk; exact hk)
def lv30 : Lv := Lv.mk 57 [.raw, .raw] (fun i => cond (Nat.beq i 14) ([(6, .raw), (7, .raw), (8, .int IntKind.i64)]) ([])) (fun i => cond (Nat.beq i 14) ([(0, [])]) ([])) [(4, .int IntKind.i64)] (fun i => cond (Nat.beq i 8) (some [(3, .raw), (32, .bool)]) (none))
def round30_14 (D : Orc) (I : List Value → H → Prop) (K : Kl) (a0 a1 a2 : Value) (h35 : H) : Prop :=
intK IntKind.i64 a2 (fun x36 => lenW a1 (fun n37 => cond (decide (x36 < (n37 : Int))) (
slAtW a1 x36 1 (fun ad38 => ∃ x39 : Int, rd h35 ad38 = some (Value.int IntKind.i64 x39) ∧ D 62 [a0, (Value.int IntKind.i64 x39)] h35 (fun v40 h41 => ∃ t42 : Bool, v40 = (Value.bool t42) ∧ cond (!t42) (
K X.r [(Value.int IntKind.i64 (72 : Int))] h41) (
I [a0, a1, (Value.int IntKind.i64 (IntKind.wrap IntKind.i64 (x36 + (1 : Int))))] h41)) (fun c h => K (X.p c) [] h))) (
K (X.e 0) [] h35)))
def loop30_14 (D : Orc) (vs : List Value) (h : H) (K : Kl) : Prop := ∀ I : List Value → H → Prop, (∀ a0 a1 a2 h, round30_14 D I K a0 a1 a2 h → I [a0, a1, a2] h) → I vs h
def j30__8 (D : Orc) (k : Kv) (kp : Kp) (a0 a1 : Value) (h19 : H) : Prop :=
boolW a1 (fun t20 => cond t20 (
k (Value.int IntKind.i64 (2 : Int)) h19) (
ptrW a0 (fun ad21 => ∃ v22 : Value, rd h19 (Addr.add ad21 0) = some v22 ∧ slAtW v22 (0 : Int) 1 (fun ad23 => ∃ x24 : Int, rd h19 ad23 = some (Value.int IntKind.i64 x24) ∧ cond (decide (x24 < (0 : Int))) (
k (Value.int IntKind.i64 (71 : Int)) h19) (
ptrW a0 (fun ad25 => ∃ v26 : Value, rd h19 (Addr.add ad25 0) = some v26 ∧ D 61 [v26] h19 (fun v27 h28 => ∃ v29 : Value, v27 = v29 ∧ ptrW a0 (fun ad30 => ∃ v31 : Value, rd h28 (Addr.add ad30 1) = some v31 ∧ D 61 [v31] h28 (fun v32 h33 => ∃ v34 : Value, v32 = v34 ∧ loop30_14 D [v29, v34, (Value.int IntKind.i64 (0 : Int))] h33 (fun x44 vs45 h43 => xs x44 (intK IntKind.i64 (nth vs45 0) (fun x47 => k (Value.int IntKind.i64 x47) h43)) (fun i46 => cond (Nat.beq i46 0) (
k (Value.int IntKind.i64 (0 : Int)) h43) (False)) (fun c => kp c h43))) kp)) kp))))))
def L30 (D : Orc) : Lor := fun b vs h K => match firstId b with | some i => cond (Nat.beq i 14) (loop30_14 D vs h K) (False) | none => False
/-- lodestone/lodestoneref07.rule -/
def F30 (D : Orc) (a0 a1 : Value) (h : H) (k : Kv) (kp : Kp) : Prop :=
aggW a1 (fun l0 => newW h l0 (fun p1 h2 => ptrW p1 (fun ad3 => ∃ v4 : Value, rd h2 (Addr.add ad3 0) = some v4 ∧ D 60 [a0, v4] h2 (fun v5 h6 => ∃ x7 : Int, v5 = (Value.int IntKind.i64 x7) ∧ cond (x7 != (0 : Int)) (
k (Value.int IntKind.i64 x7) h6) (
ptrW p1 (fun ad8 => ∃ v9 : Value, rd h6 (Addr.add ad8 1) = some v9 ∧ D 60 [a0, v9] h6 (fun v10 h11 => ∃ x12 : Int, v10 = (Value.int IntKind.i64 x12) ∧ cond (x12 != (0 : Int)) (
k (Value.int IntKind.i64 x12) h11) (
ptrW p1 (fun ad13 => ∃ v14 : Value, rd h11 (Addr.add ad13 0) = some v14 ∧ lenW v14 (fun n15 => cond (!(decide ((n15 : Int) > (512 : Int)))) (
ptrW p1 (fun ad16 => ∃ v17 : Value, rd h11 (Addr.add ad16 1) = some v17 ∧ lenW v17 (fun n18 => j30__8 D k kp p1 (Value.bool (decide ((n18 : Int) > (512 : Int)))) h11))) (
j30__8 D k kp p1 (Value.bool true) h11))))) kp))) kp)))
def Cl30 (D : Orc) : Prop := ∀ a0 a1 h k kp, F30 D a0 a1 h k kp → D 30 [a0, a1] h k kp
theorem tieR30_14 (D : Orc) (I : List Value → H → Prop) (K : Kl) (a0 a1 a2 : Value) (h : H) : round30_14 D I K a0 a1 a2 h = round Tryd.prog D (L30 D) lv30 (nthC (allLoops (bodyOf Tryd.f30)) 0) I K [a0, a1, a2] h := by kernel_rfl
theorem tieF30 (D : Orc) (a0 a1 : Value) (h : H) (k : Kv) (kp : Kp) : F30 D a0 a1 h k kp = bodyW Tryd.prog D (L30 D) lv30 Tryd.f30 [a0, a1] h k kp := by kernel_rfl
theorem lfp30 : Lfps Tryd.prog (CS Tryd.prog) (L30 (CS Tryd.prog)) lv30 (allLoops (bodyOf Tryd.f30)) := by
  have e : (allLoops (bodyOf Tryd.f30)) = [nthC (allLoops (bodyOf Tryd.f30)) 0] := by kernel_rfl
  rw [e]
  exact ⟨(fun vs h K hk I H => hk I (fun a0 a1 a2 h hr => H _ _ ((tieR30_14 (CS Tryd.prog) I K a0 a1 a2 h) ▸ hr))), trivial⟩
theorem cl30 : Cl30 (CS Tryd.prog) := fun a0 a1 h k kp hk =>
  fn_sound wide (fn := Tryd.f30) (by kernel_rfl) (by kernel_rfl) (by kernel_rfl) lfp30 (by rw [tieF30] at hk; exact hk)
def lv31 : Lv := Lv.mk 12 [.raw] (fun i => []) (fun i => []) [(2, .bool)] (fun i => none)
def L31 (D : Orc) : Lor := fun b vs h K => match firstId b with | some i => False | none => False
/-- lodestone/system.right -/
def F31 (D : Orc) (a0 : Value) (h : H) (k : Kv) (kp : Kp) : Prop :=
aggW a0 (fun l0 => newW h l0 (fun p1 h2 => ptrW p1 (fun ad3 => ∃ v4 : Value, ∃ v5 : Value, rdN h2 ad3 2 = some [v4, v5] ∧ D 10 [(Value.agg #[v4, v5])] h2 (fun v6 h7 => ∃ x8 : Int, ∃ x9 : Int, v6 = (Value.tuple #[(Value.int IntKind.i64 x8), (Value.int IntKind.i64 x9)]) ∧ k (Value.bool (x8 == (0 : Int))) h7) kp)))
def Cl31 (D : Orc) : Prop := ∀ a0 h k kp, F31 D a0 h k kp → D 31 [a0] h k kp
theorem tieF31 (D : Orc) (a0 : Value) (h : H) (k : Kv) (kp : Kp) : F31 D a0 h k kp = bodyW Tryd.prog D (L31 D) lv31 Tryd.f31 [a0] h k kp := by kernel_rfl
theorem lfp31 : Lfps Tryd.prog (CS Tryd.prog) (L31 (CS Tryd.prog)) lv31 (allLoops (bodyOf Tryd.f31)) := by
  have e : (allLoops (bodyOf Tryd.f31)) = [] := by kernel_rfl
  rw [e]
  exact trivial
theorem cl31 : Cl31 (CS Tryd.prog) := fun a0 h k kp hk =>
  fn_sound wide (fn := Tryd.f31) (by kernel_rfl) (by kernel_rfl) (by kernel_rfl) lfp31 (by rw [tieF31] at hk; exact hk)
def lv34 : Lv := Lv.mk 26 [.raw, .raw] (fun i => cond (Nat.beq i 4) ([(0, .raw), (1, .raw), (12, .int IntKind.i64), (13, .int IntKind.i64)]) ([])) (fun i => cond (Nat.beq i 4) ([(0, [])]) ([])) [(4, .bool)] (fun i => none)
def round34_4 (D : Orc) (I : List Value → H → Prop) (K : Kl) (a0 a1 a2 a3 : Value) (h3 : H) : Prop :=
intK IntKind.i64 a2 (fun x4 => intK IntKind.i64 a3 (fun x5 => cond (decide (x5 < x4)) (
slAtW a0 x5 2 (fun ad6 => ∃ s7 : ByteArray, ∃ x8 : Int, rdN h3 ad6 2 = some [(Value.string s7), (Value.int IntKind.i64 x8)] ∧ slAtW a1 x5 2 (fun ad9 => ∃ s10 : ByteArray, ∃ x11 : Int, rdN h3 ad9 2 = some [(Value.string s10), (Value.int IntKind.i64 x11)] ∧ cond (!((s7.toList == s10.toList) && ((x8 == x11) && true))) (
K X.r [(Value.bool false)] h3) (
I [a0, a1, (Value.int IntKind.i64 x4), (Value.int IntKind.i64 (IntKind.wrap IntKind.i64 (x5 + (1 : Int))))] h3)))) (
K (X.e 0) [] h3)))
def loop34_4 (D : Orc) (vs : List Value) (h : H) (K : Kl) : Prop := ∀ I : List Value → H → Prop, (∀ a0 a1 a2 a3 h, round34_4 D I K a0 a1 a2 a3 h → I [a0, a1, a2, a3] h) → I vs h
def L34 (D : Orc) : Lor := fun b vs h K => match firstId b with | some i => cond (Nat.beq i 4) (loop34_4 D vs h K) (False) | none => False
/-- slices.Equal[[]lodestone/api.Symbol,lodestone/api.Symbol] -/
def F34 (D : Orc) (a0 a1 : Value) (h : H) (k : Kv) (kp : Kp) : Prop :=
lenW a0 (fun n0 => lenW a1 (fun n1 => cond ((n0 : Int) != (n1 : Int)) (
k (Value.bool false) h) (
lenW a0 (fun n2 => loop34_4 D [a0, a1, (Value.int IntKind.i64 (n2 : Int)), (Value.int IntKind.i64 (0 : Int))] h (fun x13 vs14 h12 => xs x13 (boolW (nth vs14 0) (fun t16 => k (Value.bool t16) h12)) (fun i15 => cond (Nat.beq i15 0) (
k (Value.bool true) h12) (False)) (fun c => kp c h12))))))
def Cl34 (D : Orc) : Prop := ∀ a0 a1 h k kp, F34 D a0 a1 h k kp → D 34 [a0, a1] h k kp
theorem tieR34_4 (D : Orc) (I : List Value → H → Prop) (K : Kl) (a0 a1 a2 a3 : Value) (h : H) : round34_4 D I K a0 a1 a2 a3 h = round Tryd.prog D (L34 D) lv34 (nthC (allLoops (bodyOf Tryd.f34)) 0) I K [a0, a1, a2, a3] h := by kernel_rfl
theorem tieF34 (D : Orc) (a0 a1 : Value) (h : H) (k : Kv) (kp : Kp) : F34 D a0 a1 h k kp = bodyW Tryd.prog D (L34 D) lv34 Tryd.f34 [a0, a1] h k kp := by kernel_rfl
theorem lfp34 : Lfps Tryd.prog (CS Tryd.prog) (L34 (CS Tryd.prog)) lv34 (allLoops (bodyOf Tryd.f34)) := by
  have e : (allLoops (bodyOf Tryd.f34)) = [nthC (allLoops (bodyOf Tryd.f34)) 0] := by kernel_rfl
  rw [e]
  exact ⟨(fun vs h K hk I H => hk I (fun a0 a1 a2 a3 h hr => H _ _ ((tieR34_4 (CS Tryd.prog) I K a0 a1 a2 a3 h) ▸ hr))), trivial⟩
theorem cl34 : Cl34 (CS Tryd.prog) := fun a0 a1 h k kp hk =>
  fn_sound wide (fn := Tryd.f34) (by kernel_rfl) (by kernel_rfl) (by kernel_rfl) lfp34 (by rw [tieF34] at hk; exact hk)
def lv35 : Lv := Lv.mk 8 [.raw] (fun i => []) (fun i => []) [(2, .raw)] (fun i => none)
def L35 (D : Orc) : Lor := fun b vs h K => match firstId b with | some i => False | none => False
/-- slices.Clone[[]lodestone/api.Rule,lodestone/api.Rule] -/
def F35 (D : Orc) (a0 : Value) (h : H) (k : Kv) (kp : Kp) : Prop :=
eqSl a0 (Value.slice none 0 0) (fun t0 => cond t0 (
k (Value.slice none 0 0) h) (
newSl h 0 [] (fun s1 h2 => slenW a0 (fun n3 => srcW h2 2 a0 (n3) (fun w4 => apW h2 2 48 [(Value.slice none 0 0), (Value.slice none 0 0)] s1 (n3) w4 (fun s5 h6 => k s5 h6))))))
def Cl35 (D : Orc) : Prop := ∀ a0 h k kp, F35 D a0 h k kp → D 35 [a0] h k kp
theorem tieF35 (D : Orc) (a0 : Value) (h : H) (k : Kv) (kp : Kp) : F35 D a0 h k kp = bodyW Tryd.prog D (L35 D) lv35 Tryd.f35 [a0] h k kp := by kernel_rfl
theorem lfp35 : Lfps Tryd.prog (CS Tryd.prog) (L35 (CS Tryd.prog)) lv35 (allLoops (bodyOf Tryd.f35)) := by
  have e : (allLoops (bodyOf Tryd.f35)) = [] := by kernel_rfl
  rw [e]
  exact trivial
theorem cl35 : Cl35 (CS Tryd.prog) := fun a0 h k kp hk =>
  fn_sound wide (fn := Tryd.f35) (by kernel_rfl) (by kernel_rfl) (by kernel_rfl) lfp35 (by rw [tieF35] at hk; exact hk)
def lv36 : Lv := Lv.mk 19 [.raw, .raw] (fun i => cond (Nat.beq i 2) ([(0, .raw), (1, .raw), (7, .int IntKind.i64), (8, .int IntKind.i64)]) ([])) (fun i => cond (Nat.beq i 2) ([(0, [])]) ([])) [(4, .int IntKind.i64)] (fun i => none)
def round36_2 (D : Orc) (I : List Value → H → Prop) (K : Kl) (a0 a1 a2 a3 : Value) (h1 : H) : Prop :=
intK IntKind.i64 a2 (fun x2 => intK IntKind.i64 a3 (fun x3 => cond (decide (x3 < x2)) (
slAtW a0 x3 2 (fun ad4 => ∃ v5 : Value, ∃ v6 : Value, rdN h1 ad4 2 = some [v5, v6] ∧ callV Tryd.prog D 4 a1 [(Value.agg #[v5, v6])] h1 (fun v7 h8 => boolW v7 (fun t9 => cond t9 (
K X.r [(Value.int IntKind.i64 x3)] h8) (
I [a0, a1, (Value.int IntKind.i64 x2), (Value.int IntKind.i64 (IntKind.wrap IntKind.i64 (x3 + (1 : Int))))] h8))) (fun c h => K (X.p c) [] h))) (
K (X.e 0) [] h1)))
def loop36_2 (D : Orc) (vs : List Value) (h : H) (K : Kl) : Prop := ∀ I : List Value → H → Prop, (∀ a0 a1 a2 a3 h, round36_2 D I K a0 a1 a2 a3 h → I [a0, a1, a2, a3] h) → I vs h
def L36 (D : Orc) : Lor := fun b vs h K => match firstId b with | some i => cond (Nat.beq i 2) (loop36_2 D vs h K) (False) | none => False
/-- slices.IndexFunc[[]lodestone/api.Rule,lodestone/api.Rule] -/
def F36 (D : Orc) (a0 a1 : Value) (h : H) (k : Kv) (kp : Kp) : Prop :=
lenW a0 (fun n0 => loop36_2 D [a0, a1, (Value.int IntKind.i64 (n0 : Int)), (Value.int IntKind.i64 (0 : Int))] h (fun x11 vs12 h10 => xs x11 (intK IntKind.i64 (nth vs12 0) (fun x14 => k (Value.int IntKind.i64 x14) h10)) (fun i13 => cond (Nat.beq i13 0) (
k (Value.int IntKind.i64 (-1 : Int)) h10) (False)) (fun c => kp c h10)))
def Cl36 (D : Orc) : Prop := ∀ a0 a1 h k kp, F36 D a0 a1 h k kp → D 36 [a0, a1] h k kp
theorem tieR36_2 (D : Orc) (I : List Value → H → Prop) (K : Kl) (a0 a1 a2 a3 : Value) (h : H) : round36_2 D I K a0 a1 a2 a3 h = round Tryd.prog D (L36 D) lv36 (nthC (allLoops (bodyOf Tryd.f36)) 0) I K [a0, a1, a2, a3] h := by kernel_rfl
theorem tieF36 (D : Orc) (a0 a1 : Value) (h : H) (k : Kv) (kp : Kp) : F36 D a0 a1 h k kp = bodyW Tryd.prog D (L36 D) lv36 Tryd.f36 [a0, a1] h k kp := by kernel_rfl
theorem lfp36 : Lfps Tryd.prog (CS Tryd.prog) (L36 (CS Tryd.prog)) lv36 (allLoops (bodyOf Tryd.f36)) := by
  have e : (allLoops (bodyOf Tryd.f36)) = [nthC (allLoops (bodyOf Tryd.f36)) 0] := by kernel_rfl
  rw [e]
  exact ⟨(fun vs h K hk I H => hk I (fun a0 a1 a2 a3 h hr => H _ _ ((tieR36_2 (CS Tryd.prog) I K a0 a1 a2 a3 h) ▸ hr))), trivial⟩
theorem cl36 : Cl36 (CS Tryd.prog) := fun a0 a1 h k kp hk =>
  fn_sound wide (fn := Tryd.f36) (by kernel_rfl) (by kernel_rfl) (by kernel_rfl) lfp36 (by rw [tieF36] at hk; exact hk)
def lv37 : Lv := Lv.mk 10 [.raw] (fun i => []) (fun i => []) [(4, .bool)] (fun i => none)
def L37 (D : Orc) : Lor := fun b vs h K => match firstId b with | some i => False | none => False
/-- lodestone/system.Same$1 -/
def F37 (D : Orc) (a0 a1 a2 : Value) (h : H) (k : Kv) (kp : Kp) : Prop :=
aggW a0 (fun l0 => newW h l0 (fun p1 h2 => ptrW a1 (fun ad3 => ∃ v4 : Value, rd h2 (Addr.add ad3 0) = some v4 ∧ ptrW a2 (fun ad5 => ∃ v6 : Value, ∃ v7 : Value, rdN h2 ad5 2 = some [v6, v7] ∧ ptrW p1 (fun ad8 => ∃ v9 : Value, ∃ v10 : Value, rdN h2 ad8 2 = some [v9, v10] ∧ D 38 [v4, (Value.agg #[v6, v7]), (Value.agg #[v9, v10])] h2 (fun v11 h12 => ∃ t13 : Bool, v11 = (Value.bool t13) ∧ k (Value.bool t13) h12) kp)))))
def Cl37 (D : Orc) : Prop := ∀ a0 a1 a2 h k kp, F37 D a0 a1 a2 h k kp → D 37 [a0, a1, a2] h k kp
theorem tieF37 (D : Orc) (a0 a1 a2 : Value) (h : H) (k : Kv) (kp : Kp) : F37 D a0 a1 a2 h k kp = bodyW Tryd.prog D (L37 D) lv37 Tryd.f37 [a0, a1, a2] h k kp := by kernel_rfl
theorem lfp37 : Lfps Tryd.prog (CS Tryd.prog) (L37 (CS Tryd.prog)) lv37 (allLoops (bodyOf Tryd.f37)) := by
  have e : (allLoops (bodyOf Tryd.f37)) = [] := by kernel_rfl
  rw [e]
  exact trivial
theorem cl37 : Cl37 (CS Tryd.prog) := fun a0 a1 a2 h k kp hk =>
  fn_sound wide (fn := Tryd.f37) (by kernel_rfl) (by kernel_rfl) (by kernel_rfl) lfp37 (by rw [tieF37] at hk; exact hk)
def lv38 : Lv := Lv.mk 58 [.raw, .raw, .raw] (fun i => cond (Nat.beq i 2) ([(0, .raw), (4, .raw), (5, .raw), (19, .raw), (20, .int IntKind.i64), (21, .int IntKind.i64)]) ([])) (fun i => cond (Nat.beq i 2) ([(0, [(4, .raw), (5, .raw)])]) ([])) [(6, .bool)] (fun i => none)
def round38_2 (D : Orc) (I : List Value → H → Prop) (K : Kl) (a0 a1 a2 a3 a4 a5 : Value) (h17 : H) : Prop :=
intK IntKind.i64 a4 (fun x18 => intK IntKind.i64 a5 (fun x19 => cond (decide (x19 < x18)) (
slAtW a3 x19 1 (fun ad20 => ∃ v21 : Value, rd h17 ad20 = some v21 ∧ D 66 [a0, v21] h17 (fun v22 h23 => ∃ x24 : Int, v22 = (Value.int IntKind.i64 x24) ∧ cond (x24 != (0 : Int)) (
K X.r [(Value.bool false)] h23) (
I [a0, a1, a2, a3, (Value.int IntKind.i64 x18), (Value.int IntKind.i64 (IntKind.wrap IntKind.i64 (x19 + (1 : Int))))] h23)) (fun c h => K (X.p c) [] h))) (
K (X.e 0) [a1, a2] h17)))
def loop38_2 (D : Orc) (vs : List Value) (h : H) (K : Kl) : Prop := ∀ I : List Value → H → Prop, (∀ a0 a1 a2 a3 a4 a5 h, round38_2 D I K a0 a1 a2 a3 a4 a5 h → I [a0, a1, a2, a3, a4, a5] h) → I vs h
def L38 (D : Orc) : Lor := fun b vs h K => match firstId b with | some i => cond (Nat.beq i 2) (loop38_2 D vs h K) (False) | none => False
/-- lodestone/match.Variant -/
def F38 (D : Orc) (a0 a1 a2 : Value) (h : H) (k : Kv) (kp : Kp) : Prop :=
aggW a1 (fun l0 => newW h l0 (fun p1 h2 => aggW a2 (fun l3 => newW h2 l3 (fun p4 h5 => ptrW p1 (fun ad6 => ∃ v7 : Value, rd h5 (Addr.add ad6 0) = some v7 ∧ ptrW p1 (fun ad8 => ∃ v9 : Value, rd h5 (Addr.add ad8 1) = some v9 ∧ ptrW p4 (fun ad10 => ∃ v11 : Value, rd h5 (Addr.add ad10 0) = some v11 ∧ ptrW p4 (fun ad12 => ∃ v13 : Value, rd h5 (Addr.add ad12 1) = some v13 ∧ one v7 = true ∧ 0 < 4 ∧ one v9 = true ∧ 1 < 4 ∧ one v11 = true ∧ 2 < 4 ∧ one v13 = true ∧ 3 < 4 ∧ newSl h5 4 [v7, v9, v11, v13] (fun s14 h15 => lenW s14 (fun n16 => loop38_2 D [a0, p1, p4, s14, (Value.int IntKind.i64 (n16 : Int)), (Value.int IntKind.i64 (0 : Int))] h15 (fun x26 vs27 h25 => xs x26 (boolW (nth vs27 0) (fun t29 => k (Value.bool t29) h25)) (fun i28 => cond (Nat.beq i28 0) (
(ptrW (nth vs27 0) (fun ad30 => ∃ v31 : Value, rd h25 (Addr.add ad30 0) = some v31 ∧ ptrW (nth vs27 0) (fun ad32 => ∃ v33 : Value, rd h25 (Addr.add ad32 1) = some v33 ∧ one v31 = true ∧ 0 < 2 ∧ one v33 = true ∧ 1 < 2 ∧ newSl h25 2 [v31, v33] (fun s34 h35 => ptrW (nth vs27 1) (fun ad36 => ∃ v37 : Value, rd h35 (Addr.add ad36 0) = some v37 ∧ ptrW (nth vs27 1) (fun ad38 => ∃ v39 : Value, rd h35 (Addr.add ad38 1) = some v39 ∧ D 67 [s34] h35 (fun v40 h41 => ∃ v42 : Value, v40 = v42 ∧ (rd h41 (Addr.add ad38 1) = some v39) ∧ (rd h41 (Addr.add ad36 0) = some v37) ∧ one v37 = true ∧ 0 < 2 ∧ one v39 = true ∧ 1 < 2 ∧ newSl h41 2 [v37, v39] (fun s43 h44 => D 67 [s43] h44 (fun v45 h46 => ∃ v47 : Value, v45 = v47 ∧ slAtW v42 (0 : Int) 1 (fun ad48 => ∃ v49 : Value, rd h46 ad48 = some v49 ∧ slAtW v47 (0 : Int) 1 (fun ad50 => ∃ v51 : Value, rd h46 ad50 = some v51 ∧ D 68 [v49, v51] h46 (fun v52 h53 => ∃ t54 : Bool, v52 = (Value.bool t54) ∧ cond t54 (
slAtW v42 (1 : Int) 1 (fun ad55 => ∃ v56 : Value, rd h53 ad55 = some v56 ∧ slAtW v47 (1 : Int) 1 (fun ad57 => ∃ v58 : Value, rd h53 ad57 = some v58 ∧ D 68 [v56, v58] h53 (fun v59 h60 => ∃ t61 : Bool, v59 = (Value.bool t61) ∧ k (Value.bool t61) h60) kp))) (
k (Value.bool false) h53)) kp))) kp)) kp)))))) ∧
(ptrW (nth vs27 0) (fun ad62 => ∃ v63 : Value, rd h25 (Addr.add ad62 0) = some v63 ∧ ptrW (nth vs27 0) (fun ad64 => ∃ v65 : Value, rd h25 (Addr.add ad64 1) = some v65 ∧ one v63 = true ∧ 0 < 2 ∧ one v65 = true ∧ 1 < 2 ∧ newSl h25 2 [v63, v65] (fun s66 h67 => ptrW (nth vs27 1) (fun ad68 => ∃ v69 : Value, rd h67 (Addr.add ad68 0) = some v69 ∧ ptrW (nth vs27 1) (fun ad70 => ∃ v71 : Value, rd h67 (Addr.add ad70 1) = some v71 ∧ one v69 = true ∧ 0 < 2 ∧ one v71 = true ∧ 1 < 2 ∧ newSl h67 2 [v69, v71] (fun s72 h73 => D 67 [s66] h73 (fun v74 h75 => ∃ v76 : Value, v74 = v76 ∧ D 67 [s72] h75 (fun v77 h78 => ∃ v79 : Value, v77 = v79 ∧ slAtW v76 (0 : Int) 1 (fun ad80 => ∃ v81 : Value, rd h78 ad80 = some v81 ∧ slAtW v79 (0 : Int) 1 (fun ad82 => ∃ v83 : Value, rd h78 ad82 = some v83 ∧ D 68 [v81, v83] h78 (fun v84 h85 => ∃ t86 : Bool, v84 = (Value.bool t86) ∧ cond t86 (
slAtW v76 (1 : Int) 1 (fun ad87 => ∃ v88 : Value, rd h85 ad87 = some v88 ∧ slAtW v79 (1 : Int) 1 (fun ad89 => ∃ v90 : Value, rd h85 ad89 = some v90 ∧ D 68 [v88, v90] h85 (fun v91 h92 => ∃ t93 : Bool, v91 = (Value.bool t93) ∧ k (Value.bool t93) h92) kp))) (
k (Value.bool false) h85)) kp))) kp) kp)))))))) (False)) (fun c => kp c h25))))))))))))
def Cl38 (D : Orc) : Prop := ∀ a0 a1 a2 h k kp, F38 D a0 a1 a2 h k kp → D 38 [a0, a1, a2] h k kp
theorem tieR38_2 (D : Orc) (I : List Value → H → Prop) (K : Kl) (a0 a1 a2 a3 a4 a5 : Value) (h : H) : round38_2 D I K a0 a1 a2 a3 a4 a5 h = round Tryd.prog D (L38 D) lv38 (nthC (allLoops (bodyOf Tryd.f38)) 0) I K [a0, a1, a2, a3, a4, a5] h := by kernel_rfl
theorem tieF38 (D : Orc) (a0 a1 a2 : Value) (h : H) (k : Kv) (kp : Kp) : F38 D a0 a1 a2 h k kp = bodyW Tryd.prog D (L38 D) lv38 Tryd.f38 [a0, a1, a2] h k kp := by kernel_rfl
theorem lfp38 : Lfps Tryd.prog (CS Tryd.prog) (L38 (CS Tryd.prog)) lv38 (allLoops (bodyOf Tryd.f38)) := by
  have e : (allLoops (bodyOf Tryd.f38)) = [nthC (allLoops (bodyOf Tryd.f38)) 0] := by kernel_rfl
  rw [e]
  exact ⟨(fun vs h K hk I H => hk I (fun a0 a1 a2 a3 a4 a5 h hr => H _ _ ((tieR38_2 (CS Tryd.prog) I K a0 a1 a2 a3 a4 a5 h) ▸ hr))), trivial⟩
theorem cl38 : Cl38 (CS Tryd.prog) := fun a0 a1 a2 h k kp hk =>
  fn_sound wide (fn := Tryd.f38) (by kernel_rfl) (by kernel_rfl) (by kernel_rfl) lfp38 (by rw [tieF38] at hk; exact hk)
def lv39 : Lv := Lv.mk 33 [.raw, .int IntKind.i64, .int IntKind.i64] (fun i => []) (fun i => []) [(6, .raw)] (fun i => none)
def L39 (D : Orc) : Lor := fun b vs h K => match firstId b with | some i => False | none => False
/-- slices.Delete[[]lodestone/api.Rule,lodestone/api.Rule] -/
def F39 (D : Orc) (a0 a1 a2 : Value) (h : H) (k : Kv) (kp : Kp) : Prop :=
intK IntKind.i64 a1 (fun x0 => intK IntKind.i64 a2 (fun x1 => lenW a0 (fun n2 => slCutW a0 (some x0) (some x1) (some (n2 : Int)) 2 (fun s3 => cond (x0 == x1) (
k a0 h) (
lenW a0 (fun n4 => slCutW a0 none (some x0) none 2 (fun s5 => slCutW a0 (some x1) none none 2 (fun s6 => slenW s6 (fun n7 => srcW h 2 s6 (n7) (fun w8 => apW h 2 48 [(Value.slice none 0 0), (Value.slice none 0 0)] s5 (n7) w8 (fun s9 h10 => lenW s9 (fun n11 => slCutW s9 (some (n11 : Int)) (some (n4 : Int)) none 2 (fun s12 => clW h10 [(Value.slice none 0 0), (Value.slice none 0 0)] s12 (fun h13 => k s9 h13))))))))))))))
def Cl39 (D : Orc) : Prop := ∀ a0 a1 a2 h k kp, F39 D a0 a1 a2 h k kp → D 39 [a0, a1, a2] h k kp
theorem tieF39 (D : Orc) (a0 a1 a2 : Value) (h : H) (k : Kv) (kp : Kp) : F39 D a0 a1 a2 h k kp = bodyW Tryd.prog D (L39 D) lv39 Tryd.f39 [a0, a1, a2] h k kp := by kernel_rfl
theorem lfp39 : Lfps Tryd.prog (CS Tryd.prog) (L39 (CS Tryd.prog)) lv39 (allLoops (bodyOf Tryd.f39)) := by
  have e : (allLoops (bodyOf Tryd.f39)) = [] := by kernel_rfl
  rw [e]
  exact trivial
theorem cl39 : Cl39 (CS Tryd.prog) := fun a0 a1 a2 h k kp hk =>
  fn_sound wide (fn := Tryd.f39) (by kernel_rfl) (by kernel_rfl) (by kernel_rfl) lfp39 (by rw [tieF39] at hk; exact hk)
def lv40 : Lv := Lv.mk 141 [.raw, .raw, .raw] (fun i => cond (Nat.beq i 8) ([(7, .raw), (8, .raw), (9, .int IntKind.i64)]) (cond (Nat.beq i 17) ([(7, .raw), (8, .raw), (10, .raw), (11, .raw), (12, .int IntKind.i64)]) (cond (Nat.beq i 20) ([(7, .raw), (8, .raw), (10, .raw), (11, .raw), (12, .int IntKind.i64), (13, .int IntKind.i64)]) ([])))) (fun i => cond (Nat.beq i 8) ([(0, [(7, .raw), (8, .raw)])]) (cond (Nat.beq i 17) ([(2, [])]) (cond (Nat.beq i 20) ([(4, [(7, .raw), (8, .raw), (10, .raw), (11, .raw), (12, .int IntKind.i64)])]) ([])))) [(6, .bool)] (fun i => cond (Nat.beq i 2) (some [(4, .raw), (5, .raw), (39, .bool)]) (cond (Nat.beq i 4) (some [(4, .raw), (5, .raw), (55, .bool)]) (cond (Nat.beq i 11) (some [(7, .raw), (8, .raw), (9, .int IntKind.i64), (98, .bool)]) (none))))
def j40_8_11 (D : Orc) (I : List Value → H → Prop) (K : Kl) (a0 a1 a2 a3 : Value) (h81 : H) : Prop :=
intK IntKind.i64 a2 (fun x82 => boolW a3 (fun t83 => cond t83 (
K X.r [(Value.bool false)] h81) (
I [a0, a1, (Value.int IntKind.i64 (IntKind.wrap IntKind.i64 (x82 + (1 : Int))))] h81)))
def round40_8 (D : Orc) (I : List Value → H → Prop) (K : Kl) (a0 a1 a2 : Value) (h70 : H) : Prop :=
intK IntKind.i64 a2 (fun x71 => lenW a0 (fun n72 => cond (decide (x71 < (n72 : Int))) (
slAtW a0 x71 1 (fun ad73 => ∃ x74 : Int, rd h70 ad73 = some (Value.int IntKind.i64 x74) ∧ cond (!(decide (x74 ≥ (0 : Int)))) (
slAtW a1 x71 1 (fun ad75 => ∃ x76 : Int, rd h70 ad75 = some (Value.int IntKind.i64 x76) ∧ cond (decide (x76 ≥ (0 : Int))) (
slAtW a0 x71 1 (fun ad77 => ∃ x78 : Int, rd h70 ad77 = some (Value.int IntKind.i64 x78) ∧ slAtW a1 x71 1 (fun ad79 => ∃ x80 : Int, rd h70 ad79 = some (Value.int IntKind.i64 x80) ∧ j40_8_11 D I K a0 a1 (Value.int IntKind.i64 x71) (Value.bool (x78 != x80)) h70))) (
j40_8_11 D I K a0 a1 (Value.int IntKind.i64 x71) (Value.bool false) h70))) (
slAtW a0 x71 1 (fun ad84 => ∃ x85 : Int, rd h70 ad84 = some (Value.int IntKind.i64 x85) ∧ slAtW a1 x71 1 (fun ad86 => ∃ x87 : Int, rd h70 ad86 = some (Value.int IntKind.i64 x87) ∧ j40_8_11 D I K a0 a1 (Value.int IntKind.i64 x71) (Value.bool (x85 != x87)) h70))))) (
K (X.e 0) [a0, a1] h70)))
def loop40_8 (D : Orc) (vs : List Value) (h : H) (K : Kl) : Prop := ∀ I : List Value → H → Prop, (∀ a0 a1 a2 h, round40_8 D I K a0 a1 a2 h → I [a0, a1, a2] h) → I vs h
def round40_20 (D : Orc) (I : List Value → H → Prop) (K : Kl) (a0 a1 a2 a3 a4 a5 : Value) (h104 : H) : Prop :=
intK IntKind.i64 a4 (fun x105 => intK IntKind.i64 a5 (fun x106 => lenW a2 (fun n107 => cond (decide (x106 < (n107 : Int))) (
slAtW a0 x105 1 (fun ad108 => ∃ x109 : Int, rd h104 ad108 = some (Value.int IntKind.i64 x109) ∧ slAtW a2 x106 1 (fun ad110 => ∃ x111 : Int, rd h104 ad110 = some (Value.int IntKind.i64 x111) ∧ slAtW a1 x105 1 (fun ad112 => ∃ x113 : Int, rd h104 ad112 = some (Value.int IntKind.i64 x113) ∧ slAtW a3 x106 1 (fun ad114 => ∃ x115 : Int, rd h104 ad114 = some (Value.int IntKind.i64 x115) ∧ cond (!((x109 == (IntKind.wrap IntKind.i64 ((-1 : Int) - x111))) == (x113 == (IntKind.wrap IntKind.i64 ((-1 : Int) - x115))))) (
K X.r [(Value.bool false)] h104) (
I [a0, a1, a2, a3, (Value.int IntKind.i64 x105), (Value.int IntKind.i64 (IntKind.wrap IntKind.i64 (x106 + (1 : Int))))] h104)))))) (
K (X.e 4) [a0, a1, a2, a3, (Value.int IntKind.i64 x105)] h104))))
def loop40_20 (D : Orc) (vs : List Value) (h : H) (K : Kl) : Prop := ∀ I : List Value → H → Prop, (∀ a0 a1 a2 a3 a4 a5 h, round40_20 D I K a0 a1 a2 a3 a4 a5 h → I [a0, a1, a2, a3, a4, a5] h) → I vs h
def round40_17 (D : Orc) (I : List Value → H → Prop) (K : Kl) (a0 a1 a2 a3 a4 : Value) (h101 : H) : Prop :=
intK IntKind.i64 a4 (fun x102 => lenW a0 (fun n103 => cond (decide (x102 < (n103 : Int))) (
loop40_20 D [a0, a1, a2, a3, (Value.int IntKind.i64 x102), (Value.int IntKind.i64 (0 : Int))] h101 (fun x117 vs118 h116 => xs x117 (boolW (nth vs118 0) (fun t120 => K X.r [(Value.bool t120)] h116)) (fun i119 => cond (Nat.beq i119 4) (
intK IntKind.i64 (nth vs118 4) (fun x121 => I [(nth vs118 0), (nth vs118 1), (nth vs118 2), (nth vs118 3), (Value.int IntKind.i64 (IntKind.wrap IntKind.i64 (x121 + (1 : Int))))] h116)) (False)) (fun c => (fun c h => K (X.p c) [] h) c h116))) (
K (X.e 2) [] h101)))
def loop40_17 (D : Orc) (vs : List Value) (h : H) (K : Kl) : Prop := ∀ I : List Value → H → Prop, (∀ a0 a1 a2 a3 a4 h, round40_17 D I K a0 a1 a2 a3 a4 h → I [a0, a1, a2, a3, a4] h) → I vs h
def j40__4 (D : Orc) (k : Kv) (kp : Kp) (a0 a1 a2 : Value) (h40 : H) : Prop :=
boolW a2 (fun t41 => cond t41 (
k (Value.bool false) h40) (
newSl h40 0 [] (fun s42 h43 => ptrW a0 (fun ad44 => ∃ v45 : Value, rd h43 (Addr.add ad44 0) = some v45 ∧ ptrW a0 (fun ad46 => ∃ v47 : Value, rd h43 (Addr.add ad46 1) = some v47 ∧ slenW v45 (fun n48 => srcW h43 1 v45 (n48) (fun w49 => apW h43 1 8 [(Value.int IntKind.i64 (0 : Int))] s42 (n48) w49 (fun s50 h51 => (rd h51 (Addr.add ad46 1) = some v47) ∧ slenW v47 (fun n52 => srcW h51 1 v47 (n52) (fun w53 => apW h51 1 8 [(Value.int IntKind.i64 (0 : Int))] s50 (n52) w53 (fun s54 h55 => newSl h55 0 [] (fun s56 h57 => ptrW a1 (fun ad58 => ∃ v59 : Value, rd h57 (Addr.add ad58 0) = some v59 ∧ ptrW a1 (fun ad60 => ∃ v61 : Value, rd h57 (Addr.add ad60 1) = some v61 ∧ slenW v59 (fun n62 => srcW h57 1 v59 (n62) (fun w63 => apW h57 1 8 [(Value.int IntKind.i64 (0 : Int))] s56 (n62) w63 (fun s64 h65 => (rd h65 (Addr.add ad60 1) = some v61) ∧ slenW v61 (fun n66 => srcW h65 1 v61 (n66) (fun w67 => apW h65 1 8 [(Value.int IntKind.i64 (0 : Int))] s64 (n66) w67 (fun s68 h69 => loop40_8 D [s54, s68, (Value.int IntKind.i64 (0 : Int))] h69 (fun x89 vs90 h88 => xs x89 (boolW (nth vs90 0) (fun t92 => k (Value.bool t92) h88)) (fun i91 => cond (Nat.beq i91 0) (
D 61 [(nth vs90 0)] h88 (fun v93 h94 => ∃ v95 : Value, v93 = v95 ∧ D 61 [(nth vs90 1)] h94 (fun v96 h97 => ∃ v98 : Value, v96 = v98 ∧ lenW v95 (fun n99 => lenW v98 (fun n100 => cond ((n99 : Int) != (n100 : Int)) (
k (Value.bool false) h97) (
loop40_17 D [(nth vs90 0), (nth vs90 1), v95, v98, (Value.int IntKind.i64 (0 : Int))] h97 (fun x123 vs124 h122 => xs x123 (boolW (nth vs124 0) (fun t126 => k (Value.bool t126) h122)) (fun i125 => cond (Nat.beq i125 2) (
k (Value.bool true) h122) (False)) (fun c => kp c h122)))))) kp) kp) (False)) (fun c => kp c h88))))))))))))))))))))))
def j40__2 (D : Orc) (k : Kv) (kp : Kp) (a0 a1 a2 : Value) (h26 : H) : Prop :=
boolW a2 (fun t27 => cond t27 (
k (Value.bool false) h26) (
ptrW a0 (fun ad28 => ∃ v29 : Value, rd h26 (Addr.add ad28 0) = some v29 ∧ lenW v29 (fun n30 => ptrW a1 (fun ad31 => ∃ v32 : Value, rd h26 (Addr.add ad31 0) = some v32 ∧ lenW v32 (fun n33 => cond (!((n30 : Int) != (n33 : Int))) (
ptrW a0 (fun ad34 => ∃ v35 : Value, rd h26 (Addr.add ad34 1) = some v35 ∧ lenW v35 (fun n36 => ptrW a1 (fun ad37 => ∃ v38 : Value, rd h26 (Addr.add ad37 1) = some v38 ∧ lenW v38 (fun n39 => j40__4 D k kp a0 a1 (Value.bool ((n36 : Int) != (n39 : Int))) h26))))) (
j40__4 D k kp a0 a1 (Value.bool true) h26)))))))
def L40 (D : Orc) : Lor := fun b vs h K => match firstId b with | some i => cond (Nat.beq i 8) (loop40_8 D vs h K) (cond (Nat.beq i 17) (loop40_17 D vs h K) (cond (Nat.beq i 20) (loop40_20 D vs h K) (False))) | none => False
/-- lodestone/lodestoneref05.Variant -/
def F40 (D : Orc) (a0 a1 a2 : Value) (h : H) (k : Kv) (kp : Kp) : Prop :=
aggW a1 (fun l0 => newW h l0 (fun p1 h2 => aggW a2 (fun l3 => newW h2 l3 (fun p4 h5 => ptrW p1 (fun ad6 => ∃ v7 : Value, rd h5 (Addr.add ad6 0) = some v7 ∧ D 69 [a0, v7] h5 (fun v8 h9 => ∃ x10 : Int, v8 = (Value.int IntKind.i64 x10) ∧ cond (!(x10 != (0 : Int))) (
ptrW p1 (fun ad11 => ∃ v12 : Value, rd h9 (Addr.add ad11 1) = some v12 ∧ D 69 [a0, v12] h9 (fun v13 h14 => ∃ x15 : Int, v13 = (Value.int IntKind.i64 x15) ∧ cond (!(x15 != (0 : Int))) (
ptrW p4 (fun ad16 => ∃ v17 : Value, rd h14 (Addr.add ad16 0) = some v17 ∧ D 69 [a0, v17] h14 (fun v18 h19 => ∃ x20 : Int, v18 = (Value.int IntKind.i64 x20) ∧ cond (!(x20 != (0 : Int))) (
ptrW p4 (fun ad21 => ∃ v22 : Value, rd h19 (Addr.add ad21 1) = some v22 ∧ D 69 [a0, v22] h19 (fun v23 h24 => ∃ x25 : Int, v23 = (Value.int IntKind.i64 x25) ∧ j40__2 D k kp p1 p4 (Value.bool (x25 != (0 : Int))) h24) kp)) (
j40__2 D k kp p1 p4 (Value.bool true) h19)) kp)) (
j40__2 D k kp p1 p4 (Value.bool true) h14)) kp)) (
j40__2 D k kp p1 p4 (Value.bool true) h9)) kp)))))
def Cl40 (D : Orc) : Prop := ∀ a0 a1 a2 h k kp, F40 D a0 a1 a2 h k kp → D 40 [a0, a1, a2] h k kp
theorem tieR40_8 (D : Orc) (I : List Value → H → Prop) (K : Kl) (a0 a1 a2 : Value) (h : H) : round40_8 D I K a0 a1 a2 h = round Tryd.prog D (L40 D) lv40 (nthC (allLoops (bodyOf Tryd.f40)) 0) I K [a0, a1, a2] h := by kernel_rfl
theorem tieR40_17 (D : Orc) (I : List Value → H → Prop) (K : Kl) (a0 a1 a2 a3 a4 : Value) (h : H) : round40_17 D I K a0 a1 a2 a3 a4 h = round Tryd.prog D (L40 D) lv40 (nthC (allLoops (bodyOf Tryd.f40)) 1) I K [a0, a1, a2, a3, a4] h := by kernel_rfl
theorem tieR40_20 (D : Orc) (I : List Value → H → Prop) (K : Kl) (a0 a1 a2 a3 a4 a5 : Value) (h : H) : round40_20 D I K a0 a1 a2 a3 a4 a5 h = round Tryd.prog D (L40 D) lv40 (nthC (allLoops (bodyOf Tryd.f40)) 2) I K [a0, a1, a2, a3, a4, a5] h := by kernel_rfl
theorem tieF40 (D : Orc) (a0 a1 a2 : Value) (h : H) (k : Kv) (kp : Kp) : F40 D a0 a1 a2 h k kp = bodyW Tryd.prog D (L40 D) lv40 Tryd.f40 [a0, a1, a2] h k kp := by kernel_rfl
theorem lfp40 : Lfps Tryd.prog (CS Tryd.prog) (L40 (CS Tryd.prog)) lv40 (allLoops (bodyOf Tryd.f40)) := by
  have e : (allLoops (bodyOf Tryd.f40)) = [nthC (allLoops (bodyOf Tryd.f40)) 0, nthC (allLoops (bodyOf Tryd.f40)) 1, nthC (allLoops (bodyOf Tryd.f40)) 2] := by kernel_rfl
  rw [e]
  exact ⟨(fun vs h K hk I H => hk I (fun a0 a1 a2 h hr => H _ _ ((tieR40_8 (CS Tryd.prog) I K a0 a1 a2 h) ▸ hr))), (fun vs h K hk I H => hk I (fun a0 a1 a2 a3 a4 h hr => H _ _ ((tieR40_17 (CS Tryd.prog) I K a0 a1 a2 a3 a4 h) ▸ hr))), (fun vs h K hk I H => hk I (fun a0 a1 a2 a3 a4 a5 h hr => H _ _ ((tieR40_20 (CS Tryd.prog) I K a0 a1 a2 a3 a4 a5 h) ▸ hr))), trivial⟩
theorem cl40 : Cl40 (CS Tryd.prog) := fun a0 a1 a2 h k kp hk =>
  fn_sound wide (fn := Tryd.f40) (by kernel_rfl) (by kernel_rfl) (by kernel_rfl) lfp40 (by rw [tieF40] at hk; exact hk)
def lv44 : Lv := Lv.mk 61 [.raw] (fun i => cond (Nat.beq i 4) ([(0, .raw), (9, .raw), (10, .int IntKind.i64), (11, .int IntKind.i64)]) ([])) (fun i => cond (Nat.beq i 4) ([(0, [])]) ([])) [(2, .int IntKind.i64)] (fun i => cond (Nat.beq i 8) (some [(0, .raw), (3, .int IntKind.i64), (4, .raw), (9, .raw), (10, .int IntKind.i64), (11, .int IntKind.i64), (19, .bool)]) (cond (Nat.beq i 10) (some [(0, .raw), (3, .int IntKind.i64), (4, .raw), (9, .raw), (10, .int IntKind.i64), (11, .int IntKind.i64), (45, .bool)]) (none)))
def j44_4_10 (D : Orc) (I : List Value → H → Prop) (K : Kl) (a0 a1 a2 a3 a4 a5 a6 : Value) (h37 : H) : Prop :=
intK IntKind.i64 a1 (fun x38 => intK IntKind.i64 a4 (fun x39 => intK IntKind.i64 a5 (fun x40 => boolW a6 (fun t41 => cond t41 (
K X.r [(Value.int IntKind.i64 (35 : Int))] h37) (
slCutW a0 none (some x38) none 2 (fun s42 => D 54 [s42, (Value.func (Fn.func 73) #[] #[a2])] h37 (fun v43 h44 => ∃ t45 : Bool, v43 = (Value.bool t45) ∧ cond t45 (
K X.r [(Value.int IntKind.i64 (36 : Int))] h44) (
I [a0, a3, (Value.int IntKind.i64 x39), (Value.int IntKind.i64 (IntKind.wrap IntKind.i64 (x40 + (1 : Int))))] h44)) (fun c h => K (X.p c) [] h)))))))
def j44_4_8 (D : Orc) (I : List Value → H → Prop) (K : Kl) (a0 a1 a2 a3 a4 a5 a6 : Value) (h28 : H) : Prop :=
intK IntKind.i64 a1 (fun x29 => intK IntKind.i64 a4 (fun x30 => intK IntKind.i64 a5 (fun x31 => boolW a6 (fun t32 => cond t32 (
K X.r [(Value.int IntKind.i64 (34 : Int))] h28) (
ptrW a2 (fun ad33 => ∃ x34 : Int, rd h28 (Addr.add ad33 1) = some (Value.int IntKind.i64 x34) ∧ cond (!(decide (x34 < (0 : Int)))) (
ptrW a2 (fun ad35 => ∃ x36 : Int, rd h28 (Addr.add ad35 1) = some (Value.int IntKind.i64 x36) ∧ j44_4_10 D I K a0 (Value.int IntKind.i64 x29) a2 a3 (Value.int IntKind.i64 x30) (Value.int IntKind.i64 x31) (Value.bool (decide (x36 > (8 : Int)))) h28)) (
j44_4_10 D I K a0 (Value.int IntKind.i64 x29) a2 a3 (Value.int IntKind.i64 x30) (Value.int IntKind.i64 x31) (Value.bool true) h28)))))))
def round44_4 (D : Orc) (I : List Value → H → Prop) (K : Kl) (a0 a1 a2 a3 : Value) (h2 : H) : Prop :=
intK IntKind.i64 a2 (fun x3 => intK IntKind.i64 a3 (fun x4 => cond (decide (x4 < x3)) (
slAtW a1 x4 2 (fun ad5 => ∃ s6 : ByteArray, ∃ x7 : Int, rdN h2 ad5 2 = some [(Value.string s6), (Value.int IntKind.i64 x7)] ∧ newW h2 [(Value.string (ByteArray.mk #[])), (Value.int IntKind.i64 (0 : Int))] (fun p8 h9 => ptrW p8 (fun ad10 => 2 = 2 ∧ List.all [(Value.string s6), (Value.int IntKind.i64 x7)] one = true ∧ ∃ h11, wr h9 ad10 [(Value.string s6), (Value.int IntKind.i64 x7)] = some h11 ∧ ptrW p8 (fun ad12 => ∃ s13 : ByteArray, rd h11 (Addr.add ad12 0) = some (Value.string s13) ∧ ptrW p8 (fun ad14 => ∃ s15 : ByteArray, rd h11 (Addr.add ad14 0) = some (Value.string s15) ∧ D 72 [(Value.string s15)] h11 (fun v16 h17 => ∃ t18 : Bool, v16 = (Value.bool t18) ∧ cond (!t18) (
cond (!((s13.size : Int) == (0 : Int))) (
ptrW p8 (fun ad19 => ∃ s20 : ByteArray, rd h17 (Addr.add ad19 0) = some (Value.string s20) ∧ strAtW s20 (IntKind.wrap IntKind.i64 ((s13.size : Int) - (1 : Int))) (fun x21 => cond (!(x21 != (35 : Int))) (
ptrW p8 (fun ad22 => ∃ s23 : ByteArray, rd h17 (Addr.add ad22 0) = some (Value.string s23) ∧ strCutW s23 none (some (IntKind.wrap IntKind.i64 ((s13.size : Int) - (1 : Int)))) (fun s24 => D 72 [(Value.string s24)] h17 (fun v25 h26 => ∃ t27 : Bool, v25 = (Value.bool t27) ∧ j44_4_8 D I K a0 (Value.int IntKind.i64 x4) p8 a1 (Value.int IntKind.i64 x3) (Value.int IntKind.i64 x4) (Value.bool (!t27)) h26) (fun c h => K (X.p c) [] h)))) (
j44_4_8 D I K a0 (Value.int IntKind.i64 x4) p8 a1 (Value.int IntKind.i64 x3) (Value.int IntKind.i64 x4) (Value.bool true) h17)))) (
j44_4_8 D I K a0 (Value.int IntKind.i64 x4) p8 a1 (Value.int IntKind.i64 x3) (Value.int IntKind.i64 x4) (Value.bool true) h17)) (
j44_4_8 D I K a0 (Value.int IntKind.i64 x4) p8 a1 (Value.int IntKind.i64 x3) (Value.int IntKind.i64 x4) (Value.bool false) h17)) (fun c h => K (X.p c) [] h))))))) (
K (X.e 0) [] h2)))
def loop44_4 (D : Orc) (vs : List Value) (h : H) (K : Kl) : Prop := ∀ I : List Value → H → Prop, (∀ a0 a1 a2 a3 h, round44_4 D I K a0 a1 a2 a3 h → I [a0, a1, a2, a3] h) → I vs h
def L44 (D : Orc) : Lor := fun b vs h K => match firstId b with | some i => cond (Nat.beq i 4) (loop44_4 D vs h K) (False) | none => False
/-- lodestone/term.CheckSig -/
def F44 (D : Orc) (a0 : Value) (h : H) (k : Kv) (kp : Kp) : Prop :=
lenW a0 (fun n0 => cond (decide ((n0 : Int) > (128 : Int))) (
k (Value.int IntKind.i64 (37 : Int)) h) (
lenW a0 (fun n1 => loop44_4 D [a0, a0, (Value.int IntKind.i64 (n1 : Int)), (Value.int IntKind.i64 (0 : Int))] h (fun x47 vs48 h46 => xs x47 (intK IntKind.i64 (nth vs48 0) (fun x50 => k (Value.int IntKind.i64 x50) h46)) (fun i49 => cond (Nat.beq i49 0) (
k (Value.int IntKind.i64 (0 : Int)) h46) (False)) (fun c => kp c h46)))))
def Cl44 (D : Orc) : Prop := ∀ a0 h k kp, F44 D a0 h k kp → D 44 [a0] h k kp
theorem tieR44_4 (D : Orc) (I : List Value → H → Prop) (K : Kl) (a0 a1 a2 a3 : Value) (h : H) : round44_4 D I K a0 a1 a2 a3 h = round Tryd.prog D (L44 D) lv44 (nthC (allLoops (bodyOf Tryd.f44)) 0) I K [a0, a1, a2, a3] h := by kernel_rfl
theorem tieF44 (D : Orc) (a0 : Value) (h : H) (k : Kv) (kp : Kp) : F44 D a0 h k kp = bodyW Tryd.prog D (L44 D) lv44 Tryd.f44 [a0] h k kp := by kernel_rfl
theorem lfp44 : Lfps Tryd.prog (CS Tryd.prog) (L44 (CS Tryd.prog)) lv44 (allLoops (bodyOf Tryd.f44)) := by
  have e : (allLoops (bodyOf Tryd.f44)) = [nthC (allLoops (bodyOf Tryd.f44)) 0] := by kernel_rfl
  rw [e]
  exact ⟨(fun vs h K hk I H => hk I (fun a0 a1 a2 a3 h hr => H _ _ ((tieR44_4 (CS Tryd.prog) I K a0 a1 a2 a3 h) ▸ hr))), trivial⟩
theorem cl44 : Cl44 (CS Tryd.prog) := fun a0 h k kp hk =>
  fn_sound wide (fn := Tryd.f44) (by kernel_rfl) (by kernel_rfl) (by kernel_rfl) lfp44 (by rw [tieF44] at hk; exact hk)
def lv46 : Lv := Lv.mk 8 [.str, .str] (fun i => []) (fun i => []) [(4, .bool)] (fun i => none)
def L46 (D : Orc) : Lor := fun b vs h K => match firstId b with | some i => False | none => False
/-- strings.HasSuffix -/
def F46 (D : Orc) (a0 a1 : Value) (h : H) (k : Kv) (kp : Kp) : Prop :=
strW a0 (fun s0 => strW a1 (fun s1 => D 74 [(Value.string s0), (Value.string s1)] h (fun v2 h3 => ∃ t4 : Bool, v2 = (Value.bool t4) ∧ k (Value.bool t4) h3) kp))
def Cl46 (D : Orc) : Prop := ∀ a0 a1 h k kp, F46 D a0 a1 h k kp → D 46 [a0, a1] h k kp
theorem tieF46 (D : Orc) (a0 a1 : Value) (h : H) (k : Kv) (kp : Kp) : F46 D a0 a1 h k kp = bodyW Tryd.prog D (L46 D) lv46 Tryd.f46 [a0, a1] h k kp := by kernel_rfl
theorem lfp46 : Lfps Tryd.prog (CS Tryd.prog) (L46 (CS Tryd.prog)) lv46 (allLoops (bodyOf Tryd.f46)) := by
  have e : (allLoops (bodyOf Tryd.f46)) = [] := by kernel_rfl
  rw [e]
  exact trivial
theorem cl46 : Cl46 (CS Tryd.prog) := fun a0 a1 h k kp hk =>
  fn_sound wide (fn := Tryd.f46) (by kernel_rfl) (by kernel_rfl) (by kernel_rfl) lfp46 (by rw [tieF46] at hk; exact hk)
def lv48 : Lv := Lv.mk 8 [.raw] (fun i => []) (fun i => []) [(2, .raw)] (fun i => none)
def L48 (D : Orc) : Lor := fun b vs h K => match firstId b with | some i => False | none => False
/-- slices.Clone[[]int,int] -/
def F48 (D : Orc) (a0 : Value) (h : H) (k : Kv) (kp : Kp) : Prop :=
eqSl a0 (Value.slice none 0 0) (fun t0 => cond t0 (
k (Value.slice none 0 0) h) (
newSl h 0 [] (fun s1 h2 => slenW a0 (fun n3 => srcW h2 1 a0 (n3) (fun w4 => apW h2 1 8 [(Value.int IntKind.i64 (0 : Int))] s1 (n3) w4 (fun s5 h6 => k s5 h6))))))
def Cl48 (D : Orc) : Prop := ∀ a0 h k kp, F48 D a0 h k kp → D 48 [a0] h k kp
theorem tieF48 (D : Orc) (a0 : Value) (h : H) (k : Kv) (kp : Kp) : F48 D a0 h k kp = bodyW Tryd.prog D (L48 D) lv48 Tryd.f48 [a0] h k kp := by kernel_rfl
theorem lfp48 : Lfps Tryd.prog (CS Tryd.prog) (L48 (CS Tryd.prog)) lv48 (allLoops (bodyOf Tryd.f48)) := by
  have e : (allLoops (bodyOf Tryd.f48)) = [] := by kernel_rfl
  rw [e]
  exact trivial
theorem cl48 : Cl48 (CS Tryd.prog) := fun a0 h k kp hk =>
  fn_sound wide (fn := Tryd.f48) (by kernel_rfl) (by kernel_rfl) (by kernel_rfl) lfp48 (by rw [tieF48] at hk; exact hk)
def lv49 : Lv := Lv.mk 9 [.raw, .int IntKind.i64] (fun i => []) (fun i => []) [(4, .bool)] (fun i => none)
def L49 (D : Orc) : Lor := fun b vs h K => match firstId b with | some i => False | none => False
/-- slices.Contains[[]int,int] -/
def F49 (D : Orc) (a0 a1 : Value) (h : H) (k : Kv) (kp : Kp) : Prop :=
intK IntKind.i64 a1 (fun x0 => D 75 [a0, (Value.int IntKind.i64 x0)] h (fun v1 h2 => ∃ x3 : Int, v1 = (Value.int IntKind.i64 x3) ∧ k (Value.bool (decide (x3 ≥ (0 : Int)))) h2) kp)
def Cl49 (D : Orc) : Prop := ∀ a0 a1 h k kp, F49 D a0 a1 h k kp → D 49 [a0, a1] h k kp
theorem tieF49 (D : Orc) (a0 a1 : Value) (h : H) (k : Kv) (kp : Kp) : F49 D a0 a1 h k kp = bodyW Tryd.prog D (L49 D) lv49 Tryd.f49 [a0, a1] h k kp := by kernel_rfl
theorem lfp49 : Lfps Tryd.prog (CS Tryd.prog) (L49 (CS Tryd.prog)) lv49 (allLoops (bodyOf Tryd.f49)) := by
  have e : (allLoops (bodyOf Tryd.f49)) = [] := by kernel_rfl
  rw [e]
  exact trivial
theorem cl49 : Cl49 (CS Tryd.prog) := fun a0 a1 h k kp hk =>
  fn_sound wide (fn := Tryd.f49) (by kernel_rfl) (by kernel_rfl) (by kernel_rfl) lfp49 (by rw [tieF49] at hk; exact hk)
def lv54 : Lv := Lv.mk 9 [.raw, .raw] (fun i => []) (fun i => []) [(4, .bool)] (fun i => none)
def L54 (D : Orc) : Lor := fun b vs h K => match firstId b with | some i => False | none => False
/-- slices.ContainsFunc[[]lodestone/api.Symbol,lodestone/api.Symbol] -/
def F54 (D : Orc) (a0 a1 : Value) (h : H) (k : Kv) (kp : Kp) : Prop :=
D 77 [a0, a1] h (fun v0 h1 => ∃ x2 : Int, v0 = (Value.int IntKind.i64 x2) ∧ k (Value.bool (decide (x2 ≥ (0 : Int)))) h1) kp
def Cl54 (D : Orc) : Prop := ∀ a0 a1 h k kp, F54 D a0 a1 h k kp → D 54 [a0, a1] h k kp
theorem tieF54 (D : Orc) (a0 a1 : Value) (h : H) (k : Kv) (kp : Kp) : F54 D a0 a1 h k kp = bodyW Tryd.prog D (L54 D) lv54 Tryd.f54 [a0, a1] h k kp := by kernel_rfl
theorem lfp54 : Lfps Tryd.prog (CS Tryd.prog) (L54 (CS Tryd.prog)) lv54 (allLoops (bodyOf Tryd.f54)) := by
  have e : (allLoops (bodyOf Tryd.f54)) = [] := by kernel_rfl
  rw [e]
  exact trivial
theorem cl54 : Cl54 (CS Tryd.prog) := fun a0 a1 h k kp hk =>
  fn_sound wide (fn := Tryd.f54) (by kernel_rfl) (by kernel_rfl) (by kernel_rfl) lfp54 (by rw [tieF54] at hk; exact hk)
def lv55 : Lv := Lv.mk 6 [.raw] (fun i => []) (fun i => []) [(2, .bool)] (fun i => none)
def L55 (D : Orc) : Lor := fun b vs h K => match firstId b with | some i => False | none => False
/-- lodestone/system.plain$1 -/
def F55 (D : Orc) (a0 : Value) (h : H) (k : Kv) (kp : Kp) : Prop :=
aggW a0 (fun l0 => newW h l0 (fun p1 h2 => ptrW p1 (fun ad3 => ∃ s4 : ByteArray, rd h2 (Addr.add ad3 0) = some (Value.string s4) ∧ D 46 [(Value.string s4), (Value.string (ByteArray.mk #[35]))] h2 (fun v5 h6 => ∃ t7 : Bool, v5 = (Value.bool t7) ∧ k (Value.bool t7) h6) kp)))
def Cl55 (D : Orc) : Prop := ∀ a0 h k kp, F55 D a0 h k kp → D 55 [a0] h k kp
theorem tieF55 (D : Orc) (a0 : Value) (h : H) (k : Kv) (kp : Kp) : F55 D a0 h k kp = bodyW Tryd.prog D (L55 D) lv55 Tryd.f55 [a0] h k kp := by kernel_rfl
theorem lfp55 : Lfps Tryd.prog (CS Tryd.prog) (L55 (CS Tryd.prog)) lv55 (allLoops (bodyOf Tryd.f55)) := by
  have e : (allLoops (bodyOf Tryd.f55)) = [] := by kernel_rfl
  rw [e]
  exact trivial
theorem cl55 : Cl55 (CS Tryd.prog) := fun a0 h k kp hk =>
  fn_sound wide (fn := Tryd.f55) (by kernel_rfl) (by kernel_rfl) (by kernel_rfl) lfp55 (by rw [tieF55] at hk; exact hk)
def lv56 : Lv := Lv.mk 14 [.raw, .raw] (fun i => []) (fun i => []) [(4, .int IntKind.i64)] (fun i => none)
def L56 (D : Orc) : Lor := fun b vs h K => match firstId b with | some i => False | none => False
/-- lodestone/term.Right -/
def F56 (D : Orc) (a0 a1 : Value) (h : H) (k : Kv) (kp : Kp) : Prop :=
D 78 [a0, a1] h (fun v0 h1 => ∃ v2 : Value, ∃ x3 : Int, v0 = (Value.tuple #[v2, (Value.int IntKind.i64 x3)]) ∧ k (Value.int IntKind.i64 x3) h1) kp
def Cl56 (D : Orc) : Prop := ∀ a0 a1 h k kp, F56 D a0 a1 h k kp → D 56 [a0, a1] h k kp
theorem tieF56 (D : Orc) (a0 a1 : Value) (h : H) (k : Kv) (kp : Kp) : F56 D a0 a1 h k kp = bodyW Tryd.prog D (L56 D) lv56 Tryd.f56 [a0, a1] h k kp := by kernel_rfl
theorem lfp56 : Lfps Tryd.prog (CS Tryd.prog) (L56 (CS Tryd.prog)) lv56 (allLoops (bodyOf Tryd.f56)) := by
  have e : (allLoops (bodyOf Tryd.f56)) = [] := by kernel_rfl
  rw [e]
  exact trivial
theorem cl56 : Cl56 (CS Tryd.prog) := fun a0 a1 h k kp hk =>
  fn_sound wide (fn := Tryd.f56) (by kernel_rfl) (by kernel_rfl) (by kernel_rfl) lfp56 (by rw [tieF56] at hk; exact hk)
def lv57 : Lv := Lv.mk 39 [.raw] (fun i => cond (Nat.beq i 4) ([(3, .raw), (4, .raw), (10, .raw), (11, .int IntKind.i64), (12, .int IntKind.i64)]) ([])) (fun i => cond (Nat.beq i 4) ([(0, [(4, .raw)])]) ([])) [(2, .raw)] (fun i => cond (Nat.beq i 10) (some [(3, .raw), (4, .raw), (10, .raw), (11, .int IntKind.i64), (12, .int IntKind.i64)]) (cond (Nat.beq i 8) (some [(3, .raw), (4, .raw), (5, .int IntKind.i64), (6, .int IntKind.i64), (10, .raw), (11, .int IntKind.i64), (12, .int IntKind.i64), (28, .bool)]) (none)))
def j57_4_10 (D : Orc) (I : List Value → H → Prop) (K : Kl) (a0 a1 a2 a3 a4 : Value) (h25 : H) : Prop :=
intK IntKind.i64 a3 (fun x26 => intK IntKind.i64 a4 (fun x27 => I [a0, a1, a2, (Value.int IntKind.i64 x26), (Value.int IntKind.i64 (IntKind.wrap IntKind.i64 (x27 + (1 : Int))))] h25))
def j57_4_8 (D : Orc) (I : List Value → H → Prop) (K : Kl) (a0 a1 a2 a3 a4 a5 a6 a7 : Value) (h12 : H) : Prop :=
intK IntKind.i64 a2 (fun x13 => intK IntKind.i64 a3 (fun x14 => intK IntKind.i64 a5 (fun x15 => intK IntKind.i64 a6 (fun x16 => boolW a7 (fun t17 => cond t17 (
mapU h12 a0 (TypeDesc.int IntKind.i64) (Value.int IntKind.i64 x14) (Value.int IntKind.i64 x13) (fun h18 => one (Value.int IntKind.i64 (IntKind.wrap IntKind.i64 ((-1 : Int) - x14))) = true ∧ 0 < 1 ∧ newSl h18 1 [(Value.int IntKind.i64 (IntKind.wrap IntKind.i64 ((-1 : Int) - x14)))] (fun s19 h20 => slenW s19 (fun n21 => srcW h20 1 s19 (n21) (fun w22 => apW h20 1 8 [(Value.int IntKind.i64 (0 : Int))] a1 (n21) w22 (fun s23 h24 => j57_4_10 D I K a0 s23 a4 (Value.int IntKind.i64 x15) (Value.int IntKind.i64 x16) h24)))))) (
j57_4_10 D I K a0 a1 a4 (Value.int IntKind.i64 x15) (Value.int IntKind.i64 x16) h12))))))
def round57_4 (D : Orc) (I : List Value → H → Prop) (K : Kl) (a0 a1 a2 a3 a4 : Value) (h3 : H) : Prop :=
intK IntKind.i64 a3 (fun x4 => intK IntKind.i64 a4 (fun x5 => cond (decide (x5 < x4)) (
slAtW a2 x5 1 (fun ad6 => ∃ x7 : Int, rd h3 ad6 = some (Value.int IntKind.i64 x7) ∧ mapK h3 a0 (fun es8 => lookW (TypeDesc.int IntKind.i64) (Value.int IntKind.i64 x7) es8 (Value.int IntKind.i64 (0 : Int)) (fun v9 t10 => ∃ x11 : Int, v9 = (Value.int IntKind.i64 x11) ∧ cond (decide (x7 < (0 : Int))) (
j57_4_8 D I K a0 a1 (Value.int IntKind.i64 x5) (Value.int IntKind.i64 x7) a2 (Value.int IntKind.i64 x4) (Value.int IntKind.i64 x5) (Value.bool (!t10)) h3) (
j57_4_8 D I K a0 a1 (Value.int IntKind.i64 x5) (Value.int IntKind.i64 x7) a2 (Value.int IntKind.i64 x4) (Value.int IntKind.i64 x5) (Value.bool false) h3))))) (
K (X.e 0) [a1] h3)))
def loop57_4 (D : Orc) (vs : List Value) (h : H) (K : Kl) : Prop := ∀ I : List Value → H → Prop, (∀ a0 a1 a2 a3 a4 h, round57_4 D I K a0 a1 a2 a3 a4 h → I [a0, a1, a2, a3, a4] h) → I vs h
def L57 (D : Orc) : Lor := fun b vs h K => match firstId b with | some i => cond (Nat.beq i 4) (loop57_4 D vs h K) (False) | none => False
/-- lodestone/term.Vars -/
def F57 (D : Orc) (a0 : Value) (h : H) (k : Kv) (kp : Kp) : Prop :=
newMap h (fun m0 h1 => lenW a0 (fun n2 => loop57_4 D [m0, (Value.slice none 0 0), a0, (Value.int IntKind.i64 (n2 : Int)), (Value.int IntKind.i64 (0 : Int))] h1 (fun x29 vs30 h28 => xs x29 (k (nth vs30 0) h28) (fun i31 => cond (Nat.beq i31 0) (
k (nth vs30 0) h28) (False)) (fun c => kp c h28))))
def Cl57 (D : Orc) : Prop := ∀ a0 h k kp, F57 D a0 h k kp → D 57 [a0] h k kp
theorem tieR57_4 (D : Orc) (I : List Value → H → Prop) (K : Kl) (a0 a1 a2 a3 a4 : Value) (h : H) : round57_4 D I K a0 a1 a2 a3 a4 h = round Tryd.prog D (L57 D) lv57 (nthC (allLoops (bodyOf Tryd.f57)) 0) I K [a0, a1, a2, a3, a4] h := by kernel_rfl
theorem tieF57 (D : Orc) (a0 : Value) (h : H) (k : Kv) (kp : Kp) : F57 D a0 h k kp = bodyW Tryd.prog D (L57 D) lv57 Tryd.f57 [a0] h k kp := by kernel_rfl
theorem lfp57 : Lfps Tryd.prog (CS Tryd.prog) (L57 (CS Tryd.prog)) lv57 (allLoops (bodyOf Tryd.f57)) := by
  have e : (allLoops (bodyOf Tryd.f57)) = [nthC (allLoops (bodyOf Tryd.f57)) 0] := by kernel_rfl
  rw [e]
  exact ⟨(fun vs h K hk I H => hk I (fun a0 a1 a2 a3 a4 h hr => H _ _ ((tieR57_4 (CS Tryd.prog) I K a0 a1 a2 a3 a4 h) ▸ hr))), trivial⟩
theorem cl57 : Cl57 (CS Tryd.prog) := fun a0 h k kp hk =>
  fn_sound wide (fn := Tryd.f57) (by kernel_rfl) (by kernel_rfl) (by kernel_rfl) lfp57 (by rw [tieF57] at hk; exact hk)
def lv58 : Lv := Lv.mk 60 [.raw] (fun i => cond (Nat.beq i 4) ([(0, .raw), (3, .int IntKind.i64)]) (cond (Nat.beq i 11) ([(0, .raw), (3, .int IntKind.i64), (4, .int IntKind.i64)]) ([]))) (fun i => cond (Nat.beq i 4) ([(0, [])]) (cond (Nat.beq i 11) ([(2, [(0, .raw), (3, .int IntKind.i64)])]) ([]))) [(2, .int IntKind.i64)] (fun i => cond (Nat.beq i 7) (some [(0, .raw), (3, .int IntKind.i64), (29, .bool)]) (cond (Nat.beq i 9) (some [(0, .raw), (3, .int IntKind.i64), (43, .bool)]) (none)))
def round58_11 (D : Orc) (I : List Value → H → Prop) (K : Kl) (a0 a1 a2 : Value) (h24 : H) : Prop :=
intK IntKind.i64 a1 (fun x25 => intK IntKind.i64 a2 (fun x26 => cond (decide (x26 < x25)) (
slAtW a0 x26 2 (fun ad27 => ∃ s28 : ByteArray, rd h24 (Addr.add ad27 0) = some (Value.string s28) ∧ slAtW a0 x25 2 (fun ad29 => ∃ s30 : ByteArray, rd h24 (Addr.add ad29 0) = some (Value.string s30) ∧ cond (s28.toList == s30.toList) (
K X.r [(Value.int IntKind.i64 (36 : Int))] h24) (
I [a0, (Value.int IntKind.i64 x25), (Value.int IntKind.i64 (IntKind.wrap IntKind.i64 (x26 + (1 : Int))))] h24)))) (
K (X.e 2) [a0, (Value.int IntKind.i64 x25)] h24)))
def loop58_11 (D : Orc) (vs : List Value) (h : H) (K : Kl) : Prop := ∀ I : List Value → H → Prop, (∀ a0 a1 a2 h, round58_11 D I K a0 a1 a2 h → I [a0, a1, a2] h) → I vs h
def j58_4_9 (D : Orc) (I : List Value → H → Prop) (K : Kl) (a0 a1 a2 : Value) (h21 : H) : Prop :=
intK IntKind.i64 a1 (fun x22 => boolW a2 (fun t23 => cond t23 (
K X.r [(Value.int IntKind.i64 (35 : Int))] h21) (
loop58_11 D [a0, (Value.int IntKind.i64 x22), (Value.int IntKind.i64 (0 : Int))] h21 (fun x32 vs33 h31 => xs x32 (intK IntKind.i64 (nth vs33 0) (fun x35 => K X.r [(Value.int IntKind.i64 x35)] h31)) (fun i34 => cond (Nat.beq i34 2) (
intK IntKind.i64 (nth vs33 1) (fun x36 => I [(nth vs33 0), (Value.int IntKind.i64 (IntKind.wrap IntKind.i64 (x36 + (1 : Int))))] h31)) (False)) (fun c => (fun c h => K (X.p c) [] h) c h31)))))
def j58_4_7 (D : Orc) (I : List Value → H → Prop) (K : Kl) (a0 a1 a2 : Value) (h14 : H) : Prop :=
intK IntKind.i64 a1 (fun x15 => boolW a2 (fun t16 => cond t16 (
K X.r [(Value.int IntKind.i64 (34 : Int))] h14) (
slAtW a0 x15 2 (fun ad17 => ∃ x18 : Int, rd h14 (Addr.add ad17 1) = some (Value.int IntKind.i64 x18) ∧ cond (!(decide (x18 < (0 : Int)))) (
slAtW a0 x15 2 (fun ad19 => ∃ x20 : Int, rd h14 (Addr.add ad19 1) = some (Value.int IntKind.i64 x20) ∧ j58_4_9 D I K a0 (Value.int IntKind.i64 x15) (Value.bool (decide (x20 > (8 : Int)))) h14)) (
j58_4_9 D I K a0 (Value.int IntKind.i64 x15) (Value.bool true) h14)))))
def round58_4 (D : Orc) (I : List Value → H → Prop) (K : Kl) (a0 a1 : Value) (h1 : H) : Prop :=
intK IntKind.i64 a1 (fun x2 => lenW a0 (fun n3 => cond (decide (x2 < (n3 : Int))) (
slAtW a0 x2 2 (fun ad4 => ∃ s5 : ByteArray, rd h1 (Addr.add ad4 0) = some (Value.string s5) ∧ D 79 [(Value.string s5)] h1 (fun v6 h7 => ∃ t8 : Bool, v6 = (Value.bool t8) ∧ cond (!t8) (
slAtW a0 x2 2 (fun ad9 => ∃ s10 : ByteArray, rd h7 (Addr.add ad9 0) = some (Value.string s10) ∧ D 59 [(Value.string s10)] h7 (fun v11 h12 => ∃ t13 : Bool, v11 = (Value.bool t13) ∧ j58_4_7 D I K a0 (Value.int IntKind.i64 x2) (Value.bool (!t13)) h12) (fun c h => K (X.p c) [] h))) (
j58_4_7 D I K a0 (Value.int IntKind.i64 x2) (Value.bool false) h7)) (fun c h => K (X.p c) [] h))) (
K (X.e 0) [] h1)))
def loop58_4 (D : Orc) (vs : List Value) (h : H) (K : Kl) : Prop := ∀ I : List Value → H → Prop, (∀ a0 a1 h, round58_4 D I K a0 a1 h → I [a0, a1] h) → I vs h
def L58 (D : Orc) : Lor := fun b vs h K => match firstId b with | some i => cond (Nat.beq i 4) (loop58_4 D vs h K) (cond (Nat.beq i 11) (loop58_11 D vs h K) (False)) | none => False
/-- lodestone/lodestoneref03.CheckSig -/
def F58 (D : Orc) (a0 : Value) (h : H) (k : Kv) (kp : Kp) : Prop :=
lenW a0 (fun n0 => cond (decide ((n0 : Int) > (128 : Int))) (
k (Value.int IntKind.i64 (37 : Int)) h) (
loop58_4 D [a0, (Value.int IntKind.i64 (0 : Int))] h (fun x38 vs39 h37 => xs x38 (intK IntKind.i64 (nth vs39 0) (fun x41 => k (Value.int IntKind.i64 x41) h37)) (fun i40 => cond (Nat.beq i40 0) (
k (Value.int IntKind.i64 (0 : Int)) h37) (False)) (fun c => kp c h37))))
def Cl58 (D : Orc) : Prop := ∀ a0 h k kp, F58 D a0 h k kp → D 58 [a0] h k kp
theorem tieR58_4 (D : Orc) (I : List Value → H → Prop) (K : Kl) (a0 a1 : Value) (h : H) : round58_4 D I K a0 a1 h = round Tryd.prog D (L58 D) lv58 (nthC (allLoops (bodyOf Tryd.f58)) 0) I K [a0, a1] h := by kernel_rfl
theorem tieR58_11 (D : Orc) (I : List Value → H → Prop) (K : Kl) (a0 a1 a2 : Value) (h : H) : round58_11 D I K a0 a1 a2 h = round Tryd.prog D (L58 D) lv58 (nthC (allLoops (bodyOf Tryd.f58)) 1) I K [a0, a1, a2] h := by kernel_rfl
theorem tieF58 (D : Orc) (a0 : Value) (h : H) (k : Kv) (kp : Kp) : F58 D a0 h k kp = bodyW Tryd.prog D (L58 D) lv58 Tryd.f58 [a0] h k kp := by kernel_rfl
theorem lfp58 : Lfps Tryd.prog (CS Tryd.prog) (L58 (CS Tryd.prog)) lv58 (allLoops (bodyOf Tryd.f58)) := by
  have e : (allLoops (bodyOf Tryd.f58)) = [nthC (allLoops (bodyOf Tryd.f58)) 0, nthC (allLoops (bodyOf Tryd.f58)) 1] := by kernel_rfl
  rw [e]
  exact ⟨(fun vs h K hk I H => hk I (fun a0 a1 h hr => H _ _ ((tieR58_4 (CS Tryd.prog) I K a0 a1 h) ▸ hr))), (fun vs h K hk I H => hk I (fun a0 a1 a2 h hr => H _ _ ((tieR58_11 (CS Tryd.prog) I K a0 a1 a2 h) ▸ hr))), trivial⟩
theorem cl58 : Cl58 (CS Tryd.prog) := fun a0 h k kp hk =>
  fn_sound wide (fn := Tryd.f58) (by kernel_rfl) (by kernel_rfl) (by kernel_rfl) lfp58 (by rw [tieF58] at hk; exact hk)
def lv59 : Lv := Lv.mk 22 [.str] (fun i => []) (fun i => []) [(2, .bool)] (fun i => none)
def L59 (D : Orc) : Lor := fun b vs h K => match firstId b with | some i => False | none => False
/-- lodestone/lodestoneref03.Marked -/
def F59 (D : Orc) (a0 : Value) (h : H) (k : Kv) (kp : Kp) : Prop :=
strW a0 (fun s0 => cond (decide ((s0.size : Int) > (0 : Int))) (
strAtW s0 (IntKind.wrap IntKind.i64 ((s0.size : Int) - (1 : Int))) (fun x1 => cond (x1 == (35 : Int)) (
strCutW s0 none (some (IntKind.wrap IntKind.i64 ((s0.size : Int) - (1 : Int)))) (fun s2 => D 79 [(Value.string s2)] h (fun v3 h4 => ∃ t5 : Bool, v3 = (Value.bool t5) ∧ k (Value.bool t5) h4) kp)) (
k (Value.bool false) h))) (
k (Value.bool false) h))
def Cl59 (D : Orc) : Prop := ∀ a0 h k kp, F59 D a0 h k kp → D 59 [a0] h k kp
theorem tieF59 (D : Orc) (a0 : Value) (h : H) (k : Kv) (kp : Kp) : F59 D a0 h k kp = bodyW Tryd.prog D (L59 D) lv59 Tryd.f59 [a0] h k kp := by kernel_rfl
theorem lfp59 : Lfps Tryd.prog (CS Tryd.prog) (L59 (CS Tryd.prog)) lv59 (allLoops (bodyOf Tryd.f59)) := by
  have e : (allLoops (bodyOf Tryd.f59)) = [] := by kernel_rfl
  rw [e]
  exact trivial
theorem cl59 : Cl59 (CS Tryd.prog) := fun a0 h k kp hk =>
  fn_sound wide (fn := Tryd.f59) (by kernel_rfl) (by kernel_rfl) (by kernel_rfl) lfp59 (by rw [tieF59] at hk; exact hk)
def lv60 : Lv := Lv.mk 55 [.raw, .raw] (fun i => cond (Nat.beq i 3) ([(0, .raw), (1, .raw), (5, .int IntKind.i64), (6, .int IntKind.i64)]) ([])) (fun i => cond (Nat.beq i 3) ([(0, [])]) ([])) [(4, .int IntKind.i64)] (fun i => cond (Nat.beq i 8) (some [(0, .raw), (1, .raw), (5, .int IntKind.i64), (6, .int IntKind.i64), (28, .bool)]) (cond (Nat.beq i 12) (some [(0, .raw), (1, .raw), (5, .int IntKind.i64), (6, .int IntKind.i64)]) (cond (Nat.beq i 13) (some [(0, .raw), (1, .raw), (5, .int IntKind.i64), (6, .int IntKind.i64), (54, .bool)]) (none))))
def j60_3_13 (D : Orc) (I : List Value → H → Prop) (K : Kl) (a0 a1 a2 a3 a4 : Value) (h23 : H) : Prop :=
intK IntKind.i64 a2 (fun x24 => intK IntKind.i64 a3 (fun x25 => boolW a4 (fun t26 => cond t26 (
K X.r [(Value.int IntKind.i64 (32 : Int))] h23) (
I [a0, a1, (Value.int IntKind.i64 x24), (Value.int IntKind.i64 (IntKind.wrap IntKind.i64 (x25 + (1 : Int))))] h23))))
def j60_3_12 (D : Orc) (I : List Value → H → Prop) (K : Kl) (a0 a1 a2 a3 : Value) (h19 : H) : Prop :=
intK IntKind.i64 a2 (fun x20 => intK IntKind.i64 a3 (fun x21 => cond (x20 == (0 : Int)) (
lenW a1 (fun n22 => j60_3_13 D I K a0 a1 (Value.int IntKind.i64 x20) (Value.int IntKind.i64 x21) (Value.bool (decide ((IntKind.wrap IntKind.i64 (x21 + (1 : Int))) < (n22 : Int)))) h19)) (
j60_3_13 D I K a0 a1 (Value.int IntKind.i64 x20) (Value.int IntKind.i64 x21) (Value.bool false) h19)))
def j60_3_8 (D : Orc) (I : List Value → H → Prop) (K : Kl) (a0 a1 a2 a3 a4 : Value) (h9 : H) : Prop :=
intK IntKind.i64 a2 (fun x10 => intK IntKind.i64 a3 (fun x11 => boolW a4 (fun t12 => cond t12 (
K X.r [(Value.int IntKind.i64 (30 : Int))] h9) (
slAtW a1 x11 1 (fun ad13 => ∃ x14 : Int, rd h9 ad13 = some (Value.int IntKind.i64 x14) ∧ cond (decide (x14 ≥ (0 : Int))) (
slAtW a1 x11 1 (fun ad15 => ∃ x16 : Int, rd h9 ad15 = some (Value.int IntKind.i64 x16) ∧ slAtW a0 x16 2 (fun ad17 => ∃ x18 : Int, rd h9 (Addr.add ad17 1) = some (Value.int IntKind.i64 x18) ∧ j60_3_12 D I K a0 a1 (Value.int IntKind.i64 (IntKind.wrap IntKind.i64 ((IntKind.wrap IntKind.i64 (x10 - (1 : Int))) + x18))) (Value.int IntKind.i64 x11) h9))) (
j60_3_12 D I K a0 a1 (Value.int IntKind.i64 (IntKind.wrap IntKind.i64 (x10 - (1 : Int)))) (Value.int IntKind.i64 x11) h9))))))
def round60_3 (D : Orc) (I : List Value → H → Prop) (K : Kl) (a0 a1 a2 a3 : Value) (h0 : H) : Prop :=
intK IntKind.i64 a2 (fun x1 => intK IntKind.i64 a3 (fun x2 => cond (decide (x1 > (0 : Int))) (
lenW a1 (fun n3 => cond (x2 == (n3 : Int)) (
K X.r [(Value.int IntKind.i64 (31 : Int))] h0) (
slAtW a1 x2 1 (fun ad4 => ∃ x5 : Int, rd h0 ad4 = some (Value.int IntKind.i64 x5) ∧ lenW a0 (fun n6 => cond (!(decide (x5 ≥ (n6 : Int)))) (
slAtW a1 x2 1 (fun ad7 => ∃ x8 : Int, rd h0 ad7 = some (Value.int IntKind.i64 x8) ∧ j60_3_8 D I K a0 a1 (Value.int IntKind.i64 x1) (Value.int IntKind.i64 x2) (Value.bool (decide (x8 < (-1048576 : Int)))) h0)) (
j60_3_8 D I K a0 a1 (Value.int IntKind.i64 x1) (Value.int IntKind.i64 x2) (Value.bool true) h0)))))) (
K (X.e 0) [] h0)))
def loop60_3 (D : Orc) (vs : List Value) (h : H) (K : Kl) : Prop := ∀ I : List Value → H → Prop, (∀ a0 a1 a2 a3 h, round60_3 D I K a0 a1 a2 a3 h → I [a0, a1, a2, a3] h) → I vs h
def L60 (D : Orc) : Lor := fun b vs h K => match firstId b with | some i => cond (Nat.beq i 3) (loop60_3 D vs h K) (False) | none => False
/-- lodestone/lodestoneref03.Term -/
def F60 (D : Orc) (a0 a1 : Value) (h : H) (k : Kv) (kp : Kp) : Prop :=
loop60_3 D [a0, a1, (Value.int IntKind.i64 (1 : Int)), (Value.int IntKind.i64 (0 : Int))] h (fun x28 vs29 h27 => xs x28 (intK IntKind.i64 (nth vs29 0) (fun x31 => k (Value.int IntKind.i64 x31) h27)) (fun i30 => cond (Nat.beq i30 0) (
k (Value.int IntKind.i64 (0 : Int)) h27) (False)) (fun c => kp c h27))
def Cl60 (D : Orc) : Prop := ∀ a0 a1 h k kp, F60 D a0 a1 h k kp → D 60 [a0, a1] h k kp
theorem tieR60_3 (D : Orc) (I : List Value → H → Prop) (K : Kl) (a0 a1 a2 a3 : Value) (h : H) : round60_3 D I K a0 a1 a2 a3 h = round Tryd.prog D (L60 D) lv60 (nthC (allLoops (bodyOf Tryd.f60)) 0) I K [a0, a1, a2, a3] h := by kernel_rfl
theorem tieF60 (D : Orc) (a0 a1 : Value) (h : H) (k : Kv) (kp : Kp) : F60 D a0 a1 h k kp = bodyW Tryd.prog D (L60 D) lv60 Tryd.f60 [a0, a1] h k kp := by kernel_rfl
theorem lfp60 : Lfps Tryd.prog (CS Tryd.prog) (L60 (CS Tryd.prog)) lv60 (allLoops (bodyOf Tryd.f60)) := by
  have e : (allLoops (bodyOf Tryd.f60)) = [nthC (allLoops (bodyOf Tryd.f60)) 0] := by kernel_rfl
  rw [e]
  exact ⟨(fun vs h K hk I H => hk I (fun a0 a1 a2 a3 h hr => H _ _ ((tieR60_3 (CS Tryd.prog) I K a0 a1 a2 a3 h) ▸ hr))), trivial⟩
theorem cl60 : Cl60 (CS Tryd.prog) := fun a0 a1 h k kp hk =>
  fn_sound wide (fn := Tryd.f60) (by kernel_rfl) (by kernel_rfl) (by kernel_rfl) lfp60 (by rw [tieF60] at hk; exact hk)
def lv61 : Lv := Lv.mk 48 [.raw] (fun i => cond (Nat.beq i 3) ([(0, .raw), (3, .raw), (4, .int IntKind.i64)]) (cond (Nat.beq i 7) ([(0, .raw), (3, .raw), (4, .int IntKind.i64), (5, .bool), (6, .int IntKind.i64)]) ([]))) (fun i => cond (Nat.beq i 3) ([(0, [(3, .raw)])]) (cond (Nat.beq i 7) ([(2, [(0, .raw), (3, .raw), (4, .int IntKind.i64), (5, .bool)])]) ([]))) [(2, .raw)] (fun i => cond (Nat.beq i 4) (some [(0, .raw), (3, .raw), (4, .int IntKind.i64)]) (cond (Nat.beq i 8) (some [(0, .raw), (3, .raw), (4, .int IntKind.i64), (5, .bool), (6, .int IntKind.i64)]) (none)))
def j61_7_8 (D : Orc) (I : List Value → H → Prop) (K : Kl) (a0 a1 a2 a3 a4 : Value) (h14 : H) : Prop :=
intK IntKind.i64 a2 (fun x15 => boolW a3 (fun t16 => intK IntKind.i64 a4 (fun x17 => I [a0, a1, (Value.int IntKind.i64 x15), (Value.bool t16), (Value.int IntKind.i64 (IntKind.wrap IntKind.i64 (x17 + (1 : Int))))] h14)))
def round61_7 (D : Orc) (I : List Value → H → Prop) (K : Kl) (a0 a1 a2 a3 a4 : Value) (h5 : H) : Prop :=
intK IntKind.i64 a2 (fun x6 => boolW a3 (fun t7 => intK IntKind.i64 a4 (fun x8 => lenW a1 (fun n9 => cond (decide (x8 < (n9 : Int))) (
cond (!t7) (
slAtW a1 x8 1 (fun ad10 => ∃ x11 : Int, rd h5 ad10 = some (Value.int IntKind.i64 x11) ∧ slAtW a0 x6 1 (fun ad12 => ∃ x13 : Int, rd h5 ad12 = some (Value.int IntKind.i64 x13) ∧ j61_7_8 D I K a0 a1 (Value.int IntKind.i64 x6) (Value.bool (x11 == (IntKind.wrap IntKind.i64 ((-1 : Int) - x13)))) (Value.int IntKind.i64 x8) h5))) (
j61_7_8 D I K a0 a1 (Value.int IntKind.i64 x6) (Value.bool true) (Value.int IntKind.i64 x8) h5)) (
K (X.e 2) [a0, a1, (Value.int IntKind.i64 x6), (Value.bool t7)] h5)))))
def loop61_7 (D : Orc) (vs : List Value) (h : H) (K : Kl) : Prop := ∀ I : List Value → H → Prop, (∀ a0 a1 a2 a3 a4 h, round61_7 D I K a0 a1 a2 a3 a4 h → I [a0, a1, a2, a3, a4] h) → I vs h
def j61_3_4 (D : Orc) (I : List Value → H → Prop) (K : Kl) (a0 a1 a2 : Value) (h32 : H) : Prop :=
intK IntKind.i64 a2 (fun x33 => I [a0, a1, (Value.int IntKind.i64 (IntKind.wrap IntKind.i64 (x33 + (1 : Int))))] h32)
def round61_3 (D : Orc) (I : List Value → H → Prop) (K : Kl) (a0 a1 a2 : Value) (h0 : H) : Prop :=
intK IntKind.i64 a2 (fun x1 => lenW a0 (fun n2 => cond (decide (x1 < (n2 : Int))) (
slAtW a0 x1 1 (fun ad3 => ∃ x4 : Int, rd h0 ad3 = some (Value.int IntKind.i64 x4) ∧ loop61_7 D [a0, a1, (Value.int IntKind.i64 x1), (Value.bool (decide (x4 ≥ (0 : Int)))), (Value.int IntKind.i64 (0 : Int))] h0 (fun x19 vs20 h18 => xs x19 (K X.r [(nth vs20 0)] h18) (fun i21 => cond (Nat.beq i21 2) (
intK IntKind.i64 (nth vs20 2) (fun x22 => boolW (nth vs20 3) (fun t23 => cond (!t23) (
slAtW (nth vs20 0) x22 1 (fun ad24 => ∃ x25 : Int, rd h18 ad24 = some (Value.int IntKind.i64 x25) ∧ one (Value.int IntKind.i64 (IntKind.wrap IntKind.i64 ((-1 : Int) - x25))) = true ∧ 0 < 1 ∧ newSl h18 1 [(Value.int IntKind.i64 (IntKind.wrap IntKind.i64 ((-1 : Int) - x25)))] (fun s26 h27 => slenW s26 (fun n28 => srcW h27 1 s26 (n28) (fun w29 => apW h27 1 8 [(Value.int IntKind.i64 (0 : Int))] (nth vs20 1) (n28) w29 (fun s30 h31 => j61_3_4 D I K (nth vs20 0) s30 (Value.int IntKind.i64 x22) h31)))))) (
j61_3_4 D I K (nth vs20 0) (nth vs20 1) (Value.int IntKind.i64 x22) h18)))) (False)) (fun c => (fun c h => K (X.p c) [] h) c h18)))) (
K (X.e 0) [a1] h0)))
def loop61_3 (D : Orc) (vs : List Value) (h : H) (K : Kl) : Prop := ∀ I : List Value → H → Prop, (∀ a0 a1 a2 h, round61_3 D I K a0 a1 a2 h → I [a0, a1, a2] h) → I vs h
def L61 (D : Orc) : Lor := fun b vs h K => match firstId b with | some i => cond (Nat.beq i 3) (loop61_3 D vs h K) (cond (Nat.beq i 7) (loop61_7 D vs h K) (False)) | none => False
/-- lodestone/lodestoneref03.Vars -/
def F61 (D : Orc) (a0 : Value) (h : H) (k : Kv) (kp : Kp) : Prop :=
loop61_3 D [a0, (Value.slice none 0 0), (Value.int IntKind.i64 (0 : Int))] h (fun x35 vs36 h34 => xs x35 (k (nth vs36 0) h34) (fun i37 => cond (Nat.beq i37 0) (
k (nth vs36 0) h34) (False)) (fun c => kp c h34))
def Cl61 (D : Orc) : Prop := ∀ a0 h k kp, F61 D a0 h k kp → D 61 [a0] h k kp
theorem tieR61_3 (D : Orc) (I : List Value → H → Prop) (K : Kl) (a0 a1 a2 : Value) (h : H) : round61_3 D I K a0 a1 a2 h = round Tryd.prog D (L61 D) lv61 (nthC (allLoops (bodyOf Tryd.f61)) 0) I K [a0, a1, a2] h := by kernel_rfl
theorem tieR61_7 (D : Orc) (I : List Value → H → Prop) (K : Kl) (a0 a1 a2 a3 a4 : Value) (h : H) : round61_7 D I K a0 a1 a2 a3 a4 h = round Tryd.prog D (L61 D) lv61 (nthC (allLoops (bodyOf Tryd.f61)) 1) I K [a0, a1, a2, a3, a4] h := by kernel_rfl
theorem tieF61 (D : Orc) (a0 : Value) (h : H) (k : Kv) (kp : Kp) : F61 D a0 h k kp = bodyW Tryd.prog D (L61 D) lv61 Tryd.f61 [a0] h k kp := by kernel_rfl
theorem lfp61 : Lfps Tryd.prog (CS Tryd.prog) (L61 (CS Tryd.prog)) lv61 (allLoops (bodyOf Tryd.f61)) := by
  have e : (allLoops (bodyOf Tryd.f61)) = [nthC (allLoops (bodyOf Tryd.f61)) 0, nthC (allLoops (bodyOf Tryd.f61)) 1] := by kernel_rfl
  rw [e]
  exact ⟨(fun vs h K hk I H => hk I (fun a0 a1 a2 h hr => H _ _ ((tieR61_3 (CS Tryd.prog) I K a0 a1 a2 h) ▸ hr))), (fun vs h K hk I H => hk I (fun a0 a1 a2 a3 a4 h hr => H _ _ ((tieR61_7 (CS Tryd.prog) I K a0 a1 a2 a3 a4 h) ▸ hr))), trivial⟩
theorem cl61 : Cl61 (CS Tryd.prog) := fun a0 h k kp hk =>
  fn_sound wide (fn := Tryd.f61) (by kernel_rfl) (by kernel_rfl) (by kernel_rfl) lfp61 (by rw [tieF61] at hk; exact hk)
def lv62 : Lv := Lv.mk 18 [.raw, .int IntKind.i64] (fun i => cond (Nat.beq i 2) ([(0, .raw), (1, .int IntKind.i64), (5, .int IntKind.i64)]) ([])) (fun i => cond (Nat.beq i 2) ([(0, [])]) ([])) [(4, .bool)] (fun i => none)
def round62_2 (D : Orc) (I : List Value → H → Prop) (K : Kl) (a0 a1 a2 : Value) (h1 : H) : Prop :=
intK IntKind.i64 a1 (fun x2 => intK IntKind.i64 a2 (fun x3 => lenW a0 (fun n4 => cond (decide (x3 < (n4 : Int))) (
slAtW a0 x3 1 (fun ad5 => ∃ x6 : Int, rd h1 ad5 = some (Value.int IntKind.i64 x6) ∧ cond (x6 == x2) (
K X.r [(Value.bool true)] h1) (
I [a0, (Value.int IntKind.i64 x2), (Value.int IntKind.i64 (IntKind.wrap IntKind.i64 (x3 + (1 : Int))))] h1))) (
K (X.e 0) [] h1))))
def loop62_2 (D : Orc) (vs : List Value) (h : H) (K : Kl) : Prop := ∀ I : List Value → H → Prop, (∀ a0 a1 a2 h, round62_2 D I K a0 a1 a2 h → I [a0, a1, a2] h) → I vs h
def L62 (D : Orc) : Lor := fun b vs h K => match firstId b with | some i => cond (Nat.beq i 2) (loop62_2 D vs h K) (False) | none => False
/-- lodestone/lodestoneref07.has -/
def F62 (D : Orc) (a0 a1 : Value) (h : H) (k : Kv) (kp : Kp) : Prop :=
intK IntKind.i64 a1 (fun x0 => loop62_2 D [a0, (Value.int IntKind.i64 x0), (Value.int IntKind.i64 (0 : Int))] h (fun x8 vs9 h7 => xs x8 (boolW (nth vs9 0) (fun t11 => k (Value.bool t11) h7)) (fun i10 => cond (Nat.beq i10 0) (
k (Value.bool false) h7) (False)) (fun c => kp c h7)))
def Cl62 (D : Orc) : Prop := ∀ a0 a1 h k kp, F62 D a0 a1 h k kp → D 62 [a0, a1] h k kp
theorem tieR62_2 (D : Orc) (I : List Value → H → Prop) (K : Kl) (a0 a1 a2 : Value) (h : H) : round62_2 D I K a0 a1 a2 h = round Tryd.prog D (L62 D) lv62 (nthC (allLoops (bodyOf Tryd.f62)) 0) I K [a0, a1, a2] h := by kernel_rfl
theorem tieF62 (D : Orc) (a0 a1 : Value) (h : H) (k : Kv) (kp : Kp) : F62 D a0 a1 h k kp = bodyW Tryd.prog D (L62 D) lv62 Tryd.f62 [a0, a1] h k kp := by kernel_rfl
theorem lfp62 : Lfps Tryd.prog (CS Tryd.prog) (L62 (CS Tryd.prog)) lv62 (allLoops (bodyOf Tryd.f62)) := by
  have e : (allLoops (bodyOf Tryd.f62)) = [nthC (allLoops (bodyOf Tryd.f62)) 0] := by kernel_rfl
  rw [e]
  exact ⟨(fun vs h K hk I H => hk I (fun a0 a1 a2 h hr => H _ _ ((tieR62_2 (CS Tryd.prog) I K a0 a1 a2 h) ▸ hr))), trivial⟩
theorem cl62 : Cl62 (CS Tryd.prog) := fun a0 a1 h k kp hk =>
  fn_sound wide (fn := Tryd.f62) (by kernel_rfl) (by kernel_rfl) (by kernel_rfl) lfp62 (by rw [tieF62] at hk; exact hk)
def lv66 : Lv := Lv.mk 14 [.raw, .raw] (fun i => []) (fun i => []) [(4, .int IntKind.i64)] (fun i => none)
def L66 (D : Orc) : Lor := fun b vs h K => match firstId b with | some i => False | none => False
/-- lodestone/term.Check -/
def F66 (D : Orc) (a0 a1 : Value) (h : H) (k : Kv) (kp : Kp) : Prop :=
D 83 [a0, a1] h (fun v0 h1 => ∃ v2 : Value, ∃ x3 : Int, v0 = (Value.tuple #[v2, (Value.int IntKind.i64 x3)]) ∧ k (Value.int IntKind.i64 x3) h1) kp
def Cl66 (D : Orc) : Prop := ∀ a0 a1 h k kp, F66 D a0 a1 h k kp → D 66 [a0, a1] h k kp
theorem tieF66 (D : Orc) (a0 a1 : Value) (h : H) (k : Kv) (kp : Kp) : F66 D a0 a1 h k kp = bodyW Tryd.prog D (L66 D) lv66 Tryd.f66 [a0, a1] h k kp := by kernel_rfl
theorem lfp66 : Lfps Tryd.prog (CS Tryd.prog) (L66 (CS Tryd.prog)) lv66 (allLoops (bodyOf Tryd.f66)) := by
  have e : (allLoops (bodyOf Tryd.f66)) = [] := by kernel_rfl
  rw [e]
  exact trivial
theorem cl66 : Cl66 (CS Tryd.prog) := fun a0 a1 h k kp hk =>
  fn_sound wide (fn := Tryd.f66) (by kernel_rfl) (by kernel_rfl) (by kernel_rfl) lfp66 (by rw [tieF66] at hk; exact hk)
def lv67 : Lv := Lv.mk 61 [.raw] (fun i => cond (Nat.beq i 4) ([(3, .raw), (4, .raw), (15, .raw), (16, .int IntKind.i64), (17, .int IntKind.i64)]) (cond (Nat.beq i 8) ([(3, .raw), (4, .raw), (5, .int IntKind.i64), (15, .raw), (16, .int IntKind.i64), (17, .int IntKind.i64), (27, .raw), (28, .int IntKind.i64), (29, .int IntKind.i64)]) ([]))) (fun i => cond (Nat.beq i 4) ([(0, [(4, .raw)])]) (cond (Nat.beq i 8) ([(2, [(3, .raw), (4, .raw), (15, .raw), (16, .int IntKind.i64), (17, .int IntKind.i64)])]) ([]))) [(2, .raw)] (fun i => cond (Nat.beq i 15) (some [(3, .raw), (4, .raw), (5, .int IntKind.i64), (15, .raw), (16, .int IntKind.i64), (17, .int IntKind.i64), (27, .raw), (28, .int IntKind.i64), (29, .int IntKind.i64)]) (cond (Nat.beq i 14) (some [(3, .raw), (4, .raw), (5, .int IntKind.i64), (7, .int IntKind.i64), (8, .int IntKind.i64), (15, .raw), (16, .int IntKind.i64), (17, .int IntKind.i64), (27, .raw), (28, .int IntKind.i64), (29, .int IntKind.i64)]) (none)))
def j67_8_15 (D : Orc) (I : List Value → H → Prop) (K : Kl) (a0 a1 a2 a3 a4 a5 a6 a7 a8 : Value) (h25 : H) : Prop :=
intK IntKind.i64 a2 (fun x26 => intK IntKind.i64 a4 (fun x27 => intK IntKind.i64 a5 (fun x28 => intK IntKind.i64 a7 (fun x29 => intK IntKind.i64 a8 (fun x30 => I [a0, a1, (Value.int IntKind.i64 x26), a3, (Value.int IntKind.i64 x27), (Value.int IntKind.i64 x28), a6, (Value.int IntKind.i64 x29), (Value.int IntKind.i64 (IntKind.wrap IntKind.i64 (x30 + (1 : Int))))] h25)))))
def j67_8_14 (D : Orc) (I : List Value → H → Prop) (K : Kl) (a0 a1 a2 a3 a4 a5 a6 a7 a8 a9 a10 : Value) (h39 : H) : Prop :=
intK IntKind.i64 a2 (fun x40 => intK IntKind.i64 a3 (fun x41 => intK IntKind.i64 a4 (fun x42 => intK IntKind.i64 a6 (fun x43 => intK IntKind.i64 a7 (fun x44 => intK IntKind.i64 a9 (fun x45 => intK IntKind.i64 a10 (fun x46 => slAtW a1 x40 1 (fun ad47 => ∃ v48 : Value, rd h39 ad47 = some v48 ∧ mapK h39 a0 (fun es49 => lookW (TypeDesc.int IntKind.i64) (Value.int IntKind.i64 x42) es49 (Value.int IntKind.i64 (0 : Int)) (fun v50 t51 => ∃ x52 : Int, v50 = (Value.int IntKind.i64 x52) ∧ (rd h39 ad47 = some v48) ∧ slAtW v48 x41 1 (fun ad53 => one (Value.int IntKind.i64 (IntKind.wrap IntKind.i64 ((-1 : Int) - x52))) = true ∧ 1 = 1 ∧ ∃ h54, wr1 h39 ad53 (Value.int IntKind.i64 (IntKind.wrap IntKind.i64 ((-1 : Int) - x52))) = some h54 ∧ j67_8_15 D I K a0 a1 (Value.int IntKind.i64 x40) a5 (Value.int IntKind.i64 x43) (Value.int IntKind.i64 x44) a8 (Value.int IntKind.i64 x45) (Value.int IntKind.i64 x46) h54)))))))))))
def round67_8 (D : Orc) (I : List Value → H → Prop) (K : Kl) (a0 a1 a2 a3 a4 a5 a6 a7 a8 : Value) (h17 : H) : Prop :=
intK IntKind.i64 a2 (fun x18 => intK IntKind.i64 a4 (fun x19 => intK IntKind.i64 a5 (fun x20 => intK IntKind.i64 a7 (fun x21 => intK IntKind.i64 a8 (fun x22 => cond (decide (x22 < x21)) (
slAtW a6 x22 1 (fun ad23 => ∃ x24 : Int, rd h17 ad23 = some (Value.int IntKind.i64 x24) ∧ cond (decide (x24 ≥ (0 : Int))) (
j67_8_15 D I K a0 a1 (Value.int IntKind.i64 x18) a3 (Value.int IntKind.i64 x19) (Value.int IntKind.i64 x20) a6 (Value.int IntKind.i64 x21) (Value.int IntKind.i64 x22) h17) (
mapK h17 a0 (fun es31 => lookW (TypeDesc.int IntKind.i64) (Value.int IntKind.i64 x24) es31 (Value.int IntKind.i64 (0 : Int)) (fun v32 t33 => ∃ x34 : Int, v32 = (Value.int IntKind.i64 x34) ∧ cond (!t33) (
(match a0 with | Value.map none => mapU h17 a0 (TypeDesc.int IntKind.i64) (Value.int IntKind.i64 x24) (Value.int IntKind.i64 (0 : Int)) (fun h38 => j67_8_14 D I K a0 a1 (Value.int IntKind.i64 x18) (Value.int IntKind.i64 x22) (Value.int IntKind.i64 x24) a3 (Value.int IntKind.i64 x19) (Value.int IntKind.i64 x20) a6 (Value.int IntKind.i64 x21) (Value.int IntKind.i64 x22) h38) | Value.map (some r35) => ∃ es36 c37, h17 r35 = some (VObj.map es36 c37) ∧ mapU h17 a0 (TypeDesc.int IntKind.i64) (Value.int IntKind.i64 x24) (Value.int IntKind.i64 (es36.length : Int)) (fun h55 => j67_8_14 D I K a0 a1 (Value.int IntKind.i64 x18) (Value.int IntKind.i64 x22) (Value.int IntKind.i64 x24) a3 (Value.int IntKind.i64 x19) (Value.int IntKind.i64 x20) a6 (Value.int IntKind.i64 x21) (Value.int IntKind.i64 x22) h55) | _ => False)) (
j67_8_14 D I K a0 a1 (Value.int IntKind.i64 x18) (Value.int IntKind.i64 x22) (Value.int IntKind.i64 x24) a3 (Value.int IntKind.i64 x19) (Value.int IntKind.i64 x20) a6 (Value.int IntKind.i64 x21) (Value.int IntKind.i64 x22) h17)))))) (
K (X.e 2) [a0, a1, a3, (Value.int IntKind.i64 x19), (Value.int IntKind.i64 x20)] h17))))))
def loop67_8 (D : Orc) (vs : List Value) (h : H) (K : Kl) : Prop := ∀ I : List Value → H → Prop, (∀ a0 a1 a2 a3 a4 a5 a6 a7 a8 h, round67_8 D I K a0 a1 a2 a3 a4 a5 a6 a7 a8 h → I [a0, a1, a2, a3, a4, a5, a6, a7, a8] h) → I vs h
def round67_4 (D : Orc) (I : List Value → H → Prop) (K : Kl) (a0 a1 a2 a3 a4 : Value) (h6 : H) : Prop :=
intK IntKind.i64 a3 (fun x7 => intK IntKind.i64 a4 (fun x8 => cond (decide (x8 < x7)) (
slAtW a2 x8 1 (fun ad9 => ∃ v10 : Value, rd h6 ad9 = some v10 ∧ D 48 [v10] h6 (fun v11 h12 => ∃ v13 : Value, v11 = v13 ∧ slAtW a1 x8 1 (fun ad14 => one v13 = true ∧ 1 = 1 ∧ ∃ h15, wr1 h12 ad14 v13 = some h15 ∧ lenW v10 (fun n16 => loop67_8 D [a0, a1, (Value.int IntKind.i64 x8), a2, (Value.int IntKind.i64 x7), (Value.int IntKind.i64 x8), v10, (Value.int IntKind.i64 (n16 : Int)), (Value.int IntKind.i64 (0 : Int))] h15 (fun x57 vs58 h56 => xs x57 (K X.r [(nth vs58 0)] h56) (fun i59 => cond (Nat.beq i59 2) (
intK IntKind.i64 (nth vs58 3) (fun x60 => intK IntKind.i64 (nth vs58 4) (fun x61 => I [(nth vs58 0), (nth vs58 1), (nth vs58 2), (Value.int IntKind.i64 x60), (Value.int IntKind.i64 (IntKind.wrap IntKind.i64 (x61 + (1 : Int))))] h56))) (False)) (fun c => (fun c h => K (X.p c) [] h) c h56))))) (fun c h => K (X.p c) [] h))) (
K (X.e 0) [a1] h6)))
def loop67_4 (D : Orc) (vs : List Value) (h : H) (K : Kl) : Prop := ∀ I : List Value → H → Prop, (∀ a0 a1 a2 a3 a4 h, round67_4 D I K a0 a1 a2 a3 a4 h → I [a0, a1, a2, a3, a4] h) → I vs h
def L67 (D : Orc) : Lor := fun b vs h K => match firstId b with | some i => cond (Nat.beq i 4) (loop67_4 D vs h K) (cond (Nat.beq i 8) (loop67_8 D vs h K) (False)) | none => False
/-- lodestone/subst.Canon -/
def F67 (D : Orc) (a0 : Value) (h : H) (k : Kv) (kp : Kp) : Prop :=
newMap h (fun m0 h1 => lenW a0 (fun n2 => mkSliceW h1 24 [(Value.slice none 0 0)] (n2 : Int) (n2 : Int) (fun s3 h4 => lenW a0 (fun n5 => loop67_4 D [m0, s3, a0, (Value.int IntKind.i64 (n5 : Int)), (Value.int IntKind.i64 (0 : Int))] h4 (fun x63 vs64 h62 => xs x63 (k (nth vs64 0) h62) (fun i65 => cond (Nat.beq i65 0) (
k (nth vs64 0) h62) (False)) (fun c => kp c h62))))))
def Cl67 (D : Orc) : Prop := ∀ a0 h k kp, F67 D a0 h k kp → D 67 [a0] h k kp
theorem tieR67_4 (D : Orc) (I : List Value → H → Prop) (K : Kl) (a0 a1 a2 a3 a4 : Value) (h : H) : round67_4 D I K a0 a1 a2 a3 a4 h = round Tryd.prog D (L67 D) lv67 (nthC (allLoops (bodyOf Tryd.f67)) 0) I K [a0, a1, a2, a3, a4] h := by kernel_rfl
theorem tieR67_8 (D : Orc) (I : List Value → H → Prop) (K : Kl) (a0 a1 a2 a3 a4 a5 a6 a7 a8 : Value) (h : H) : round67_8 D I K a0 a1 a2 a3 a4 a5 a6 a7 a8 h = round Tryd.prog D (L67 D) lv67 (nthC (allLoops (bodyOf Tryd.f67)) 1) I K [a0, a1, a2, a3, a4, a5, a6, a7, a8] h := by kernel_rfl
theorem tieF67 (D : Orc) (a0 : Value) (h : H) (k : Kv) (kp : Kp) : F67 D a0 h k kp = bodyW Tryd.prog D (L67 D) lv67 Tryd.f67 [a0] h k kp := by kernel_rfl
theorem lfp67 : Lfps Tryd.prog (CS Tryd.prog) (L67 (CS Tryd.prog)) lv67 (allLoops (bodyOf Tryd.f67)) := by
  have e : (allLoops (bodyOf Tryd.f67)) = [nthC (allLoops (bodyOf Tryd.f67)) 0, nthC (allLoops (bodyOf Tryd.f67)) 1] := by kernel_rfl
  rw [e]
  exact ⟨(fun vs h K hk I H => hk I (fun a0 a1 a2 a3 a4 h hr => H _ _ ((tieR67_4 (CS Tryd.prog) I K a0 a1 a2 a3 a4 h) ▸ hr))), (fun vs h K hk I H => hk I (fun a0 a1 a2 a3 a4 a5 a6 a7 a8 h hr => H _ _ ((tieR67_8 (CS Tryd.prog) I K a0 a1 a2 a3 a4 a5 a6 a7 a8 h) ▸ hr))), trivial⟩
theorem cl67 : Cl67 (CS Tryd.prog) := fun a0 h k kp hk =>
  fn_sound wide (fn := Tryd.f67) (by kernel_rfl) (by kernel_rfl) (by kernel_rfl) lfp67 (by rw [tieF67] at hk; exact hk)
def lv68 : Lv := Lv.mk 26 [.raw, .raw] (fun i => cond (Nat.beq i 4) ([(0, .raw), (1, .raw), (12, .int IntKind.i64), (13, .int IntKind.i64)]) ([])) (fun i => cond (Nat.beq i 4) ([(0, [])]) ([])) [(4, .bool)] (fun i => none)
def round68_4 (D : Orc) (I : List Value → H → Prop) (K : Kl) (a0 a1 a2 a3 : Value) (h3 : H) : Prop :=
intK IntKind.i64 a2 (fun x4 => intK IntKind.i64 a3 (fun x5 => cond (decide (x5 < x4)) (
slAtW a0 x5 1 (fun ad6 => ∃ x7 : Int, rd h3 ad6 = some (Value.int IntKind.i64 x7) ∧ slAtW a1 x5 1 (fun ad8 => ∃ x9 : Int, rd h3 ad8 = some (Value.int IntKind.i64 x9) ∧ cond (x7 != x9) (
K X.r [(Value.bool false)] h3) (
I [a0, a1, (Value.int IntKind.i64 x4), (Value.int IntKind.i64 (IntKind.wrap IntKind.i64 (x5 + (1 : Int))))] h3)))) (
K (X.e 0) [] h3)))
def loop68_4 (D : Orc) (vs : List Value) (h : H) (K : Kl) : Prop := ∀ I : List Value → H → Prop, (∀ a0 a1 a2 a3 h, round68_4 D I K a0 a1 a2 a3 h → I [a0, a1, a2, a3] h) → I vs h
def L68 (D : Orc) : Lor := fun b vs h K => match firstId b with | some i => cond (Nat.beq i 4) (loop68_4 D vs h K) (False) | none => False
/-- slices.Equal[[]int,int] -/
def F68 (D : Orc) (a0 a1 : Value) (h : H) (k : Kv) (kp : Kp) : Prop :=
lenW a0 (fun n0 => lenW a1 (fun n1 => cond ((n0 : Int) != (n1 : Int)) (
k (Value.bool false) h) (
lenW a0 (fun n2 => loop68_4 D [a0, a1, (Value.int IntKind.i64 (n2 : Int)), (Value.int IntKind.i64 (0 : Int))] h (fun x11 vs12 h10 => xs x11 (boolW (nth vs12 0) (fun t14 => k (Value.bool t14) h10)) (fun i13 => cond (Nat.beq i13 0) (
k (Value.bool true) h10) (False)) (fun c => kp c h10))))))
def Cl68 (D : Orc) : Prop := ∀ a0 a1 h k kp, F68 D a0 a1 h k kp → D 68 [a0, a1] h k kp
theorem tieR68_4 (D : Orc) (I : List Value → H → Prop) (K : Kl) (a0 a1 a2 a3 : Value) (h : H) : round68_4 D I K a0 a1 a2 a3 h = round Tryd.prog D (L68 D) lv68 (nthC (allLoops (bodyOf Tryd.f68)) 0) I K [a0, a1, a2, a3] h := by kernel_rfl
theorem tieF68 (D : Orc) (a0 a1 : Value) (h : H) (k : Kv) (kp : Kp) : F68 D a0 a1 h k kp = bodyW Tryd.prog D (L68 D) lv68 Tryd.f68 [a0, a1] h k kp := by kernel_rfl
theorem lfp68 : Lfps Tryd.prog (CS Tryd.prog) (L68 (CS Tryd.prog)) lv68 (allLoops (bodyOf Tryd.f68)) := by
  have e : (allLoops (bodyOf Tryd.f68)) = [nthC (allLoops (bodyOf Tryd.f68)) 0] := by kernel_rfl
  rw [e]
  exact ⟨(fun vs h K hk I H => hk I (fun a0 a1 a2 a3 h hr => H _ _ ((tieR68_4 (CS Tryd.prog) I K a0 a1 a2 a3 h) ▸ hr))), trivial⟩
theorem cl68 : Cl68 (CS Tryd.prog) := fun a0 a1 h k kp hk =>
  fn_sound wide (fn := Tryd.f68) (by kernel_rfl) (by kernel_rfl) (by kernel_rfl) lfp68 (by rw [tieF68] at hk; exact hk)
def lv69 : Lv := Lv.mk 14 [.raw, .raw] (fun i => []) (fun i => []) [(4, .int IntKind.i64)] (fun i => none)
def L69 (D : Orc) : Lor := fun b vs h K => match firstId b with | some i => False | none => False
/-- lodestone/lodestoneref03.Check -/
def F69 (D : Orc) (a0 a1 : Value) (h : H) (k : Kv) (kp : Kp) : Prop :=
D 58 [a0] h (fun v0 h1 => ∃ x2 : Int, v0 = (Value.int IntKind.i64 x2) ∧ cond (x2 != (0 : Int)) (
k (Value.int IntKind.i64 x2) h1) (
D 60 [a0, a1] h1 (fun v3 h4 => ∃ x5 : Int, v3 = (Value.int IntKind.i64 x5) ∧ k (Value.int IntKind.i64 x5) h4) kp)) kp
def Cl69 (D : Orc) : Prop := ∀ a0 a1 h k kp, F69 D a0 a1 h k kp → D 69 [a0, a1] h k kp
theorem tieF69 (D : Orc) (a0 a1 : Value) (h : H) (k : Kv) (kp : Kp) : F69 D a0 a1 h k kp = bodyW Tryd.prog D (L69 D) lv69 Tryd.f69 [a0, a1] h k kp := by kernel_rfl
theorem lfp69 : Lfps Tryd.prog (CS Tryd.prog) (L69 (CS Tryd.prog)) lv69 (allLoops (bodyOf Tryd.f69)) := by
  have e : (allLoops (bodyOf Tryd.f69)) = [] := by kernel_rfl
  rw [e]
  exact trivial
theorem cl69 : Cl69 (CS Tryd.prog) := fun a0 a1 h k kp hk =>
  fn_sound wide (fn := Tryd.f69) (by kernel_rfl) (by kernel_rfl) (by kernel_rfl) lfp69 (by rw [tieF69] at hk; exact hk)
def lv72 : Lv := Lv.mk 45 [.str] (fun i => cond (Nat.beq i 4) ([(18, .raw)]) ([])) (fun i => cond (Nat.beq i 4) ([(0, [])]) ([])) [(2, .bool)] (fun i => cond (Nat.beq i 2) (some [(0, .str), (16, .bool)]) (cond (Nat.beq i 6) (some [(18, .raw), (26, .bool)]) (none)))
def j72_4_6 (D : Orc) (I : List Value → H → Prop) (K : Kl) (a0 a1 : Value) (h25 : H) : Prop :=
boolW a1 (fun t26 => cond t26 (
I [a0] h25) (
K X.r [(Value.bool false)] h25))
def round72_4 (D : Orc) (I : List Value → H → Prop) (K : Kl) (a0 : Value) (h9 : H) : Prop :=
ptrW a0 (fun ad10 => nextW h9 ad10 (fun v11 h12 => extractW v11 0 (fun v13 => boolW v13 (fun t14 => cond t14 (
extractW v11 1 (fun v15 => extractW v11 2 (fun v16 => D 89 [v16] h12 (fun v17 h18 => ∃ t19 : Bool, v17 = (Value.bool t19) ∧ cond t19 (
I [a0] h18) (
intK IntKind.i64 v15 (fun x20 => cond (decide (x20 > (0 : Int))) (
intK IntKind.i32 v16 (fun x21 => cond (decide ((48 : Int) ≤ x21)) (
intK IntKind.i32 v16 (fun x22 => cond (!(decide (x22 ≤ (57 : Int)))) (
intK IntKind.i32 v16 (fun x23 => cond (!(x23 == (95 : Int))) (
intK IntKind.i32 v16 (fun x24 => j72_4_6 D I K a0 (Value.bool (x24 == (39 : Int))) h18)) (
j72_4_6 D I K a0 (Value.bool true) h18))) (
j72_4_6 D I K a0 (Value.bool true) h18))) (
intK IntKind.i32 v16 (fun x27 => cond (!(x27 == (95 : Int))) (
intK IntKind.i32 v16 (fun x28 => j72_4_6 D I K a0 (Value.bool (x28 == (39 : Int))) h18)) (
j72_4_6 D I K a0 (Value.bool true) h18))))) (
j72_4_6 D I K a0 (Value.bool false) h18)))) (fun c h => K (X.p c) [] h)))) (
K (X.e 0) [] h12)))))
def loop72_4 (D : Orc) (vs : List Value) (h : H) (K : Kl) : Prop := ∀ I : List Value → H → Prop, (∀ a0 h, round72_4 D I K a0 h → I [a0] h) → I vs h
def j72__2 (D : Orc) (k : Kv) (kp : Kp) (a0 a1 : Value) (h4 : H) : Prop :=
strW a0 (fun s5 => boolW a1 (fun t6 => cond t6 (
k (Value.bool false) h4) (
newIt h4 s5 (fun p7 h8 => loop72_4 D [p7] h8 (fun x30 vs31 h29 => xs x30 (boolW (nth vs31 0) (fun t33 => k (Value.bool t33) h29)) (fun i32 => cond (Nat.beq i32 0) (
k (Value.bool true) h29) (False)) (fun c => kp c h29))))))
def L72 (D : Orc) : Lor := fun b vs h K => match firstId b with | some i => cond (Nat.beq i 4) (loop72_4 D vs h K) (False) | none => False
/-- lodestone/term.named -/
def F72 (D : Orc) (a0 : Value) (h : H) (k : Kv) (kp : Kp) : Prop :=
strW a0 (fun s0 => cond (!(s0.toList == (ByteArray.mk #[]).toList)) (
cond (!(decide ((s0.size : Int) > (32 : Int)))) (
D 88 [(Value.string s0)] h (fun v1 h2 => ∃ t3 : Bool, v1 = (Value.bool t3) ∧ j72__2 D k kp (Value.string s0) (Value.bool (!t3)) h2) kp) (
j72__2 D k kp (Value.string s0) (Value.bool true) h)) (
j72__2 D k kp (Value.string s0) (Value.bool true) h))
def Cl72 (D : Orc) : Prop := ∀ a0 h k kp, F72 D a0 h k kp → D 72 [a0] h k kp
theorem tieR72_4 (D : Orc) (I : List Value → H → Prop) (K : Kl) (a0 : Value) (h : H) : round72_4 D I K a0 h = round Tryd.prog D (L72 D) lv72 (nthC (allLoops (bodyOf Tryd.f72)) 0) I K [a0] h := by kernel_rfl
theorem tieF72 (D : Orc) (a0 : Value) (h : H) (k : Kv) (kp : Kp) : F72 D a0 h k kp = bodyW Tryd.prog D (L72 D) lv72 Tryd.f72 [a0] h k kp := by kernel_rfl
theorem lfp72 : Lfps Tryd.prog (CS Tryd.prog) (L72 (CS Tryd.prog)) lv72 (allLoops (bodyOf Tryd.f72)) := by
  have e : (allLoops (bodyOf Tryd.f72)) = [nthC (allLoops (bodyOf Tryd.f72)) 0] := by kernel_rfl
  rw [e]
  exact ⟨(fun vs h K hk I H => hk I (fun a0 h hr => H _ _ ((tieR72_4 (CS Tryd.prog) I K a0 h) ▸ hr))), trivial⟩
theorem cl72 : Cl72 (CS Tryd.prog) := fun a0 h k kp hk =>
  fn_sound wide (fn := Tryd.f72) (by kernel_rfl) (by kernel_rfl) (by kernel_rfl) lfp72 (by rw [tieF72] at hk; exact hk)
def lv73 : Lv := Lv.mk 9 [.raw] (fun i => []) (fun i => []) [(3, .bool)] (fun i => none)
def L73 (D : Orc) : Lor := fun b vs h K => match firstId b with | some i => False | none => False
/-- lodestone/term.CheckSig$1 -/
def F73 (D : Orc) (a0 a1 : Value) (h : H) (k : Kv) (kp : Kp) : Prop :=
aggW a0 (fun l0 => newW h l0 (fun p1 h2 => ptrW p1 (fun ad3 => ∃ s4 : ByteArray, rd h2 (Addr.add ad3 0) = some (Value.string s4) ∧ ptrW a1 (fun ad5 => ∃ s6 : ByteArray, rd h2 (Addr.add ad5 0) = some (Value.string s6) ∧ k (Value.bool (s4.toList == s6.toList)) h2))))
def Cl73 (D : Orc) : Prop := ∀ a0 a1 h k kp, F73 D a0 a1 h k kp → D 73 [a0, a1] h k kp
theorem tieF73 (D : Orc) (a0 a1 : Value) (h : H) (k : Kv) (kp : Kp) : F73 D a0 a1 h k kp = bodyW Tryd.prog D (L73 D) lv73 Tryd.f73 [a0, a1] h k kp := by kernel_rfl
theorem lfp73 : Lfps Tryd.prog (CS Tryd.prog) (L73 (CS Tryd.prog)) lv73 (allLoops (bodyOf Tryd.f73)) := by
  have e : (allLoops (bodyOf Tryd.f73)) = [] := by kernel_rfl
  rw [e]
  exact trivial
theorem cl73 : Cl73 (CS Tryd.prog) := fun a0 a1 h k kp hk =>
  fn_sound wide (fn := Tryd.f73) (by kernel_rfl) (by kernel_rfl) (by kernel_rfl) lfp73 (by rw [tieF73] at hk; exact hk)
def lv74 : Lv := Lv.mk 21 [.str, .str] (fun i => []) (fun i => []) [(4, .bool)] (fun i => none)
def L74 (D : Orc) : Lor := fun b vs h K => match firstId b with | some i => False | none => False
/-- internal/stringslite.HasSuffix -/
def F74 (D : Orc) (a0 a1 : Value) (h : H) (k : Kv) (kp : Kp) : Prop :=
strW a0 (fun s0 => strW a1 (fun s1 => cond (decide ((s0.size : Int) ≥ (s1.size : Int))) (
strCutW s0 (some (IntKind.wrap IntKind.i64 ((s0.size : Int) - (s1.size : Int)))) none (fun s2 => k (Value.bool (s2.toList == s1.toList)) h)) (
k (Value.bool false) h)))
def Cl74 (D : Orc) : Prop := ∀ a0 a1 h k kp, F74 D a0 a1 h k kp → D 74 [a0, a1] h k kp
theorem tieF74 (D : Orc) (a0 a1 : Value) (h : H) (k : Kv) (kp : Kp) : F74 D a0 a1 h k kp = bodyW Tryd.prog D (L74 D) lv74 Tryd.f74 [a0, a1] h k kp := by kernel_rfl
theorem lfp74 : Lfps Tryd.prog (CS Tryd.prog) (L74 (CS Tryd.prog)) lv74 (allLoops (bodyOf Tryd.f74)) := by
  have e : (allLoops (bodyOf Tryd.f74)) = [] := by kernel_rfl
  rw [e]
  exact trivial
theorem cl74 : Cl74 (CS Tryd.prog) := fun a0 a1 h k kp hk =>
  fn_sound wide (fn := Tryd.f74) (by kernel_rfl) (by kernel_rfl) (by kernel_rfl) lfp74 (by rw [tieF74] at hk; exact hk)
def lv75 : Lv := Lv.mk 19 [.raw, .int IntKind.i64] (fun i => cond (Nat.beq i 2) ([(0, .raw), (1, .int IntKind.i64), (7, .int IntKind.i64), (8, .int IntKind.i64)]) ([])) (fun i => cond (Nat.beq i 2) ([(0, [])]) ([])) [(4, .int IntKind.i64)] (fun i => none)
def round75_2 (D : Orc) (I : List Value → H → Prop) (K : Kl) (a0 a1 a2 a3 : Value) (h2 : H) : Prop :=
intK IntKind.i64 a1 (fun x3 => intK IntKind.i64 a2 (fun x4 => intK IntKind.i64 a3 (fun x5 => cond (decide (x5 < x4)) (
slAtW a0 x5 1 (fun ad6 => ∃ x7 : Int, rd h2 ad6 = some (Value.int IntKind.i64 x7) ∧ cond (x3 == x7) (
K X.r [(Value.int IntKind.i64 x5)] h2) (
I [a0, (Value.int IntKind.i64 x3), (Value.int IntKind.i64 x4), (Value.int IntKind.i64 (IntKind.wrap IntKind.i64 (x5 + (1 : Int))))] h2))) (
K (X.e 0) [] h2))))
def loop75_2 (D : Orc) (vs : List Value) (h : H) (K : Kl) : Prop := ∀ I : List Value → H → Prop, (∀ a0 a1 a2 a3 h, round75_2 D I K a0 a1 a2 a3 h → I [a0, a1, a2, a3] h) → I vs h
def L75 (D : Orc) : Lor := fun b vs h K => match firstId b with | some i => cond (Nat.beq i 2) (loop75_2 D vs h K) (False) | none => False
/-- slices.Index[[]int,int] -/
def F75 (D : Orc) (a0 a1 : Value) (h : H) (k : Kv) (kp : Kp) : Prop :=
intK IntKind.i64 a1 (fun x0 => lenW a0 (fun n1 => loop75_2 D [a0, (Value.int IntKind.i64 x0), (Value.int IntKind.i64 (n1 : Int)), (Value.int IntKind.i64 (0 : Int))] h (fun x9 vs10 h8 => xs x9 (intK IntKind.i64 (nth vs10 0) (fun x12 => k (Value.int IntKind.i64 x12) h8)) (fun i11 => cond (Nat.beq i11 0) (
k (Value.int IntKind.i64 (-1 : Int)) h8) (False)) (fun c => kp c h8))))
def Cl75 (D : Orc) : Prop := ∀ a0 a1 h k kp, F75 D a0 a1 h k kp → D 75 [a0, a1] h k kp
theorem tieR75_2 (D : Orc) (I : List Value → H → Prop) (K : Kl) (a0 a1 a2 a3 : Value) (h : H) : round75_2 D I K a0 a1 a2 a3 h = round Tryd.prog D (L75 D) lv75 (nthC (allLoops (bodyOf Tryd.f75)) 0) I K [a0, a1, a2, a3] h := by kernel_rfl
theorem tieF75 (D : Orc) (a0 a1 : Value) (h : H) (k : Kv) (kp : Kp) : F75 D a0 a1 h k kp = bodyW Tryd.prog D (L75 D) lv75 Tryd.f75 [a0, a1] h k kp := by kernel_rfl
theorem lfp75 : Lfps Tryd.prog (CS Tryd.prog) (L75 (CS Tryd.prog)) lv75 (allLoops (bodyOf Tryd.f75)) := by
  have e : (allLoops (bodyOf Tryd.f75)) = [nthC (allLoops (bodyOf Tryd.f75)) 0] := by kernel_rfl
  rw [e]
  exact ⟨(fun vs h K hk I H => hk I (fun a0 a1 a2 a3 h hr => H _ _ ((tieR75_2 (CS Tryd.prog) I K a0 a1 a2 a3 h) ▸ hr))), trivial⟩
theorem cl75 : Cl75 (CS Tryd.prog) := fun a0 a1 h k kp hk =>
  fn_sound wide (fn := Tryd.f75) (by kernel_rfl) (by kernel_rfl) (by kernel_rfl) lfp75 (by rw [tieF75] at hk; exact hk)
def lv77 : Lv := Lv.mk 19 [.raw, .raw] (fun i => cond (Nat.beq i 2) ([(0, .raw), (1, .raw), (7, .int IntKind.i64), (8, .int IntKind.i64)]) ([])) (fun i => cond (Nat.beq i 2) ([(0, [])]) ([])) [(4, .int IntKind.i64)] (fun i => none)
def round77_2 (D : Orc) (I : List Value → H → Prop) (K : Kl) (a0 a1 a2 a3 : Value) (h1 : H) : Prop :=
intK IntKind.i64 a2 (fun x2 => intK IntKind.i64 a3 (fun x3 => cond (decide (x3 < x2)) (
slAtW a0 x3 2 (fun ad4 => ∃ s5 : ByteArray, ∃ x6 : Int, rdN h1 ad4 2 = some [(Value.string s5), (Value.int IntKind.i64 x6)] ∧ callV Tryd.prog D 4 a1 [(Value.agg #[(Value.string s5), (Value.int IntKind.i64 x6)])] h1 (fun v7 h8 => boolW v7 (fun t9 => cond t9 (
K X.r [(Value.int IntKind.i64 x3)] h8) (
I [a0, a1, (Value.int IntKind.i64 x2), (Value.int IntKind.i64 (IntKind.wrap IntKind.i64 (x3 + (1 : Int))))] h8))) (fun c h => K (X.p c) [] h))) (
K (X.e 0) [] h1)))
def loop77_2 (D : Orc) (vs : List Value) (h : H) (K : Kl) : Prop := ∀ I : List Value → H → Prop, (∀ a0 a1 a2 a3 h, round77_2 D I K a0 a1 a2 a3 h → I [a0, a1, a2, a3] h) → I vs h
def L77 (D : Orc) : Lor := fun b vs h K => match firstId b with | some i => cond (Nat.beq i 2) (loop77_2 D vs h K) (False) | none => False
/-- slices.IndexFunc[[]lodestone/api.Symbol,lodestone/api.Symbol] -/
def F77 (D : Orc) (a0 a1 : Value) (h : H) (k : Kv) (kp : Kp) : Prop :=
lenW a0 (fun n0 => loop77_2 D [a0, a1, (Value.int IntKind.i64 (n0 : Int)), (Value.int IntKind.i64 (0 : Int))] h (fun x11 vs12 h10 => xs x11 (intK IntKind.i64 (nth vs12 0) (fun x14 => k (Value.int IntKind.i64 x14) h10)) (fun i13 => cond (Nat.beq i13 0) (
k (Value.int IntKind.i64 (-1 : Int)) h10) (False)) (fun c => kp c h10)))
def Cl77 (D : Orc) : Prop := ∀ a0 a1 h k kp, F77 D a0 a1 h k kp → D 77 [a0, a1] h k kp
theorem tieR77_2 (D : Orc) (I : List Value → H → Prop) (K : Kl) (a0 a1 a2 a3 : Value) (h : H) : round77_2 D I K a0 a1 a2 a3 h = round Tryd.prog D (L77 D) lv77 (nthC (allLoops (bodyOf Tryd.f77)) 0) I K [a0, a1, a2, a3] h := by kernel_rfl
theorem tieF77 (D : Orc) (a0 a1 : Value) (h : H) (k : Kv) (kp : Kp) : F77 D a0 a1 h k kp = bodyW Tryd.prog D (L77 D) lv77 Tryd.f77 [a0, a1] h k kp := by kernel_rfl
theorem lfp77 : Lfps Tryd.prog (CS Tryd.prog) (L77 (CS Tryd.prog)) lv77 (allLoops (bodyOf Tryd.f77)) := by
  have e : (allLoops (bodyOf Tryd.f77)) = [nthC (allLoops (bodyOf Tryd.f77)) 0] := by kernel_rfl
  rw [e]
  exact ⟨(fun vs h K hk I H => hk I (fun a0 a1 a2 a3 h hr => H _ _ ((tieR77_2 (CS Tryd.prog) I K a0 a1 a2 a3 h) ▸ hr))), trivial⟩
theorem cl77 : Cl77 (CS Tryd.prog) := fun a0 a1 h k kp hk =>
  fn_sound wide (fn := Tryd.f77) (by kernel_rfl) (by kernel_rfl) (by kernel_rfl) lfp77 (by rw [tieF77] at hk; exact hk)
def lv78 : Lv := Lv.mk 36 [.raw, .raw] (fun i => []) (fun i => []) [(4, .raw), (5, .int IntKind.i64)] (fun i => cond (Nat.beq i 5) (some [(6, .raw), (7, .raw)]) (cond (Nat.beq i 4) (some [(6, .raw), (7, .raw), (27, .bool)]) (none)))
def j78__5 (D : Orc) (k : Kv) (kp : Kp) (a0 a1 : Value) (h14 : H) : Prop :=
nonNil a0 = true ∧ ptrW a0 (fun ad15 => ∃ x16 : Int, rd h14 (Addr.add ad15 3) = some (Value.int IntKind.i64 x16) ∧ k (Value.tuple #[a1, (Value.int IntKind.i64 x16)]) h14)
def j78__4 (D : Orc) (k : Kv) (kp : Kp) (a0 a1 a2 : Value) (h10 : H) : Prop :=
boolW a2 (fun t11 => cond t11 (
nonNil a0 = true ∧ ptrW a0 (fun ad12 => one (Value.int IntKind.i64 (32 : Int)) = true ∧ 1 = 1 ∧ ∃ h13, wr1 h10 (Addr.add ad12 3) (Value.int IntKind.i64 (32 : Int)) = some h13 ∧ j78__5 D k kp a0 a1 h13)) (
j78__5 D k kp a0 a1 h10))
def L78 (D : Orc) : Lor := fun b vs h K => match firstId b with | some i => False | none => False
/-- lodestone/term.grown -/
def F78 (D : Orc) (a0 a1 : Value) (h : H) (k : Kv) (kp : Kp) : Prop :=
one a0 = true ∧ 0 < 4 ∧ one a1 = true ∧ 1 < 4 ∧ newW h [a0, a1, (Value.int IntKind.i64 (0 : Int)), (Value.int IntKind.i64 (0 : Int))] (fun p0 h1 => D 90 [p0] h1 (fun v2 h3 => ∃ v4 : Value, v2 = v4 ∧ nonNil p0 = true ∧ ptrW p0 (fun ad5 => ∃ x6 : Int, rd h3 (Addr.add ad5 3) = some (Value.int IntKind.i64 x6) ∧ cond (x6 == (0 : Int)) (
nonNil p0 = true ∧ ptrW p0 (fun ad7 => ∃ x8 : Int, rd h3 (Addr.add ad7 2) = some (Value.int IntKind.i64 x8) ∧ lenW a1 (fun n9 => j78__4 D k kp p0 v4 (Value.bool (decide (x8 < (n9 : Int)))) h3))) (
j78__4 D k kp p0 v4 (Value.bool false) h3))) kp)
def Cl78 (D : Orc) : Prop := ∀ a0 a1 h k kp, F78 D a0 a1 h k kp → D 78 [a0, a1] h k kp
theorem tieF78 (D : Orc) (a0 a1 : Value) (h : H) (k : Kv) (kp : Kp) : F78 D a0 a1 h k kp = bodyW Tryd.prog D (L78 D) lv78 Tryd.f78 [a0, a1] h k kp := by kernel_rfl
theorem lfp78 : Lfps Tryd.prog (CS Tryd.prog) (L78 (CS Tryd.prog)) lv78 (allLoops (bodyOf Tryd.f78)) := by
  have e : (allLoops (bodyOf Tryd.f78)) = [] := by kernel_rfl
  rw [e]
  exact trivial
theorem cl78 : Cl78 (CS Tryd.prog) := fun a0 a1 h k kp hk =>
  fn_sound wide (fn := Tryd.f78) (by kernel_rfl) (by kernel_rfl) (by kernel_rfl) lfp78 (by rw [tieF78] at hk; exact hk)
def lv79 : Lv := Lv.mk 35 [.str] (fun i => cond (Nat.beq i 4) ([(18, .raw)]) ([])) (fun i => cond (Nat.beq i 4) ([(0, [])]) ([])) [(2, .bool)] (fun i => cond (Nat.beq i 2) (some [(0, .str), (16, .bool)]) (cond (Nat.beq i 7) (some [(18, .raw), (34, .bool)]) (none)))
def j79_4_7 (D : Orc) (I : List Value → H → Prop) (K : Kl) (a0 a1 : Value) (h24 : H) : Prop :=
boolW a1 (fun t25 => cond t25 (
K X.r [(Value.bool false)] h24) (
I [a0] h24))
def round79_4 (D : Orc) (I : List Value → H → Prop) (K : Kl) (a0 : Value) (h9 : H) : Prop :=
ptrW a0 (fun ad10 => nextW h9 ad10 (fun v11 h12 => extractW v11 0 (fun v13 => boolW v13 (fun t14 => cond t14 (
extractW v11 1 (fun v15 => extractW v11 2 (fun v16 => intK IntKind.i64 v15 (fun x17 => cond (x17 == (0 : Int)) (
D 92 [v16] h12 (fun v18 h19 => ∃ t20 : Bool, v18 = (Value.bool t20) ∧ cond (!(!t20)) (
D 93 [v16] h19 (fun v21 h22 => ∃ t23 : Bool, v21 = (Value.bool t23) ∧ j79_4_7 D I K a0 (Value.bool (!t23)) h22) (fun c h => K (X.p c) [] h)) (
j79_4_7 D I K a0 (Value.bool true) h19)) (fun c h => K (X.p c) [] h)) (
D 93 [v16] h12 (fun v26 h27 => ∃ t28 : Bool, v26 = (Value.bool t28) ∧ j79_4_7 D I K a0 (Value.bool (!t28)) h27) (fun c h => K (X.p c) [] h)))))) (
K (X.e 0) [] h12)))))
def loop79_4 (D : Orc) (vs : List Value) (h : H) (K : Kl) : Prop := ∀ I : List Value → H → Prop, (∀ a0 h, round79_4 D I K a0 h → I [a0] h) → I vs h
def j79__2 (D : Orc) (k : Kv) (kp : Kp) (a0 a1 : Value) (h4 : H) : Prop :=
strW a0 (fun s5 => boolW a1 (fun t6 => cond t6 (
k (Value.bool false) h4) (
newIt h4 s5 (fun p7 h8 => loop79_4 D [p7] h8 (fun x30 vs31 h29 => xs x30 (boolW (nth vs31 0) (fun t33 => k (Value.bool t33) h29)) (fun i32 => cond (Nat.beq i32 0) (
k (Value.bool true) h29) (False)) (fun c => kp c h29))))))
def L79 (D : Orc) : Lor := fun b vs h K => match firstId b with | some i => cond (Nat.beq i 4) (loop79_4 D vs h K) (False) | none => False
/-- lodestone/lodestoneref03.Name -/
def F79 (D : Orc) (a0 : Value) (h : H) (k : Kv) (kp : Kp) : Prop :=
strW a0 (fun s0 => cond (!(s0.toList == (ByteArray.mk #[]).toList)) (
cond (!(decide ((s0.size : Int) > (32 : Int)))) (
D 91 [(Value.string s0)] h (fun v1 h2 => ∃ t3 : Bool, v1 = (Value.bool t3) ∧ j79__2 D k kp (Value.string s0) (Value.bool (!t3)) h2) kp) (
j79__2 D k kp (Value.string s0) (Value.bool true) h)) (
j79__2 D k kp (Value.string s0) (Value.bool true) h))
def Cl79 (D : Orc) : Prop := ∀ a0 h k kp, F79 D a0 h k kp → D 79 [a0] h k kp
theorem tieR79_4 (D : Orc) (I : List Value → H → Prop) (K : Kl) (a0 : Value) (h : H) : round79_4 D I K a0 h = round Tryd.prog D (L79 D) lv79 (nthC (allLoops (bodyOf Tryd.f79)) 0) I K [a0] h := by kernel_rfl
theorem tieF79 (D : Orc) (a0 : Value) (h : H) (k : Kv) (kp : Kp) : F79 D a0 h k kp = bodyW Tryd.prog D (L79 D) lv79 Tryd.f79 [a0] h k kp := by kernel_rfl
theorem lfp79 : Lfps Tryd.prog (CS Tryd.prog) (L79 (CS Tryd.prog)) lv79 (allLoops (bodyOf Tryd.f79)) := by
  have e : (allLoops (bodyOf Tryd.f79)) = [nthC (allLoops (bodyOf Tryd.f79)) 0] := by kernel_rfl
  rw [e]
  exact ⟨(fun vs h K hk I H => hk I (fun a0 h hr => H _ _ ((tieR79_4 (CS Tryd.prog) I K a0 h) ▸ hr))), trivial⟩
theorem cl79 : Cl79 (CS Tryd.prog) := fun a0 h k kp hk =>
  fn_sound wide (fn := Tryd.f79) (by kernel_rfl) (by kernel_rfl) (by kernel_rfl) lfp79 (by rw [tieF79] at hk; exact hk)
def lv83 : Lv := Lv.mk 17 [.raw, .raw] (fun i => []) (fun i => []) [(4, .raw), (5, .int IntKind.i64)] (fun i => none)
def L83 (D : Orc) : Lor := fun b vs h K => match firstId b with | some i => False | none => False
/-- lodestone/term.tree -/
def F83 (D : Orc) (a0 a1 : Value) (h : H) (k : Kv) (kp : Kp) : Prop :=
D 44 [a0] h (fun v0 h1 => ∃ x2 : Int, v0 = (Value.int IntKind.i64 x2) ∧ cond (x2 != (0 : Int)) (
k (Value.tuple #[Value.nilIface, (Value.int IntKind.i64 x2)]) h1) (
D 78 [a0, a1] h1 (fun v3 h4 => ∃ v5 : Value, ∃ x6 : Int, v3 = (Value.tuple #[v5, (Value.int IntKind.i64 x6)]) ∧ k (Value.tuple #[v5, (Value.int IntKind.i64 x6)]) h4) kp)) kp
def Cl83 (D : Orc) : Prop := ∀ a0 a1 h k kp, F83 D a0 a1 h k kp → D 83 [a0, a1] h k kp
theorem tieF83 (D : Orc) (a0 a1 : Value) (h : H) (k : Kv) (kp : Kp) : F83 D a0 a1 h k kp = bodyW Tryd.prog D (L83 D) lv83 Tryd.f83 [a0, a1] h k kp := by kernel_rfl
theorem lfp83 : Lfps Tryd.prog (CS Tryd.prog) (L83 (CS Tryd.prog)) lv83 (allLoops (bodyOf Tryd.f83)) := by
  have e : (allLoops (bodyOf Tryd.f83)) = [] := by kernel_rfl
  rw [e]
  exact trivial
theorem cl83 : Cl83 (CS Tryd.prog) := fun a0 a1 h k kp hk =>
  fn_sound wide (fn := Tryd.f83) (by kernel_rfl) (by kernel_rfl) (by kernel_rfl) lfp83 (by rw [tieF83] at hk; exact hk)
def lv89 : Lv := Lv.mk 21 [.int IntKind.i32] (fun i => []) (fun i => []) [(2, .bool)] (fun i => none)
def L89 (D : Orc) : Lor := fun b vs h K => match firstId b with | some i => False | none => False
/-- lodestone/term.letter -/
def F89 (D : Orc) (a0 : Value) (h : H) (k : Kv) (kp : Kp) : Prop :=
intK IntKind.i32 a0 (fun x0 => cond (decide ((97 : Int) ≤ x0)) (
cond (!(decide (x0 ≤ (122 : Int)))) (
cond (decide ((65 : Int) ≤ x0)) (
cond (!(decide (x0 ≤ (90 : Int)))) (
k (Value.bool (decide (x0 ≥ (128 : Int)))) h) (
k (Value.bool true) h)) (
k (Value.bool (decide (x0 ≥ (128 : Int)))) h)) (
k (Value.bool true) h)) (
cond (decide ((65 : Int) ≤ x0)) (
cond (!(decide (x0 ≤ (90 : Int)))) (
k (Value.bool (decide (x0 ≥ (128 : Int)))) h) (
k (Value.bool true) h)) (
k (Value.bool (decide (x0 ≥ (128 : Int)))) h)))
def Cl89 (D : Orc) : Prop := ∀ a0 h k kp, F89 D a0 h k kp → D 89 [a0] h k kp
theorem tieF89 (D : Orc) (a0 : Value) (h : H) (k : Kv) (kp : Kp) : F89 D a0 h k kp = bodyW Tryd.prog D (L89 D) lv89 Tryd.f89 [a0] h k kp := by kernel_rfl
theorem lfp89 : Lfps Tryd.prog (CS Tryd.prog) (L89 (CS Tryd.prog)) lv89 (allLoops (bodyOf Tryd.f89)) := by
  have e : (allLoops (bodyOf Tryd.f89)) = [] := by kernel_rfl
  rw [e]
  exact trivial
theorem cl89 : Cl89 (CS Tryd.prog) := fun a0 h k kp hk =>
  fn_sound wide (fn := Tryd.f89) (by kernel_rfl) (by kernel_rfl) (by kernel_rfl) lfp89 (by rw [tieF89] at hk; exact hk)
def lv90 : Lv := Lv.mk 114 [.raw] (fun i => cond (Nat.beq i 16) ([(0, .raw), (4, .raw), (87, .int IntKind.i64), (88, .int IntKind.i64)]) ([])) (fun i => cond (Nat.beq i 16) ([(2, [(4, .raw)])]) ([])) [(2, .raw)] (fun i => cond (Nat.beq i 8) (some [(0, .raw), (3, .int IntKind.i64), (38, .bool)]) (none))
def round90_16 (D : Orc) (I : List Value → H → Prop) (K : Kl) (a0 a1 a2 a3 : Value) (h39 : H) : Prop :=
intK IntKind.i64 a2 (fun x40 => intK IntKind.i64 a3 (fun x41 => cond (decide (x41 < x40)) (
D 90 [a0] h39 (fun v42 h43 => ∃ v44 : Value, v42 = v44 ∧ nonNil a1 = true ∧ ptrW a1 (fun ad45 => ∃ v46 : Value, rd h43 (Addr.add ad45 2) = some v46 ∧ one v44 = true ∧ 0 < 1 ∧ newSl h43 1 [v44] (fun s47 h48 => slenW s47 (fun n49 => srcW h48 1 s47 (n49) (fun w50 => apW h48 1 16 [Value.nilIface] v46 (n49) w50 (fun s51 h52 => nonNil a1 = true ∧ ptrW a1 (fun ad53 => one s51 = true ∧ 1 = 1 ∧ ∃ h54, wr1 h52 (Addr.add ad53 2) s51 = some h54 ∧ nonNil a1 = true ∧ ptrW a1 (fun ad55 => ∃ x56 : Int, rd h54 (Addr.add ad55 1) = some (Value.int IntKind.i64 x56) ∧ invW Tryd.prog D 3 v44 "lodestone/term.size" [] h54 (fun v57 h58 => (rd h58 (Addr.add ad55 1) = some (Value.int IntKind.i64 x56)) ∧ intK IntKind.i64 v57 (fun x59 => nonNil a1 = true ∧ ptrW a1 (fun ad60 => one (Value.int IntKind.i64 (IntKind.wrap IntKind.i64 (x56 + x59))) = true ∧ 1 = 1 ∧ ∃ h61, wr1 h58 (Addr.add ad60 1) (Value.int IntKind.i64 (IntKind.wrap IntKind.i64 (x56 + x59))) = some h61 ∧ I [a0, a1, (Value.int IntKind.i64 x40), (Value.int IntKind.i64 (IntKind.wrap IntKind.i64 (x41 + (1 : Int))))] h61))) (fun c h => K (X.p c) [] h))))))))) (fun c h => K (X.p c) [] h)) (
K (X.e 2) [a1] h39)))
def loop90_16 (D : Orc) (vs : List Value) (h : H) (K : Kl) : Prop := ∀ I : List Value → H → Prop, (∀ a0 a1 a2 a3 h, round90_16 D I K a0 a1 a2 a3 h → I [a0, a1, a2, a3] h) → I vs h
def j90__8 (D : Orc) (k : Kv) (kp : Kp) (a0 a1 a2 : Value) (h18 : H) : Prop :=
intK IntKind.i64 a1 (fun x19 => boolW a2 (fun t20 => cond t20 (
nonNil a0 = true ∧ ptrW a0 (fun ad21 => one (Value.int IntKind.i64 (30 : Int)) = true ∧ 1 = 1 ∧ ∃ h22, wr1 h18 (Addr.add ad21 3) (Value.int IntKind.i64 (30 : Int)) = some h22 ∧ k (Value.iface 133 (Value.int IntKind.i64 (0 : Int))) h22)) (
cond (decide (x19 < (0 : Int))) (
nonNil a0 = true ∧ ptrW a0 (fun ad23 => ∃ x24 : Int, rd h18 (Addr.add ad23 2) = some (Value.int IntKind.i64 x24) ∧ nonNil a0 = true ∧ ptrW a0 (fun ad25 => one (Value.int IntKind.i64 (IntKind.wrap IntKind.i64 (x24 + (1 : Int)))) = true ∧ 1 = 1 ∧ ∃ h26, wr1 h18 (Addr.add ad25 2) (Value.int IntKind.i64 (IntKind.wrap IntKind.i64 (x24 + (1 : Int)))) = some h26 ∧ k (Value.iface 133 (Value.int IntKind.i64 (IntKind.wrap IntKind.i64 ((-1 : Int) - x19)))) h26))) (
nonNil a0 = true ∧ ptrW a0 (fun ad27 => ∃ x28 : Int, rd h18 (Addr.add ad27 2) = some (Value.int IntKind.i64 x28) ∧ one (Value.int IntKind.i64 x28) = true ∧ 0 < 3 ∧ one (Value.int IntKind.i64 (1 : Int)) = true ∧ 1 < 3 ∧ newW h18 [(Value.int IntKind.i64 x28), (Value.int IntKind.i64 (1 : Int)), (Value.slice none 0 0)] (fun p29 h30 => nonNil a0 = true ∧ ptrW a0 (fun ad31 => ∃ x32 : Int, rd h30 (Addr.add ad31 2) = some (Value.int IntKind.i64 x32) ∧ nonNil a0 = true ∧ ptrW a0 (fun ad33 => one (Value.int IntKind.i64 (IntKind.wrap IntKind.i64 (x32 + (1 : Int)))) = true ∧ 1 = 1 ∧ ∃ h34, wr1 h30 (Addr.add ad33 2) (Value.int IntKind.i64 (IntKind.wrap IntKind.i64 (x32 + (1 : Int)))) = some h34 ∧ nonNil a0 = true ∧ ptrW a0 (fun ad35 => ∃ v36 : Value, rd h34 (Addr.add ad35 0) = some v36 ∧ slAtW v36 x19 2 (fun ad37 => ∃ x38 : Int, rd h34 (Addr.add ad37 1) = some (Value.int IntKind.i64 x38) ∧ loop90_16 D [a0, p29, (Value.int IntKind.i64 x38), (Value.int IntKind.i64 (0 : Int))] h34 (fun x63 vs64 h62 => xs x63 (k (nth vs64 0) h62) (fun i65 => cond (Nat.beq i65 2) (
k (Value.iface 103 (nth vs64 0)) h62) (False)) (fun c => kp c h62))))))))))))
def L90 (D : Orc) : Lor := fun b vs h K => match firstId b with | some i => cond (Nat.beq i 16) (loop90_16 D vs h K) (False) | none => False
/-- (*lodestone/term.reader).read -/
def F90 (D : Orc) (a0 : Value) (h : H) (k : Kv) (kp : Kp) : Prop :=
nonNil a0 = true ∧ ptrW a0 (fun ad0 => ∃ x1 : Int, rd h (Addr.add ad0 3) = some (Value.int IntKind.i64 x1) ∧ cond (x1 != (0 : Int)) (
k (Value.iface 133 (Value.int IntKind.i64 (0 : Int))) h) (
nonNil a0 = true ∧ ptrW a0 (fun ad2 => ∃ x3 : Int, rd h (Addr.add ad2 2) = some (Value.int IntKind.i64 x3) ∧ nonNil a0 = true ∧ ptrW a0 (fun ad4 => ∃ v5 : Value, rd h (Addr.add ad4 1) = some v5 ∧ lenW v5 (fun n6 => cond (x3 == (n6 : Int)) (
nonNil a0 = true ∧ ptrW a0 (fun ad7 => one (Value.int IntKind.i64 (31 : Int)) = true ∧ 1 = 1 ∧ ∃ h8, wr1 h (Addr.add ad7 3) (Value.int IntKind.i64 (31 : Int)) = some h8 ∧ k (Value.iface 133 (Value.int IntKind.i64 (0 : Int))) h8)) (
nonNil a0 = true ∧ ptrW a0 (fun ad9 => ∃ v10 : Value, rd h (Addr.add ad9 1) = some v10 ∧ nonNil a0 = true ∧ ptrW a0 (fun ad11 => ∃ x12 : Int, rd h (Addr.add ad11 2) = some (Value.int IntKind.i64 x12) ∧ slAtW v10 x12 1 (fun ad13 => ∃ x14 : Int, rd h ad13 = some (Value.int IntKind.i64 x14) ∧ nonNil a0 = true ∧ ptrW a0 (fun ad15 => ∃ v16 : Value, rd h (Addr.add ad15 0) = some v16 ∧ lenW v16 (fun n17 => cond (!(decide (x14 ≥ (n17 : Int)))) (
j90__8 D k kp a0 (Value.int IntKind.i64 x14) (Value.bool (decide (x14 < (-1048576 : Int)))) h) (
j90__8 D k kp a0 (Value.int IntKind.i64 x14) (Value.bool true) h))))))))))))
def Cl90 (D : Orc) : Prop := ∀ a0 h k kp, F90 D a0 h k kp → D 90 [a0] h k kp
theorem tieR90_16 (D : Orc) (I : List Value → H → Prop) (K : Kl) (a0 a1 a2 a3 : Value) (h : H) : round90_16 D I K a0 a1 a2 a3 h = round Tryd.prog D (L90 D) lv90 (nthC (allLoops (bodyOf Tryd.f90)) 0) I K [a0, a1, a2, a3] h := by kernel_rfl
theorem tieF90 (D : Orc) (a0 : Value) (h : H) (k : Kv) (kp : Kp) : F90 D a0 h k kp = bodyW Tryd.prog D (L90 D) lv90 Tryd.f90 [a0] h k kp := by kernel_rfl
theorem lfp90 : Lfps Tryd.prog (CS Tryd.prog) (L90 (CS Tryd.prog)) lv90 (allLoops (bodyOf Tryd.f90)) := by
  have e : (allLoops (bodyOf Tryd.f90)) = [nthC (allLoops (bodyOf Tryd.f90)) 0] := by kernel_rfl
  rw [e]
  exact ⟨(fun vs h K hk I H => hk I (fun a0 a1 a2 a3 h hr => H _ _ ((tieR90_16 (CS Tryd.prog) I K a0 a1 a2 a3 h) ▸ hr))), trivial⟩
theorem cl90 : Cl90 (CS Tryd.prog) := fun a0 h k kp hk =>
  fn_sound wide (fn := Tryd.f90) (by kernel_rfl) (by kernel_rfl) (by kernel_rfl) lfp90 (by rw [tieF90] at hk; exact hk)
def lv91 : Lv := Lv.mk 18 [.str] (fun i => cond (Nat.beq i 3) ([(0, .str), (3, .str), (7, .raw)]) ([])) (fun i => cond (Nat.beq i 3) ([(0, [(0, .str), (3, .str)])]) ([])) [(2, .bool)] (fun i => none)
def round91_3 (D : Orc) (I : List Value → H → Prop) (K : Kl) (a0 a1 a2 : Value) (h3 : H) : Prop :=
strW a0 (fun s4 => strW a1 (fun s5 => ptrW a2 (fun ad6 => nextW h3 ad6 (fun v7 h8 => extractW v7 0 (fun v9 => boolW v9 (fun t10 => cond t10 (
extractW v7 2 (fun v11 => intW v11 (fun _ x12 => s5.size + (Utf8.encode x12).size ≤ 9223372036854775807 ∧ I [(Value.string s4), (Value.string (s5 ++ (Utf8.encode x12))), a2] h8))) (
K (X.e 0) [(Value.string s4), (Value.string s5)] h8)))))))
def loop91_3 (D : Orc) (vs : List Value) (h : H) (K : Kl) : Prop := ∀ I : List Value → H → Prop, (∀ a0 a1 a2 h, round91_3 D I K a0 a1 a2 h → I [a0, a1, a2] h) → I vs h
def L91 (D : Orc) : Lor := fun b vs h K => match firstId b with | some i => cond (Nat.beq i 3) (loop91_3 D vs h K) (False) | none => False
/-- lodestone/lodestoneref03.good -/
def F91 (D : Orc) (a0 : Value) (h : H) (k : Kv) (kp : Kp) : Prop :=
strW a0 (fun s0 => newIt h s0 (fun p1 h2 => loop91_3 D [(Value.string s0), (Value.string (ByteArray.mk #[])), p1] h2 (fun x14 vs15 h13 => xs x14 (boolW (nth vs15 0) (fun t17 => k (Value.bool t17) h13)) (fun i16 => cond (Nat.beq i16 0) (
strW (nth vs15 0) (fun s18 => strW (nth vs15 1) (fun s19 => k (Value.bool (s19.toList == s18.toList)) h13))) (False)) (fun c => kp c h13))))
def Cl91 (D : Orc) : Prop := ∀ a0 h k kp, F91 D a0 h k kp → D 91 [a0] h k kp
theorem tieR91_3 (D : Orc) (I : List Value → H → Prop) (K : Kl) (a0 a1 a2 : Value) (h : H) : round91_3 D I K a0 a1 a2 h = round Tryd.prog D (L91 D) lv91 (nthC (allLoops (bodyOf Tryd.f91)) 0) I K [a0, a1, a2] h := by kernel_rfl
theorem tieF91 (D : Orc) (a0 : Value) (h : H) (k : Kv) (kp : Kp) : F91 D a0 h k kp = bodyW Tryd.prog D (L91 D) lv91 Tryd.f91 [a0] h k kp := by kernel_rfl
theorem lfp91 : Lfps Tryd.prog (CS Tryd.prog) (L91 (CS Tryd.prog)) lv91 (allLoops (bodyOf Tryd.f91)) := by
  have e : (allLoops (bodyOf Tryd.f91)) = [nthC (allLoops (bodyOf Tryd.f91)) 0] := by kernel_rfl
  rw [e]
  exact ⟨(fun vs h K hk I H => hk I (fun a0 a1 a2 h hr => H _ _ ((tieR91_3 (CS Tryd.prog) I K a0 a1 a2 h) ▸ hr))), trivial⟩
theorem cl91 : Cl91 (CS Tryd.prog) := fun a0 h k kp hk =>
  fn_sound wide (fn := Tryd.f91) (by kernel_rfl) (by kernel_rfl) (by kernel_rfl) lfp91 (by rw [tieF91] at hk; exact hk)
def lv92 : Lv := Lv.mk 21 [.int IntKind.i32] (fun i => []) (fun i => []) [(2, .bool)] (fun i => none)
def L92 (D : Orc) : Lor := fun b vs h K => match firstId b with | some i => False | none => False
/-- lodestone/lodestoneref03.letter -/
def F92 (D : Orc) (a0 : Value) (h : H) (k : Kv) (kp : Kp) : Prop :=
intK IntKind.i32 a0 (fun x0 => cond (decide (x0 ≥ (97 : Int))) (
cond (!(decide (x0 ≤ (122 : Int)))) (
cond (decide (x0 ≥ (65 : Int))) (
cond (!(decide (x0 ≤ (90 : Int)))) (
k (Value.bool (decide (x0 ≥ (128 : Int)))) h) (
k (Value.bool true) h)) (
k (Value.bool (decide (x0 ≥ (128 : Int)))) h)) (
k (Value.bool true) h)) (
cond (decide (x0 ≥ (65 : Int))) (
cond (!(decide (x0 ≤ (90 : Int)))) (
k (Value.bool (decide (x0 ≥ (128 : Int)))) h) (
k (Value.bool true) h)) (
k (Value.bool (decide (x0 ≥ (128 : Int)))) h)))
def Cl92 (D : Orc) : Prop := ∀ a0 h k kp, F92 D a0 h k kp → D 92 [a0] h k kp
theorem tieF92 (D : Orc) (a0 : Value) (h : H) (k : Kv) (kp : Kp) : F92 D a0 h k kp = bodyW Tryd.prog D (L92 D) lv92 Tryd.f92 [a0] h k kp := by kernel_rfl
theorem lfp92 : Lfps Tryd.prog (CS Tryd.prog) (L92 (CS Tryd.prog)) lv92 (allLoops (bodyOf Tryd.f92)) := by
  have e : (allLoops (bodyOf Tryd.f92)) = [] := by kernel_rfl
  rw [e]
  exact trivial
theorem cl92 : Cl92 (CS Tryd.prog) := fun a0 h k kp hk =>
  fn_sound wide (fn := Tryd.f92) (by kernel_rfl) (by kernel_rfl) (by kernel_rfl) lfp92 (by rw [tieF92] at hk; exact hk)
def lv93 : Lv := Lv.mk 21 [.int IntKind.i32] (fun i => []) (fun i => []) [(2, .bool)] (fun i => none)
def L93 (D : Orc) : Lor := fun b vs h K => match firstId b with | some i => False | none => False
/-- lodestone/lodestoneref03.more -/
def F93 (D : Orc) (a0 : Value) (h : H) (k : Kv) (kp : Kp) : Prop :=
intK IntKind.i32 a0 (fun x0 => D 92 [(Value.int IntKind.i32 x0)] h (fun v1 h2 => ∃ t3 : Bool, v1 = (Value.bool t3) ∧ cond (!t3) (
cond (decide (x0 ≥ (48 : Int))) (
cond (!(decide (x0 ≤ (57 : Int)))) (
cond (!(x0 == (95 : Int))) (
k (Value.bool (x0 == (39 : Int))) h2) (
k (Value.bool true) h2)) (
k (Value.bool true) h2)) (
cond (!(x0 == (95 : Int))) (
k (Value.bool (x0 == (39 : Int))) h2) (
k (Value.bool true) h2))) (
k (Value.bool true) h2)) kp)
def Cl93 (D : Orc) : Prop := ∀ a0 h k kp, F93 D a0 h k kp → D 93 [a0] h k kp
theorem tieF93 (D : Orc) (a0 : Value) (h : H) (k : Kv) (kp : Kp) : F93 D a0 h k kp = bodyW Tryd.prog D (L93 D) lv93 Tryd.f93 [a0] h k kp := by kernel_rfl
theorem lfp93 : Lfps Tryd.prog (CS Tryd.prog) (L93 (CS Tryd.prog)) lv93 (allLoops (bodyOf Tryd.f93)) := by
  have e : (allLoops (bodyOf Tryd.f93)) = [] := by kernel_rfl
  rw [e]
  exact trivial
theorem cl93 : Cl93 (CS Tryd.prog) := fun a0 h k kp hk =>
  fn_sound wide (fn := Tryd.f93) (by kernel_rfl) (by kernel_rfl) (by kernel_rfl) lfp93 (by rw [tieF93] at hk; exact hk)
def lv135 : Lv := Lv.mk 7 [.raw] (fun i => []) (fun i => []) [(2, .int IntKind.i64)] (fun i => none)
def L135 (D : Orc) : Lor := fun b vs h K => match firstId b with | some i => False | none => False
/-- (*lodestone/term.inner).size -/
def F135 (D : Orc) (a0 : Value) (h : H) (k : Kv) (kp : Kp) : Prop :=
nonNil a0 = true ∧ ptrW a0 (fun ad0 => ∃ x1 : Int, rd h (Addr.add ad0 1) = some (Value.int IntKind.i64 x1) ∧ k (Value.int IntKind.i64 x1) h)
def Cl135 (D : Orc) : Prop := ∀ a0 h k kp, F135 D a0 h k kp → D 135 [a0] h k kp
theorem tieF135 (D : Orc) (a0 : Value) (h : H) (k : Kv) (kp : Kp) : F135 D a0 h k kp = bodyW Tryd.prog D (L135 D) lv135 Tryd.f135 [a0] h k kp := by kernel_rfl
theorem lfp135 : Lfps Tryd.prog (CS Tryd.prog) (L135 (CS Tryd.prog)) lv135 (allLoops (bodyOf Tryd.f135)) := by
  have e : (allLoops (bodyOf Tryd.f135)) = [] := by kernel_rfl
  rw [e]
  exact trivial
theorem cl135 : Cl135 (CS Tryd.prog) := fun a0 h k kp hk =>
  fn_sound wide (fn := Tryd.f135) (by kernel_rfl) (by kernel_rfl) (by kernel_rfl) lfp135 (by rw [tieF135] at hk; exact hk)
def lv136 : Lv := Lv.mk 3 [.int IntKind.i64] (fun i => []) (fun i => []) [(2, .int IntKind.i64)] (fun i => none)
def L136 (D : Orc) : Lor := fun b vs h K => match firstId b with | some i => False | none => False
/-- (lodestone/term.leaf).size -/
def F136 (D : Orc) (a0 : Value) (h : H) (k : Kv) (kp : Kp) : Prop :=
intK IntKind.i64 a0 (fun x0 => k (Value.int IntKind.i64 (1 : Int)) h)
def Cl136 (D : Orc) : Prop := ∀ a0 h k kp, F136 D a0 h k kp → D 136 [a0] h k kp
theorem tieF136 (D : Orc) (a0 : Value) (h : H) (k : Kv) (kp : Kp) : F136 D a0 h k kp = bodyW Tryd.prog D (L136 D) lv136 Tryd.f136 [a0] h k kp := by kernel_rfl
theorem lfp136 : Lfps Tryd.prog (CS Tryd.prog) (L136 (CS Tryd.prog)) lv136 (allLoops (bodyOf Tryd.f136)) := by
  have e : (allLoops (bodyOf Tryd.f136)) = [] := by kernel_rfl
  rw [e]
  exact trivial
theorem cl136 : Cl136 (CS Tryd.prog) := fun a0 h k kp hk =>
  fn_sound wide (fn := Tryd.f136) (by kernel_rfl) (by kernel_rfl) (by kernel_rfl) lfp136 (by rw [tieF136] at hk; exact hk)
end Go.Proofs.YtnlhnlmnlfmojaaDoor.Am
