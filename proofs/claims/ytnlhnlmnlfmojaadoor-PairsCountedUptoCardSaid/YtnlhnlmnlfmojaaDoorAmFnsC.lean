/-
  Packed: 
-/
import Derived.Test.YtnlhnlmnlfmojaaDoorAmFnsP
set_option linter.unusedVariables false
set_option linter.unusedSimpArgs false
set_option linter.unnecessarySimpa false
namespace Go.Proofs.YtnlhnlmnlfmojaaDoor.Am
open Go Go.Proofs
set_option maxRecDepth 100000
set_option linter.unusedVariables false
def lv8 : Lv := Lv.mk 201 [.raw] (fun i => cond (Nat.beq i 9) ([(1, .raw), (5, .raw), (6, .raw), (7, .int IntKind.i64), (8, .int IntKind.i64), (9, .int IntKind.i64)]) (cond (Nat.beq i 13) ([(1, .raw), (5, .raw), (6, .raw), (7, .int IntKind.i64), (8, .int IntKind.i64), (9, .int IntKind.i64), (10, .raw), (11, .int IntKind.i64)]) (cond (Nat.beq i 17) ([(1, .raw), (5, .raw), (6, .raw), (7, .int IntKind.i64), (8, .int IntKind.i64), (9, .int IntKind.i64), (10, .raw), (11, .int IntKind.i64), (12, .bool), (13, .int IntKind.i64)]) ([])))) (fun i => cond (Nat.beq i 9) ([(0, [(6, .raw), (7, .int IntKind.i64), (8, .int IntKind.i64)])]) (cond (Nat.beq i 13) ([(2, [(1, .raw), (5, .raw), (6, .raw), (7, .int IntKind.i64), (8, .int IntKind.i64), (9, .int IntKind.i64)])]) (cond (Nat.beq i 17) ([(4, [(1, .raw), (5, .raw), (6, .raw), (7, .int IntKind.i64), (8, .int IntKind.i64), (9, .int IntKind.i64), (10, .raw), (11, .int IntKind.i64), (12, .bool)])]) ([])))) [(2, .bool)] (fun i => cond (Nat.beq i 4) (some [(1, .raw), (3, .bool), (24, .bool)]) (cond (Nat.beq i 14) (some [(1, .raw), (5, .raw), (6, .raw), (7, .int IntKind.i64), (8, .int IntKind.i64), (9, .int IntKind.i64), (10, .raw), (11, .int IntKind.i64)]) (cond (Nat.beq i 18) (some [(1, .raw), (5, .raw), (6, .raw), (7, .int IntKind.i64), (8, .int IntKind.i64), (9, .int IntKind.i64), (10, .raw), (11, .int IntKind.i64), (12, .bool), (13, .int IntKind.i64)]) (cond (Nat.beq i 30) (some [(1, .raw), (5, .raw), (6, .raw), (7, .int IntKind.i64), (8, .int IntKind.i64), (9, .int IntKind.i64), (10, .raw), (11, .int IntKind.i64)]) (cond (Nat.beq i 26) (some [(1, .raw), (5, .raw), (6, .raw), (7, .int IntKind.i64), (8, .int IntKind.i64), (9, .int IntKind.i64), (10, .raw), (11, .int IntKind.i64), (160, .bool)]) (none))))))
def j8_17_18 (D : Orc) (I : List Value → H → Prop) (K : Kl) (a0 a1 a2 a3 a4 a5 a6 a7 a8 a9 : Value) (h57 : H) : Prop :=
intK IntKind.i64 a3 (fun x58 => intK IntKind.i64 a4 (fun x59 => intK IntKind.i64 a5 (fun x60 => intK IntKind.i64 a7 (fun x61 => boolW a8 (fun t62 => intK IntKind.i64 a9 (fun x63 => I [a0, a1, a2, (Value.int IntKind.i64 x58), (Value.int IntKind.i64 x59), (Value.int IntKind.i64 x60), a6, (Value.int IntKind.i64 x61), (Value.bool t62), (Value.int IntKind.i64 (IntKind.wrap IntKind.i64 (x63 + (1 : Int))))] h57))))))
def round8_17 (D : Orc) (I : List Value → H → Prop) (K : Kl) (a0 a1 a2 a3 a4 a5 a6 a7 a8 a9 : Value) (h45 : H) : Prop :=
intK IntKind.i64 a3 (fun x46 => intK IntKind.i64 a4 (fun x47 => intK IntKind.i64 a5 (fun x48 => intK IntKind.i64 a7 (fun x49 => boolW a8 (fun t50 => intK IntKind.i64 a9 (fun x51 => lenW a1 (fun n52 => cond (decide (x51 < (n52 : Int))) (
cond (!t50) (
slAtW a1 x51 1 (fun ad53 => ∃ x54 : Int, rd h45 ad53 = some (Value.int IntKind.i64 x54) ∧ slAtW a6 x49 1 (fun ad55 => ∃ x56 : Int, rd h45 ad55 = some (Value.int IntKind.i64 x56) ∧ j8_17_18 D I K a0 a1 a2 (Value.int IntKind.i64 x46) (Value.int IntKind.i64 x47) (Value.int IntKind.i64 x48) a6 (Value.int IntKind.i64 x49) (Value.bool (x54 == x56)) (Value.int IntKind.i64 x51) h45))) (
j8_17_18 D I K a0 a1 a2 (Value.int IntKind.i64 x46) (Value.int IntKind.i64 x47) (Value.int IntKind.i64 x48) a6 (Value.int IntKind.i64 x49) (Value.bool true) (Value.int IntKind.i64 x51) h45)) (
K (X.e 4) [a0, a1, a2, (Value.int IntKind.i64 x46), (Value.int IntKind.i64 x47), (Value.int IntKind.i64 x48), a6, (Value.int IntKind.i64 x49), (Value.bool t50)] h45))))))))
def loop8_17 (D : Orc) (vs : List Value) (h : H) (K : Kl) : Prop := ∀ I : List Value → H → Prop, (∀ a0 a1 a2 a3 a4 a5 a6 a7 a8 a9 h, round8_17 D I K a0 a1 a2 a3 a4 a5 a6 a7 a8 a9 h → I [a0, a1, a2, a3, a4, a5, a6, a7, a8, a9] h) → I vs h
def j8_13_14 (D : Orc) (I : List Value → H → Prop) (K : Kl) (a0 a1 a2 a3 a4 a5 a6 a7 : Value) (h74 : H) : Prop :=
intK IntKind.i64 a3 (fun x75 => intK IntKind.i64 a4 (fun x76 => intK IntKind.i64 a5 (fun x77 => intK IntKind.i64 a7 (fun x78 => I [a0, a1, a2, (Value.int IntKind.i64 x75), (Value.int IntKind.i64 x76), (Value.int IntKind.i64 x77), a6, (Value.int IntKind.i64 (IntKind.wrap IntKind.i64 (x78 + (1 : Int))))] h74))))
def j8_13_30 (D : Orc) (I : List Value → H → Prop) (K : Kl) (a0 a1 a2 a3 a4 a5 a6 a7 : Value) (h139 : H) : Prop :=
intK IntKind.i64 a3 (fun x140 => intK IntKind.i64 a4 (fun x141 => intK IntKind.i64 a5 (fun x142 => intK IntKind.i64 a7 (fun x143 => j8_13_14 D I K a0 a1 a2 (Value.int IntKind.i64 x140) (Value.int IntKind.i64 (IntKind.wrap IntKind.i64 (x141 + (1 : Int)))) (Value.int IntKind.i64 x142) a6 (Value.int IntKind.i64 x143) h139))))
def j8_13_26 (D : Orc) (I : List Value → H → Prop) (K : Kl) (a0 a1 a2 a3 a4 a5 a6 a7 a8 : Value) (h123 : H) : Prop :=
intK IntKind.i64 a3 (fun x124 => intK IntKind.i64 a4 (fun x125 => intK IntKind.i64 a5 (fun x126 => intK IntKind.i64 a7 (fun x127 => boolW a8 (fun t128 => cond t128 (
K X.r [(Value.bool false)] h123) (
slAtW a2 x125 2 (fun ad129 => ∃ v130 : Value, rd h123 (Addr.add ad129 1) = some v130 ∧ slCutW v130 (some (1 : Int)) none none 1 (fun s131 => slAtW a2 x125 2 (fun ad132 => ∃ v133 : Value, rd h123 (Addr.add ad132 1) = some v133 ∧ lenW v133 (fun n134 => slCutW a6 (some (IntKind.wrap IntKind.i64 (x127 + (1 : Int)))) (some (IntKind.wrap IntKind.i64 (x127 + (n134 : Int)))) none 1 (fun s135 => D 25 [s131, s135] h123 (fun v136 h137 => ∃ t138 : Bool, v136 = (Value.bool t138) ∧ cond (!t138) (
K X.r [(Value.bool false)] h137) (
j8_13_30 D I K a0 a1 a2 (Value.int IntKind.i64 x124) (Value.int IntKind.i64 x125) (Value.int IntKind.i64 x126) a6 (Value.int IntKind.i64 x127) h137)) (fun c h => K (X.p c) [] h))))))))))))
def round8_13 (D : Orc) (I : List Value → H → Prop) (K : Kl) (a0 a1 a2 a3 a4 a5 a6 a7 : Value) (h39 : H) : Prop :=
intK IntKind.i64 a3 (fun x40 => intK IntKind.i64 a4 (fun x41 => intK IntKind.i64 a5 (fun x42 => intK IntKind.i64 a7 (fun x43 => lenW a6 (fun n44 => cond (decide (x43 < (n44 : Int))) (
loop8_17 D [a0, a1, a2, (Value.int IntKind.i64 x40), (Value.int IntKind.i64 x41), (Value.int IntKind.i64 x42), a6, (Value.int IntKind.i64 x43), (Value.bool false), (Value.int IntKind.i64 (0 : Int))] h39 (fun x65 vs66 h64 => xs x65 (boolW (nth vs66 0) (fun t68 => K X.r [(Value.bool t68)] h64)) (fun i67 => cond (Nat.beq i67 4) (
intK IntKind.i64 (nth vs66 3) (fun x69 => intK IntKind.i64 (nth vs66 4) (fun x70 => intK IntKind.i64 (nth vs66 5) (fun x71 => intK IntKind.i64 (nth vs66 7) (fun x72 => boolW (nth vs66 8) (fun t73 => cond (!t73) (
j8_13_14 D I K (nth vs66 0) (nth vs66 1) (nth vs66 2) (Value.int IntKind.i64 x69) (Value.int IntKind.i64 x70) (Value.int IntKind.i64 x71) (nth vs66 6) (Value.int IntKind.i64 x72) h64) (
lenW (nth vs66 2) (fun n79 => cond (decide (x70 < (n79 : Int))) (
slAtW (nth vs66 2) x70 2 (fun ad80 => ∃ v81 : Value, rd h64 (Addr.add ad80 0) = some v81 ∧ lenW v81 (fun n82 => cond ((n82 : Int) == (0 : Int)) (
K X.r [(Value.bool false)] h64) (
slAtW (nth vs66 2) x70 2 (fun ad83 => ∃ v84 : Value, rd h64 (Addr.add ad83 0) = some v84 ∧ slCutW v84 (some (1 : Int)) none none 1 (fun s85 => ptrW (nth vs66 0) (fun ad86 => ∃ v87 : Value, rd h64 (Addr.add ad86 1) = some v87 ∧ slAtW v87 x71 2 (fun ad88 => ∃ v89 : Value, rd h64 (Addr.add ad88 0) = some v89 ∧ slCutW v89 (some (1 : Int)) none none 1 (fun s90 => D 25 [s85, s90] h64 (fun v91 h92 => ∃ t93 : Bool, v91 = (Value.bool t93) ∧ cond (!(!t93)) (
slAtW (nth vs66 2) x70 2 (fun ad94 => ∃ v95 : Value, rd h92 (Addr.add ad94 0) = some v95 ∧ slAtW v95 (0 : Int) 1 (fun ad96 => ∃ x97 : Int, rd h92 ad96 = some (Value.int IntKind.i64 x97) ∧ ptrW (nth vs66 0) (fun ad98 => ∃ v99 : Value, rd h92 (Addr.add ad98 1) = some v99 ∧ slAtW v99 x71 2 (fun ad100 => ∃ v101 : Value, rd h92 (Addr.add ad100 0) = some v101 ∧ slAtW v101 (0 : Int) 1 (fun ad102 => ∃ x103 : Int, rd h92 ad102 = some (Value.int IntKind.i64 x103) ∧ ptrW (nth vs66 0) (fun ad104 => ∃ v105 : Value, rd h92 (Addr.add ad104 0) = some v105 ∧ lenW v105 (fun n106 => cond (!(x97 != (IntKind.wrap IntKind.i64 (x103 + (n106 : Int))))) (
slAtW (nth vs66 2) x70 2 (fun ad107 => ∃ v108 : Value, rd h92 (Addr.add ad107 1) = some v108 ∧ lenW v108 (fun n109 => cond (!((n109 : Int) == (0 : Int))) (
slAtW (nth vs66 2) x70 2 (fun ad110 => ∃ v111 : Value, rd h92 (Addr.add ad110 1) = some v111 ∧ lenW v111 (fun n112 => lenW (nth vs66 6) (fun n113 => cond (!(decide ((n112 : Int) > (IntKind.wrap IntKind.i64 ((n113 : Int) - x72))))) (
slAtW (nth vs66 2) x70 2 (fun ad114 => ∃ v115 : Value, rd h92 (Addr.add ad114 1) = some v115 ∧ slAtW v115 (0 : Int) 1 (fun ad116 => ∃ x117 : Int, rd h92 ad116 = some (Value.int IntKind.i64 x117) ∧ slAtW (nth vs66 6) x72 1 (fun ad118 => ∃ x119 : Int, rd h92 ad118 = some (Value.int IntKind.i64 x119) ∧ ptrW (nth vs66 0) (fun ad120 => ∃ v121 : Value, rd h92 (Addr.add ad120 0) = some v121 ∧ lenW v121 (fun n122 => j8_13_26 D I K (nth vs66 0) (nth vs66 1) (nth vs66 2) (Value.int IntKind.i64 x69) (Value.int IntKind.i64 x70) (Value.int IntKind.i64 x71) (nth vs66 6) (Value.int IntKind.i64 x72) (Value.bool (x117 != (IntKind.wrap IntKind.i64 (x119 + (n122 : Int))))) h92)))))) (
j8_13_26 D I K (nth vs66 0) (nth vs66 1) (nth vs66 2) (Value.int IntKind.i64 x69) (Value.int IntKind.i64 x70) (Value.int IntKind.i64 x71) (nth vs66 6) (Value.int IntKind.i64 x72) (Value.bool true) h92))))) (
j8_13_26 D I K (nth vs66 0) (nth vs66 1) (nth vs66 2) (Value.int IntKind.i64 x69) (Value.int IntKind.i64 x70) (Value.int IntKind.i64 x71) (nth vs66 6) (Value.int IntKind.i64 x72) (Value.bool true) h92)))) (
j8_13_26 D I K (nth vs66 0) (nth vs66 1) (nth vs66 2) (Value.int IntKind.i64 x69) (Value.int IntKind.i64 x70) (Value.int IntKind.i64 x71) (nth vs66 6) (Value.int IntKind.i64 x72) (Value.bool true) h92))))))))) (
j8_13_26 D I K (nth vs66 0) (nth vs66 1) (nth vs66 2) (Value.int IntKind.i64 x69) (Value.int IntKind.i64 x70) (Value.int IntKind.i64 x71) (nth vs66 6) (Value.int IntKind.i64 x72) (Value.bool true) h92)) (fun c h => K (X.p c) [] h)))))))))) (
j8_13_30 D I K (nth vs66 0) (nth vs66 1) (nth vs66 2) (Value.int IntKind.i64 x69) (Value.int IntKind.i64 x70) (Value.int IntKind.i64 x71) (nth vs66 6) (Value.int IntKind.i64 x72) h64))))))))) (False)) (fun c => (fun c h => K (X.p c) [] h) c h64))) (
K (X.e 2) [a0, a1, a2, (Value.int IntKind.i64 x40), (Value.int IntKind.i64 x41), (Value.int IntKind.i64 x42)] h39))))))
def loop8_13 (D : Orc) (vs : List Value) (h : H) (K : Kl) : Prop := ∀ I : List Value → H → Prop, (∀ a0 a1 a2 a3 a4 a5 a6 a7 h, round8_13 D I K a0 a1 a2 a3 a4 a5 a6 a7 h → I [a0, a1, a2, a3, a4, a5, a6, a7] h) → I vs h
def round8_9 (D : Orc) (I : List Value → H → Prop) (K : Kl) (a0 a1 a2 a3 a4 a5 : Value) (h28 : H) : Prop :=
intK IntKind.i64 a3 (fun x29 => intK IntKind.i64 a4 (fun x30 => intK IntKind.i64 a5 (fun x31 => ptrW a0 (fun ad32 => ∃ v33 : Value, rd h28 (Addr.add ad32 1) = some v33 ∧ lenW v33 (fun n34 => cond (decide (x31 < (n34 : Int))) (
ptrW a0 (fun ad35 => ∃ v36 : Value, rd h28 (Addr.add ad35 1) = some v36 ∧ slAtW v36 x31 2 (fun ad37 => ∃ v38 : Value, rd h28 (Addr.add ad37 1) = some v38 ∧ loop8_13 D [a0, a1, a2, (Value.int IntKind.i64 x29), (Value.int IntKind.i64 x30), (Value.int IntKind.i64 x31), v38, (Value.int IntKind.i64 (0 : Int))] h28 (fun x145 vs146 h144 => xs x145 (boolW (nth vs146 0) (fun t148 => K X.r [(Value.bool t148)] h144)) (fun i147 => cond (Nat.beq i147 2) (
intK IntKind.i64 (nth vs146 3) (fun x149 => intK IntKind.i64 (nth vs146 4) (fun x150 => intK IntKind.i64 (nth vs146 5) (fun x151 => I [(nth vs146 0), (nth vs146 1), (nth vs146 2), (Value.int IntKind.i64 x149), (Value.int IntKind.i64 x150), (Value.int IntKind.i64 (IntKind.wrap IntKind.i64 (x151 + (1 : Int))))] h144)))) (False)) (fun c => (fun c h => K (X.p c) [] h) c h144))))) (
K (X.e 0) [a2, (Value.int IntKind.i64 x29), (Value.int IntKind.i64 x30)] h28))))))
def loop8_9 (D : Orc) (vs : List Value) (h : H) (K : Kl) : Prop := ∀ I : List Value → H → Prop, (∀ a0 a1 a2 a3 a4 a5 h, round8_9 D I K a0 a1 a2 a3 a4 a5 h → I [a0, a1, a2, a3, a4, a5] h) → I vs h
def j8__4 (D : Orc) (k : Kv) (kp : Kp) (a0 a1 a2 : Value) (h12 : H) : Prop :=
boolW a1 (fun t13 => boolW a2 (fun t14 => cond t14 (
k (Value.bool t13) h12) (
ptrW a0 (fun ad15 => ∃ v16 : Value, ∃ v17 : Value, rdN h12 ad15 2 = some [v16, v17] ∧ D 13 [(Value.agg #[v16, v17])] h12 (fun v18 h19 => ∃ v20 : Value, v18 = v20 ∧ ptrW a0 (fun ad21 => ∃ v22 : Value, ∃ v23 : Value, rdN h19 ad21 2 = some [v22, v23] ∧ D 22 [(Value.agg #[v22, v23])] h19 (fun v24 h25 => ∃ v26 : Value, ∃ x27 : Int, v24 = (Value.tuple #[v26, (Value.int IntKind.i64 x27)]) ∧ loop8_9 D [a0, v20, v26, (Value.int IntKind.i64 x27), (Value.int IntKind.i64 (0 : Int)), (Value.int IntKind.i64 (0 : Int))] h25 (fun x153 vs154 h152 => xs x153 (boolW (nth vs154 0) (fun t156 => k (Value.bool t156) h152)) (fun i155 => cond (Nat.beq i155 0) (
intK IntKind.i64 (nth vs154 1) (fun x157 => intK IntKind.i64 (nth vs154 2) (fun x158 => cond (decide (x158 > (256 : Int))) (
cond (x157 == (2 : Int)) (
lenW (nth vs154 0) (fun n159 => k (Value.bool ((n159 : Int) == (0 : Int))) h152)) (
k (Value.bool false) h152)) (
cond (x157 == (0 : Int)) (
lenW (nth vs154 0) (fun n160 => k (Value.bool ((n160 : Int) == x158)) h152)) (
k (Value.bool false) h152))))) (False)) (fun c => kp c h152))) kp)) kp))))
def L8 (D : Orc) : Lor := fun b vs h K => match firstId b with | some i => cond (Nat.beq i 9) (loop8_9 D vs h K) (cond (Nat.beq i 13) (loop8_13 D vs h K) (cond (Nat.beq i 17) (loop8_17 D vs h K) (False))) | none => False
/-- lodestone/lodestonelaw13.PairsCounted -/
def F8 (D : Orc) (a0 : Value) (h : H) (k : Kv) (kp : Kp) : Prop :=
aggW a0 (fun l0 => newW h l0 (fun p1 h2 => D 19 [] h2 (fun v3 h4 => ∃ t5 : Bool, v3 = (Value.bool t5) ∧ ptrW p1 (fun ad6 => ∃ v7 : Value, ∃ v8 : Value, rdN h4 ad6 2 = some [v7, v8] ∧ D 17 [(Value.agg #[v7, v8])] h4 (fun v9 h10 => ∃ t11 : Bool, v9 = (Value.bool t11) ∧ cond (!(!t5)) (
j8__4 D k kp p1 (Value.bool t5) (Value.bool (!t11)) h10) (
j8__4 D k kp p1 (Value.bool t5) (Value.bool true) h10)) kp)) kp))
def Cl8 (D : Orc) : Prop := ∀ a0 h k kp, F8 D a0 h k kp → D 8 [a0] h k kp
theorem tieR8_9 (D : Orc) (I : List Value → H → Prop) (K : Kl) (a0 a1 a2 a3 a4 a5 : Value) (h : H) : round8_9 D I K a0 a1 a2 a3 a4 a5 h = round Tryd.prog D (L8 D) lv8 (nthC (allLoops (bodyOf Tryd.f8)) 0) I K [a0, a1, a2, a3, a4, a5] h := by kernel_rfl
theorem tieR8_13 (D : Orc) (I : List Value → H → Prop) (K : Kl) (a0 a1 a2 a3 a4 a5 a6 a7 : Value) (h : H) : round8_13 D I K a0 a1 a2 a3 a4 a5 a6 a7 h = round Tryd.prog D (L8 D) lv8 (nthC (allLoops (bodyOf Tryd.f8)) 1) I K [a0, a1, a2, a3, a4, a5, a6, a7] h := by kernel_rfl
theorem tieR8_17 (D : Orc) (I : List Value → H → Prop) (K : Kl) (a0 a1 a2 a3 a4 a5 a6 a7 a8 a9 : Value) (h : H) : round8_17 D I K a0 a1 a2 a3 a4 a5 a6 a7 a8 a9 h = round Tryd.prog D (L8 D) lv8 (nthC (allLoops (bodyOf Tryd.f8)) 2) I K [a0, a1, a2, a3, a4, a5, a6, a7, a8, a9] h := by kernel_rfl
theorem tieF8 (D : Orc) (a0 : Value) (h : H) (k : Kv) (kp : Kp) : F8 D a0 h k kp = bodyW Tryd.prog D (L8 D) lv8 Tryd.f8 [a0] h k kp := by kernel_rfl
theorem lfp8 : Lfps Tryd.prog (CS Tryd.prog) (L8 (CS Tryd.prog)) lv8 (allLoops (bodyOf Tryd.f8)) := by
  have e : (allLoops (bodyOf Tryd.f8)) = [nthC (allLoops (bodyOf Tryd.f8)) 0, nthC (allLoops (bodyOf Tryd.f8)) 1, nthC (allLoops (bodyOf Tryd.f8)) 2] := by kernel_rfl
  rw [e]
  exact ⟨(fun vs h K hk I H => hk I (fun a0 a1 a2 a3 a4 a5 h hr => H _ _ ((tieR8_9 (CS Tryd.prog) I K a0 a1 a2 a3 a4 a5 h) ▸ hr))), (fun vs h K hk I H => hk I (fun a0 a1 a2 a3 a4 a5 a6 a7 h hr => H _ _ ((tieR8_13 (CS Tryd.prog) I K a0 a1 a2 a3 a4 a5 a6 a7 h) ▸ hr))), (fun vs h K hk I H => hk I (fun a0 a1 a2 a3 a4 a5 a6 a7 a8 a9 h hr => H _ _ ((tieR8_17 (CS Tryd.prog) I K a0 a1 a2 a3 a4 a5 a6 a7 a8 a9 h) ▸ hr))), trivial⟩
theorem cl8 : Cl8 (CS Tryd.prog) := fun a0 h k kp hk =>
  fn_sound wide (fn := Tryd.f8) (by kernel_rfl) (by kernel_rfl) (by kernel_rfl) lfp8 (by rw [tieF8] at hk; exact hk)
end Go.Proofs.YtnlhnlmnlfmojaaDoor.Am
