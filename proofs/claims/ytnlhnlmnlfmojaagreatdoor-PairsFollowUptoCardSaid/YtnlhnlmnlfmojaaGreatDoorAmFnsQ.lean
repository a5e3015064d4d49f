/-
  Packed: 
-/
import Derived.Test.YtnlhnlmnlfmojaaGreatDoorAmFnsP
set_option linter.unusedVariables false
set_option linter.unusedSimpArgs false
set_option linter.unnecessarySimpa false
namespace Go.Proofs.YtnlhnlmnlfmojaaGreatDoor.Am
open Go Go.Proofs
set_option maxRecDepth 100000
set_option linter.unusedVariables false
def lv5 : Lv := Lv.mk 117 [.raw, .raw] (fun i => cond (Nat.beq i 11) ([(2, .raw), (3, .raw), (6, .raw), (8, .raw), (10, .raw), (11, .raw), (13, .int IntKind.i64)]) (cond (Nat.beq i 14) ([(2, .raw), (3, .raw), (6, .raw), (8, .raw), (10, .raw), (11, .raw), (13, .int IntKind.i64), (14, .int IntKind.i64)]) ([]))) (fun i => cond (Nat.beq i 11) ([(0, [])]) (cond (Nat.beq i 14) ([(2, [(2, .raw), (3, .raw), (6, .raw), (8, .raw), (10, .raw), (11, .raw), (13, .int IntKind.i64)])]) ([]))) [(4, .bool)] (fun i => cond (Nat.beq i 4) (some [(2, .raw), (3, .raw), (5, .bool), (6, .raw), (35, .bool)]) (cond (Nat.beq i 15) (some [(2, .raw), (3, .raw), (6, .raw), (8, .raw), (10, .raw), (11, .raw), (13, .int IntKind.i64), (14, .int IntKind.i64)]) (none)))
def j5_14_15 (D : Orc) (I : List Value → H → Prop) (K : Kl) (a0 a1 a2 a3 a4 a5 a6 a7 : Value) (h73 : H) : Prop :=
intK IntKind.i64 a6 (fun x74 => intK IntKind.i64 a7 (fun x75 => I [a0, a1, a2, a3, a4, a5, (Value.int IntKind.i64 x74), (Value.int IntKind.i64 (IntKind.wrap IntKind.i64 (x75 + (1 : Int))))] h73))
def round5_14 (D : Orc) (I : List Value → H → Prop) (K : Kl) (a0 a1 a2 a3 a4 a5 a6 a7 : Value) (h52 : H) : Prop :=
intK IntKind.i64 a6 (fun x53 => intK IntKind.i64 a7 (fun x54 => lenW a2 (fun n55 => cond (decide (x54 < (n55 : Int))) (
slAtW a2 x54 2 (fun ad56 => ∃ v57 : Value, rd h52 (Addr.add ad56 0) = some v57 ∧ D 16 [a3, v57, a5] h52 (fun v58 h59 => ∃ t60 : Bool, v58 = (Value.bool t60) ∧ cond t60 (
ptrW a0 (fun ad61 => ∃ v62 : Value, ∃ v63 : Value, rdN h59 ad61 2 = some [v62, v63] ∧ ptrW a4 (fun ad64 => ∃ v65 : Value, ∃ v66 : Value, rdN h59 ad64 2 = some [v65, v66] ∧ slAtW a2 x54 2 (fun ad67 => ∃ v68 : Value, ∃ v69 : Value, rdN h59 ad67 2 = some [v68, v69] ∧ D 7 [(Value.agg #[v62, v63]), (Value.agg #[v65, v66]), (Value.agg #[v68, v69])] h59 (fun v70 h71 => ∃ t72 : Bool, v70 = (Value.bool t72) ∧ cond (!t72) (
K X.r [(Value.bool false)] h71) (
j5_14_15 D I K a0 a1 a2 a3 a4 a5 (Value.int IntKind.i64 x53) (Value.int IntKind.i64 x54) h71)) (fun c h => K (X.p c) [] h))))) (
j5_14_15 D I K a0 a1 a2 a3 a4 a5 (Value.int IntKind.i64 x53) (Value.int IntKind.i64 x54) h59)) (fun c h => K (X.p c) [] h))) (
K (X.e 2) [a0, a1, a2, a3, a4, a5, (Value.int IntKind.i64 x53)] h52))))
def loop5_14 (D : Orc) (vs : List Value) (h : H) (K : Kl) : Prop := ∀ I : List Value → H → Prop, (∀ a0 a1 a2 a3 a4 a5 a6 a7 h, round5_14 D I K a0 a1 a2 a3 a4 a5 a6 a7 h → I [a0, a1, a2, a3, a4, a5, a6, a7] h) → I vs h
def round5_11 (D : Orc) (I : List Value → H → Prop) (K : Kl) (a0 a1 a2 a3 a4 a5 a6 : Value) (h47 : H) : Prop :=
intK IntKind.i64 a6 (fun x48 => ptrW a1 (fun ad49 => ∃ v50 : Value, rd h47 (Addr.add ad49 3) = some v50 ∧ lenW v50 (fun n51 => cond (decide (x48 ≤ (n51 : Int))) (
cond (decide (x48 < (8 : Int))) (
loop5_14 D [a0, a1, a2, a3, a4, a5, (Value.int IntKind.i64 x48), (Value.int IntKind.i64 (0 : Int))] h47 (fun x77 vs78 h76 => xs x77 (boolW (nth vs78 0) (fun t80 => K X.r [(Value.bool t80)] h76)) (fun i79 => cond (Nat.beq i79 2) (
intK IntKind.i64 (nth vs78 6) (fun x81 => ptrW (nth vs78 1) (fun ad82 => ∃ v83 : Value, rd h76 (Addr.add ad82 3) = some v83 ∧ lenW v83 (fun n84 => cond (x81 == (n84 : Int)) (
K (X.e 0) [] h76) (
ptrW (nth vs78 0) (fun ad85 => ∃ v86 : Value, ∃ v87 : Value, rdN h76 ad85 2 = some [v86, v87] ∧ ptrW (nth vs78 1) (fun ad88 => ∃ v89 : Value, rd h76 (Addr.add ad88 3) = some v89 ∧ slAtW v89 x81 1 (fun ad90 => ∃ x91 : Int, rd h76 ad90 = some (Value.int IntKind.i64 x91) ∧ D 17 [(Value.agg #[v86, v87]), (nth vs78 3), (nth vs78 5), (Value.int IntKind.i64 x91)] h76 (fun v92 h93 => ∃ v94 : Value, ∃ t95 : Bool, v92 = (Value.tuple #[v94, (Value.bool t95)]) ∧ cond (!t95) (
K X.r [(Value.bool true)] h93) (
I [(nth vs78 0), (nth vs78 1), (nth vs78 2), (nth vs78 3), (nth vs78 4), v94, (Value.int IntKind.i64 (IntKind.wrap IntKind.i64 (x81 + (1 : Int))))] h93)) (fun c h => K (X.p c) [] h))))))))) (False)) (fun c => (fun c h => K (X.p c) [] h) c h76))) (
K (X.e 0) [] h47)) (
K (X.e 0) [] h47))))
def loop5_11 (D : Orc) (vs : List Value) (h : H) (K : Kl) : Prop := ∀ I : List Value → H → Prop, (∀ a0 a1 a2 a3 a4 a5 a6 h, round5_11 D I K a0 a1 a2 a3 a4 a5 a6 h → I [a0, a1, a2, a3, a4, a5, a6] h) → I vs h
def j5__4 (D : Orc) (k : Kv) (kp : Kp) (a0 a1 a2 a3 a4 : Value) (h17 : H) : Prop :=
boolW a2 (fun t18 => boolW a4 (fun t19 => cond t19 (
k (Value.bool t18) h17) (
ptrW a0 (fun ad20 => ∃ v21 : Value, rd h17 (Addr.add ad20 0) = some v21 ∧ D 13 [v21] h17 (fun v22 h23 => ∃ v24 : Value, ∃ x25 : Int, v22 = (Value.tuple #[v24, (Value.int IntKind.i64 x25)]) ∧ ptrW a1 (fun ad26 => ∃ x27 : Int, rd h23 (Addr.add ad26 0) = some (Value.int IntKind.i64 x27) ∧ lenW a3 (fun n28 => D 14 [(Value.int IntKind.i64 x27), (Value.int IntKind.i64 (n28 : Int))] h23 (fun v29 h30 => ∃ x31 : Int, v29 = (Value.int IntKind.i64 x31) ∧ slAtW a3 x31 2 (fun ad32 => ∃ v33 : Value, ∃ v34 : Value, rdN h30 ad32 2 = some [v33, v34] ∧ newW h30 [(Value.slice none 0 0), (Value.slice none 0 0)] (fun p35 h36 => ptrW p35 (fun ad37 => 2 = 2 ∧ List.all [v33, v34] one = true ∧ ∃ h38, wr h36 ad37 [v33, v34] = some h38 ∧ ptrW a1 (fun ad39 => ∃ v40 : Value, rd h38 (Addr.add ad39 2) = some v40 ∧ ptrW p35 (fun ad41 => ∃ v42 : Value, rd h38 (Addr.add ad41 1) = some v42 ∧ D 15 [v24, v40, v42] h38 (fun v43 h44 => ∃ v45 : Value, ∃ x46 : Int, v43 = (Value.tuple #[v45, (Value.int IntKind.i64 x46)]) ∧ cond (x46 != (0 : Int)) (
k (Value.bool true) h44) (
loop5_11 D [a0, a1, a3, v24, p35, v45, (Value.int IntKind.i64 (0 : Int))] h44 (fun x97 vs98 h96 => xs x97 (boolW (nth vs98 0) (fun t100 => k (Value.bool t100) h96)) (fun i99 => cond (Nat.beq i99 0) (
k (Value.bool true) h96) (False)) (fun c => kp c h96)))) kp)))))) kp))) kp))))
def L5 (D : Orc) : Lor := fun b vs h K => match firstId b with | some i => cond (Nat.beq i 11) (loop5_11 D vs h K) (cond (Nat.beq i 14) (loop5_14 D vs h K) (False)) | none => False
/-- lodestone/lodestonelaw13.PairsFollow -/
def F5 (D : Orc) (a0 a1 : Value) (h : H) (k : Kv) (kp : Kp) : Prop :=
aggW a0 (fun l0 => newW h l0 (fun p1 h2 => aggW a1 (fun l3 => newW h2 l3 (fun p4 h5 => D 6 [] h5 (fun v6 h7 => ∃ t8 : Bool, v6 = (Value.bool t8) ∧ ptrW p1 (fun ad9 => ∃ v10 : Value, ∃ v11 : Value, rdN h7 ad9 2 = some [v10, v11] ∧ D 9 [(Value.agg #[v10, v11])] h7 (fun v12 h13 => ∃ v14 : Value, ∃ x15 : Int, v12 = (Value.tuple #[v14, (Value.int IntKind.i64 x15)]) ∧ cond (!(!t8)) (
cond (!(x15 != (0 : Int))) (
lenW v14 (fun n16 => j5__4 D k kp p1 p4 (Value.bool t8) v14 (Value.bool ((n16 : Int) == (0 : Int))) h13)) (
j5__4 D k kp p1 p4 (Value.bool t8) v14 (Value.bool true) h13)) (
j5__4 D k kp p1 p4 (Value.bool t8) v14 (Value.bool true) h13)) kp)) kp))))
def Cl5 (D : Orc) : Prop := ∀ a0 a1 h k kp, F5 D a0 a1 h k kp → D 5 [a0, a1] h k kp
theorem tieR5_11 (D : Orc) (I : List Value → H → Prop) (K : Kl) (a0 a1 a2 a3 a4 a5 a6 : Value) (h : H) : round5_11 D I K a0 a1 a2 a3 a4 a5 a6 h = round Tryz.prog D (L5 D) lv5 (nthC (allLoops (bodyOf Tryz.f5)) 0) I K [a0, a1, a2, a3, a4, a5, a6] h := by kernel_rfl
theorem tieR5_14 (D : Orc) (I : List Value → H → Prop) (K : Kl) (a0 a1 a2 a3 a4 a5 a6 a7 : Value) (h : H) : round5_14 D I K a0 a1 a2 a3 a4 a5 a6 a7 h = round Tryz.prog D (L5 D) lv5 (nthC (allLoops (bodyOf Tryz.f5)) 1) I K [a0, a1, a2, a3, a4, a5, a6, a7] h := by kernel_rfl
theorem tieF5 (D : Orc) (a0 a1 : Value) (h : H) (k : Kv) (kp : Kp) : F5 D a0 a1 h k kp = bodyW Tryz.prog D (L5 D) lv5 Tryz.f5 [a0, a1] h k kp := by kernel_rfl
theorem lfp5 : Lfps Tryz.prog (CS Tryz.prog) (L5 (CS Tryz.prog)) lv5 (allLoops (bodyOf Tryz.f5)) := by
  have e : (allLoops (bodyOf Tryz.f5)) = [nthC (allLoops (bodyOf Tryz.f5)) 0, nthC (allLoops (bodyOf Tryz.f5)) 1] := by kernel_rfl
  rw [e]
  exact ⟨(fun vs h K hk I H => hk I (fun a0 a1 a2 a3 a4 a5 a6 h hr => H _ _ ((tieR5_11 (CS Tryz.prog) I K a0 a1 a2 a3 a4 a5 a6 h) ▸ hr))), (fun vs h K hk I H => hk I (fun a0 a1 a2 a3 a4 a5 a6 a7 h hr => H _ _ ((tieR5_14 (CS Tryz.prog) I K a0 a1 a2 a3 a4 a5 a6 a7 h) ▸ hr))), trivial⟩
theorem cl5 : Cl5 (CS Tryz.prog) := fun a0 a1 h k kp hk =>
  fn_sound wide (fn := Tryz.f5) (by kernel_rfl) (by kernel_rfl) (by kernel_rfl) lfp5 (by rw [tieF5] at hk; exact hk)
def lv17 : Lv := Lv.mk 80 [.raw, .raw, .raw, .int IntKind.i64] (fun i => []) (fun i => []) [(8, .raw), (9, .bool)] (fun i => cond (Nat.beq i 3) (some [(1, .raw), (2, .raw), (3, .int IntKind.i64), (4, .raw), (10, .raw), (32, .bool)]) (none))
def j17__3 (D : Orc) (k : Kv) (kp : Kp) (a0 a1 a2 a3 a4 a5 : Value) (h9 : H) : Prop :=
intK IntKind.i64 a2 (fun x10 => boolW a5 (fun t11 => cond t11 (
k (Value.tuple #[(Value.slice none 0 0), (Value.bool false)]) h9) (
lenW a4 (fun n12 => D 14 [(Value.int IntKind.i64 x10), (Value.int IntKind.i64 (n12 : Int))] h9 (fun v13 h14 => ∃ x15 : Int, v13 = (Value.int IntKind.i64 x15) ∧ slAtW a4 x15 1 (fun ad16 => ∃ x17 : Int, rd h14 ad16 = some (Value.int IntKind.i64 x17) ∧ D 39 [a0, a1, (Value.int IntKind.i64 x17)] h14 (fun v18 h19 => ∃ v20 : Value, ∃ x21 : Int, v18 = (Value.tuple #[v20, (Value.int IntKind.i64 x21)]) ∧ ptrW a3 (fun ad22 => ∃ v23 : Value, ∃ v24 : Value, rdN h19 ad22 2 = some [v23, v24] ∧ D 40 [(Value.agg #[v23, v24]), v20] h19 (fun v25 h26 => ∃ v27 : Value, v25 = v27 ∧ lenW v27 (fun n28 => cond ((n28 : Int) == (0 : Int)) (
k (Value.tuple #[(Value.slice none 0 0), (Value.bool false)]) h26) (
ptrW a3 (fun ad29 => ∃ v30 : Value, ∃ v31 : Value, rdN h26 ad29 2 = some [v30, v31] ∧ (7 : Int) ≠ 0 ∧ lenW v27 (fun n32 => D 14 [(Value.int IntKind.i64 (IntKind.wrap IntKind.i64 (Int.tdiv x10 (7 : Int)))), (Value.int IntKind.i64 (n32 : Int))] h26 (fun v33 h34 => ∃ x35 : Int, v33 = (Value.int IntKind.i64 x35) ∧ (ptrW a3 (fun ad36 => rdN h34 ad36 2 = some [v30, v31])) ∧ slAtW v27 x35 2 (fun ad37 => ∃ x38 : Int, ∃ x39 : Int, rdN h34 ad37 2 = some [(Value.int IntKind.i64 x38), (Value.int IntKind.i64 x39)] ∧ D 41 [(Value.agg #[v30, v31]), v20, (Value.agg #[(Value.int IntKind.i64 x38), (Value.int IntKind.i64 x39)])] h34 (fun v40 h41 => ∃ v42 : Value, ∃ x43 : Int, v40 = (Value.tuple #[v42, (Value.int IntKind.i64 x43)]) ∧ cond (x43 != (0 : Int)) (
k (Value.tuple #[(Value.slice none 0 0), (Value.bool false)]) h41) (
D 42 [a0, a1, (Value.int IntKind.i64 x17), v42] h41 (fun v44 h45 => ∃ v46 : Value, ∃ x47 : Int, v44 = (Value.tuple #[v46, (Value.int IntKind.i64 x47)]) ∧ k (Value.tuple #[v46, (Value.bool (x47 == (0 : Int)))]) h45) kp)) kp)) kp))))) kp)) kp)) kp))))
def L17 (D : Orc) : Lor := fun b vs h K => match firstId b with | some i => False | none => False
/-- lodestone/lodestonelaw13.inside -/
def F17 (D : Orc) (a0 a1 a2 a3 : Value) (h : H) (k : Kv) (kp : Kp) : Prop :=
intK IntKind.i64 a3 (fun x0 => aggW a0 (fun l1 => newW h l1 (fun p2 h3 => D 38 [a1, a2, (Value.int IntKind.i64 (0 : Int))] h3 (fun v4 h5 => ∃ v6 : Value, ∃ x7 : Int, v4 = (Value.tuple #[v6, (Value.int IntKind.i64 x7)]) ∧ cond (!(x7 != (0 : Int))) (
lenW v6 (fun n8 => j17__3 D k kp a1 a2 (Value.int IntKind.i64 x0) p2 v6 (Value.bool ((n8 : Int) == (0 : Int))) h5)) (
j17__3 D k kp a1 a2 (Value.int IntKind.i64 x0) p2 v6 (Value.bool true) h5)) kp)))
def Cl17 (D : Orc) : Prop := ∀ a0 a1 a2 a3 h k kp, F17 D a0 a1 a2 a3 h k kp → D 17 [a0, a1, a2, a3] h k kp
theorem tieF17 (D : Orc) (a0 a1 a2 a3 : Value) (h : H) (k : Kv) (kp : Kp) : F17 D a0 a1 a2 a3 h k kp = bodyW Tryz.prog D (L17 D) lv17 Tryz.f17 [a0, a1, a2, a3] h k kp := by kernel_rfl
theorem lfp17 : Lfps Tryz.prog (CS Tryz.prog) (L17 (CS Tryz.prog)) lv17 (allLoops (bodyOf Tryz.f17)) := by
  have e : (allLoops (bodyOf Tryz.f17)) = [] := by kernel_rfl
  rw [e]
  exact trivial
theorem cl17 : Cl17 (CS Tryz.prog) := fun a0 a1 a2 a3 h k kp hk =>
  fn_sound wide (fn := Tryz.f17) (by kernel_rfl) (by kernel_rfl) (by kernel_rfl) lfp17 (by rw [tieF17] at hk; exact hk)
def lv16 : Lv := Lv.mk 84 [.raw, .raw, .raw] (fun i => cond (Nat.beq i 4) ([(0, .raw), (1, .raw), (2, .raw), (7, .int IntKind.i64), (8, .raw), (9, .int IntKind.i64)]) (cond (Nat.beq i 13) ([(0, .raw), (1, .raw), (2, .raw), (7, .int IntKind.i64), (8, .raw), (9, .int IntKind.i64), (10, .int IntKind.i64), (11, .bool), (12, .int IntKind.i64)]) ([]))) (fun i => cond (Nat.beq i 4) ([(0, [])]) (cond (Nat.beq i 13) ([(2, [(0, .raw), (1, .raw), (2, .raw), (7, .int IntKind.i64), (8, .raw), (9, .int IntKind.i64), (10, .int IntKind.i64), (11, .bool)])]) ([]))) [(6, .bool)] (fun i => cond (Nat.beq i 5) (some [(0, .raw), (1, .raw), (2, .raw), (7, .int IntKind.i64), (8, .raw), (9, .int IntKind.i64)]) (cond (Nat.beq i 14) (some [(0, .raw), (1, .raw), (2, .raw), (7, .int IntKind.i64), (8, .raw), (9, .int IntKind.i64), (10, .int IntKind.i64), (11, .bool), (12, .int IntKind.i64)]) (cond (Nat.beq i 22) (some [(0, .raw), (1, .raw), (2, .raw), (8, .raw), (9, .int IntKind.i64), (10, .int IntKind.i64)]) (none))))
def j16_4_5 (D : Orc) (I : List Value → H → Prop) (K : Kl) (a0 a1 a2 a3 a4 a5 : Value) (h12 : H) : Prop :=
intK IntKind.i64 a3 (fun x13 => intK IntKind.i64 a5 (fun x14 => I [a0, a1, a2, (Value.int IntKind.i64 x13), a4, (Value.int IntKind.i64 (IntKind.wrap IntKind.i64 (x14 + (1 : Int))))] h12))
def j16_13_14 (D : Orc) (I : List Value → H → Prop) (K : Kl) (a0 a1 a2 a3 a4 a5 a6 a7 a8 : Value) (h35 : H) : Prop :=
intK IntKind.i64 a3 (fun x36 => intK IntKind.i64 a5 (fun x37 => intK IntKind.i64 a6 (fun x38 => boolW a7 (fun t39 => intK IntKind.i64 a8 (fun x40 => I [a0, a1, a2, (Value.int IntKind.i64 x36), a4, (Value.int IntKind.i64 x37), (Value.int IntKind.i64 x38), (Value.bool t39), (Value.int IntKind.i64 (IntKind.wrap IntKind.i64 (x40 + (1 : Int))))] h35)))))
def round16_13 (D : Orc) (I : List Value → H → Prop) (K : Kl) (a0 a1 a2 a3 a4 a5 a6 a7 a8 : Value) (h18 : H) : Prop :=
intK IntKind.i64 a3 (fun x19 => intK IntKind.i64 a5 (fun x20 => intK IntKind.i64 a6 (fun x21 => boolW a7 (fun t22 => intK IntKind.i64 a8 (fun x23 => lenW a4 (fun n24 => cond (decide (x23 < (n24 : Int))) (
slAtW a4 x23 2 (fun ad25 => ∃ x26 : Int, rd h18 (Addr.add ad25 0) = some (Value.int IntKind.i64 x26) ∧ slAtW a1 x20 1 (fun ad27 => ∃ x28 : Int, rd h18 ad27 = some (Value.int IntKind.i64 x28) ∧ cond (x26 == x28) (
slAtW a4 x23 2 (fun ad29 => ∃ v30 : Value, rd h18 (Addr.add ad29 1) = some v30 ∧ slCutW a2 (some x19) (some x21) none 1 (fun s31 => D 12 [v30, s31] h18 (fun v32 h33 => ∃ t34 : Bool, v32 = (Value.bool t34) ∧ cond (!t34) (
K X.r [(Value.bool false)] h33) (
j16_13_14 D I K a0 a1 a2 (Value.int IntKind.i64 x19) a4 (Value.int IntKind.i64 x20) (Value.int IntKind.i64 x21) (Value.bool true) (Value.int IntKind.i64 x23) h33)) (fun c h => K (X.p c) [] h)))) (
j16_13_14 D I K a0 a1 a2 (Value.int IntKind.i64 x19) a4 (Value.int IntKind.i64 x20) (Value.int IntKind.i64 x21) (Value.bool t22) (Value.int IntKind.i64 x23) h18)))) (
K (X.e 2) [a0, a1, a2, (Value.int IntKind.i64 x19), a4, (Value.int IntKind.i64 x20), (Value.int IntKind.i64 x21), (Value.bool t22)] h18)))))))
def loop16_13 (D : Orc) (vs : List Value) (h : H) (K : Kl) : Prop := ∀ I : List Value → H → Prop, (∀ a0 a1 a2 a3 a4 a5 a6 a7 a8 h, round16_13 D I K a0 a1 a2 a3 a4 a5 a6 a7 a8 h → I [a0, a1, a2, a3, a4, a5, a6, a7, a8] h) → I vs h
def j16_4_22 (D : Orc) (I : List Value → H → Prop) (K : Kl) (a0 a1 a2 a3 a4 a5 : Value) (h59 : H) : Prop :=
intK IntKind.i64 a4 (fun x60 => intK IntKind.i64 a5 (fun x61 => j16_4_5 D I K a0 a1 a2 (Value.int IntKind.i64 x61) a3 (Value.int IntKind.i64 x60) h59))
def round16_4 (D : Orc) (I : List Value → H → Prop) (K : Kl) (a0 a1 a2 a3 a4 a5 : Value) (h2 : H) : Prop :=
intK IntKind.i64 a3 (fun x3 => intK IntKind.i64 a5 (fun x4 => lenW a1 (fun n5 => cond (decide (x4 < (n5 : Int))) (
slAtW a1 x4 1 (fun ad6 => ∃ x7 : Int, rd h2 ad6 = some (Value.int IntKind.i64 x7) ∧ cond (decide (x7 ≥ (0 : Int))) (
slAtW a2 x3 1 (fun ad8 => ∃ x9 : Int, rd h2 ad8 = some (Value.int IntKind.i64 x9) ∧ slAtW a1 x4 1 (fun ad10 => ∃ x11 : Int, rd h2 ad10 = some (Value.int IntKind.i64 x11) ∧ cond (x9 != x11) (
K X.r [(Value.bool false)] h2) (
j16_4_5 D I K a0 a1 a2 (Value.int IntKind.i64 (IntKind.wrap IntKind.i64 (x3 + (1 : Int)))) a4 (Value.int IntKind.i64 x4) h2)))) (
D 33 [a0, a2, (Value.int IntKind.i64 x3)] h2 (fun v15 h16 => ∃ x17 : Int, v15 = (Value.int IntKind.i64 x17) ∧ loop16_13 D [a0, a1, a2, (Value.int IntKind.i64 x3), a4, (Value.int IntKind.i64 x4), (Value.int IntKind.i64 x17), (Value.bool false), (Value.int IntKind.i64 (0 : Int))] h16 (fun x42 vs43 h41 => xs x42 (boolW (nth vs43 0) (fun t45 => K X.r [(Value.bool t45)] h41)) (fun i44 => cond (Nat.beq i44 2) (
intK IntKind.i64 (nth vs43 3) (fun x46 => intK IntKind.i64 (nth vs43 5) (fun x47 => intK IntKind.i64 (nth vs43 6) (fun x48 => boolW (nth vs43 7) (fun t49 => cond (!t49) (
slAtW (nth vs43 1) x47 1 (fun ad50 => ∃ x51 : Int, rd h41 ad50 = some (Value.int IntKind.i64 x51) ∧ slCutW (nth vs43 2) (some x46) (some x48) none 1 (fun s52 => one (Value.int IntKind.i64 x51) = true ∧ 0 < 2 ∧ one s52 = true ∧ 1 < 2 ∧ 2 = 2 ∧ 0 + 2 ≤ 2 ∧ newSl h41 1 [(Value.int IntKind.i64 x51), s52] (fun s53 h54 => slenW s53 (fun n55 => srcW h54 2 s53 (n55) (fun w56 => apW h54 2 32 [(Value.int IntKind.i64 (0 : Int)), (Value.slice none 0 0)] (nth vs43 4) (n55) w56 (fun s57 h58 => j16_4_22 D I K (nth vs43 0) (nth vs43 1) (nth vs43 2) s57 (Value.int IntKind.i64 x47) (Value.int IntKind.i64 x48) h58))))))) (
j16_4_22 D I K (nth vs43 0) (nth vs43 1) (nth vs43 2) (nth vs43 4) (Value.int IntKind.i64 x47) (Value.int IntKind.i64 x48) h41)))))) (False)) (fun c => (fun c h => K (X.p c) [] h) c h41))) (fun c h => K (X.p c) [] h)))) (
K (X.e 0) [] h2))))
def loop16_4 (D : Orc) (vs : List Value) (h : H) (K : Kl) : Prop := ∀ I : List Value → H → Prop, (∀ a0 a1 a2 a3 a4 a5 h, round16_4 D I K a0 a1 a2 a3 a4 a5 h → I [a0, a1, a2, a3, a4, a5] h) → I vs h
def L16 (D : Orc) : Lor := fun b vs h K => match firstId b with | some i => cond (Nat.beq i 4) (loop16_4 D vs h K) (cond (Nat.beq i 13) (loop16_13 D vs h K) (False)) | none => False
/-- lodestone/lodestonelaw13.matches -/
def F16 (D : Orc) (a0 a1 a2 : Value) (h : H) (k : Kv) (kp : Kp) : Prop :=
newSl h 0 [] (fun s0 h1 => loop16_4 D [a0, a1, a2, (Value.int IntKind.i64 (0 : Int)), s0, (Value.int IntKind.i64 (0 : Int))] h1 (fun x63 vs64 h62 => xs x63 (boolW (nth vs64 0) (fun t66 => k (Value.bool t66) h62)) (fun i65 => cond (Nat.beq i65 0) (
k (Value.bool true) h62) (False)) (fun c => kp c h62)))
def Cl16 (D : Orc) : Prop := ∀ a0 a1 a2 h k kp, F16 D a0 a1 a2 h k kp → D 16 [a0, a1, a2] h k kp
theorem tieR16_4 (D : Orc) (I : List Value → H → Prop) (K : Kl) (a0 a1 a2 a3 a4 a5 : Value) (h : H) : round16_4 D I K a0 a1 a2 a3 a4 a5 h = round Tryz.prog D (L16 D) lv16 (nthC (allLoops (bodyOf Tryz.f16)) 0) I K [a0, a1, a2, a3, a4, a5] h := by kernel_rfl
theorem tieR16_13 (D : Orc) (I : List Value → H → Prop) (K : Kl) (a0 a1 a2 a3 a4 a5 a6 a7 a8 : Value) (h : H) : round16_13 D I K a0 a1 a2 a3 a4 a5 a6 a7 a8 h = round Tryz.prog D (L16 D) lv16 (nthC (allLoops (bodyOf Tryz.f16)) 1) I K [a0, a1, a2, a3, a4, a5, a6, a7, a8] h := by kernel_rfl
theorem tieF16 (D : Orc) (a0 a1 a2 : Value) (h : H) (k : Kv) (kp : Kp) : F16 D a0 a1 a2 h k kp = bodyW Tryz.prog D (L16 D) lv16 Tryz.f16 [a0, a1, a2] h k kp := by kernel_rfl
theorem lfp16 : Lfps Tryz.prog (CS Tryz.prog) (L16 (CS Tryz.prog)) lv16 (allLoops (bodyOf Tryz.f16)) := by
  have e : (allLoops (bodyOf Tryz.f16)) = [nthC (allLoops (bodyOf Tryz.f16)) 0, nthC (allLoops (bodyOf Tryz.f16)) 1] := by kernel_rfl
  rw [e]
  exact ⟨(fun vs h K hk I H => hk I (fun a0 a1 a2 a3 a4 a5 h hr => H _ _ ((tieR16_4 (CS Tryz.prog) I K a0 a1 a2 a3 a4 a5 h) ▸ hr))), (fun vs h K hk I H => hk I (fun a0 a1 a2 a3 a4 a5 a6 a7 a8 h hr => H _ _ ((tieR16_13 (CS Tryz.prog) I K a0 a1 a2 a3 a4 a5 a6 a7 a8 h) ▸ hr))), trivial⟩
theorem cl16 : Cl16 (CS Tryz.prog) := fun a0 a1 a2 h k kp hk =>
  fn_sound wide (fn := Tryz.f16) (by kernel_rfl) (by kernel_rfl) (by kernel_rfl) lfp16 (by rw [tieF16] at hk; exact hk)
def lv14 : Lv := Lv.mk 13 [.int IntKind.i64, .int IntKind.i64] (fun i => []) (fun i => []) [(4, .int IntKind.i64)] (fun i => cond (Nat.beq i 3) (some [(0, .int IntKind.i64), (1, .int IntKind.i64)]) (none))
def j14__3 (D : Orc) (k : Kv) (kp : Kp) (a0 a1 : Value) (h2 : H) : Prop :=
intK IntKind.i64 a0 (fun x3 => intK IntKind.i64 a1 (fun x4 => x4 ≠ 0 ∧ k (Value.int IntKind.i64 (Int.tmod x3 x4)) h2))
def L14 (D : Orc) : Lor := fun b vs h K => match firstId b with | some i => False | none => False
/-- lodestone/lodestonelaw13.which -/
def F14 (D : Orc) (a0 a1 : Value) (h : H) (k : Kv) (kp : Kp) : Prop :=
intK IntKind.i64 a0 (fun x0 => intK IntKind.i64 a1 (fun x1 => cond (decide (x0 < (0 : Int))) (
j14__3 D k kp (Value.int IntKind.i64 (IntKind.wrap IntKind.i64 (0 - (IntKind.wrap IntKind.i64 (x0 + (1 : Int)))))) (Value.int IntKind.i64 x1) h) (
j14__3 D k kp (Value.int IntKind.i64 x0) (Value.int IntKind.i64 x1) h)))
def Cl14 (D : Orc) : Prop := ∀ a0 a1 h k kp, F14 D a0 a1 h k kp → D 14 [a0, a1] h k kp
theorem tieF14 (D : Orc) (a0 a1 : Value) (h : H) (k : Kv) (kp : Kp) : F14 D a0 a1 h k kp = bodyW Tryz.prog D (L14 D) lv14 Tryz.f14 [a0, a1] h k kp := by kernel_rfl
theorem lfp14 : Lfps Tryz.prog (CS Tryz.prog) (L14 (CS Tryz.prog)) lv14 (allLoops (bodyOf Tryz.f14)) := by
  have e : (allLoops (bodyOf Tryz.f14)) = [] := by kernel_rfl
  rw [e]
  exact trivial
theorem cl14 : Cl14 (CS Tryz.prog) := fun a0 a1 h k kp hk =>
  fn_sound wide (fn := Tryz.f14) (by kernel_rfl) (by kernel_rfl) (by kernel_rfl) lfp14 (by rw [tieF14] at hk; exact hk)
def lv38 : Lv := Lv.mk 47 [.raw, .raw, .int IntKind.i64] (fun i => cond (Nat.beq i 8) ([(0, .raw), (1, .raw), (2, .int IntKind.i64), (9, .raw), (10, .int IntKind.i64), (11, .int IntKind.i64)]) ([])) (fun i => cond (Nat.beq i 8) ([(0, [(9, .raw)])]) ([])) [(6, .raw), (7, .int IntKind.i64)] (fun i => cond (Nat.beq i 12) (some [(9, .raw)]) (none))
def round38_8 (D : Orc) (I : List Value → H → Prop) (K : Kl) (a0 a1 a2 a3 a4 a5 : Value) (h6 : H) : Prop :=
intK IntKind.i64 a2 (fun x7 => intK IntKind.i64 a4 (fun x8 => intK IntKind.i64 a5 (fun x9 => slAtW a1 x7 1 (fun ad10 => ∃ x11 : Int, rd h6 ad10 = some (Value.int IntKind.i64 x11) ∧ slAtW a0 x11 2 (fun ad12 => ∃ x13 : Int, rd h6 (Addr.add ad12 1) = some (Value.int IntKind.i64 x13) ∧ cond (decide (x9 < x13)) (
one (Value.int IntKind.i64 x8) = true ∧ 0 < 1 ∧ newSl h6 1 [(Value.int IntKind.i64 x8)] (fun s14 h15 => slenW s14 (fun n16 => srcW h15 1 s14 (n16) (fun w17 => apW h15 1 8 [(Value.int IntKind.i64 (0 : Int))] a3 (n16) w17 (fun s18 h19 => D 33 [a0, a1, (Value.int IntKind.i64 x8)] h19 (fun v20 h21 => ∃ x22 : Int, v20 = (Value.int IntKind.i64 x22) ∧ I [a0, a1, (Value.int IntKind.i64 x7), s18, (Value.int IntKind.i64 x22), (Value.int IntKind.i64 (IntKind.wrap IntKind.i64 (x9 + (1 : Int))))] h21) (fun c h => K (X.p c) [] h)))))) (
K (X.e 0) [a3] h6))))))
def loop38_8 (D : Orc) (vs : List Value) (h : H) (K : Kl) : Prop := ∀ I : List Value → H → Prop, (∀ a0 a1 a2 a3 a4 a5 h, round38_8 D I K a0 a1 a2 a3 a4 a5 h → I [a0, a1, a2, a3, a4, a5] h) → I vs h
def j38__12 (D : Orc) (k : Kv) (kp : Kp) (a0 : Value) (h28 : H) : Prop :=
k (Value.tuple #[a0, (Value.int IntKind.i64 (0 : Int))]) h28
def L38 (D : Orc) : Lor := fun b vs h K => match firstId b with | some i => cond (Nat.beq i 8) (loop38_8 D vs h K) (False) | none => False
/-- lodestone/lodestoneref03.Kids -/
def F38 (D : Orc) (a0 a1 a2 : Value) (h : H) (k : Kv) (kp : Kp) : Prop :=
intK IntKind.i64 a2 (fun x0 => D 64 [a0, a1, (Value.int IntKind.i64 x0)] h (fun v1 h2 => ∃ x3 : Int, v1 = (Value.int IntKind.i64 x3) ∧ cond (x3 != (0 : Int)) (
k (Value.tuple #[(Value.slice none 0 0), (Value.int IntKind.i64 x3)]) h2) (
slAtW a1 x0 1 (fun ad4 => ∃ x5 : Int, rd h2 ad4 = some (Value.int IntKind.i64 x5) ∧ cond (decide (x5 ≥ (0 : Int))) (
loop38_8 D [a0, a1, (Value.int IntKind.i64 x0), (Value.slice none 0 0), (Value.int IntKind.i64 (IntKind.wrap IntKind.i64 (x0 + (1 : Int)))), (Value.int IntKind.i64 (0 : Int))] h2 (fun x24 vs25 h23 => xs x24 (intK IntKind.i64 (nth vs25 1) (fun x27 => k (Value.tuple #[(nth vs25 0), (Value.int IntKind.i64 x27)]) h23)) (fun i26 => cond (Nat.beq i26 0) (
j38__12 D k kp (nth vs25 0) h23) (False)) (fun c => kp c h23))) (
j38__12 D k kp (Value.slice none 0 0) h2)))) kp)
def Cl38 (D : Orc) : Prop := ∀ a0 a1 a2 h k kp, F38 D a0 a1 a2 h k kp → D 38 [a0, a1, a2] h k kp
theorem tieR38_8 (D : Orc) (I : List Value → H → Prop) (K : Kl) (a0 a1 a2 a3 a4 a5 : Value) (h : H) : round38_8 D I K a0 a1 a2 a3 a4 a5 h = round Tryz.prog D (L38 D) lv38 (nthC (allLoops (bodyOf Tryz.f38)) 0) I K [a0, a1, a2, a3, a4, a5] h := by kernel_rfl
theorem tieF38 (D : Orc) (a0 a1 a2 : Value) (h : H) (k : Kv) (kp : Kp) : F38 D a0 a1 a2 h k kp = bodyW Tryz.prog D (L38 D) lv38 Tryz.f38 [a0, a1, a2] h k kp := by kernel_rfl
theorem lfp38 : Lfps Tryz.prog (CS Tryz.prog) (L38 (CS Tryz.prog)) lv38 (allLoops (bodyOf Tryz.f38)) := by
  have e : (allLoops (bodyOf Tryz.f38)) = [nthC (allLoops (bodyOf Tryz.f38)) 0] := by kernel_rfl
  rw [e]
  exact ⟨(fun vs h K hk I H => hk I (fun a0 a1 a2 a3 a4 a5 h hr => H _ _ ((tieR38_8 (CS Tryz.prog) I K a0 a1 a2 a3 a4 a5 h) ▸ hr))), trivial⟩
theorem cl38 : Cl38 (CS Tryz.prog) := fun a0 a1 a2 h k kp hk =>
  fn_sound wide (fn := Tryz.f38) (by kernel_rfl) (by kernel_rfl) (by kernel_rfl) lfp38 (by rw [tieF38] at hk; exact hk)
def lv42 : Lv := Lv.mk 49 [.raw, .raw, .int IntKind.i64, .raw] (fun i => []) (fun i => []) [(8, .raw), (9, .int IntKind.i64)] (fun i => cond (Nat.beq i 4) (some [(0, .raw), (1, .raw), (2, .int IntKind.i64), (3, .raw), (10, .int IntKind.i64)]) (cond (Nat.beq i 6) (some [(0, .raw), (1, .raw), (2, .int IntKind.i64), (3, .raw), (10, .int IntKind.i64)]) (none)))
def j42__6 (D : Orc) (k : Kv) (kp : Kp) (a0 a1 a2 a3 a4 : Value) (h13 : H) : Prop :=
intK IntKind.i64 a2 (fun x14 => intK IntKind.i64 a4 (fun x15 => cond (x15 != (0 : Int)) (
k (Value.tuple #[(Value.slice none 0 0), (Value.int IntKind.i64 x15)]) h13) (
newSl h13 0 [] (fun s16 h17 => slCutW a1 none (some x14) none 1 (fun s18 => slenW s18 (fun n19 => srcW h17 1 s18 (n19) (fun w20 => apW h17 1 8 [(Value.int IntKind.i64 (0 : Int))] s16 (n19) w20 (fun s21 h22 => slenW a3 (fun n23 => srcW h22 1 a3 (n23) (fun w24 => apW h22 1 8 [(Value.int IntKind.i64 (0 : Int))] s21 (n23) w24 (fun s25 h26 => D 33 [a0, a1, (Value.int IntKind.i64 x14)] h26 (fun v27 h28 => ∃ x29 : Int, v27 = (Value.int IntKind.i64 x29) ∧ slCutW a1 (some x29) none none 1 (fun s30 => slenW s30 (fun n31 => srcW h28 1 s30 (n31) (fun w32 => apW h28 1 8 [(Value.int IntKind.i64 (0 : Int))] s25 (n31) w32 (fun s33 h34 => lenW s33 (fun n35 => cond (decide ((n35 : Int) > (512 : Int))) (
k (Value.tuple #[(Value.slice none 0 0), (Value.int IntKind.i64 (2 : Int))]) h34) (
k (Value.tuple #[s33, (Value.int IntKind.i64 (0 : Int))]) h34))))))) kp)))))))))))
def j42__4 (D : Orc) (k : Kv) (kp : Kp) (a0 a1 a2 a3 a4 : Value) (h7 : H) : Prop :=
intK IntKind.i64 a2 (fun x8 => intK IntKind.i64 a4 (fun x9 => cond (x9 == (0 : Int)) (
D 64 [a0, a1, (Value.int IntKind.i64 x8)] h7 (fun v10 h11 => ∃ x12 : Int, v10 = (Value.int IntKind.i64 x12) ∧ j42__6 D k kp a0 a1 (Value.int IntKind.i64 x8) a3 (Value.int IntKind.i64 x12) h11) kp) (
j42__6 D k kp a0 a1 (Value.int IntKind.i64 x8) a3 (Value.int IntKind.i64 x9) h7)))
def L42 (D : Orc) : Lor := fun b vs h K => match firstId b with | some i => False | none => False
/-- lodestone/lodestoneref03.Replace -/
def F42 (D : Orc) (a0 a1 a2 a3 : Value) (h : H) (k : Kv) (kp : Kp) : Prop :=
intK IntKind.i64 a2 (fun x0 => D 36 [a0, a1] h (fun v1 h2 => ∃ x3 : Int, v1 = (Value.int IntKind.i64 x3) ∧ cond (x3 == (0 : Int)) (
D 36 [a0, a3] h2 (fun v4 h5 => ∃ x6 : Int, v4 = (Value.int IntKind.i64 x6) ∧ j42__4 D k kp a0 a1 (Value.int IntKind.i64 x0) a3 (Value.int IntKind.i64 x6) h5) kp) (
j42__4 D k kp a0 a1 (Value.int IntKind.i64 x0) a3 (Value.int IntKind.i64 x3) h2)) kp)
def Cl42 (D : Orc) : Prop := ∀ a0 a1 a2 a3 h k kp, F42 D a0 a1 a2 a3 h k kp → D 42 [a0, a1, a2, a3] h k kp
theorem tieF42 (D : Orc) (a0 a1 a2 a3 : Value) (h : H) (k : Kv) (kp : Kp) : F42 D a0 a1 a2 a3 h k kp = bodyW Tryz.prog D (L42 D) lv42 Tryz.f42 [a0, a1, a2, a3] h k kp := by kernel_rfl
theorem lfp42 : Lfps Tryz.prog (CS Tryz.prog) (L42 (CS Tryz.prog)) lv42 (allLoops (bodyOf Tryz.f42)) := by
  have e : (allLoops (bodyOf Tryz.f42)) = [] := by kernel_rfl
  rw [e]
  exact trivial
theorem cl42 : Cl42 (CS Tryz.prog) := fun a0 a1 a2 a3 h k kp hk =>
  fn_sound wide (fn := Tryz.f42) (by kernel_rfl) (by kernel_rfl) (by kernel_rfl) lfp42 (by rw [tieF42] at hk; exact hk)
def lv39 : Lv := Lv.mk 25 [.raw, .raw, .int IntKind.i64] (fun i => []) (fun i => []) [(6, .raw), (7, .int IntKind.i64)] (fun i => none)
def L39 (D : Orc) : Lor := fun b vs h K => match firstId b with | some i => False | none => False
/-- lodestone/lodestoneref03.Sub -/
def F39 (D : Orc) (a0 a1 a2 : Value) (h : H) (k : Kv) (kp : Kp) : Prop :=
intK IntKind.i64 a2 (fun x0 => D 64 [a0, a1, (Value.int IntKind.i64 x0)] h (fun v1 h2 => ∃ x3 : Int, v1 = (Value.int IntKind.i64 x3) ∧ cond (x3 != (0 : Int)) (
k (Value.tuple #[(Value.slice none 0 0), (Value.int IntKind.i64 x3)]) h2) (
newSl h2 0 [] (fun s4 h5 => D 33 [a0, a1, (Value.int IntKind.i64 x0)] h5 (fun v6 h7 => ∃ x8 : Int, v6 = (Value.int IntKind.i64 x8) ∧ slCutW a1 (some x0) (some x8) none 1 (fun s9 => slenW s9 (fun n10 => srcW h7 1 s9 (n10) (fun w11 => apW h7 1 8 [(Value.int IntKind.i64 (0 : Int))] s4 (n10) w11 (fun s12 h13 => k (Value.tuple #[s12, (Value.int IntKind.i64 (0 : Int))]) h13))))) kp))) kp)
def Cl39 (D : Orc) : Prop := ∀ a0 a1 a2 h k kp, F39 D a0 a1 a2 h k kp → D 39 [a0, a1, a2] h k kp
theorem tieF39 (D : Orc) (a0 a1 a2 : Value) (h : H) (k : Kv) (kp : Kp) : F39 D a0 a1 a2 h k kp = bodyW Tryz.prog D (L39 D) lv39 Tryz.f39 [a0, a1, a2] h k kp := by kernel_rfl
theorem lfp39 : Lfps Tryz.prog (CS Tryz.prog) (L39 (CS Tryz.prog)) lv39 (allLoops (bodyOf Tryz.f39)) := by
  have e : (allLoops (bodyOf Tryz.f39)) = [] := by kernel_rfl
  rw [e]
  exact trivial
theorem cl39 : Cl39 (CS Tryz.prog) := fun a0 a1 a2 h k kp hk =>
  fn_sound wide (fn := Tryz.f39) (by kernel_rfl) (by kernel_rfl) (by kernel_rfl) lfp39 (by rw [tieF39] at hk; exact hk)
def lv64 : Lv := Lv.mk 24 [.raw, .raw, .int IntKind.i64] (fun i => []) (fun i => []) [(6, .int IntKind.i64)] (fun i => cond (Nat.beq i 4) (some [(7, .int IntKind.i64)]) (cond (Nat.beq i 3) (some [(7, .int IntKind.i64), (22, .bool)]) (none)))
def j64__4 (D : Orc) (k : Kv) (kp : Kp) (a0 : Value) (h8 : H) : Prop :=
intK IntKind.i64 a0 (fun x9 => k (Value.int IntKind.i64 x9) h8)
def j64__3 (D : Orc) (k : Kv) (kp : Kp) (a0 a1 : Value) (h5 : H) : Prop :=
intK IntKind.i64 a0 (fun x6 => boolW a1 (fun t7 => cond t7 (
j64__4 D k kp (Value.int IntKind.i64 (33 : Int)) h5) (
j64__4 D k kp (Value.int IntKind.i64 x6) h5)))
def L64 (D : Orc) : Lor := fun b vs h K => match firstId b with | some i => False | none => False
/-- lodestone/lodestoneref03.place -/
def F64 (D : Orc) (a0 a1 a2 : Value) (h : H) (k : Kv) (kp : Kp) : Prop :=
intK IntKind.i64 a2 (fun x0 => D 36 [a0, a1] h (fun v1 h2 => ∃ x3 : Int, v1 = (Value.int IntKind.i64 x3) ∧ cond (x3 == (0 : Int)) (
cond (!(decide (x0 < (0 : Int)))) (
lenW a1 (fun n4 => j64__3 D k kp (Value.int IntKind.i64 x3) (Value.bool (decide (x0 ≥ (n4 : Int)))) h2)) (
j64__3 D k kp (Value.int IntKind.i64 x3) (Value.bool true) h2)) (
j64__3 D k kp (Value.int IntKind.i64 x3) (Value.bool false) h2)) kp)
def Cl64 (D : Orc) : Prop := ∀ a0 a1 a2 h k kp, F64 D a0 a1 a2 h k kp → D 64 [a0, a1, a2] h k kp
theorem tieF64 (D : Orc) (a0 a1 a2 : Value) (h : H) (k : Kv) (kp : Kp) : F64 D a0 a1 a2 h k kp = bodyW Tryz.prog D (L64 D) lv64 Tryz.f64 [a0, a1, a2] h k kp := by kernel_rfl
theorem lfp64 : Lfps Tryz.prog (CS Tryz.prog) (L64 (CS Tryz.prog)) lv64 (allLoops (bodyOf Tryz.f64)) := by
  have e : (allLoops (bodyOf Tryz.f64)) = [] := by kernel_rfl
  rw [e]
  exact trivial
theorem cl64 : Cl64 (CS Tryz.prog) := fun a0 a1 a2 h k kp hk =>
  fn_sound wide (fn := Tryz.f64) (by kernel_rfl) (by kernel_rfl) (by kernel_rfl) lfp64 (by rw [tieF64] at hk; exact hk)
def lv15 : Lv := Lv.mk 32 [.raw, .raw, .raw] (fun i => []) (fun i => []) [(6, .raw), (7, .int IntKind.i64)] (fun i => none)
def L15 (D : Orc) : Lor := fun b vs h K => match firstId b with | some i => False | none => False
/-- lodestone/lodestoneref04.Apply -/
def F15 (D : Orc) (a0 a1 a2 : Value) (h : H) (k : Kv) (kp : Kp) : Prop :=
D 35 [a0, a1] h (fun v0 h1 => ∃ x2 : Int, v0 = (Value.int IntKind.i64 x2) ∧ cond (x2 != (0 : Int)) (
k (Value.tuple #[(Value.slice none 0 0), (Value.int IntKind.i64 x2)]) h1) (
D 36 [a0, a2] h1 (fun v3 h4 => ∃ x5 : Int, v3 = (Value.int IntKind.i64 x5) ∧ cond (x5 != (0 : Int)) (
k (Value.tuple #[(Value.slice none 0 0), (Value.int IntKind.i64 x5)]) h4) (
D 37 [a1, a2, (Value.int IntKind.i64 (512 : Int))] h4 (fun v6 h7 => ∃ v8 : Value, ∃ t9 : Bool, v6 = (Value.tuple #[v8, (Value.bool t9)]) ∧ cond (!t9) (
k (Value.tuple #[(Value.slice none 0 0), (Value.int IntKind.i64 (2 : Int))]) h7) (
k (Value.tuple #[v8, (Value.int IntKind.i64 (0 : Int))]) h7)) kp)) kp)) kp
def Cl15 (D : Orc) : Prop := ∀ a0 a1 a2 h k kp, F15 D a0 a1 a2 h k kp → D 15 [a0, a1, a2] h k kp
theorem tieF15 (D : Orc) (a0 a1 a2 : Value) (h : H) (k : Kv) (kp : Kp) : F15 D a0 a1 a2 h k kp = bodyW Tryz.prog D (L15 D) lv15 Tryz.f15 [a0, a1, a2] h k kp := by kernel_rfl
theorem lfp15 : Lfps Tryz.prog (CS Tryz.prog) (L15 (CS Tryz.prog)) lv15 (allLoops (bodyOf Tryz.f15)) := by
  have e : (allLoops (bodyOf Tryz.f15)) = [] := by kernel_rfl
  rw [e]
  exact trivial
theorem cl15 : Cl15 (CS Tryz.prog) := fun a0 a1 a2 h k kp hk =>
  fn_sound wide (fn := Tryz.f15) (by kernel_rfl) (by kernel_rfl) (by kernel_rfl) lfp15 (by rw [tieF15] at hk; exact hk)
def lv35 : Lv := Lv.mk 58 [.raw, .raw] (fun i => cond (Nat.beq i 5) ([(0, .raw), (1, .raw), (6, .int IntKind.i64)]) ([])) (fun i => cond (Nat.beq i 5) ([(0, [])]) ([])) [(4, .int IntKind.i64)] (fun i => cond (Nat.beq i 8) (some [(0, .raw), (1, .raw), (6, .int IntKind.i64), (31, .bool)]) (cond (Nat.beq i 10) (some [(0, .raw), (1, .raw), (6, .int IntKind.i64), (47, .bool)]) (none)))
def j35_5_10 (D : Orc) (I : List Value → H → Prop) (K : Kl) (a0 a1 a2 a3 : Value) (h17 : H) : Prop :=
intK IntKind.i64 a2 (fun x18 => boolW a3 (fun t19 => cond t19 (
K X.r [(Value.int IntKind.i64 (41 : Int))] h17) (
slAtW a1 x18 2 (fun ad20 => ∃ v21 : Value, rd h17 (Addr.add ad20 1) = some v21 ∧ D 36 [a0, v21] h17 (fun v22 h23 => ∃ x24 : Int, v22 = (Value.int IntKind.i64 x24) ∧ cond (x24 != (0 : Int)) (
K X.r [(Value.int IntKind.i64 x24)] h23) (
I [a0, a1, (Value.int IntKind.i64 (IntKind.wrap IntKind.i64 (x18 + (1 : Int))))] h23)) (fun c h => K (X.p c) [] h)))))
def j35_5_8 (D : Orc) (I : List Value → H → Prop) (K : Kl) (a0 a1 a2 a3 : Value) (h10 : H) : Prop :=
intK IntKind.i64 a2 (fun x11 => boolW a3 (fun t12 => cond t12 (
K X.r [(Value.int IntKind.i64 (40 : Int))] h10) (
cond (decide (x11 > (0 : Int))) (
slAtW a1 x11 2 (fun ad13 => ∃ x14 : Int, rd h10 (Addr.add ad13 0) = some (Value.int IntKind.i64 x14) ∧ slAtW a1 (IntKind.wrap IntKind.i64 (x11 - (1 : Int))) 2 (fun ad15 => ∃ x16 : Int, rd h10 (Addr.add ad15 0) = some (Value.int IntKind.i64 x16) ∧ j35_5_10 D I K a0 a1 (Value.int IntKind.i64 x11) (Value.bool (decide (x14 ≤ x16))) h10))) (
j35_5_10 D I K a0 a1 (Value.int IntKind.i64 x11) (Value.bool false) h10))))
def round35_5 (D : Orc) (I : List Value → H → Prop) (K : Kl) (a0 a1 a2 : Value) (h3 : H) : Prop :=
intK IntKind.i64 a2 (fun x4 => lenW a1 (fun n5 => cond (decide (x4 < (n5 : Int))) (
slAtW a1 x4 2 (fun ad6 => ∃ x7 : Int, rd h3 (Addr.add ad6 0) = some (Value.int IntKind.i64 x7) ∧ cond (!(decide (x7 < (0 : Int)))) (
slAtW a1 x4 2 (fun ad8 => ∃ x9 : Int, rd h3 (Addr.add ad8 0) = some (Value.int IntKind.i64 x9) ∧ j35_5_8 D I K a0 a1 (Value.int IntKind.i64 x4) (Value.bool (decide (x9 ≥ (1048576 : Int)))) h3)) (
j35_5_8 D I K a0 a1 (Value.int IntKind.i64 x4) (Value.bool true) h3))) (
K (X.e 0) [] h3)))
def loop35_5 (D : Orc) (vs : List Value) (h : H) (K : Kl) : Prop := ∀ I : List Value → H → Prop, (∀ a0 a1 a2 h, round35_5 D I K a0 a1 a2 h → I [a0, a1, a2] h) → I vs h
def L35 (D : Orc) : Lor := fun b vs h K => match firstId b with | some i => cond (Nat.beq i 5) (loop35_5 D vs h K) (False) | none => False
/-- lodestone/lodestoneref04.Check -/
def F35 (D : Orc) (a0 a1 : Value) (h : H) (k : Kv) (kp : Kp) : Prop :=
D 60 [a0] h (fun v0 h1 => ∃ x2 : Int, v0 = (Value.int IntKind.i64 x2) ∧ cond (x2 != (0 : Int)) (
k (Value.int IntKind.i64 x2) h1) (
loop35_5 D [a0, a1, (Value.int IntKind.i64 (0 : Int))] h1 (fun x26 vs27 h25 => xs x26 (intK IntKind.i64 (nth vs27 0) (fun x29 => k (Value.int IntKind.i64 x29) h25)) (fun i28 => cond (Nat.beq i28 0) (
k (Value.int IntKind.i64 (0 : Int)) h25) (False)) (fun c => kp c h25)))) kp
def Cl35 (D : Orc) : Prop := ∀ a0 a1 h k kp, F35 D a0 a1 h k kp → D 35 [a0, a1] h k kp
theorem tieR35_5 (D : Orc) (I : List Value → H → Prop) (K : Kl) (a0 a1 a2 : Value) (h : H) : round35_5 D I K a0 a1 a2 h = round Tryz.prog D (L35 D) lv35 (nthC (allLoops (bodyOf Tryz.f35)) 0) I K [a0, a1, a2] h := by kernel_rfl
theorem tieF35 (D : Orc) (a0 a1 : Value) (h : H) (k : Kv) (kp : Kp) : F35 D a0 a1 h k kp = bodyW Tryz.prog D (L35 D) lv35 Tryz.f35 [a0, a1] h k kp := by kernel_rfl
theorem lfp35 : Lfps Tryz.prog (CS Tryz.prog) (L35 (CS Tryz.prog)) lv35 (allLoops (bodyOf Tryz.f35)) := by
  have e : (allLoops (bodyOf Tryz.f35)) = [nthC (allLoops (bodyOf Tryz.f35)) 0] := by kernel_rfl
  rw [e]
  exact ⟨(fun vs h K hk I H => hk I (fun a0 a1 a2 h hr => H _ _ ((tieR35_5 (CS Tryz.prog) I K a0 a1 a2 h) ▸ hr))), trivial⟩
theorem cl35 : Cl35 (CS Tryz.prog) := fun a0 a1 h k kp hk =>
  fn_sound wide (fn := Tryz.f35) (by kernel_rfl) (by kernel_rfl) (by kernel_rfl) lfp35 (by rw [tieF35] at hk; exact hk)
def lv37 : Lv := Lv.mk 53 [.raw, .raw, .int IntKind.i64] (fun i => cond (Nat.beq i 3) ([(0, .raw), (1, .raw), (2, .int IntKind.i64), (8, .raw), (9, .int IntKind.i64)]) ([])) (fun i => cond (Nat.beq i 3) ([(0, [(8, .raw)])]) ([])) [(6, .raw), (7, .bool)] (fun i => cond (Nat.beq i 10) (some [(0, .raw), (1, .raw), (2, .int IntKind.i64), (8, .raw), (9, .int IntKind.i64), (10, .raw)]) (none))
def j37_3_10 (D : Orc) (I : List Value → H → Prop) (K : Kl) (a0 a1 a2 a3 a4 a5 : Value) (h16 : H) : Prop :=
intK IntKind.i64 a2 (fun x17 => intK IntKind.i64 a4 (fun x18 => lenW a5 (fun n19 => lenW a3 (fun n20 => cond (decide ((n19 : Int) > (IntKind.wrap IntKind.i64 (x17 - (n20 : Int))))) (
K X.r [(Value.slice none 0 0), (Value.bool false)] h16) (
slenW a5 (fun n21 => srcW h16 1 a5 (n21) (fun w22 => apW h16 1 8 [(Value.int IntKind.i64 (0 : Int))] a3 (n21) w22 (fun s23 h24 => I [a0, a1, (Value.int IntKind.i64 x17), s23, (Value.int IntKind.i64 (IntKind.wrap IntKind.i64 (x18 + (1 : Int))))] h24))))))))
def round37_3 (D : Orc) (I : List Value → H → Prop) (K : Kl) (a0 a1 a2 a3 a4 : Value) (h3 : H) : Prop :=
intK IntKind.i64 a2 (fun x4 => intK IntKind.i64 a4 (fun x5 => lenW a1 (fun n6 => cond (decide (x5 < (n6 : Int))) (
slCutW a1 (some x5) (some (IntKind.wrap IntKind.i64 (x5 + (1 : Int)))) none 1 (fun s7 => slAtW a1 x5 1 (fun ad8 => ∃ x9 : Int, rd h3 ad8 = some (Value.int IntKind.i64 x9) ∧ cond (decide (x9 < (0 : Int))) (
slAtW a1 x5 1 (fun ad10 => ∃ x11 : Int, rd h3 ad10 = some (Value.int IntKind.i64 x11) ∧ D 63 [a0, (Value.int IntKind.i64 (IntKind.wrap IntKind.i64 ((-1 : Int) - x11)))] h3 (fun v12 h13 => ∃ v14 : Value, ∃ t15 : Bool, v12 = (Value.tuple #[v14, (Value.bool t15)]) ∧ cond t15 (
j37_3_10 D I K a0 a1 (Value.int IntKind.i64 x4) a3 (Value.int IntKind.i64 x5) v14 h13) (
j37_3_10 D I K a0 a1 (Value.int IntKind.i64 x4) a3 (Value.int IntKind.i64 x5) s7 h13)) (fun c h => K (X.p c) [] h))) (
j37_3_10 D I K a0 a1 (Value.int IntKind.i64 x4) a3 (Value.int IntKind.i64 x5) s7 h3)))) (
K (X.e 0) [a3] h3))))
def loop37_3 (D : Orc) (vs : List Value) (h : H) (K : Kl) : Prop := ∀ I : List Value → H → Prop, (∀ a0 a1 a2 a3 a4 h, round37_3 D I K a0 a1 a2 a3 a4 h → I [a0, a1, a2, a3, a4] h) → I vs h
def L37 (D : Orc) : Lor := fun b vs h K => match firstId b with | some i => cond (Nat.beq i 3) (loop37_3 D vs h K) (False) | none => False
/-- lodestone/lodestoneref04.Laid -/
def F37 (D : Orc) (a0 a1 a2 : Value) (h : H) (k : Kv) (kp : Kp) : Prop :=
intK IntKind.i64 a2 (fun x0 => newSl h 0 [] (fun s1 h2 => loop37_3 D [a0, a1, (Value.int IntKind.i64 x0), s1, (Value.int IntKind.i64 (0 : Int))] h2 (fun x26 vs27 h25 => xs x26 (boolW (nth vs27 1) (fun t29 => k (Value.tuple #[(nth vs27 0), (Value.bool t29)]) h25)) (fun i28 => cond (Nat.beq i28 0) (
k (Value.tuple #[(nth vs27 0), (Value.bool true)]) h25) (False)) (fun c => kp c h25))))
def Cl37 (D : Orc) : Prop := ∀ a0 a1 a2 h k kp, F37 D a0 a1 a2 h k kp → D 37 [a0, a1, a2] h k kp
theorem tieR37_3 (D : Orc) (I : List Value → H → Prop) (K : Kl) (a0 a1 a2 a3 a4 : Value) (h : H) : round37_3 D I K a0 a1 a2 a3 a4 h = round Tryz.prog D (L37 D) lv37 (nthC (allLoops (bodyOf Tryz.f37)) 0) I K [a0, a1, a2, a3, a4] h := by kernel_rfl
theorem tieF37 (D : Orc) (a0 a1 a2 : Value) (h : H) (k : Kv) (kp : Kp) : F37 D a0 a1 a2 h k kp = bodyW Tryz.prog D (L37 D) lv37 Tryz.f37 [a0, a1, a2] h k kp := by kernel_rfl
theorem lfp37 : Lfps Tryz.prog (CS Tryz.prog) (L37 (CS Tryz.prog)) lv37 (allLoops (bodyOf Tryz.f37)) := by
  have e : (allLoops (bodyOf Tryz.f37)) = [nthC (allLoops (bodyOf Tryz.f37)) 0] := by kernel_rfl
  rw [e]
  exact ⟨(fun vs h K hk I H => hk I (fun a0 a1 a2 a3 a4 h hr => H _ _ ((tieR37_3 (CS Tryz.prog) I K a0 a1 a2 a3 a4 h) ▸ hr))), trivial⟩
theorem cl37 : Cl37 (CS Tryz.prog) := fun a0 a1 a2 h k kp hk =>
  fn_sound wide (fn := Tryz.f37) (by kernel_rfl) (by kernel_rfl) (by kernel_rfl) lfp37 (by rw [tieF37] at hk; exact hk)
def lv63 : Lv := Lv.mk 25 [.raw, .int IntKind.i64] (fun i => cond (Nat.beq i 2) ([(0, .raw), (1, .int IntKind.i64), (6, .int IntKind.i64)]) ([])) (fun i => cond (Nat.beq i 2) ([(0, [])]) ([])) [(4, .raw), (5, .bool)] (fun i => none)
def round63_2 (D : Orc) (I : List Value → H → Prop) (K : Kl) (a0 a1 a2 : Value) (h1 : H) : Prop :=
intK IntKind.i64 a1 (fun x2 => intK IntKind.i64 a2 (fun x3 => lenW a0 (fun n4 => cond (decide (x3 < (n4 : Int))) (
slAtW a0 x3 2 (fun ad5 => ∃ x6 : Int, rd h1 (Addr.add ad5 0) = some (Value.int IntKind.i64 x6) ∧ cond (x6 == x2) (
slAtW a0 x3 2 (fun ad7 => ∃ v8 : Value, rd h1 (Addr.add ad7 1) = some v8 ∧ K X.r [v8, (Value.bool true)] h1)) (
I [a0, (Value.int IntKind.i64 x2), (Value.int IntKind.i64 (IntKind.wrap IntKind.i64 (x3 + (1 : Int))))] h1))) (
K (X.e 0) [] h1))))
def loop63_2 (D : Orc) (vs : List Value) (h : H) (K : Kl) : Prop := ∀ I : List Value → H → Prop, (∀ a0 a1 a2 h, round63_2 D I K a0 a1 a2 h → I [a0, a1, a2] h) → I vs h
def L63 (D : Orc) : Lor := fun b vs h K => match firstId b with | some i => cond (Nat.beq i 2) (loop63_2 D vs h K) (False) | none => False
/-- lodestone/lodestoneref04.bound -/
def F63 (D : Orc) (a0 a1 : Value) (h : H) (k : Kv) (kp : Kp) : Prop :=
intK IntKind.i64 a1 (fun x0 => loop63_2 D [a0, (Value.int IntKind.i64 x0), (Value.int IntKind.i64 (0 : Int))] h (fun x10 vs11 h9 => xs x10 (boolW (nth vs11 1) (fun t13 => k (Value.tuple #[(nth vs11 0), (Value.bool t13)]) h9)) (fun i12 => cond (Nat.beq i12 0) (
k (Value.tuple #[(Value.slice none 0 0), (Value.bool false)]) h9) (False)) (fun c => kp c h9)))
def Cl63 (D : Orc) : Prop := ∀ a0 a1 h k kp, F63 D a0 a1 h k kp → D 63 [a0, a1] h k kp
theorem tieR63_2 (D : Orc) (I : List Value → H → Prop) (K : Kl) (a0 a1 a2 : Value) (h : H) : round63_2 D I K a0 a1 a2 h = round Tryz.prog D (L63 D) lv63 (nthC (allLoops (bodyOf Tryz.f63)) 0) I K [a0, a1, a2] h := by kernel_rfl
theorem tieF63 (D : Orc) (a0 a1 : Value) (h : H) (k : Kv) (kp : Kp) : F63 D a0 a1 h k kp = bodyW Tryz.prog D (L63 D) lv63 Tryz.f63 [a0, a1] h k kp := by kernel_rfl
theorem lfp63 : Lfps Tryz.prog (CS Tryz.prog) (L63 (CS Tryz.prog)) lv63 (allLoops (bodyOf Tryz.f63)) := by
  have e : (allLoops (bodyOf Tryz.f63)) = [nthC (allLoops (bodyOf Tryz.f63)) 0] := by kernel_rfl
  rw [e]
  exact ⟨(fun vs h K hk I H => hk I (fun a0 a1 a2 h hr => H _ _ ((tieR63_2 (CS Tryz.prog) I K a0 a1 a2 h) ▸ hr))), trivial⟩
theorem cl63 : Cl63 (CS Tryz.prog) := fun a0 a1 h k kp hk =>
  fn_sound wide (fn := Tryz.f63) (by kernel_rfl) (by kernel_rfl) (by kernel_rfl) lfp63 (by rw [tieF63] at hk; exact hk)
def lv90 : Lv := Lv.mk 76 [.raw, .raw, .raw] (fun i => cond (Nat.beq i 4) ([(0, .raw), (1, .raw), (2, .raw), (8, .raw), (9, .int IntKind.i64), (10, .int IntKind.i64)]) ([])) (fun i => cond (Nat.beq i 4) ([(0, [(8, .raw)])]) ([])) [(6, .raw), (7, .bool)] (fun i => cond (Nat.beq i 5) (some [(0, .raw), (1, .raw), (2, .raw), (8, .raw), (9, .int IntKind.i64), (10, .int IntKind.i64)]) (cond (Nat.beq i 17) (some [(0, .raw), (1, .raw), (2, .raw), (8, .raw), (10, .int IntKind.i64), (11, .int IntKind.i64)]) (none)))
def j90_4_5 (D : Orc) (I : List Value → H → Prop) (K : Kl) (a0 a1 a2 a3 a4 a5 : Value) (h10 : H) : Prop :=
intK IntKind.i64 a4 (fun x11 => intK IntKind.i64 a5 (fun x12 => I [a0, a1, a2, a3, (Value.int IntKind.i64 x11), (Value.int IntKind.i64 (IntKind.wrap IntKind.i64 (x12 + (1 : Int))))] h10))
def j90_4_17 (D : Orc) (I : List Value → H → Prop) (K : Kl) (a0 a1 a2 a3 a4 a5 : Value) (h36 : H) : Prop :=
intK IntKind.i64 a4 (fun x37 => intK IntKind.i64 a5 (fun x38 => j90_4_5 D I K a0 a1 a2 a3 (Value.int IntKind.i64 x38) (Value.int IntKind.i64 x37) h36))
def round90_4 (D : Orc) (I : List Value → H → Prop) (K : Kl) (a0 a1 a2 a3 a4 a5 : Value) (h0 : H) : Prop :=
intK IntKind.i64 a4 (fun x1 => intK IntKind.i64 a5 (fun x2 => lenW a1 (fun n3 => cond (decide (x2 < (n3 : Int))) (
slAtW a1 x2 1 (fun ad4 => ∃ x5 : Int, rd h0 ad4 = some (Value.int IntKind.i64 x5) ∧ cond (decide (x5 ≥ (0 : Int))) (
slAtW a2 x1 1 (fun ad6 => ∃ x7 : Int, rd h0 ad6 = some (Value.int IntKind.i64 x7) ∧ slAtW a1 x2 1 (fun ad8 => ∃ x9 : Int, rd h0 ad8 = some (Value.int IntKind.i64 x9) ∧ cond (x7 != x9) (
K X.r [(Value.slice none 0 0), (Value.bool false)] h0) (
j90_4_5 D I K a0 a1 a2 a3 (Value.int IntKind.i64 (IntKind.wrap IntKind.i64 (x1 + (1 : Int)))) (Value.int IntKind.i64 x2) h0)))) (
D 33 [a0, a2, (Value.int IntKind.i64 x1)] h0 (fun v13 h14 => ∃ x15 : Int, v13 = (Value.int IntKind.i64 x15) ∧ newSl h14 0 [] (fun s16 h17 => slCutW a2 (some x1) (some x15) none 1 (fun s18 => slenW s18 (fun n19 => srcW h17 1 s18 (n19) (fun w20 => apW h17 1 8 [(Value.int IntKind.i64 (0 : Int))] s16 (n19) w20 (fun s21 h22 => slAtW a1 x2 1 (fun ad23 => ∃ x24 : Int, rd h22 ad23 = some (Value.int IntKind.i64 x24) ∧ D 108 [a3, (Value.int IntKind.i64 (IntKind.wrap IntKind.i64 ((-1 : Int) - x24)))] h22 (fun v25 h26 => ∃ x27 : Int, v25 = (Value.int IntKind.i64 x27) ∧ cond (decide (x27 < (0 : Int))) (
slAtW a1 x2 1 (fun ad28 => ∃ x29 : Int, rd h26 ad28 = some (Value.int IntKind.i64 x29) ∧ one (Value.int IntKind.i64 (IntKind.wrap IntKind.i64 ((-1 : Int) - x29))) = true ∧ 0 < 2 ∧ one s21 = true ∧ 1 < 2 ∧ 2 = 2 ∧ 0 + 2 ≤ 2 ∧ newSl h26 1 [(Value.int IntKind.i64 (IntKind.wrap IntKind.i64 ((-1 : Int) - x29))), s21] (fun s30 h31 => slenW s30 (fun n32 => srcW h31 2 s30 (n32) (fun w33 => apW h31 2 32 [(Value.int IntKind.i64 (0 : Int)), (Value.slice none 0 0)] a3 (n32) w33 (fun s34 h35 => j90_4_17 D I K a0 a1 a2 s34 (Value.int IntKind.i64 x2) (Value.int IntKind.i64 x15) h35)))))) (
slAtW a3 x27 2 (fun ad39 => ∃ v40 : Value, rd h26 (Addr.add ad39 1) = some v40 ∧ D 109 [v40, s21] h26 (fun v41 h42 => ∃ t43 : Bool, v41 = (Value.bool t43) ∧ cond (!t43) (
K X.r [(Value.slice none 0 0), (Value.bool false)] h42) (
j90_4_17 D I K a0 a1 a2 a3 (Value.int IntKind.i64 x2) (Value.int IntKind.i64 x15) h42)) (fun c h => K (X.p c) [] h)))) (fun c h => K (X.p c) [] h)))))))) (fun c h => K (X.p c) [] h)))) (
K (X.e 0) [a3] h0))))
def loop90_4 (D : Orc) (vs : List Value) (h : H) (K : Kl) : Prop := ∀ I : List Value → H → Prop, (∀ a0 a1 a2 a3 a4 a5 h, round90_4 D I K a0 a1 a2 a3 a4 a5 h → I [a0, a1, a2, a3, a4, a5] h) → I vs h
def L90 (D : Orc) : Lor := fun b vs h K => match firstId b with | some i => cond (Nat.beq i 4) (loop90_4 D vs h K) (False) | none => False
/-- lodestone/lodestoneref05.Inner -/
def F90 (D : Orc) (a0 a1 a2 : Value) (h : H) (k : Kv) (kp : Kp) : Prop :=
loop90_4 D [a0, a1, a2, (Value.slice none 0 0), (Value.int IntKind.i64 (0 : Int)), (Value.int IntKind.i64 (0 : Int))] h (fun x45 vs46 h44 => xs x45 (boolW (nth vs46 1) (fun t48 => k (Value.tuple #[(nth vs46 0), (Value.bool t48)]) h44)) (fun i47 => cond (Nat.beq i47 0) (
D 110 [(nth vs46 0)] h44 (fun v49 h50 => ∃ v51 : Value, v49 = v51 ∧ k (Value.tuple #[v51, (Value.bool true)]) h50) kp) (False)) (fun c => kp c h44))
def Cl90 (D : Orc) : Prop := ∀ a0 a1 a2 h k kp, F90 D a0 a1 a2 h k kp → D 90 [a0, a1, a2] h k kp
theorem tieR90_4 (D : Orc) (I : List Value → H → Prop) (K : Kl) (a0 a1 a2 a3 a4 a5 : Value) (h : H) : round90_4 D I K a0 a1 a2 a3 a4 a5 h = round Tryz.prog D (L90 D) lv90 (nthC (allLoops (bodyOf Tryz.f90)) 0) I K [a0, a1, a2, a3, a4, a5] h := by kernel_rfl
theorem tieF90 (D : Orc) (a0 a1 a2 : Value) (h : H) (k : Kv) (kp : Kp) : F90 D a0 a1 a2 h k kp = bodyW Tryz.prog D (L90 D) lv90 Tryz.f90 [a0, a1, a2] h k kp := by kernel_rfl
theorem lfp90 : Lfps Tryz.prog (CS Tryz.prog) (L90 (CS Tryz.prog)) lv90 (allLoops (bodyOf Tryz.f90)) := by
  have e : (allLoops (bodyOf Tryz.f90)) = [nthC (allLoops (bodyOf Tryz.f90)) 0] := by kernel_rfl
  rw [e]
  exact ⟨(fun vs h K hk I H => hk I (fun a0 a1 a2 a3 a4 a5 h hr => H _ _ ((tieR90_4 (CS Tryz.prog) I K a0 a1 a2 a3 a4 a5 h) ▸ hr))), trivial⟩
theorem cl90 : Cl90 (CS Tryz.prog) := fun a0 a1 a2 h k kp hk =>
  fn_sound wide (fn := Tryz.f90) (by kernel_rfl) (by kernel_rfl) (by kernel_rfl) lfp90 (by rw [tieF90] at hk; exact hk)
def lv108 : Lv := Lv.mk 20 [.raw, .int IntKind.i64] (fun i => cond (Nat.beq i 2) ([(0, .raw), (1, .int IntKind.i64), (5, .int IntKind.i64)]) ([])) (fun i => cond (Nat.beq i 2) ([(0, [])]) ([])) [(4, .int IntKind.i64)] (fun i => none)
def round108_2 (D : Orc) (I : List Value → H → Prop) (K : Kl) (a0 a1 a2 : Value) (h1 : H) : Prop :=
intK IntKind.i64 a1 (fun x2 => intK IntKind.i64 a2 (fun x3 => lenW a0 (fun n4 => cond (decide (x3 < (n4 : Int))) (
slAtW a0 x3 2 (fun ad5 => ∃ x6 : Int, rd h1 (Addr.add ad5 0) = some (Value.int IntKind.i64 x6) ∧ cond (x6 == x2) (
K X.r [(Value.int IntKind.i64 x3)] h1) (
I [a0, (Value.int IntKind.i64 x2), (Value.int IntKind.i64 (IntKind.wrap IntKind.i64 (x3 + (1 : Int))))] h1))) (
K (X.e 0) [] h1))))
def loop108_2 (D : Orc) (vs : List Value) (h : H) (K : Kl) : Prop := ∀ I : List Value → H → Prop, (∀ a0 a1 a2 h, round108_2 D I K a0 a1 a2 h → I [a0, a1, a2] h) → I vs h
def L108 (D : Orc) : Lor := fun b vs h K => match firstId b with | some i => cond (Nat.beq i 2) (loop108_2 D vs h K) (False) | none => False
/-- lodestone/lodestoneref05.bound -/
def F108 (D : Orc) (a0 a1 : Value) (h : H) (k : Kv) (kp : Kp) : Prop :=
intK IntKind.i64 a1 (fun x0 => loop108_2 D [a0, (Value.int IntKind.i64 x0), (Value.int IntKind.i64 (0 : Int))] h (fun x8 vs9 h7 => xs x8 (intK IntKind.i64 (nth vs9 0) (fun x11 => k (Value.int IntKind.i64 x11) h7)) (fun i10 => cond (Nat.beq i10 0) (
k (Value.int IntKind.i64 (-1 : Int)) h7) (False)) (fun c => kp c h7)))
def Cl108 (D : Orc) : Prop := ∀ a0 a1 h k kp, F108 D a0 a1 h k kp → D 108 [a0, a1] h k kp
theorem tieR108_2 (D : Orc) (I : List Value → H → Prop) (K : Kl) (a0 a1 a2 : Value) (h : H) : round108_2 D I K a0 a1 a2 h = round Tryz.prog D (L108 D) lv108 (nthC (allLoops (bodyOf Tryz.f108)) 0) I K [a0, a1, a2] h := by kernel_rfl
theorem tieF108 (D : Orc) (a0 a1 : Value) (h : H) (k : Kv) (kp : Kp) : F108 D a0 a1 h k kp = bodyW Tryz.prog D (L108 D) lv108 Tryz.f108 [a0, a1] h k kp := by kernel_rfl
theorem lfp108 : Lfps Tryz.prog (CS Tryz.prog) (L108 (CS Tryz.prog)) lv108 (allLoops (bodyOf Tryz.f108)) := by
  have e : (allLoops (bodyOf Tryz.f108)) = [nthC (allLoops (bodyOf Tryz.f108)) 0] := by kernel_rfl
  rw [e]
  exact ⟨(fun vs h K hk I H => hk I (fun a0 a1 a2 h hr => H _ _ ((tieR108_2 (CS Tryz.prog) I K a0 a1 a2 h) ▸ hr))), trivial⟩
theorem cl108 : Cl108 (CS Tryz.prog) := fun a0 a1 h k kp hk =>
  fn_sound wide (fn := Tryz.f108) (by kernel_rfl) (by kernel_rfl) (by kernel_rfl) lfp108 (by rw [tieF108] at hk; exact hk)
def lv109 : Lv := Lv.mk 26 [.raw, .raw] (fun i => cond (Nat.beq i 4) ([(0, .raw), (1, .raw), (5, .int IntKind.i64)]) ([])) (fun i => cond (Nat.beq i 4) ([(0, [])]) ([])) [(4, .bool)] (fun i => none)
def round109_4 (D : Orc) (I : List Value → H → Prop) (K : Kl) (a0 a1 a2 : Value) (h2 : H) : Prop :=
intK IntKind.i64 a2 (fun x3 => lenW a0 (fun n4 => cond (decide (x3 < (n4 : Int))) (
slAtW a0 x3 1 (fun ad5 => ∃ x6 : Int, rd h2 ad5 = some (Value.int IntKind.i64 x6) ∧ slAtW a1 x3 1 (fun ad7 => ∃ x8 : Int, rd h2 ad7 = some (Value.int IntKind.i64 x8) ∧ cond (x6 != x8) (
K X.r [(Value.bool false)] h2) (
I [a0, a1, (Value.int IntKind.i64 (IntKind.wrap IntKind.i64 (x3 + (1 : Int))))] h2)))) (
K (X.e 0) [] h2)))
def loop109_4 (D : Orc) (vs : List Value) (h : H) (K : Kl) : Prop := ∀ I : List Value → H → Prop, (∀ a0 a1 a2 h, round109_4 D I K a0 a1 a2 h → I [a0, a1, a2] h) → I vs h
def L109 (D : Orc) : Lor := fun b vs h K => match firstId b with | some i => cond (Nat.beq i 4) (loop109_4 D vs h K) (False) | none => False
/-- lodestone/lodestoneref05.sameRow -/
def F109 (D : Orc) (a0 a1 : Value) (h : H) (k : Kv) (kp : Kp) : Prop :=
lenW a0 (fun n0 => lenW a1 (fun n1 => cond ((n0 : Int) != (n1 : Int)) (
k (Value.bool false) h) (
loop109_4 D [a0, a1, (Value.int IntKind.i64 (0 : Int))] h (fun x10 vs11 h9 => xs x10 (boolW (nth vs11 0) (fun t13 => k (Value.bool t13) h9)) (fun i12 => cond (Nat.beq i12 0) (
k (Value.bool true) h9) (False)) (fun c => kp c h9)))))
def Cl109 (D : Orc) : Prop := ∀ a0 a1 h k kp, F109 D a0 a1 h k kp → D 109 [a0, a1] h k kp
theorem tieR109_4 (D : Orc) (I : List Value → H → Prop) (K : Kl) (a0 a1 a2 : Value) (h : H) : round109_4 D I K a0 a1 a2 h = round Tryz.prog D (L109 D) lv109 (nthC (allLoops (bodyOf Tryz.f109)) 0) I K [a0, a1, a2] h := by kernel_rfl
theorem tieF109 (D : Orc) (a0 a1 : Value) (h : H) (k : Kv) (kp : Kp) : F109 D a0 a1 h k kp = bodyW Tryz.prog D (L109 D) lv109 Tryz.f109 [a0, a1] h k kp := by kernel_rfl
theorem lfp109 : Lfps Tryz.prog (CS Tryz.prog) (L109 (CS Tryz.prog)) lv109 (allLoops (bodyOf Tryz.f109)) := by
  have e : (allLoops (bodyOf Tryz.f109)) = [nthC (allLoops (bodyOf Tryz.f109)) 0] := by kernel_rfl
  rw [e]
  exact ⟨(fun vs h K hk I H => hk I (fun a0 a1 a2 h hr => H _ _ ((tieR109_4 (CS Tryz.prog) I K a0 a1 a2 h) ▸ hr))), trivial⟩
theorem cl109 : Cl109 (CS Tryz.prog) := fun a0 a1 h k kp hk =>
  fn_sound wide (fn := Tryz.f109) (by kernel_rfl) (by kernel_rfl) (by kernel_rfl) lfp109 (by rw [tieF109] at hk; exact hk)
def lv110 : Lv := Lv.mk 63 [.raw] (fun i => cond (Nat.beq i 2) ([(0, .raw), (3, .raw)]) (cond (Nat.beq i 5) ([(0, .raw), (3, .raw), (4, .int IntKind.i64), (5, .int IntKind.i64)]) ([]))) (fun i => cond (Nat.beq i 2) ([(0, [(3, .raw)])]) (cond (Nat.beq i 5) ([(2, [(0, .raw), (3, .raw), (4, .int IntKind.i64)])]) ([]))) [(2, .raw)] (fun i => cond (Nat.beq i 6) (some [(0, .raw), (3, .raw), (4, .int IntKind.i64), (5, .int IntKind.i64)]) (cond (Nat.beq i 8) (some [(0, .raw), (3, .raw), (4, .int IntKind.i64), (5, .int IntKind.i64), (6, .bool)]) (cond (Nat.beq i 9) (some [(0, .raw), (3, .raw), (4, .int IntKind.i64), (5, .int IntKind.i64), (53, .bool)]) (none))))
def j110_5_6 (D : Orc) (I : List Value → H → Prop) (K : Kl) (a0 a1 a2 a3 : Value) (h25 : H) : Prop :=
intK IntKind.i64 a2 (fun x26 => intK IntKind.i64 a3 (fun x27 => I [a0, a1, (Value.int IntKind.i64 x26), (Value.int IntKind.i64 (IntKind.wrap IntKind.i64 (x27 + (1 : Int))))] h25))
def j110_5_9 (D : Orc) (I : List Value → H → Prop) (K : Kl) (a0 a1 a2 a3 a4 : Value) (h21 : H) : Prop :=
intK IntKind.i64 a2 (fun x22 => intK IntKind.i64 a3 (fun x23 => boolW a4 (fun t24 => cond t24 (
j110_5_6 D I K a0 a1 (Value.int IntKind.i64 x23) (Value.int IntKind.i64 x23) h21) (
j110_5_6 D I K a0 a1 (Value.int IntKind.i64 x22) (Value.int IntKind.i64 x23) h21))))
def j110_5_8 (D : Orc) (I : List Value → H → Prop) (K : Kl) (a0 a1 a2 a3 a4 : Value) (h13 : H) : Prop :=
intK IntKind.i64 a2 (fun x14 => intK IntKind.i64 a3 (fun x15 => boolW a4 (fun t16 => cond t16 (
cond (!(decide (x14 < (0 : Int)))) (
slAtW a0 x15 2 (fun ad17 => ∃ x18 : Int, rd h13 (Addr.add ad17 0) = some (Value.int IntKind.i64 x18) ∧ slAtW a0 x14 2 (fun ad19 => ∃ x20 : Int, rd h13 (Addr.add ad19 0) = some (Value.int IntKind.i64 x20) ∧ j110_5_9 D I K a0 a1 (Value.int IntKind.i64 x14) (Value.int IntKind.i64 x15) (Value.bool (decide (x18 < x20))) h13))) (
j110_5_9 D I K a0 a1 (Value.int IntKind.i64 x14) (Value.int IntKind.i64 x15) (Value.bool true) h13)) (
j110_5_9 D I K a0 a1 (Value.int IntKind.i64 x14) (Value.int IntKind.i64 x15) (Value.bool false) h13))))
def round110_5 (D : Orc) (I : List Value → H → Prop) (K : Kl) (a0 a1 a2 a3 : Value) (h3 : H) : Prop :=
intK IntKind.i64 a2 (fun x4 => intK IntKind.i64 a3 (fun x5 => lenW a0 (fun n6 => cond (decide (x5 < (n6 : Int))) (
lenW a1 (fun n7 => cond (!((n7 : Int) == (0 : Int))) (
slAtW a0 x5 2 (fun ad8 => ∃ x9 : Int, rd h3 (Addr.add ad8 0) = some (Value.int IntKind.i64 x9) ∧ lenW a1 (fun n10 => slAtW a1 (IntKind.wrap IntKind.i64 ((n10 : Int) - (1 : Int))) 2 (fun ad11 => ∃ x12 : Int, rd h3 (Addr.add ad11 0) = some (Value.int IntKind.i64 x12) ∧ j110_5_8 D I K a0 a1 (Value.int IntKind.i64 x4) (Value.int IntKind.i64 x5) (Value.bool (decide (x9 > x12))) h3)))) (
j110_5_8 D I K a0 a1 (Value.int IntKind.i64 x4) (Value.int IntKind.i64 x5) (Value.bool true) h3))) (
K (X.e 2) [a0, a1, (Value.int IntKind.i64 x4)] h3))))
def loop110_5 (D : Orc) (vs : List Value) (h : H) (K : Kl) : Prop := ∀ I : List Value → H → Prop, (∀ a0 a1 a2 a3 h, round110_5 D I K a0 a1 a2 a3 h → I [a0, a1, a2, a3] h) → I vs h
def round110_2 (D : Orc) (I : List Value → H → Prop) (K : Kl) (a0 a1 : Value) (h0 : H) : Prop :=
lenW a1 (fun n1 => lenW a0 (fun n2 => cond (decide ((n1 : Int) < (n2 : Int))) (
loop110_5 D [a0, a1, (Value.int IntKind.i64 (-1 : Int)), (Value.int IntKind.i64 (0 : Int))] h0 (fun x29 vs30 h28 => xs x29 (K X.r [(nth vs30 0)] h28) (fun i31 => cond (Nat.beq i31 2) (
intK IntKind.i64 (nth vs30 2) (fun x32 => slAtW (nth vs30 0) x32 2 (fun ad33 => ∃ x34 : Int, ∃ v35 : Value, rdN h28 ad33 2 = some [(Value.int IntKind.i64 x34), v35] ∧ 2 = 2 ∧ 0 + 2 ≤ 2 ∧ newSl h28 1 [(Value.int IntKind.i64 x34), v35] (fun s36 h37 => slenW s36 (fun n38 => srcW h37 2 s36 (n38) (fun w39 => apW h37 2 32 [(Value.int IntKind.i64 (0 : Int)), (Value.slice none 0 0)] (nth vs30 1) (n38) w39 (fun s40 h41 => I [(nth vs30 0), s40] h41))))))) (False)) (fun c => (fun c h => K (X.p c) [] h) c h28))) (
K (X.e 0) [a1] h0)))
def loop110_2 (D : Orc) (vs : List Value) (h : H) (K : Kl) : Prop := ∀ I : List Value → H → Prop, (∀ a0 a1 h, round110_2 D I K a0 a1 h → I [a0, a1] h) → I vs h
def L110 (D : Orc) : Lor := fun b vs h K => match firstId b with | some i => cond (Nat.beq i 2) (loop110_2 D vs h K) (cond (Nat.beq i 5) (loop110_5 D vs h K) (False)) | none => False
/-- lodestone/lodestoneref05.sorted -/
def F110 (D : Orc) (a0 : Value) (h : H) (k : Kv) (kp : Kp) : Prop :=
loop110_2 D [a0, (Value.slice none 0 0)] h (fun x43 vs44 h42 => xs x43 (k (nth vs44 0) h42) (fun i45 => cond (Nat.beq i45 0) (
k (nth vs44 0) h42) (False)) (fun c => kp c h42))
def Cl110 (D : Orc) : Prop := ∀ a0 h k kp, F110 D a0 h k kp → D 110 [a0] h k kp
theorem tieR110_2 (D : Orc) (I : List Value → H → Prop) (K : Kl) (a0 a1 : Value) (h : H) : round110_2 D I K a0 a1 h = round Tryz.prog D (L110 D) lv110 (nthC (allLoops (bodyOf Tryz.f110)) 0) I K [a0, a1] h := by kernel_rfl
theorem tieR110_5 (D : Orc) (I : List Value → H → Prop) (K : Kl) (a0 a1 a2 a3 : Value) (h : H) : round110_5 D I K a0 a1 a2 a3 h = round Tryz.prog D (L110 D) lv110 (nthC (allLoops (bodyOf Tryz.f110)) 1) I K [a0, a1, a2, a3] h := by kernel_rfl
theorem tieF110 (D : Orc) (a0 : Value) (h : H) (k : Kv) (kp : Kp) : F110 D a0 h k kp = bodyW Tryz.prog D (L110 D) lv110 Tryz.f110 [a0] h k kp := by kernel_rfl
theorem lfp110 : Lfps Tryz.prog (CS Tryz.prog) (L110 (CS Tryz.prog)) lv110 (allLoops (bodyOf Tryz.f110)) := by
  have e : (allLoops (bodyOf Tryz.f110)) = [nthC (allLoops (bodyOf Tryz.f110)) 0, nthC (allLoops (bodyOf Tryz.f110)) 1] := by kernel_rfl
  rw [e]
  exact ⟨(fun vs h K hk I H => hk I (fun a0 a1 h hr => H _ _ ((tieR110_2 (CS Tryz.prog) I K a0 a1 h) ▸ hr))), (fun vs h K hk I H => hk I (fun a0 a1 a2 a3 h hr => H _ _ ((tieR110_5 (CS Tryz.prog) I K a0 a1 a2 a3 h) ▸ hr))), trivial⟩
theorem cl110 : Cl110 (CS Tryz.prog) := fun a0 h k kp hk =>
  fn_sound wide (fn := Tryz.f110) (by kernel_rfl) (by kernel_rfl) (by kernel_rfl) lfp110 (by rw [tieF110] at hk; exact hk)
def lv40 : Lv := Lv.mk 52 [.raw, .raw] (fun i => cond (Nat.beq i 5) ([(1, .raw), (2, .raw), (5, .raw), (6, .int IntKind.i64)]) (cond (Nat.beq i 9) ([(1, .raw), (2, .raw), (5, .raw), (6, .int IntKind.i64), (7, .int IntKind.i64), (8, .int IntKind.i64)]) ([]))) (fun i => cond (Nat.beq i 5) ([(0, [(5, .raw)])]) (cond (Nat.beq i 9) ([(2, [(1, .raw), (2, .raw), (5, .raw), (6, .int IntKind.i64)])]) ([]))) [(4, .raw)] (fun i => cond (Nat.beq i 10) (some [(1, .raw), (2, .raw), (5, .raw), (6, .int IntKind.i64), (7, .int IntKind.i64), (8, .int IntKind.i64)]) (none))
def j40_9_10 (D : Orc) (I : List Value → H → Prop) (K : Kl) (a0 a1 a2 a3 a4 a5 : Value) (h39 : H) : Prop :=
intK IntKind.i64 a3 (fun x40 => intK IntKind.i64 a4 (fun x41 => intK IntKind.i64 a5 (fun x42 => I [a0, a1, a2, (Value.int IntKind.i64 x40), (Value.int IntKind.i64 x41), (Value.int IntKind.i64 (IntKind.wrap IntKind.i64 (x42 + (1 : Int))))] h39)))
def round40_9 (D : Orc) (I : List Value → H → Prop) (K : Kl) (a0 a1 a2 a3 a4 a5 : Value) (h19 : H) : Prop :=
intK IntKind.i64 a3 (fun x20 => intK IntKind.i64 a4 (fun x21 => intK IntKind.i64 a5 (fun x22 => ptrW a1 (fun ad23 => ∃ v24 : Value, rd h19 (Addr.add ad23 1) = some v24 ∧ lenW v24 (fun n25 => cond (decide (x22 < (n25 : Int))) (
ptrW a1 (fun ad26 => ∃ v27 : Value, ∃ v28 : Value, rdN h19 ad26 2 = some [v27, v28] ∧ D 67 [(Value.agg #[v27, v28]), a0, (Value.int IntKind.i64 x20), (Value.int IntKind.i64 x21), (Value.int IntKind.i64 x22)] h19 (fun v29 h30 => ∃ v31 : Value, ∃ t32 : Bool, v29 = (Value.tuple #[v31, (Value.bool t32)]) ∧ cond t32 (
one (Value.int IntKind.i64 x20) = true ∧ 0 < 2 ∧ one (Value.int IntKind.i64 x22) = true ∧ 1 < 2 ∧ 2 = 2 ∧ 0 + 2 ≤ 2 ∧ newSl h30 1 [(Value.int IntKind.i64 x20), (Value.int IntKind.i64 x22)] (fun s33 h34 => slenW s33 (fun n35 => srcW h34 2 s33 (n35) (fun w36 => apW h34 2 16 [(Value.int IntKind.i64 (0 : Int)), (Value.int IntKind.i64 (0 : Int))] a2 (n35) w36 (fun s37 h38 => j40_9_10 D I K a0 a1 s37 (Value.int IntKind.i64 x20) (Value.int IntKind.i64 x21) (Value.int IntKind.i64 x22) h38))))) (
j40_9_10 D I K a0 a1 a2 (Value.int IntKind.i64 x20) (Value.int IntKind.i64 x21) (Value.int IntKind.i64 x22) h30)) (fun c h => K (X.p c) [] h))) (
K (X.e 2) [a0, a1, a2, (Value.int IntKind.i64 x20)] h19))))))
def loop40_9 (D : Orc) (vs : List Value) (h : H) (K : Kl) : Prop := ∀ I : List Value → H → Prop, (∀ a0 a1 a2 a3 a4 a5 h, round40_9 D I K a0 a1 a2 a3 a4 a5 h → I [a0, a1, a2, a3, a4, a5] h) → I vs h
def round40_5 (D : Orc) (I : List Value → H → Prop) (K : Kl) (a0 a1 a2 a3 : Value) (h11 : H) : Prop :=
intK IntKind.i64 a3 (fun x12 => lenW a0 (fun n13 => cond (decide (x12 < (n13 : Int))) (
ptrW a1 (fun ad14 => ∃ v15 : Value, rd h11 (Addr.add ad14 0) = some v15 ∧ D 66 [v15, a0, (Value.int IntKind.i64 x12)] h11 (fun v16 h17 => ∃ x18 : Int, v16 = (Value.int IntKind.i64 x18) ∧ loop40_9 D [a0, a1, a2, (Value.int IntKind.i64 x12), (Value.int IntKind.i64 x18), (Value.int IntKind.i64 (0 : Int))] h17 (fun x44 vs45 h43 => xs x44 (K X.r [(nth vs45 0)] h43) (fun i46 => cond (Nat.beq i46 2) (
intK IntKind.i64 (nth vs45 3) (fun x47 => I [(nth vs45 0), (nth vs45 1), (nth vs45 2), (Value.int IntKind.i64 (IntKind.wrap IntKind.i64 (x47 + (1 : Int))))] h43)) (False)) (fun c => (fun c h => K (X.p c) [] h) c h43))) (fun c h => K (X.p c) [] h))) (
K (X.e 0) [a2] h11)))
def loop40_5 (D : Orc) (vs : List Value) (h : H) (K : Kl) : Prop := ∀ I : List Value → H → Prop, (∀ a0 a1 a2 a3 h, round40_5 D I K a0 a1 a2 a3 h → I [a0, a1, a2, a3] h) → I vs h
def L40 (D : Orc) : Lor := fun b vs h K => match firstId b with | some i => cond (Nat.beq i 5) (loop40_5 D vs h K) (cond (Nat.beq i 9) (loop40_9 D vs h K) (False)) | none => False
/-- lodestone/lodestoneref08.All -/
def F40 (D : Orc) (a0 a1 : Value) (h : H) (k : Kv) (kp : Kp) : Prop :=
aggW a0 (fun l0 => newW h l0 (fun p1 h2 => newSl h2 0 [] (fun s3 h4 => ptrW p1 (fun ad5 => ∃ v6 : Value, ∃ v7 : Value, rdN h4 ad5 2 = some [v6, v7] ∧ D 65 [(Value.agg #[v6, v7]), a1] h4 (fun v8 h9 => ∃ x10 : Int, v8 = (Value.int IntKind.i64 x10) ∧ cond (x10 != (0 : Int)) (
k s3 h9) (
loop40_5 D [a1, p1, s3, (Value.int IntKind.i64 (0 : Int))] h9 (fun x49 vs50 h48 => xs x49 (k (nth vs50 0) h48) (fun i51 => cond (Nat.beq i51 0) (
k (nth vs50 0) h48) (False)) (fun c => kp c h48)))) kp))))
def Cl40 (D : Orc) : Prop := ∀ a0 a1 h k kp, F40 D a0 a1 h k kp → D 40 [a0, a1] h k kp
theorem tieR40_5 (D : Orc) (I : List Value → H → Prop) (K : Kl) (a0 a1 a2 a3 : Value) (h : H) : round40_5 D I K a0 a1 a2 a3 h = round Tryz.prog D (L40 D) lv40 (nthC (allLoops (bodyOf Tryz.f40)) 0) I K [a0, a1, a2, a3] h := by kernel_rfl
theorem tieR40_9 (D : Orc) (I : List Value → H → Prop) (K : Kl) (a0 a1 a2 a3 a4 a5 : Value) (h : H) : round40_9 D I K a0 a1 a2 a3 a4 a5 h = round Tryz.prog D (L40 D) lv40 (nthC (allLoops (bodyOf Tryz.f40)) 1) I K [a0, a1, a2, a3, a4, a5] h := by kernel_rfl
theorem tieF40 (D : Orc) (a0 a1 : Value) (h : H) (k : Kv) (kp : Kp) : F40 D a0 a1 h k kp = bodyW Tryz.prog D (L40 D) lv40 Tryz.f40 [a0, a1] h k kp := by kernel_rfl
theorem lfp40 : Lfps Tryz.prog (CS Tryz.prog) (L40 (CS Tryz.prog)) lv40 (allLoops (bodyOf Tryz.f40)) := by
  have e : (allLoops (bodyOf Tryz.f40)) = [nthC (allLoops (bodyOf Tryz.f40)) 0, nthC (allLoops (bodyOf Tryz.f40)) 1] := by kernel_rfl
  rw [e]
  exact ⟨(fun vs h K hk I H => hk I (fun a0 a1 a2 a3 h hr => H _ _ ((tieR40_5 (CS Tryz.prog) I K a0 a1 a2 a3 h) ▸ hr))), (fun vs h K hk I H => hk I (fun a0 a1 a2 a3 a4 a5 h hr => H _ _ ((tieR40_9 (CS Tryz.prog) I K a0 a1 a2 a3 a4 a5 h) ▸ hr))), trivial⟩
theorem cl40 : Cl40 (CS Tryz.prog) := fun a0 a1 h k kp hk =>
  fn_sound wide (fn := Tryz.f40) (by kernel_rfl) (by kernel_rfl) (by kernel_rfl) lfp40 (by rw [tieF40] at hk; exact hk)
def lv41 : Lv := Lv.mk 106 [.raw, .raw, .raw] (fun i => []) (fun i => []) [(6, .raw), (7, .int IntKind.i64)] (fun i => cond (Nat.beq i 5) (some [(1, .raw), (3, .raw), (5, .raw), (31, .bool)]) (cond (Nat.beq i 7) (some [(1, .raw), (3, .raw), (5, .raw), (42, .bool)]) (cond (Nat.beq i 15) (some [(1, .raw), (5, .raw), (9, .int IntKind.i64), (13, .raw), (91, .bool)]) (none))))
def j41__15 (D : Orc) (k : Kv) (kp : Kp) (a0 a1 a2 a3 a4 : Value) (h61 : H) : Prop :=
intK IntKind.i64 a2 (fun x62 => boolW a4 (fun t63 => cond t63 (
k (Value.tuple #[(Value.slice none 0 0), (Value.int IntKind.i64 (2 : Int))]) h61) (
newSl h61 0 [] (fun s64 h65 => ptrW a1 (fun ad66 => ∃ x67 : Int, rd h65 (Addr.add ad66 0) = some (Value.int IntKind.i64 x67) ∧ slCutW a0 none (some x67) none 1 (fun s68 => slenW s68 (fun n69 => srcW h65 1 s68 (n69) (fun w70 => apW h65 1 8 [(Value.int IntKind.i64 (0 : Int))] s64 (n69) w70 (fun s71 h72 => slenW a3 (fun n73 => srcW h72 1 a3 (n73) (fun w74 => apW h72 1 8 [(Value.int IntKind.i64 (0 : Int))] s71 (n73) w74 (fun s75 h76 => slCutW a0 (some x62) none none 1 (fun s77 => slenW s77 (fun n78 => srcW h76 1 s77 (n78) (fun w79 => apW h76 1 8 [(Value.int IntKind.i64 (0 : Int))] s75 (n78) w79 (fun s80 h81 => k (Value.tuple #[s80, (Value.int IntKind.i64 (0 : Int))]) h81))))))))))))))))
def j41__7 (D : Orc) (k : Kv) (kp : Kp) (a0 a1 a2 a3 : Value) (h26 : H) : Prop :=
boolW a3 (fun t27 => cond t27 (
k (Value.tuple #[(Value.slice none 0 0), (Value.int IntKind.i64 (1 : Int))]) h26) (
ptrW a1 (fun ad28 => ∃ v29 : Value, rd h26 (Addr.add ad28 0) = some v29 ∧ ptrW a2 (fun ad30 => ∃ x31 : Int, rd h26 (Addr.add ad30 0) = some (Value.int IntKind.i64 x31) ∧ D 66 [v29, a0, (Value.int IntKind.i64 x31)] h26 (fun v32 h33 => ∃ x34 : Int, v32 = (Value.int IntKind.i64 x34) ∧ ptrW a1 (fun ad35 => ∃ v36 : Value, ∃ v37 : Value, rdN h33 ad35 2 = some [v36, v37] ∧ ptrW a2 (fun ad38 => ∃ x39 : Int, rd h33 (Addr.add ad38 0) = some (Value.int IntKind.i64 x39) ∧ ptrW a2 (fun ad40 => ∃ x41 : Int, rd h33 (Addr.add ad40 1) = some (Value.int IntKind.i64 x41) ∧ D 67 [(Value.agg #[v36, v37]), a0, (Value.int IntKind.i64 x39), (Value.int IntKind.i64 x34), (Value.int IntKind.i64 x41)] h33 (fun v42 h43 => ∃ v44 : Value, ∃ t45 : Bool, v42 = (Value.tuple #[v44, (Value.bool t45)]) ∧ cond (!t45) (
k (Value.tuple #[(Value.slice none 0 0), (Value.int IntKind.i64 (80 : Int))]) h43) (
ptrW a2 (fun ad46 => ∃ x47 : Int, rd h43 (Addr.add ad46 0) = some (Value.int IntKind.i64 x47) ∧ lenW a0 (fun n48 => ptrW a1 (fun ad49 => ∃ v50 : Value, rd h43 (Addr.add ad49 1) = some v50 ∧ ptrW a2 (fun ad51 => ∃ x52 : Int, rd h43 (Addr.add ad51 1) = some (Value.int IntKind.i64 x52) ∧ slAtW v50 x52 2 (fun ad53 => ∃ v54 : Value, rd h43 (Addr.add ad53 1) = some v54 ∧ minMax true [(Value.int IntKind.i64 (0 : Int)), (Value.int IntKind.i64 (IntKind.wrap IntKind.i64 ((IntKind.wrap IntKind.i64 ((512 : Int) - x47)) - (IntKind.wrap IntKind.i64 ((n48 : Int) - x34)))))] (fun v55 => D 37 [v44, v54, v55] h43 (fun v56 h57 => ∃ v58 : Value, ∃ t59 : Bool, v56 = (Value.tuple #[v58, (Value.bool t59)]) ∧ cond (!(!t59)) (
lenW v58 (fun n60 => j41__15 D k kp a0 a2 (Value.int IntKind.i64 x34) v58 (Value.bool (decide ((n60 : Int) > (IntKind.wrap IntKind.i64 ((IntKind.wrap IntKind.i64 ((512 : Int) - x47)) - (IntKind.wrap IntKind.i64 ((n48 : Int) - x34))))))) h57)) (
j41__15 D k kp a0 a2 (Value.int IntKind.i64 x34) v58 (Value.bool true) h57)) kp)))))))) kp)))) kp))))
def j41__5 (D : Orc) (k : Kv) (kp : Kp) (a0 a1 a2 a3 : Value) (h17 : H) : Prop :=
boolW a3 (fun t18 => cond t18 (
k (Value.tuple #[(Value.slice none 0 0), (Value.int IntKind.i64 (33 : Int))]) h17) (
ptrW a2 (fun ad19 => ∃ x20 : Int, rd h17 (Addr.add ad19 1) = some (Value.int IntKind.i64 x20) ∧ cond (!(decide (x20 < (0 : Int)))) (
ptrW a2 (fun ad21 => ∃ x22 : Int, rd h17 (Addr.add ad21 1) = some (Value.int IntKind.i64 x22) ∧ ptrW a1 (fun ad23 => ∃ v24 : Value, rd h17 (Addr.add ad23 1) = some v24 ∧ lenW v24 (fun n25 => j41__7 D k kp a0 a1 a2 (Value.bool (decide (x22 ≥ (n25 : Int)))) h17)))) (
j41__7 D k kp a0 a1 a2 (Value.bool true) h17))))
def L41 (D : Orc) : Lor := fun b vs h K => match firstId b with | some i => False | none => False
/-- lodestone/lodestoneref08.Do -/
def F41 (D : Orc) (a0 a1 a2 : Value) (h : H) (k : Kv) (kp : Kp) : Prop :=
aggW a0 (fun l0 => newW h l0 (fun p1 h2 => aggW a2 (fun l3 => newW h2 l3 (fun p4 h5 => ptrW p1 (fun ad6 => ∃ v7 : Value, ∃ v8 : Value, rdN h5 ad6 2 = some [v7, v8] ∧ D 65 [(Value.agg #[v7, v8]), a1] h5 (fun v9 h10 => ∃ x11 : Int, v9 = (Value.int IntKind.i64 x11) ∧ cond (x11 != (0 : Int)) (
k (Value.tuple #[(Value.slice none 0 0), (Value.int IntKind.i64 x11)]) h10) (
ptrW p4 (fun ad12 => ∃ x13 : Int, rd h10 (Addr.add ad12 0) = some (Value.int IntKind.i64 x13) ∧ cond (!(decide (x13 < (0 : Int)))) (
ptrW p4 (fun ad14 => ∃ x15 : Int, rd h10 (Addr.add ad14 0) = some (Value.int IntKind.i64 x15) ∧ lenW a1 (fun n16 => j41__5 D k kp a1 p1 p4 (Value.bool (decide (x15 ≥ (n16 : Int)))) h10))) (
j41__5 D k kp a1 p1 p4 (Value.bool true) h10)))) kp)))))
def Cl41 (D : Orc) : Prop := ∀ a0 a1 a2 h k kp, F41 D a0 a1 a2 h k kp → D 41 [a0, a1, a2] h k kp
theorem tieF41 (D : Orc) (a0 a1 a2 : Value) (h : H) (k : Kv) (kp : Kp) : F41 D a0 a1 a2 h k kp = bodyW Tryz.prog D (L41 D) lv41 Tryz.f41 [a0, a1, a2] h k kp := by kernel_rfl
theorem lfp41 : Lfps Tryz.prog (CS Tryz.prog) (L41 (CS Tryz.prog)) lv41 (allLoops (bodyOf Tryz.f41)) := by
  have e : (allLoops (bodyOf Tryz.f41)) = [] := by kernel_rfl
  rw [e]
  exact trivial
theorem cl41 : Cl41 (CS Tryz.prog) := fun a0 a1 a2 h k kp hk =>
  fn_sound wide (fn := Tryz.f41) (by kernel_rfl) (by kernel_rfl) (by kernel_rfl) lfp41 (by rw [tieF41] at hk; exact hk)
def lv66 : Lv := Lv.mk 30 [.raw, .raw, .int IntKind.i64] (fun i => cond (Nat.beq i 2) ([(0, .raw), (1, .raw), (2, .int IntKind.i64), (7, .int IntKind.i64)]) ([])) (fun i => cond (Nat.beq i 2) ([(0, [(2, .int IntKind.i64)])]) ([])) [(6, .int IntKind.i64)] (fun i => cond (Nat.beq i 6) (some [(0, .raw), (1, .raw), (2, .int IntKind.i64), (7, .int IntKind.i64)]) (none))
def j66_2_6 (D : Orc) (I : List Value → H → Prop) (K : Kl) (a0 a1 a2 a3 : Value) (h10 : H) : Prop :=
intK IntKind.i64 a2 (fun x11 => intK IntKind.i64 a3 (fun x12 => I [a0, a1, (Value.int IntKind.i64 (IntKind.wrap IntKind.i64 (x11 + (1 : Int)))), (Value.int IntKind.i64 x12)] h10))
def round66_2 (D : Orc) (I : List Value → H → Prop) (K : Kl) (a0 a1 a2 a3 : Value) (h1 : H) : Prop :=
intK IntKind.i64 a2 (fun x2 => intK IntKind.i64 a3 (fun x3 => cond (decide (x3 > (0 : Int))) (
slAtW a1 x2 1 (fun ad4 => ∃ x5 : Int, rd h1 ad4 = some (Value.int IntKind.i64 x5) ∧ cond (decide (x5 ≥ (0 : Int))) (
slAtW a1 x2 1 (fun ad6 => ∃ x7 : Int, rd h1 ad6 = some (Value.int IntKind.i64 x7) ∧ slAtW a0 x7 2 (fun ad8 => ∃ x9 : Int, rd h1 (Addr.add ad8 1) = some (Value.int IntKind.i64 x9) ∧ j66_2_6 D I K a0 a1 (Value.int IntKind.i64 x2) (Value.int IntKind.i64 (IntKind.wrap IntKind.i64 ((IntKind.wrap IntKind.i64 (x3 - (1 : Int))) + x9))) h1))) (
j66_2_6 D I K a0 a1 (Value.int IntKind.i64 x2) (Value.int IntKind.i64 (IntKind.wrap IntKind.i64 (x3 - (1 : Int)))) h1))) (
K (X.e 0) [(Value.int IntKind.i64 x2)] h1)))
def loop66_2 (D : Orc) (vs : List Value) (h : H) (K : Kl) : Prop := ∀ I : List Value → H → Prop, (∀ a0 a1 a2 a3 h, round66_2 D I K a0 a1 a2 a3 h → I [a0, a1, a2, a3] h) → I vs h
def L66 (D : Orc) : Lor := fun b vs h K => match firstId b with | some i => cond (Nat.beq i 2) (loop66_2 D vs h K) (False) | none => False
/-- lodestone/lodestoneref08.end -/
def F66 (D : Orc) (a0 a1 a2 : Value) (h : H) (k : Kv) (kp : Kp) : Prop :=
intK IntKind.i64 a2 (fun x0 => loop66_2 D [a0, a1, (Value.int IntKind.i64 x0), (Value.int IntKind.i64 (1 : Int))] h (fun x14 vs15 h13 => xs x14 (intK IntKind.i64 (nth vs15 0) (fun x17 => k (Value.int IntKind.i64 x17) h13)) (fun i16 => cond (Nat.beq i16 0) (
intK IntKind.i64 (nth vs15 0) (fun x18 => k (Value.int IntKind.i64 x18) h13)) (False)) (fun c => kp c h13)))
def Cl66 (D : Orc) : Prop := ∀ a0 a1 a2 h k kp, F66 D a0 a1 a2 h k kp → D 66 [a0, a1, a2] h k kp
theorem tieR66_2 (D : Orc) (I : List Value → H → Prop) (K : Kl) (a0 a1 a2 a3 : Value) (h : H) : round66_2 D I K a0 a1 a2 a3 h = round Tryz.prog D (L66 D) lv66 (nthC (allLoops (bodyOf Tryz.f66)) 0) I K [a0, a1, a2, a3] h := by kernel_rfl
theorem tieF66 (D : Orc) (a0 a1 a2 : Value) (h : H) (k : Kv) (kp : Kp) : F66 D a0 a1 a2 h k kp = bodyW Tryz.prog D (L66 D) lv66 Tryz.f66 [a0, a1, a2] h k kp := by kernel_rfl
theorem lfp66 : Lfps Tryz.prog (CS Tryz.prog) (L66 (CS Tryz.prog)) lv66 (allLoops (bodyOf Tryz.f66)) := by
  have e : (allLoops (bodyOf Tryz.f66)) = [nthC (allLoops (bodyOf Tryz.f66)) 0] := by kernel_rfl
  rw [e]
  exact ⟨(fun vs h K hk I H => hk I (fun a0 a1 a2 a3 h hr => H _ _ ((tieR66_2 (CS Tryz.prog) I K a0 a1 a2 a3 h) ▸ hr))), trivial⟩
theorem cl66 : Cl66 (CS Tryz.prog) := fun a0 a1 a2 h k kp hk =>
  fn_sound wide (fn := Tryz.f66) (by kernel_rfl) (by kernel_rfl) (by kernel_rfl) lfp66 (by rw [tieF66] at hk; exact hk)
def lv67 : Lv := Lv.mk 27 [.raw, .raw, .int IntKind.i64, .int IntKind.i64, .int IntKind.i64] (fun i => []) (fun i => []) [(10, .raw), (11, .bool)] (fun i => none)
def L67 (D : Orc) : Lor := fun b vs h K => match firstId b with | some i => False | none => False
/-- lodestone/lodestoneref08.matched -/
def F67 (D : Orc) (a0 a1 a2 a3 a4 : Value) (h : H) (k : Kv) (kp : Kp) : Prop :=
intK IntKind.i64 a2 (fun x0 => intK IntKind.i64 a3 (fun x1 => intK IntKind.i64 a4 (fun x2 => aggW a0 (fun l3 => newW h l3 (fun p4 h5 => ptrW p4 (fun ad6 => ∃ v7 : Value, rd h5 (Addr.add ad6 0) = some v7 ∧ ptrW p4 (fun ad8 => ∃ v9 : Value, rd h5 (Addr.add ad8 1) = some v9 ∧ slAtW v9 x2 2 (fun ad10 => ∃ v11 : Value, rd h5 (Addr.add ad10 0) = some v11 ∧ slCutW a1 (some x0) (some x1) none 1 (fun s12 => D 90 [v7, v11, s12] h5 (fun v13 h14 => ∃ v15 : Value, ∃ t16 : Bool, v13 = (Value.tuple #[v15, (Value.bool t16)]) ∧ k (Value.tuple #[v15, (Value.bool t16)]) h14) kp)))))))))
def Cl67 (D : Orc) : Prop := ∀ a0 a1 a2 a3 a4 h k kp, F67 D a0 a1 a2 a3 a4 h k kp → D 67 [a0, a1, a2, a3, a4] h k kp
theorem tieF67 (D : Orc) (a0 a1 a2 a3 a4 : Value) (h : H) (k : Kv) (kp : Kp) : F67 D a0 a1 a2 a3 a4 h k kp = bodyW Tryz.prog D (L67 D) lv67 Tryz.f67 [a0, a1, a2, a3, a4] h k kp := by kernel_rfl
theorem lfp67 : Lfps Tryz.prog (CS Tryz.prog) (L67 (CS Tryz.prog)) lv67 (allLoops (bodyOf Tryz.f67)) := by
  have e : (allLoops (bodyOf Tryz.f67)) = [] := by kernel_rfl
  rw [e]
  exact trivial
theorem cl67 : Cl67 (CS Tryz.prog) := fun a0 a1 a2 a3 a4 h k kp hk =>
  fn_sound wide (fn := Tryz.f67) (by kernel_rfl) (by kernel_rfl) (by kernel_rfl) lfp67 (by rw [tieF67] at hk; exact hk)
def lv65 : Lv := Lv.mk 19 [.raw, .raw] (fun i => []) (fun i => []) [(4, .int IntKind.i64)] (fun i => none)
def L65 (D : Orc) : Lor := fun b vs h K => match firstId b with | some i => False | none => False
/-- lodestone/lodestoneref08.right -/
def F65 (D : Orc) (a0 a1 : Value) (h : H) (k : Kv) (kp : Kp) : Prop :=
aggW a0 (fun l0 => newW h l0 (fun p1 h2 => ptrW p1 (fun ad3 => ∃ v4 : Value, ∃ v5 : Value, rdN h2 ad3 2 = some [v4, v5] ∧ D 30 [(Value.agg #[v4, v5])] h2 (fun v6 h7 => ∃ x8 : Int, ∃ x9 : Int, v6 = (Value.tuple #[(Value.int IntKind.i64 x8), (Value.int IntKind.i64 x9)]) ∧ cond (x8 != (0 : Int)) (
k (Value.int IntKind.i64 x8) h7) (
ptrW p1 (fun ad10 => ∃ v11 : Value, rd h7 (Addr.add ad10 0) = some v11 ∧ D 62 [v11, a1] h7 (fun v12 h13 => ∃ x14 : Int, v12 = (Value.int IntKind.i64 x14) ∧ k (Value.int IntKind.i64 x14) h13) kp))) kp)))
def Cl65 (D : Orc) : Prop := ∀ a0 a1 h k kp, F65 D a0 a1 h k kp → D 65 [a0, a1] h k kp
theorem tieF65 (D : Orc) (a0 a1 : Value) (h : H) (k : Kv) (kp : Kp) : F65 D a0 a1 h k kp = bodyW Tryz.prog D (L65 D) lv65 Tryz.f65 [a0, a1] h k kp := by kernel_rfl
theorem lfp65 : Lfps Tryz.prog (CS Tryz.prog) (L65 (CS Tryz.prog)) lv65 (allLoops (bodyOf Tryz.f65)) := by
  have e : (allLoops (bodyOf Tryz.f65)) = [] := by kernel_rfl
  rw [e]
  exact trivial
theorem cl65 : Cl65 (CS Tryz.prog) := fun a0 a1 h k kp hk =>
  fn_sound wide (fn := Tryz.f65) (by kernel_rfl) (by kernel_rfl) (by kernel_rfl) lfp65 (by rw [tieF65] at hk; exact hk)
end Go.Proofs.YtnlhnlmnlfmojaaGreatDoor.Am
