/-
  Packed: 
-/
import Derived.Test.YtdndngngdngjjaaPkB
import Derived.Test.YtdndngngdngjjaaProg
namespace Go.Proofs.Ytdndngngdngjjaa.Am
open Go Go.Proofs
set_option maxRecDepth 100000
set_option linter.unusedVariables false
theorem wide : Try.prog.follows .mixedOrders = true := by kernel_rfl
def lv3 : Lv := Lv.mk 72 [.raw] (fun i => cond (Nat.beq i 12) ([(3, .bool), (4, .raw), (5, .raw), (6, .raw), (7, .int IntKind.i64)]) (cond (Nat.beq i 15) ([(3, .bool), (4, .raw), (5, .raw), (6, .raw), (7, .int IntKind.i64), (8, .int IntKind.i64)]) ([]))) (fun i => cond (Nat.beq i 12) ([(0, [(3, .bool), (4, .raw), (6, .raw)])]) (cond (Nat.beq i 15) ([(2, [(3, .bool), (4, .raw), (5, .raw), (6, .raw), (7, .int IntKind.i64)])]) ([]))) [(2, .bool)] (fun i => cond (Nat.beq i 10) (some [(3, .bool), (4, .raw), (5, .raw), (6, .raw), (32, .bool)]) (none))
def round3_15 (D : Orc) (I : List Value → H → Prop) (K : Kl) (a0 a1 a2 a3 a4 a5 : Value) (h26 : H) : Prop :=
boolW a0 (fun t27 => intK IntKind.i64 a4 (fun x28 => intK IntKind.i64 a5 (fun x29 => slAtW a2 x28 1 (fun ad30 => ∃ v31 : Value, rd h26 ad30 = some v31 ∧ lenW v31 (fun n32 => cond (decide (x29 < (n32 : Int))) (
slAtW a2 x28 1 (fun ad33 => ∃ v34 : Value, rd h26 ad33 = some v34 ∧ slAtW v34 x29 1 (fun ad35 => one (Value.int IntKind.i64 (99 : Int)) = true ∧ 1 = 1 ∧ ∃ h36, wr1 h26 ad35 (Value.int IntKind.i64 (99 : Int)) = some h36 ∧ I [(Value.bool t27), a1, a2, a3, (Value.int IntKind.i64 x28), (Value.int IntKind.i64 (IntKind.wrap IntKind.i64 (x29 + (1 : Int))))] h36))) (
K (X.e 2) [(Value.bool t27), a1, a2, a3, (Value.int IntKind.i64 x28)] h26))))))
def loop3_15 (D : Orc) (vs : List Value) (h : H) (K : Kl) : Prop := ∀ I : List Value → H → Prop, (∀ a0 a1 a2 a3 a4 a5 h, round3_15 D I K a0 a1 a2 a3 a4 a5 h → I [a0, a1, a2, a3, a4, a5] h) → I vs h
def round3_12 (D : Orc) (I : List Value → H → Prop) (K : Kl) (a0 a1 a2 a3 a4 : Value) (h22 : H) : Prop :=
boolW a0 (fun t23 => intK IntKind.i64 a4 (fun x24 => lenW a2 (fun n25 => cond (decide (x24 < (n25 : Int))) (
loop3_15 D [(Value.bool t23), a1, a2, a3, (Value.int IntKind.i64 x24), (Value.int IntKind.i64 (0 : Int))] h22 (fun x38 vs39 h37 => xs x38 (boolW (nth vs39 0) (fun t41 => K X.r [(Value.bool t41)] h37)) (fun i40 => cond (Nat.beq i40 2) (
boolW (nth vs39 0) (fun t42 => intK IntKind.i64 (nth vs39 4) (fun x43 => slAtW (nth vs39 2) x43 1 (fun ad44 => ∃ v45 : Value, rd h37 ad44 = some v45 ∧ one (Value.int IntKind.i64 (98 : Int)) = true ∧ 0 < 1 ∧ newSl h37 1 [(Value.int IntKind.i64 (98 : Int))] (fun s46 h47 => slenW s46 (fun n48 => srcW h47 1 s46 (n48) (fun w49 => apW h47 1 8 [(Value.int IntKind.i64 (0 : Int))] v45 (n48) w49 (fun s50 h51 => slCutW s50 none (some (0 : Int)) none 1 (fun s52 => slAtW (nth vs39 2) x43 1 (fun ad53 => one s52 = true ∧ 1 = 1 ∧ ∃ h54, wr1 h51 ad53 s52 = some h54 ∧ I [(Value.bool t42), (nth vs39 1), (nth vs39 2), (nth vs39 3), (Value.int IntKind.i64 (IntKind.wrap IntKind.i64 (x43 + (1 : Int))))] h54)))))))))) (False)) (fun c => (fun c h => K (X.p c) [] h) c h37))) (
K (X.e 0) [(Value.bool t23), a1, a3] h22))))
def loop3_12 (D : Orc) (vs : List Value) (h : H) (K : Kl) : Prop := ∀ I : List Value → H → Prop, (∀ a0 a1 a2 a3 a4 h, round3_12 D I K a0 a1 a2 a3 a4 h → I [a0, a1, a2, a3, a4] h) → I vs h
def j3__10 (D : Orc) (k : Kv) (kp : Kp) (a0 a1 a2 a3 a4 : Value) (h19 : H) : Prop :=
boolW a0 (fun t20 => boolW a4 (fun t21 => cond t21 (
k (Value.bool false) h19) (
loop3_12 D [(Value.bool t20), a1, a2, a3, (Value.int IntKind.i64 (0 : Int))] h19 (fun x56 vs57 h55 => xs x56 (boolW (nth vs57 0) (fun t59 => k (Value.bool t59) h55)) (fun i58 => cond (Nat.beq i58 0) (
boolW (nth vs57 0) (fun t60 => cond t60 (
D 11 [(nth vs57 1)] h55 (fun v61 h62 => ∃ v63 : Value, v61 = v63 ∧ D 13 [v63, (nth vs57 2)] h62 (fun v64 h65 => ∃ t66 : Bool, v64 = (Value.bool t66) ∧ k (Value.bool t66) h65) kp) kp) (
k (Value.bool false) h55))) (False)) (fun c => kp c h55)))))
def L3 (D : Orc) : Lor := fun b vs h K => match firstId b with | some i => cond (Nat.beq i 12) (loop3_12 D vs h K) (cond (Nat.beq i 15) (loop3_15 D vs h K) (False)) | none => False
/-- lodestone/lodestonelaw14.GraphParts -/
def F3 (D : Orc) (a0 : Value) (h : H) (k : Kv) (kp : Kp) : Prop :=
D 9 [] h (fun v0 h1 => ∃ t2 : Bool, v0 = (Value.bool t2) ∧ cond (!t2) (
k (Value.bool false) h1) (
lenW a0 (fun n3 => cond (decide ((n3 : Int) > (200 : Int))) (
k (Value.bool t2) h1) (
D 10 [a0] h1 (fun v4 h5 => ∃ v6 : Value, v4 = v6 ∧ D 11 [v6] h5 (fun v7 h8 => ∃ v9 : Value, v7 = v9 ∧ D 12 [a0] h8 (fun v10 h11 => ∃ v12 : Value, v10 = v12 ∧ D 13 [v9, v12] h11 (fun v13 h14 => ∃ t15 : Bool, v13 = (Value.bool t15) ∧ cond (!(!t15)) (
D 13 [v6, a0] h14 (fun v16 h17 => ∃ t18 : Bool, v16 = (Value.bool t18) ∧ j3__10 D k kp (Value.bool t2) v6 v9 v12 (Value.bool (!t18)) h17) kp) (
j3__10 D k kp (Value.bool t2) v6 v9 v12 (Value.bool true) h14)) kp) kp) kp) kp)))) kp
def Cl3 (D : Orc) : Prop := ∀ a0 h k kp, F3 D a0 h k kp → D 3 [a0] h k kp
theorem tieR3_12 (D : Orc) (I : List Value → H → Prop) (K : Kl) (a0 a1 a2 a3 a4 : Value) (h : H) : round3_12 D I K a0 a1 a2 a3 a4 h = round Try.prog D (L3 D) lv3 (nthC (allLoops (bodyOf Try.f3)) 0) I K [a0, a1, a2, a3, a4] h := by kernel_rfl
theorem tieR3_15 (D : Orc) (I : List Value → H → Prop) (K : Kl) (a0 a1 a2 a3 a4 a5 : Value) (h : H) : round3_15 D I K a0 a1 a2 a3 a4 a5 h = round Try.prog D (L3 D) lv3 (nthC (allLoops (bodyOf Try.f3)) 1) I K [a0, a1, a2, a3, a4, a5] h := by kernel_rfl
theorem tieF3 (D : Orc) (a0 : Value) (h : H) (k : Kv) (kp : Kp) : F3 D a0 h k kp = bodyW Try.prog D (L3 D) lv3 Try.f3 [a0] h k kp := by kernel_rfl
theorem lfp3 : Lfps Try.prog (CS Try.prog) (L3 (CS Try.prog)) lv3 (allLoops (bodyOf Try.f3)) := by
  have e : (allLoops (bodyOf Try.f3)) = [nthC (allLoops (bodyOf Try.f3)) 0, nthC (allLoops (bodyOf Try.f3)) 1] := by kernel_rfl
  rw [e]
  exact ⟨(fun vs h K hk I H => hk I (fun a0 a1 a2 a3 a4 h hr => H _ _ ((tieR3_12 (CS Try.prog) I K a0 a1 a2 a3 a4 h) ▸ hr))), (fun vs h K hk I H => hk I (fun a0 a1 a2 a3 a4 a5 h hr => H _ _ ((tieR3_15 (CS Try.prog) I K a0 a1 a2 a3 a4 a5 h) ▸ hr))), trivial⟩
theorem cl3 : Cl3 (CS Try.prog) := fun a0 h k kp hk =>
  fn_sound wide (fn := Try.f3) (by kernel_rfl) (by kernel_rfl) (by kernel_rfl) lfp3 (by rw [tieF3] at hk; exact hk)
def lv4 : Lv := Lv.mk 138 [.raw] (fun i => cond (Nat.beq i 10) ([(0, .raw), (3, .bool), (4, .raw), (5, .raw), (6, .int IntKind.i64), (7, .int IntKind.i64)]) (cond (Nat.beq i 14) ([(0, .raw), (3, .bool), (4, .raw), (5, .raw), (6, .int IntKind.i64), (8, .int IntKind.i64)]) (cond (Nat.beq i 17) ([(0, .raw), (3, .bool), (4, .raw), (5, .raw), (6, .int IntKind.i64), (8, .int IntKind.i64), (9, .int IntKind.i64)]) (cond (Nat.beq i 24) ([(0, .raw), (3, .bool), (5, .raw), (6, .int IntKind.i64)]) (cond (Nat.beq i 27) ([(0, .raw), (3, .bool), (5, .raw), (6, .int IntKind.i64), (11, .int IntKind.i64), (12, .int IntKind.i64)]) (cond (Nat.beq i 31) ([(0, .raw), (3, .bool), (5, .raw), (6, .int IntKind.i64), (11, .int IntKind.i64), (12, .int IntKind.i64), (13, .bool), (14, .int IntKind.i64)]) ([]))))))) (fun i => cond (Nat.beq i 10) ([(0, [(0, .raw), (3, .bool), (4, .raw), (5, .raw), (6, .int IntKind.i64)])]) (cond (Nat.beq i 14) ([(2, [(0, .raw), (3, .bool), (5, .raw), (6, .int IntKind.i64)])]) (cond (Nat.beq i 17) ([(4, [(0, .raw), (3, .bool), (4, .raw), (5, .raw), (6, .int IntKind.i64), (8, .int IntKind.i64)])]) (cond (Nat.beq i 24) ([(6, [(3, .bool)])]) (cond (Nat.beq i 27) ([(8, [(0, .raw), (3, .bool), (5, .raw), (6, .int IntKind.i64), (11, .int IntKind.i64)])]) (cond (Nat.beq i 31) ([(10, [(0, .raw), (3, .bool), (5, .raw), (6, .int IntKind.i64), (11, .int IntKind.i64), (12, .int IntKind.i64), (13, .bool)])]) ([]))))))) [(2, .bool)] (fun i => cond (Nat.beq i 21) (some [(0, .raw), (3, .bool), (4, .raw), (5, .raw), (6, .int IntKind.i64), (8, .int IntKind.i64), (9, .int IntKind.i64), (10, .int IntKind.i64), (75, .bool)]) (cond (Nat.beq i 28) (some [(0, .raw), (3, .bool), (5, .raw), (6, .int IntKind.i64), (11, .int IntKind.i64), (12, .int IntKind.i64)]) (cond (Nat.beq i 32) (some [(0, .raw), (3, .bool), (5, .raw), (6, .int IntKind.i64), (11, .int IntKind.i64), (12, .int IntKind.i64), (13, .bool), (14, .int IntKind.i64)]) (none))))
def round4_10 (D : Orc) (I : List Value → H → Prop) (K : Kl) (a0 a1 a2 a3 a4 a5 : Value) (h11 : H) : Prop :=
boolW a1 (fun t12 => intK IntKind.i64 a4 (fun x13 => intK IntKind.i64 a5 (fun x14 => lenW a0 (fun n15 => cond (decide (x14 < (n15 : Int))) (
slAtW a3 x14 1 (fun ad16 => one (Value.bool true) = true ∧ 1 = 1 ∧ ∃ h17, wr1 h11 ad16 (Value.bool true) = some h17 ∧ I [a0, (Value.bool t12), a2, a3, (Value.int IntKind.i64 x13), (Value.int IntKind.i64 (IntKind.wrap IntKind.i64 (x14 + (1 : Int))))] h17)) (
K (X.e 0) [a0, (Value.bool t12), a2, a3, (Value.int IntKind.i64 x13)] h11)))))
def loop4_10 (D : Orc) (vs : List Value) (h : H) (K : Kl) : Prop := ∀ I : List Value → H → Prop, (∀ a0 a1 a2 a3 a4 a5 h, round4_10 D I K a0 a1 a2 a3 a4 a5 h → I [a0, a1, a2, a3, a4, a5] h) → I vs h
def j4_17_21 (D : Orc) (I : List Value → H → Prop) (K : Kl) (a0 a1 a2 a3 a4 a5 a6 a7 a8 : Value) (h45 : H) : Prop :=
boolW a1 (fun t46 => intK IntKind.i64 a4 (fun x47 => intK IntKind.i64 a5 (fun x48 => intK IntKind.i64 a6 (fun x49 => intK IntKind.i64 a7 (fun x50 => boolW a8 (fun t51 => cond t51 (
K X.r [(Value.bool false)] h45) (
slAtW a3 x50 1 (fun ad52 => one (Value.bool false) = true ∧ 1 = 1 ∧ ∃ h53, wr1 h45 ad52 (Value.bool false) = some h53 ∧ I [a0, (Value.bool t46), a2, a3, (Value.int IntKind.i64 (IntKind.wrap IntKind.i64 (x47 - (1 : Int)))), (Value.int IntKind.i64 x48), (Value.int IntKind.i64 (IntKind.wrap IntKind.i64 (x49 + (1 : Int))))] h53))))))))
def round4_17 (D : Orc) (I : List Value → H → Prop) (K : Kl) (a0 a1 a2 a3 a4 a5 a6 : Value) (h30 : H) : Prop :=
boolW a1 (fun t31 => intK IntKind.i64 a4 (fun x32 => intK IntKind.i64 a5 (fun x33 => intK IntKind.i64 a6 (fun x34 => slAtW a2 x33 1 (fun ad35 => ∃ v36 : Value, rd h30 ad35 = some v36 ∧ lenW v36 (fun n37 => cond (decide (x34 < (n37 : Int))) (
slAtW a2 x33 1 (fun ad38 => ∃ v39 : Value, rd h30 ad38 = some v39 ∧ slAtW v39 x34 1 (fun ad40 => ∃ x41 : Int, rd h30 ad40 = some (Value.int IntKind.i64 x41) ∧ cond (!(decide (x41 < (0 : Int)))) (
lenW a0 (fun n42 => cond (!(decide (x41 ≥ (n42 : Int)))) (
slAtW a3 x41 1 (fun ad43 => ∃ t44 : Bool, rd h30 ad43 = some (Value.bool t44) ∧ j4_17_21 D I K a0 (Value.bool t31) a2 a3 (Value.int IntKind.i64 x32) (Value.int IntKind.i64 x33) (Value.int IntKind.i64 x34) (Value.int IntKind.i64 x41) (Value.bool (!t44)) h30)) (
j4_17_21 D I K a0 (Value.bool t31) a2 a3 (Value.int IntKind.i64 x32) (Value.int IntKind.i64 x33) (Value.int IntKind.i64 x34) (Value.int IntKind.i64 x41) (Value.bool true) h30))) (
j4_17_21 D I K a0 (Value.bool t31) a2 a3 (Value.int IntKind.i64 x32) (Value.int IntKind.i64 x33) (Value.int IntKind.i64 x34) (Value.int IntKind.i64 x41) (Value.bool true) h30)))) (
K (X.e 4) [a0, (Value.bool t31), a2, a3, (Value.int IntKind.i64 x32), (Value.int IntKind.i64 x33)] h30)))))))
def loop4_17 (D : Orc) (vs : List Value) (h : H) (K : Kl) : Prop := ∀ I : List Value → H → Prop, (∀ a0 a1 a2 a3 a4 a5 a6 h, round4_17 D I K a0 a1 a2 a3 a4 a5 a6 h → I [a0, a1, a2, a3, a4, a5, a6] h) → I vs h
def round4_14 (D : Orc) (I : List Value → H → Prop) (K : Kl) (a0 a1 a2 a3 a4 a5 : Value) (h25 : H) : Prop :=
boolW a1 (fun t26 => intK IntKind.i64 a4 (fun x27 => intK IntKind.i64 a5 (fun x28 => lenW a2 (fun n29 => cond (decide (x28 < (n29 : Int))) (
loop4_17 D [a0, (Value.bool t26), a2, a3, (Value.int IntKind.i64 x27), (Value.int IntKind.i64 x28), (Value.int IntKind.i64 (0 : Int))] h25 (fun x55 vs56 h54 => xs x55 (boolW (nth vs56 0) (fun t58 => K X.r [(Value.bool t58)] h54)) (fun i57 => cond (Nat.beq i57 4) (
boolW (nth vs56 1) (fun t59 => intK IntKind.i64 (nth vs56 4) (fun x60 => intK IntKind.i64 (nth vs56 5) (fun x61 => I [(nth vs56 0), (Value.bool t59), (nth vs56 2), (nth vs56 3), (Value.int IntKind.i64 x60), (Value.int IntKind.i64 (IntKind.wrap IntKind.i64 (x61 + (1 : Int))))] h54)))) (False)) (fun c => (fun c h => K (X.p c) [] h) c h54))) (
K (X.e 2) [a0, (Value.bool t26), a3, (Value.int IntKind.i64 x27)] h25)))))
def loop4_14 (D : Orc) (vs : List Value) (h : H) (K : Kl) : Prop := ∀ I : List Value → H → Prop, (∀ a0 a1 a2 a3 a4 a5 h, round4_14 D I K a0 a1 a2 a3 a4 a5 h → I [a0, a1, a2, a3, a4, a5] h) → I vs h
def j4_31_32 (D : Orc) (I : List Value → H → Prop) (K : Kl) (a0 a1 a2 a3 a4 a5 a6 a7 : Value) (h97 : H) : Prop :=
boolW a1 (fun t98 => intK IntKind.i64 a3 (fun x99 => intK IntKind.i64 a4 (fun x100 => intK IntKind.i64 a5 (fun x101 => boolW a6 (fun t102 => intK IntKind.i64 a7 (fun x103 => I [a0, (Value.bool t98), a2, (Value.int IntKind.i64 x99), (Value.int IntKind.i64 x100), (Value.int IntKind.i64 x101), (Value.bool t102), (Value.int IntKind.i64 (IntKind.wrap IntKind.i64 (x103 + (1 : Int))))] h97))))))
def round4_31 (D : Orc) (I : List Value → H → Prop) (K : Kl) (a0 a1 a2 a3 a4 a5 a6 a7 : Value) (h80 : H) : Prop :=
boolW a1 (fun t81 => intK IntKind.i64 a3 (fun x82 => intK IntKind.i64 a4 (fun x83 => intK IntKind.i64 a5 (fun x84 => boolW a6 (fun t85 => intK IntKind.i64 a7 (fun x86 => slAtW a0 x84 1 (fun ad87 => ∃ v88 : Value, rd h80 ad87 = some v88 ∧ lenW v88 (fun n89 => cond (decide (x86 < (n89 : Int))) (
cond t85 (
slAtW a0 x84 1 (fun ad90 => ∃ v91 : Value, rd h80 ad90 = some v91 ∧ slAtW v91 x86 1 (fun ad92 => ∃ x93 : Int, rd h80 ad92 = some (Value.int IntKind.i64 x93) ∧ cond (!(decide (x93 < (0 : Int)))) (
lenW a0 (fun n94 => cond (!(decide (x93 ≥ (n94 : Int)))) (
slAtW a2 x93 1 (fun ad95 => ∃ t96 : Bool, rd h80 ad95 = some (Value.bool t96) ∧ j4_31_32 D I K a0 (Value.bool t81) a2 (Value.int IntKind.i64 x82) (Value.int IntKind.i64 x83) (Value.int IntKind.i64 x84) (Value.bool (!t96)) (Value.int IntKind.i64 x86) h80)) (
j4_31_32 D I K a0 (Value.bool t81) a2 (Value.int IntKind.i64 x82) (Value.int IntKind.i64 x83) (Value.int IntKind.i64 x84) (Value.bool true) (Value.int IntKind.i64 x86) h80))) (
j4_31_32 D I K a0 (Value.bool t81) a2 (Value.int IntKind.i64 x82) (Value.int IntKind.i64 x83) (Value.int IntKind.i64 x84) (Value.bool true) (Value.int IntKind.i64 x86) h80)))) (
K (X.e 10) [a0, (Value.bool t81), a2, (Value.int IntKind.i64 x82), (Value.int IntKind.i64 x83), (Value.int IntKind.i64 x84), (Value.bool t85)] h80)) (
K (X.e 10) [a0, (Value.bool t81), a2, (Value.int IntKind.i64 x82), (Value.int IntKind.i64 x83), (Value.int IntKind.i64 x84), (Value.bool t85)] h80)))))))))
def loop4_31 (D : Orc) (vs : List Value) (h : H) (K : Kl) : Prop := ∀ I : List Value → H → Prop, (∀ a0 a1 a2 a3 a4 a5 a6 a7 h, round4_31 D I K a0 a1 a2 a3 a4 a5 a6 a7 h → I [a0, a1, a2, a3, a4, a5, a6, a7] h) → I vs h
def j4_27_28 (D : Orc) (I : List Value → H → Prop) (K : Kl) (a0 a1 a2 a3 a4 a5 : Value) (h116 : H) : Prop :=
boolW a1 (fun t117 => intK IntKind.i64 a3 (fun x118 => intK IntKind.i64 a4 (fun x119 => intK IntKind.i64 a5 (fun x120 => I [a0, (Value.bool t117), a2, (Value.int IntKind.i64 x118), (Value.int IntKind.i64 x119), (Value.int IntKind.i64 (IntKind.wrap IntKind.i64 (x120 + (1 : Int))))] h116))))
def round4_27 (D : Orc) (I : List Value → H → Prop) (K : Kl) (a0 a1 a2 a3 a4 a5 : Value) (h72 : H) : Prop :=
boolW a1 (fun t73 => intK IntKind.i64 a3 (fun x74 => intK IntKind.i64 a4 (fun x75 => intK IntKind.i64 a5 (fun x76 => lenW a0 (fun n77 => cond (decide (x76 < (n77 : Int))) (
slAtW a2 x76 1 (fun ad78 => ∃ t79 : Bool, rd h72 ad78 = some (Value.bool t79) ∧ loop4_31 D [a0, (Value.bool t73), a2, (Value.int IntKind.i64 x74), (Value.int IntKind.i64 x75), (Value.int IntKind.i64 x76), (Value.bool t79), (Value.int IntKind.i64 (0 : Int))] h72 (fun x105 vs106 h104 => xs x105 (boolW (nth vs106 0) (fun t108 => K X.r [(Value.bool t108)] h104)) (fun i107 => cond (Nat.beq i107 10) (
boolW (nth vs106 1) (fun t109 => intK IntKind.i64 (nth vs106 3) (fun x110 => intK IntKind.i64 (nth vs106 4) (fun x111 => intK IntKind.i64 (nth vs106 5) (fun x112 => boolW (nth vs106 6) (fun t113 => cond t113 (
slAtW (nth vs106 2) x112 1 (fun ad114 => one (Value.bool false) = true ∧ 1 = 1 ∧ ∃ h115, wr1 h104 ad114 (Value.bool false) = some h115 ∧ j4_27_28 D I K (nth vs106 0) (Value.bool t109) (nth vs106 2) (Value.int IntKind.i64 (IntKind.wrap IntKind.i64 (x110 - (1 : Int)))) (Value.int IntKind.i64 x111) (Value.int IntKind.i64 x112) h115)) (
j4_27_28 D I K (nth vs106 0) (Value.bool t109) (nth vs106 2) (Value.int IntKind.i64 x110) (Value.int IntKind.i64 x111) (Value.int IntKind.i64 x112) h104))))))) (False)) (fun c => (fun c h => K (X.p c) [] h) c h104)))) (
K (X.e 8) [a0, (Value.bool t73), a2, (Value.int IntKind.i64 x74), (Value.int IntKind.i64 x75)] h72))))))
def loop4_27 (D : Orc) (vs : List Value) (h : H) (K : Kl) : Prop := ∀ I : List Value → H → Prop, (∀ a0 a1 a2 a3 a4 a5 h, round4_27 D I K a0 a1 a2 a3 a4 a5 h → I [a0, a1, a2, a3, a4, a5] h) → I vs h
def round4_24 (D : Orc) (I : List Value → H → Prop) (K : Kl) (a0 a1 a2 a3 : Value) (h69 : H) : Prop :=
boolW a1 (fun t70 => intK IntKind.i64 a3 (fun x71 => cond (decide (x71 > (0 : Int))) (
loop4_27 D [a0, (Value.bool t70), a2, (Value.int IntKind.i64 x71), (Value.int IntKind.i64 x71), (Value.int IntKind.i64 (0 : Int))] h69 (fun x122 vs123 h121 => xs x122 (boolW (nth vs123 0) (fun t125 => K X.r [(Value.bool t125)] h121)) (fun i124 => cond (Nat.beq i124 8) (
boolW (nth vs123 1) (fun t126 => intK IntKind.i64 (nth vs123 3) (fun x127 => intK IntKind.i64 (nth vs123 4) (fun x128 => cond (x127 == x128) (
K X.r [(Value.bool false)] h121) (
I [(nth vs123 0), (Value.bool t126), (nth vs123 2), (Value.int IntKind.i64 x127)] h121))))) (False)) (fun c => (fun c h => K (X.p c) [] h) c h121))) (
K (X.e 6) [(Value.bool t70)] h69)))
def loop4_24 (D : Orc) (vs : List Value) (h : H) (K : Kl) : Prop := ∀ I : List Value → H → Prop, (∀ a0 a1 a2 a3 h, round4_24 D I K a0 a1 a2 a3 h → I [a0, a1, a2, a3] h) → I vs h
def L4 (D : Orc) : Lor := fun b vs h K => match firstId b with | some i => cond (Nat.beq i 10) (loop4_10 D vs h K) (cond (Nat.beq i 14) (loop4_14 D vs h K) (cond (Nat.beq i 17) (loop4_17 D vs h K) (cond (Nat.beq i 24) (loop4_24 D vs h K) (cond (Nat.beq i 27) (loop4_27 D vs h K) (cond (Nat.beq i 31) (loop4_31 D vs h K) (False)))))) | none => False
/-- lodestone/lodestonelaw14.GraphCircles -/
def F4 (D : Orc) (a0 : Value) (h : H) (k : Kv) (kp : Kp) : Prop :=
D 9 [] h (fun v0 h1 => ∃ t2 : Bool, v0 = (Value.bool t2) ∧ cond (!t2) (
k (Value.bool false) h1) (
lenW a0 (fun n3 => cond (decide ((n3 : Int) > (200 : Int))) (
k (Value.bool t2) h1) (
D 11 [a0] h1 (fun v4 h5 => ∃ v6 : Value, v4 = v6 ∧ lenW a0 (fun n7 => mkSliceW h5 1 [(Value.bool false)] (n7 : Int) (n7 : Int) (fun s8 h9 => lenW a0 (fun n10 => loop4_10 D [a0, (Value.bool t2), v6, s8, (Value.int IntKind.i64 (n10 : Int)), (Value.int IntKind.i64 (0 : Int))] h9 (fun x19 vs20 h18 => xs x19 (boolW (nth vs20 0) (fun t22 => k (Value.bool t22) h18)) (fun i21 => cond (Nat.beq i21 0) (
boolW (nth vs20 1) (fun t23 => intK IntKind.i64 (nth vs20 4) (fun x24 => loop4_14 D [(nth vs20 0), (Value.bool t23), (nth vs20 2), (nth vs20 3), (Value.int IntKind.i64 x24), (Value.int IntKind.i64 (0 : Int))] h18 (fun x63 vs64 h62 => xs x63 (boolW (nth vs64 0) (fun t66 => k (Value.bool t66) h62)) (fun i65 => cond (Nat.beq i65 2) (
boolW (nth vs64 1) (fun t67 => intK IntKind.i64 (nth vs64 3) (fun x68 => loop4_24 D [(nth vs64 0), (Value.bool t67), (nth vs64 2), (Value.int IntKind.i64 x68)] h62 (fun x130 vs131 h129 => xs x130 (boolW (nth vs131 0) (fun t133 => k (Value.bool t133) h129)) (fun i132 => cond (Nat.beq i132 6) (
boolW (nth vs131 0) (fun t134 => k (Value.bool t134) h129)) (False)) (fun c => kp c h129))))) (False)) (fun c => kp c h62))))) (False)) (fun c => kp c h18)))))) kp)))) kp
def Cl4 (D : Orc) : Prop := ∀ a0 h k kp, F4 D a0 h k kp → D 4 [a0] h k kp
theorem tieR4_10 (D : Orc) (I : List Value → H → Prop) (K : Kl) (a0 a1 a2 a3 a4 a5 : Value) (h : H) : round4_10 D I K a0 a1 a2 a3 a4 a5 h = round Try.prog D (L4 D) lv4 (nthC (allLoops (bodyOf Try.f4)) 0) I K [a0, a1, a2, a3, a4, a5] h := by kernel_rfl
theorem tieR4_14 (D : Orc) (I : List Value → H → Prop) (K : Kl) (a0 a1 a2 a3 a4 a5 : Value) (h : H) : round4_14 D I K a0 a1 a2 a3 a4 a5 h = round Try.prog D (L4 D) lv4 (nthC (allLoops (bodyOf Try.f4)) 1) I K [a0, a1, a2, a3, a4, a5] h := by kernel_rfl
theorem tieR4_17 (D : Orc) (I : List Value → H → Prop) (K : Kl) (a0 a1 a2 a3 a4 a5 a6 : Value) (h : H) : round4_17 D I K a0 a1 a2 a3 a4 a5 a6 h = round Try.prog D (L4 D) lv4 (nthC (allLoops (bodyOf Try.f4)) 2) I K [a0, a1, a2, a3, a4, a5, a6] h := by kernel_rfl
theorem tieR4_24 (D : Orc) (I : List Value → H → Prop) (K : Kl) (a0 a1 a2 a3 : Value) (h : H) : round4_24 D I K a0 a1 a2 a3 h = round Try.prog D (L4 D) lv4 (nthC (allLoops (bodyOf Try.f4)) 3) I K [a0, a1, a2, a3] h := by kernel_rfl
theorem tieR4_27 (D : Orc) (I : List Value → H → Prop) (K : Kl) (a0 a1 a2 a3 a4 a5 : Value) (h : H) : round4_27 D I K a0 a1 a2 a3 a4 a5 h = round Try.prog D (L4 D) lv4 (nthC (allLoops (bodyOf Try.f4)) 4) I K [a0, a1, a2, a3, a4, a5] h := by kernel_rfl
theorem tieR4_31 (D : Orc) (I : List Value → H → Prop) (K : Kl) (a0 a1 a2 a3 a4 a5 a6 a7 : Value) (h : H) : round4_31 D I K a0 a1 a2 a3 a4 a5 a6 a7 h = round Try.prog D (L4 D) lv4 (nthC (allLoops (bodyOf Try.f4)) 5) I K [a0, a1, a2, a3, a4, a5, a6, a7] h := by kernel_rfl
theorem tieF4 (D : Orc) (a0 : Value) (h : H) (k : Kv) (kp : Kp) : F4 D a0 h k kp = bodyW Try.prog D (L4 D) lv4 Try.f4 [a0] h k kp := by kernel_rfl
theorem lfp4 : Lfps Try.prog (CS Try.prog) (L4 (CS Try.prog)) lv4 (allLoops (bodyOf Try.f4)) := by
  have e : (allLoops (bodyOf Try.f4)) = [nthC (allLoops (bodyOf Try.f4)) 0, nthC (allLoops (bodyOf Try.f4)) 1, nthC (allLoops (bodyOf Try.f4)) 2, nthC (allLoops (bodyOf Try.f4)) 3, nthC (allLoops (bodyOf Try.f4)) 4, nthC (allLoops (bodyOf Try.f4)) 5] := by kernel_rfl
  rw [e]
  exact ⟨(fun vs h K hk I H => hk I (fun a0 a1 a2 a3 a4 a5 h hr => H _ _ ((tieR4_10 (CS Try.prog) I K a0 a1 a2 a3 a4 a5 h) ▸ hr))), (fun vs h K hk I H => hk I (fun a0 a1 a2 a3 a4 a5 h hr => H _ _ ((tieR4_14 (CS Try.prog) I K a0 a1 a2 a3 a4 a5 h) ▸ hr))), (fun vs h K hk I H => hk I (fun a0 a1 a2 a3 a4 a5 a6 h hr => H _ _ ((tieR4_17 (CS Try.prog) I K a0 a1 a2 a3 a4 a5 a6 h) ▸ hr))), (fun vs h K hk I H => hk I (fun a0 a1 a2 a3 h hr => H _ _ ((tieR4_24 (CS Try.prog) I K a0 a1 a2 a3 h) ▸ hr))), (fun vs h K hk I H => hk I (fun a0 a1 a2 a3 a4 a5 h hr => H _ _ ((tieR4_27 (CS Try.prog) I K a0 a1 a2 a3 a4 a5 h) ▸ hr))), (fun vs h K hk I H => hk I (fun a0 a1 a2 a3 a4 a5 a6 a7 h hr => H _ _ ((tieR4_31 (CS Try.prog) I K a0 a1 a2 a3 a4 a5 a6 a7 h) ▸ hr))), trivial⟩
theorem cl4 : Cl4 (CS Try.prog) := fun a0 h k kp hk =>
  fn_sound wide (fn := Try.f4) (by kernel_rfl) (by kernel_rfl) (by kernel_rfl) lfp4 (by rw [tieF4] at hk; exact hk)
def lv5 : Lv := Lv.mk 66 [.raw] (fun i => cond (Nat.beq i 8) ([(0, .raw), (3, .bool), (4, .raw), (5, .int IntKind.i64)]) (cond (Nat.beq i 11) ([(0, .raw), (3, .bool), (4, .raw), (5, .int IntKind.i64), (6, .int IntKind.i64)]) ([]))) (fun i => cond (Nat.beq i 8) ([(0, [(0, .raw), (3, .bool), (4, .raw)])]) (cond (Nat.beq i 11) ([(2, [(0, .raw), (3, .bool), (4, .raw), (5, .int IntKind.i64)])]) ([]))) [(2, .bool)] (fun i => cond (Nat.beq i 12) (some [(0, .raw), (3, .bool), (4, .raw), (5, .int IntKind.i64), (6, .int IntKind.i64)]) (cond (Nat.beq i 15) (some [(0, .raw), (3, .bool), (4, .raw), (5, .int IntKind.i64), (6, .int IntKind.i64), (7, .int IntKind.i64), (47, .bool)]) (none)))
def j5_11_12 (D : Orc) (I : List Value → H → Prop) (K : Kl) (a0 a1 a2 a3 a4 : Value) (h39 : H) : Prop :=
boolW a1 (fun t40 => intK IntKind.i64 a3 (fun x41 => intK IntKind.i64 a4 (fun x42 => I [a0, (Value.bool t40), a2, (Value.int IntKind.i64 x41), (Value.int IntKind.i64 (IntKind.wrap IntKind.i64 (x42 + (1 : Int))))] h39)))
def j5_11_15 (D : Orc) (I : List Value → H → Prop) (K : Kl) (a0 a1 a2 a3 a4 a5 a6 : Value) (h23 : H) : Prop :=
boolW a1 (fun t24 => intK IntKind.i64 a3 (fun x25 => intK IntKind.i64 a4 (fun x26 => intK IntKind.i64 a5 (fun x27 => boolW a6 (fun t28 => cond t28 (
slAtW a2 x27 1 (fun ad29 => ∃ v30 : Value, rd h23 ad29 = some v30 ∧ one (Value.int IntKind.i64 x25) = true ∧ 0 < 1 ∧ newSl h23 1 [(Value.int IntKind.i64 x25)] (fun s31 h32 => slenW s31 (fun n33 => srcW h32 1 s31 (n33) (fun w34 => apW h32 1 8 [(Value.int IntKind.i64 (0 : Int))] v30 (n33) w34 (fun s35 h36 => slAtW a2 x27 1 (fun ad37 => one s35 = true ∧ 1 = 1 ∧ ∃ h38, wr1 h36 ad37 s35 = some h38 ∧ j5_11_12 D I K a0 (Value.bool t24) a2 (Value.int IntKind.i64 x25) (Value.int IntKind.i64 x26) h38))))))) (
j5_11_12 D I K a0 (Value.bool t24) a2 (Value.int IntKind.i64 x25) (Value.int IntKind.i64 x26) h23))))))
def round5_11 (D : Orc) (I : List Value → H → Prop) (K : Kl) (a0 a1 a2 a3 a4 : Value) (h11 : H) : Prop :=
boolW a1 (fun t12 => intK IntKind.i64 a3 (fun x13 => intK IntKind.i64 a4 (fun x14 => slAtW a0 x13 1 (fun ad15 => ∃ v16 : Value, rd h11 ad15 = some v16 ∧ lenW v16 (fun n17 => cond (decide (x14 < (n17 : Int))) (
slAtW a0 x13 1 (fun ad18 => ∃ v19 : Value, rd h11 ad18 = some v19 ∧ slAtW v19 x14 1 (fun ad20 => ∃ x21 : Int, rd h11 ad20 = some (Value.int IntKind.i64 x21) ∧ cond (decide (x21 ≥ (0 : Int))) (
lenW a0 (fun n22 => j5_11_15 D I K a0 (Value.bool t12) a2 (Value.int IntKind.i64 x13) (Value.int IntKind.i64 x14) (Value.int IntKind.i64 x21) (Value.bool (decide (x21 < (n22 : Int)))) h11)) (
j5_11_15 D I K a0 (Value.bool t12) a2 (Value.int IntKind.i64 x13) (Value.int IntKind.i64 x14) (Value.int IntKind.i64 x21) (Value.bool false) h11)))) (
K (X.e 2) [a0, (Value.bool t12), a2, (Value.int IntKind.i64 x13)] h11))))))
def loop5_11 (D : Orc) (vs : List Value) (h : H) (K : Kl) : Prop := ∀ I : List Value → H → Prop, (∀ a0 a1 a2 a3 a4 h, round5_11 D I K a0 a1 a2 a3 a4 h → I [a0, a1, a2, a3, a4] h) → I vs h
def round5_8 (D : Orc) (I : List Value → H → Prop) (K : Kl) (a0 a1 a2 a3 : Value) (h7 : H) : Prop :=
boolW a1 (fun t8 => intK IntKind.i64 a3 (fun x9 => lenW a0 (fun n10 => cond (decide (x9 < (n10 : Int))) (
loop5_11 D [a0, (Value.bool t8), a2, (Value.int IntKind.i64 x9), (Value.int IntKind.i64 (0 : Int))] h7 (fun x44 vs45 h43 => xs x44 (boolW (nth vs45 0) (fun t47 => K X.r [(Value.bool t47)] h43)) (fun i46 => cond (Nat.beq i46 2) (
boolW (nth vs45 1) (fun t48 => intK IntKind.i64 (nth vs45 3) (fun x49 => I [(nth vs45 0), (Value.bool t48), (nth vs45 2), (Value.int IntKind.i64 (IntKind.wrap IntKind.i64 (x49 + (1 : Int))))] h43))) (False)) (fun c => (fun c h => K (X.p c) [] h) c h43))) (
K (X.e 0) [a0, (Value.bool t8), a2] h7))))
def loop5_8 (D : Orc) (vs : List Value) (h : H) (K : Kl) : Prop := ∀ I : List Value → H → Prop, (∀ a0 a1 a2 a3 h, round5_8 D I K a0 a1 a2 a3 h → I [a0, a1, a2, a3] h) → I vs h
def L5 (D : Orc) : Lor := fun b vs h K => match firstId b with | some i => cond (Nat.beq i 8) (loop5_8 D vs h K) (cond (Nat.beq i 11) (loop5_11 D vs h K) (False)) | none => False
/-- lodestone/lodestonelaw14.GraphTurned -/
def F5 (D : Orc) (a0 : Value) (h : H) (k : Kv) (kp : Kp) : Prop :=
D 9 [] h (fun v0 h1 => ∃ t2 : Bool, v0 = (Value.bool t2) ∧ cond (!t2) (
k (Value.bool false) h1) (
lenW a0 (fun n3 => cond (decide ((n3 : Int) > (200 : Int))) (
k (Value.bool t2) h1) (
lenW a0 (fun n4 => mkSliceW h1 24 [(Value.slice none 0 0)] (n4 : Int) (n4 : Int) (fun s5 h6 => loop5_8 D [a0, (Value.bool t2), s5, (Value.int IntKind.i64 (0 : Int))] h6 (fun x51 vs52 h50 => xs x51 (boolW (nth vs52 0) (fun t54 => k (Value.bool t54) h50)) (fun i53 => cond (Nat.beq i53 0) (
boolW (nth vs52 1) (fun t55 => cond t55 (
D 11 [(nth vs52 2)] h50 (fun v56 h57 => ∃ v58 : Value, v56 = v58 ∧ D 11 [(nth vs52 0)] h57 (fun v59 h60 => ∃ v61 : Value, v59 = v61 ∧ D 13 [v58, v61] h60 (fun v62 h63 => ∃ t64 : Bool, v62 = (Value.bool t64) ∧ k (Value.bool t64) h63) kp) kp) kp) (
k (Value.bool false) h50))) (False)) (fun c => kp c h50)))))))) kp
def Cl5 (D : Orc) : Prop := ∀ a0 h k kp, F5 D a0 h k kp → D 5 [a0] h k kp
theorem tieR5_8 (D : Orc) (I : List Value → H → Prop) (K : Kl) (a0 a1 a2 a3 : Value) (h : H) : round5_8 D I K a0 a1 a2 a3 h = round Try.prog D (L5 D) lv5 (nthC (allLoops (bodyOf Try.f5)) 0) I K [a0, a1, a2, a3] h := by kernel_rfl
theorem tieR5_11 (D : Orc) (I : List Value → H → Prop) (K : Kl) (a0 a1 a2 a3 a4 : Value) (h : H) : round5_11 D I K a0 a1 a2 a3 a4 h = round Try.prog D (L5 D) lv5 (nthC (allLoops (bodyOf Try.f5)) 1) I K [a0, a1, a2, a3, a4] h := by kernel_rfl
theorem tieF5 (D : Orc) (a0 : Value) (h : H) (k : Kv) (kp : Kp) : F5 D a0 h k kp = bodyW Try.prog D (L5 D) lv5 Try.f5 [a0] h k kp := by kernel_rfl
theorem lfp5 : Lfps Try.prog (CS Try.prog) (L5 (CS Try.prog)) lv5 (allLoops (bodyOf Try.f5)) := by
  have e : (allLoops (bodyOf Try.f5)) = [nthC (allLoops (bodyOf Try.f5)) 0, nthC (allLoops (bodyOf Try.f5)) 1] := by kernel_rfl
  rw [e]
  exact ⟨(fun vs h K hk I H => hk I (fun a0 a1 a2 a3 h hr => H _ _ ((tieR5_8 (CS Try.prog) I K a0 a1 a2 a3 h) ▸ hr))), (fun vs h K hk I H => hk I (fun a0 a1 a2 a3 a4 h hr => H _ _ ((tieR5_11 (CS Try.prog) I K a0 a1 a2 a3 a4 h) ▸ hr))), trivial⟩
theorem cl5 : Cl5 (CS Try.prog) := fun a0 h k kp hk =>
  fn_sound wide (fn := Try.f5) (by kernel_rfl) (by kernel_rfl) (by kernel_rfl) lfp5 (by rw [tieF5] at hk; exact hk)
def lv6 : Lv := Lv.mk 156 [.raw, .int IntKind.i64] (fun i => cond (Nat.beq i 12) ([(0, .raw), (1, .int IntKind.i64), (5, .bool), (6, .int IntKind.i64), (7, .raw), (8, .int IntKind.i64)]) (cond (Nat.beq i 15) ([(0, .raw), (1, .int IntKind.i64), (5, .bool), (6, .int IntKind.i64), (7, .raw), (8, .int IntKind.i64), (9, .int IntKind.i64)]) (cond (Nat.beq i 25) ([(1, .int IntKind.i64), (5, .bool), (6, .int IntKind.i64), (11, .raw), (12, .raw), (13, .int IntKind.i64)]) (cond (Nat.beq i 28) ([(1, .int IntKind.i64), (5, .bool), (6, .int IntKind.i64), (11, .raw), (12, .raw), (13, .int IntKind.i64), (14, .int IntKind.i64)]) ([]))))) (fun i => cond (Nat.beq i 12) ([(0, [(0, .raw), (1, .int IntKind.i64), (5, .bool), (6, .int IntKind.i64), (7, .raw)])]) (cond (Nat.beq i 15) ([(2, [(0, .raw), (1, .int IntKind.i64), (5, .bool), (6, .int IntKind.i64), (7, .raw), (8, .int IntKind.i64)])]) (cond (Nat.beq i 25) ([(4, [(5, .bool)])]) (cond (Nat.beq i 28) ([(6, [(1, .int IntKind.i64), (5, .bool), (6, .int IntKind.i64), (11, .raw), (12, .raw), (13, .int IntKind.i64)])]) ([]))))) [(4, .bool)] (fun i => cond (Nat.beq i 6) (some [(0, .raw), (1, .int IntKind.i64), (5, .bool), (6, .int IntKind.i64), (27, .bool)]) (cond (Nat.beq i 9) (some [(0, .raw), (1, .int IntKind.i64), (5, .bool), (6, .int IntKind.i64)]) (cond (Nat.beq i 16) (some [(0, .raw), (1, .int IntKind.i64), (5, .bool), (6, .int IntKind.i64), (7, .raw), (8, .int IntKind.i64), (9, .int IntKind.i64)]) (cond (Nat.beq i 19) (some [(0, .raw), (1, .int IntKind.i64), (5, .bool), (6, .int IntKind.i64), (7, .raw), (8, .int IntKind.i64), (9, .int IntKind.i64), (10, .int IntKind.i64), (66, .bool)]) (cond (Nat.beq i 31) (some [(1, .int IntKind.i64), (5, .bool), (6, .int IntKind.i64), (11, .raw), (12, .raw), (13, .int IntKind.i64), (14, .int IntKind.i64), (15, .bool)]) (cond (Nat.beq i 32) (some [(1, .int IntKind.i64), (5, .bool), (6, .int IntKind.i64), (11, .raw), (12, .raw), (13, .int IntKind.i64), (14, .int IntKind.i64), (15, .bool), (16, .bool)]) (none)))))))
def j6_15_16 (D : Orc) (I : List Value → H → Prop) (K : Kl) (a0 a1 a2 a3 a4 a5 a6 : Value) (h52 : H) : Prop :=
intK IntKind.i64 a1 (fun x53 => boolW a2 (fun t54 => intK IntKind.i64 a3 (fun x55 => intK IntKind.i64 a5 (fun x56 => intK IntKind.i64 a6 (fun x57 => I [a0, (Value.int IntKind.i64 x53), (Value.bool t54), (Value.int IntKind.i64 x55), a4, (Value.int IntKind.i64 x56), (Value.int IntKind.i64 (IntKind.wrap IntKind.i64 (x57 + (1 : Int))))] h52)))))
def j6_15_19 (D : Orc) (I : List Value → H → Prop) (K : Kl) (a0 a1 a2 a3 a4 a5 a6 a7 a8 : Value) (h34 : H) : Prop :=
intK IntKind.i64 a1 (fun x35 => boolW a2 (fun t36 => intK IntKind.i64 a3 (fun x37 => intK IntKind.i64 a5 (fun x38 => intK IntKind.i64 a6 (fun x39 => intK IntKind.i64 a7 (fun x40 => boolW a8 (fun t41 => cond t41 (
x37 ≠ 0 ∧ x37 ≠ 0 ∧ slAtW a4 (Int.tmod (IntKind.wrap IntKind.i64 (x38 + x35)) x37) 1 (fun ad42 => ∃ v43 : Value, rd h34 ad42 = some v43 ∧ x37 ≠ 0 ∧ one (Value.int IntKind.i64 (Int.tmod (IntKind.wrap IntKind.i64 (x40 + x35)) x37)) = true ∧ 0 < 1 ∧ newSl h34 1 [(Value.int IntKind.i64 (Int.tmod (IntKind.wrap IntKind.i64 (x40 + x35)) x37))] (fun s44 h45 => slenW s44 (fun n46 => srcW h45 1 s44 (n46) (fun w47 => apW h45 1 8 [(Value.int IntKind.i64 (0 : Int))] v43 (n46) w47 (fun s48 h49 => slAtW a4 (Int.tmod (IntKind.wrap IntKind.i64 (x38 + x35)) x37) 1 (fun ad50 => one s48 = true ∧ 1 = 1 ∧ ∃ h51, wr1 h49 ad50 s48 = some h51 ∧ j6_15_16 D I K a0 (Value.int IntKind.i64 x35) (Value.bool t36) (Value.int IntKind.i64 x37) a4 (Value.int IntKind.i64 x38) (Value.int IntKind.i64 x39) h51))))))) (
j6_15_16 D I K a0 (Value.int IntKind.i64 x35) (Value.bool t36) (Value.int IntKind.i64 x37) a4 (Value.int IntKind.i64 x38) (Value.int IntKind.i64 x39) h34))))))))
def round6_15 (D : Orc) (I : List Value → H → Prop) (K : Kl) (a0 a1 a2 a3 a4 a5 a6 : Value) (h21 : H) : Prop :=
intK IntKind.i64 a1 (fun x22 => boolW a2 (fun t23 => intK IntKind.i64 a3 (fun x24 => intK IntKind.i64 a5 (fun x25 => intK IntKind.i64 a6 (fun x26 => slAtW a0 x25 1 (fun ad27 => ∃ v28 : Value, rd h21 ad27 = some v28 ∧ lenW v28 (fun n29 => cond (decide (x26 < (n29 : Int))) (
slAtW a0 x25 1 (fun ad30 => ∃ v31 : Value, rd h21 ad30 = some v31 ∧ slAtW v31 x26 1 (fun ad32 => ∃ x33 : Int, rd h21 ad32 = some (Value.int IntKind.i64 x33) ∧ cond (decide (x33 ≥ (0 : Int))) (
j6_15_19 D I K a0 (Value.int IntKind.i64 x22) (Value.bool t23) (Value.int IntKind.i64 x24) a4 (Value.int IntKind.i64 x25) (Value.int IntKind.i64 x26) (Value.int IntKind.i64 x33) (Value.bool (decide (x33 < x24))) h21) (
j6_15_19 D I K a0 (Value.int IntKind.i64 x22) (Value.bool t23) (Value.int IntKind.i64 x24) a4 (Value.int IntKind.i64 x25) (Value.int IntKind.i64 x26) (Value.int IntKind.i64 x33) (Value.bool false) h21)))) (
K (X.e 2) [a0, (Value.int IntKind.i64 x22), (Value.bool t23), (Value.int IntKind.i64 x24), a4, (Value.int IntKind.i64 x25)] h21))))))))
def loop6_15 (D : Orc) (vs : List Value) (h : H) (K : Kl) : Prop := ∀ I : List Value → H → Prop, (∀ a0 a1 a2 a3 a4 a5 a6 h, round6_15 D I K a0 a1 a2 a3 a4 a5 a6 h → I [a0, a1, a2, a3, a4, a5, a6] h) → I vs h
def round6_12 (D : Orc) (I : List Value → H → Prop) (K : Kl) (a0 a1 a2 a3 a4 a5 : Value) (h16 : H) : Prop :=
intK IntKind.i64 a1 (fun x17 => boolW a2 (fun t18 => intK IntKind.i64 a3 (fun x19 => intK IntKind.i64 a5 (fun x20 => cond (decide (x20 < x19)) (
loop6_15 D [a0, (Value.int IntKind.i64 x17), (Value.bool t18), (Value.int IntKind.i64 x19), a4, (Value.int IntKind.i64 x20), (Value.int IntKind.i64 (0 : Int))] h16 (fun x59 vs60 h58 => xs x59 (boolW (nth vs60 0) (fun t62 => K X.r [(Value.bool t62)] h58)) (fun i61 => cond (Nat.beq i61 2) (
intK IntKind.i64 (nth vs60 1) (fun x63 => boolW (nth vs60 2) (fun t64 => intK IntKind.i64 (nth vs60 3) (fun x65 => intK IntKind.i64 (nth vs60 5) (fun x66 => I [(nth vs60 0), (Value.int IntKind.i64 x63), (Value.bool t64), (Value.int IntKind.i64 x65), (nth vs60 4), (Value.int IntKind.i64 (IntKind.wrap IntKind.i64 (x66 + (1 : Int))))] h58))))) (False)) (fun c => (fun c h => K (X.p c) [] h) c h58))) (
K (X.e 0) [a0, (Value.int IntKind.i64 x17), (Value.bool t18), (Value.int IntKind.i64 x19), a4] h16)))))
def loop6_12 (D : Orc) (vs : List Value) (h : H) (K : Kl) : Prop := ∀ I : List Value → H → Prop, (∀ a0 a1 a2 a3 a4 a5 h, round6_12 D I K a0 a1 a2 a3 a4 a5 h → I [a0, a1, a2, a3, a4, a5] h) → I vs h
def j6_28_32 (D : Orc) (I : List Value → H → Prop) (K : Kl) (a0 a1 a2 a3 a4 a5 a6 a7 a8 : Value) (h119 : H) : Prop :=
intK IntKind.i64 a0 (fun x120 => boolW a1 (fun t121 => intK IntKind.i64 a2 (fun x122 => intK IntKind.i64 a5 (fun x123 => intK IntKind.i64 a6 (fun x124 => boolW a7 (fun t125 => boolW a8 (fun t126 => cond (!(t125 == t126)) (
K X.r [(Value.bool false)] h119) (
I [(Value.int IntKind.i64 x120), (Value.bool t121), (Value.int IntKind.i64 x122), a3, a4, (Value.int IntKind.i64 x123), (Value.int IntKind.i64 (IntKind.wrap IntKind.i64 (x124 + (1 : Int))))] h119))))))))
def j6_28_31 (D : Orc) (I : List Value → H → Prop) (K : Kl) (a0 a1 a2 a3 a4 a5 a6 a7 : Value) (h103 : H) : Prop :=
intK IntKind.i64 a0 (fun x104 => boolW a1 (fun t105 => intK IntKind.i64 a2 (fun x106 => intK IntKind.i64 a5 (fun x107 => intK IntKind.i64 a6 (fun x108 => boolW a7 (fun t109 => x106 ≠ 0 ∧ D 14 [a4, (Value.int IntKind.i64 (Int.tmod (IntKind.wrap IntKind.i64 (x107 + x104)) x106))] h103 (fun v110 h111 => ∃ x112 : Int, v110 = (Value.int IntKind.i64 x112) ∧ cond (decide (x112 ≥ (0 : Int))) (
x106 ≠ 0 ∧ x106 ≠ 0 ∧ D 14 [a4, (Value.int IntKind.i64 (Int.tmod (IntKind.wrap IntKind.i64 (x107 + x104)) x106))] h111 (fun v113 h114 => ∃ x115 : Int, v113 = (Value.int IntKind.i64 x115) ∧ D 14 [a4, (Value.int IntKind.i64 (Int.tmod (IntKind.wrap IntKind.i64 (x108 + x104)) x106))] h114 (fun v116 h117 => ∃ x118 : Int, v116 = (Value.int IntKind.i64 x118) ∧ j6_28_32 D I K (Value.int IntKind.i64 x104) (Value.bool t105) (Value.int IntKind.i64 x106) a3 a4 (Value.int IntKind.i64 x107) (Value.int IntKind.i64 x108) (Value.bool t109) (Value.bool (x115 == x118)) h117) (fun c h => K (X.p c) [] h)) (fun c h => K (X.p c) [] h)) (
j6_28_32 D I K (Value.int IntKind.i64 x104) (Value.bool t105) (Value.int IntKind.i64 x106) a3 a4 (Value.int IntKind.i64 x107) (Value.int IntKind.i64 x108) (Value.bool t109) (Value.bool false) h111)) (fun c h => K (X.p c) [] h)))))))
def round6_28 (D : Orc) (I : List Value → H → Prop) (K : Kl) (a0 a1 a2 a3 a4 a5 a6 : Value) (h88 : H) : Prop :=
intK IntKind.i64 a0 (fun x89 => boolW a1 (fun t90 => intK IntKind.i64 a2 (fun x91 => intK IntKind.i64 a5 (fun x92 => intK IntKind.i64 a6 (fun x93 => cond (decide (x93 < x91)) (
D 14 [a3, (Value.int IntKind.i64 x92)] h88 (fun v94 h95 => ∃ x96 : Int, v94 = (Value.int IntKind.i64 x96) ∧ cond (decide (x96 ≥ (0 : Int))) (
D 14 [a3, (Value.int IntKind.i64 x92)] h95 (fun v97 h98 => ∃ x99 : Int, v97 = (Value.int IntKind.i64 x99) ∧ D 14 [a3, (Value.int IntKind.i64 x93)] h98 (fun v100 h101 => ∃ x102 : Int, v100 = (Value.int IntKind.i64 x102) ∧ j6_28_31 D I K (Value.int IntKind.i64 x89) (Value.bool t90) (Value.int IntKind.i64 x91) a3 a4 (Value.int IntKind.i64 x92) (Value.int IntKind.i64 x93) (Value.bool (x99 == x102)) h101) (fun c h => K (X.p c) [] h)) (fun c h => K (X.p c) [] h)) (
j6_28_31 D I K (Value.int IntKind.i64 x89) (Value.bool t90) (Value.int IntKind.i64 x91) a3 a4 (Value.int IntKind.i64 x92) (Value.int IntKind.i64 x93) (Value.bool false) h95)) (fun c h => K (X.p c) [] h)) (
K (X.e 6) [(Value.int IntKind.i64 x89), (Value.bool t90), (Value.int IntKind.i64 x91), a3, a4, (Value.int IntKind.i64 x92)] h88))))))
def loop6_28 (D : Orc) (vs : List Value) (h : H) (K : Kl) : Prop := ∀ I : List Value → H → Prop, (∀ a0 a1 a2 a3 a4 a5 a6 h, round6_28 D I K a0 a1 a2 a3 a4 a5 a6 h → I [a0, a1, a2, a3, a4, a5, a6] h) → I vs h
def round6_25 (D : Orc) (I : List Value → H → Prop) (K : Kl) (a0 a1 a2 a3 a4 a5 : Value) (h83 : H) : Prop :=
intK IntKind.i64 a0 (fun x84 => boolW a1 (fun t85 => intK IntKind.i64 a2 (fun x86 => intK IntKind.i64 a5 (fun x87 => cond (decide (x87 < x86)) (
loop6_28 D [(Value.int IntKind.i64 x84), (Value.bool t85), (Value.int IntKind.i64 x86), a3, a4, (Value.int IntKind.i64 x87), (Value.int IntKind.i64 (0 : Int))] h83 (fun x128 vs129 h127 => xs x128 (boolW (nth vs129 0) (fun t131 => K X.r [(Value.bool t131)] h127)) (fun i130 => cond (Nat.beq i130 6) (
intK IntKind.i64 (nth vs129 0) (fun x132 => boolW (nth vs129 1) (fun t133 => intK IntKind.i64 (nth vs129 2) (fun x134 => intK IntKind.i64 (nth vs129 5) (fun x135 => cond (decide (x134 > (40 : Int))) (
cond (decide (x135 > (3 : Int))) (
K (X.e 4) [(Value.bool t133)] h127) (
I [(Value.int IntKind.i64 x132), (Value.bool t133), (Value.int IntKind.i64 x134), (nth vs129 3), (nth vs129 4), (Value.int IntKind.i64 (IntKind.wrap IntKind.i64 (x135 + (1 : Int))))] h127)) (
I [(Value.int IntKind.i64 x132), (Value.bool t133), (Value.int IntKind.i64 x134), (nth vs129 3), (nth vs129 4), (Value.int IntKind.i64 (IntKind.wrap IntKind.i64 (x135 + (1 : Int))))] h127)))))) (False)) (fun c => (fun c h => K (X.p c) [] h) c h127))) (
K (X.e 4) [(Value.bool t85)] h83)))))
def loop6_25 (D : Orc) (vs : List Value) (h : H) (K : Kl) : Prop := ∀ I : List Value → H → Prop, (∀ a0 a1 a2 a3 a4 a5 h, round6_25 D I K a0 a1 a2 a3 a4 a5 h → I [a0, a1, a2, a3, a4, a5] h) → I vs h
def j6__9 (D : Orc) (k : Kv) (kp : Kp) (a0 a1 a2 a3 : Value) (h10 : H) : Prop :=
intK IntKind.i64 a1 (fun x11 => boolW a2 (fun t12 => intK IntKind.i64 a3 (fun x13 => x13 ≠ 0 ∧ mkSliceW h10 24 [(Value.slice none 0 0)] x13 x13 (fun s14 h15 => loop6_12 D [a0, (Value.int IntKind.i64 (Int.tmod x11 x13)), (Value.bool t12), (Value.int IntKind.i64 x13), s14, (Value.int IntKind.i64 (0 : Int))] h15 (fun x68 vs69 h67 => xs x68 (boolW (nth vs69 0) (fun t71 => k (Value.bool t71) h67)) (fun i70 => cond (Nat.beq i70 0) (
intK IntKind.i64 (nth vs69 1) (fun x72 => boolW (nth vs69 2) (fun t73 => intK IntKind.i64 (nth vs69 3) (fun x74 => D 11 [(nth vs69 0)] h67 (fun v75 h76 => ∃ v77 : Value, v75 = v77 ∧ D 11 [(nth vs69 4)] h76 (fun v78 h79 => ∃ v80 : Value, v78 = v80 ∧ lenW v77 (fun n81 => lenW v80 (fun n82 => cond ((n81 : Int) != (n82 : Int)) (
k (Value.bool false) h79) (
loop6_25 D [(Value.int IntKind.i64 x72), (Value.bool t73), (Value.int IntKind.i64 x74), v77, v80, (Value.int IntKind.i64 (0 : Int))] h79 (fun x137 vs138 h136 => xs x137 (boolW (nth vs138 0) (fun t140 => k (Value.bool t140) h136)) (fun i139 => cond (Nat.beq i139 4) (
boolW (nth vs138 0) (fun t141 => k (Value.bool t141) h136)) (False)) (fun c => kp c h136)))))) kp) kp)))) (False)) (fun c => kp c h67))))))
def j6__6 (D : Orc) (k : Kv) (kp : Kp) (a0 a1 a2 a3 a4 : Value) (h5 : H) : Prop :=
intK IntKind.i64 a1 (fun x6 => boolW a2 (fun t7 => intK IntKind.i64 a3 (fun x8 => boolW a4 (fun t9 => cond t9 (
k (Value.bool t7) h5) (
cond (decide (x6 < (0 : Int))) (
j6__9 D k kp a0 (Value.int IntKind.i64 (IntKind.wrap IntKind.i64 (0 - (IntKind.wrap IntKind.i64 (x6 + (1 : Int)))))) (Value.bool t7) (Value.int IntKind.i64 x8) h5) (
j6__9 D k kp a0 (Value.int IntKind.i64 x6) (Value.bool t7) (Value.int IntKind.i64 x8) h5))))))
def L6 (D : Orc) : Lor := fun b vs h K => match firstId b with | some i => cond (Nat.beq i 12) (loop6_12 D vs h K) (cond (Nat.beq i 15) (loop6_15 D vs h K) (cond (Nat.beq i 25) (loop6_25 D vs h K) (cond (Nat.beq i 28) (loop6_28 D vs h K) (False)))) | none => False
/-- lodestone/lodestonelaw14.GraphRenamed -/
def F6 (D : Orc) (a0 a1 : Value) (h : H) (k : Kv) (kp : Kp) : Prop :=
intK IntKind.i64 a1 (fun x0 => D 9 [] h (fun v1 h2 => ∃ t3 : Bool, v1 = (Value.bool t3) ∧ cond (!t3) (
k (Value.bool false) h2) (
lenW a0 (fun n4 => cond (!(decide ((n4 : Int) > (200 : Int)))) (
j6__6 D k kp a0 (Value.int IntKind.i64 x0) (Value.bool t3) (Value.int IntKind.i64 (n4 : Int)) (Value.bool ((n4 : Int) == (0 : Int))) h2) (
j6__6 D k kp a0 (Value.int IntKind.i64 x0) (Value.bool t3) (Value.int IntKind.i64 (n4 : Int)) (Value.bool true) h2)))) kp)
def Cl6 (D : Orc) : Prop := ∀ a0 a1 h k kp, F6 D a0 a1 h k kp → D 6 [a0, a1] h k kp
theorem tieR6_12 (D : Orc) (I : List Value → H → Prop) (K : Kl) (a0 a1 a2 a3 a4 a5 : Value) (h : H) : round6_12 D I K a0 a1 a2 a3 a4 a5 h = round Try.prog D (L6 D) lv6 (nthC (allLoops (bodyOf Try.f6)) 0) I K [a0, a1, a2, a3, a4, a5] h := by kernel_rfl
theorem tieR6_15 (D : Orc) (I : List Value → H → Prop) (K : Kl) (a0 a1 a2 a3 a4 a5 a6 : Value) (h : H) : round6_15 D I K a0 a1 a2 a3 a4 a5 a6 h = round Try.prog D (L6 D) lv6 (nthC (allLoops (bodyOf Try.f6)) 1) I K [a0, a1, a2, a3, a4, a5, a6] h := by kernel_rfl
theorem tieR6_25 (D : Orc) (I : List Value → H → Prop) (K : Kl) (a0 a1 a2 a3 a4 a5 : Value) (h : H) : round6_25 D I K a0 a1 a2 a3 a4 a5 h = round Try.prog D (L6 D) lv6 (nthC (allLoops (bodyOf Try.f6)) 2) I K [a0, a1, a2, a3, a4, a5] h := by kernel_rfl
theorem tieR6_28 (D : Orc) (I : List Value → H → Prop) (K : Kl) (a0 a1 a2 a3 a4 a5 a6 : Value) (h : H) : round6_28 D I K a0 a1 a2 a3 a4 a5 a6 h = round Try.prog D (L6 D) lv6 (nthC (allLoops (bodyOf Try.f6)) 3) I K [a0, a1, a2, a3, a4, a5, a6] h := by kernel_rfl
theorem tieF6 (D : Orc) (a0 a1 : Value) (h : H) (k : Kv) (kp : Kp) : F6 D a0 a1 h k kp = bodyW Try.prog D (L6 D) lv6 Try.f6 [a0, a1] h k kp := by kernel_rfl
theorem lfp6 : Lfps Try.prog (CS Try.prog) (L6 (CS Try.prog)) lv6 (allLoops (bodyOf Try.f6)) := by
  have e : (allLoops (bodyOf Try.f6)) = [nthC (allLoops (bodyOf Try.f6)) 0, nthC (allLoops (bodyOf Try.f6)) 1, nthC (allLoops (bodyOf Try.f6)) 2, nthC (allLoops (bodyOf Try.f6)) 3] := by kernel_rfl
  rw [e]
  exact ⟨(fun vs h K hk I H => hk I (fun a0 a1 a2 a3 a4 a5 h hr => H _ _ ((tieR6_12 (CS Try.prog) I K a0 a1 a2 a3 a4 a5 h) ▸ hr))), (fun vs h K hk I H => hk I (fun a0 a1 a2 a3 a4 a5 a6 h hr => H _ _ ((tieR6_15 (CS Try.prog) I K a0 a1 a2 a3 a4 a5 a6 h) ▸ hr))), (fun vs h K hk I H => hk I (fun a0 a1 a2 a3 a4 a5 h hr => H _ _ ((tieR6_25 (CS Try.prog) I K a0 a1 a2 a3 a4 a5 h) ▸ hr))), (fun vs h K hk I H => hk I (fun a0 a1 a2 a3 a4 a5 a6 h hr => H _ _ ((tieR6_28 (CS Try.prog) I K a0 a1 a2 a3 a4 a5 a6 h) ▸ hr))), trivial⟩
theorem cl6 : Cl6 (CS Try.prog) := fun a0 a1 h k kp hk =>
  fn_sound wide (fn := Try.f6) (by kernel_rfl) (by kernel_rfl) (by kernel_rfl) lfp6 (by rw [tieF6] at hk; exact hk)
def lv7 : Lv := Lv.mk 77 [.raw] (fun i => cond (Nat.beq i 9) ([(0, .raw), (3, .bool), (4, .raw), (5, .raw), (6, .int IntKind.i64)]) (cond (Nat.beq i 13) ([(0, .raw), (3, .bool), (4, .raw), (5, .raw), (6, .int IntKind.i64), (7, .int IntKind.i64), (8, .int IntKind.i64)]) ([]))) (fun i => cond (Nat.beq i 9) ([(0, [(3, .bool), (4, .raw), (5, .raw)])]) (cond (Nat.beq i 13) ([(2, [(0, .raw), (3, .bool), (4, .raw), (5, .raw), (6, .int IntKind.i64)])]) ([]))) [(2, .bool)] (fun i => cond (Nat.beq i 14) (some [(0, .raw), (3, .bool), (4, .raw), (5, .raw), (6, .int IntKind.i64), (7, .int IntKind.i64), (8, .int IntKind.i64)]) (none))
def j7_13_14 (D : Orc) (I : List Value → H → Prop) (K : Kl) (a0 a1 a2 a3 a4 a5 a6 : Value) (h46 : H) : Prop :=
boolW a1 (fun t47 => intK IntKind.i64 a4 (fun x48 => intK IntKind.i64 a5 (fun x49 => intK IntKind.i64 a6 (fun x50 => I [a0, (Value.bool t47), a2, a3, (Value.int IntKind.i64 x48), (Value.int IntKind.i64 x49), (Value.int IntKind.i64 (IntKind.wrap IntKind.i64 (x50 + (1 : Int))))] h46))))
def round7_13 (D : Orc) (I : List Value → H → Prop) (K : Kl) (a0 a1 a2 a3 a4 a5 a6 : Value) (h17 : H) : Prop :=
boolW a1 (fun t18 => intK IntKind.i64 a4 (fun x19 => intK IntKind.i64 a5 (fun x20 => intK IntKind.i64 a6 (fun x21 => slAtW a0 x19 1 (fun ad22 => ∃ v23 : Value, rd h17 ad22 = some v23 ∧ lenW v23 (fun n24 => cond (decide (x21 < (n24 : Int))) (
cond (decide (x20 ≥ (0 : Int))) (
slAtW a0 x19 1 (fun ad25 => ∃ v26 : Value, rd h17 ad25 = some v26 ∧ slAtW v26 x21 1 (fun ad27 => ∃ x28 : Int, rd h17 ad27 = some (Value.int IntKind.i64 x28) ∧ D 14 [a2, (Value.int IntKind.i64 x28)] h17 (fun v29 h30 => ∃ x31 : Int, v29 = (Value.int IntKind.i64 x31) ∧ cond (x31 == x20) (
slAtW a3 x19 1 (fun ad32 => ∃ v33 : Value, rd h30 ad32 = some v33 ∧ slAtW a0 x19 1 (fun ad34 => ∃ v35 : Value, rd h30 ad34 = some v35 ∧ slAtW v35 x21 1 (fun ad36 => ∃ x37 : Int, rd h30 ad36 = some (Value.int IntKind.i64 x37) ∧ one (Value.int IntKind.i64 x37) = true ∧ 0 < 1 ∧ newSl h30 1 [(Value.int IntKind.i64 x37)] (fun s38 h39 => slenW s38 (fun n40 => srcW h39 1 s38 (n40) (fun w41 => apW h39 1 8 [(Value.int IntKind.i64 (0 : Int))] v33 (n40) w41 (fun s42 h43 => slAtW a3 x19 1 (fun ad44 => one s42 = true ∧ 1 = 1 ∧ ∃ h45, wr1 h43 ad44 s42 = some h45 ∧ j7_13_14 D I K a0 (Value.bool t18) a2 a3 (Value.int IntKind.i64 x19) (Value.int IntKind.i64 x20) (Value.int IntKind.i64 x21) h45))))))))) (
j7_13_14 D I K a0 (Value.bool t18) a2 a3 (Value.int IntKind.i64 x19) (Value.int IntKind.i64 x20) (Value.int IntKind.i64 x21) h30)) (fun c h => K (X.p c) [] h)))) (
K (X.e 2) [a0, (Value.bool t18), a2, a3, (Value.int IntKind.i64 x19)] h17)) (
K (X.e 2) [a0, (Value.bool t18), a2, a3, (Value.int IntKind.i64 x19)] h17)))))))
def loop7_13 (D : Orc) (vs : List Value) (h : H) (K : Kl) : Prop := ∀ I : List Value → H → Prop, (∀ a0 a1 a2 a3 a4 a5 a6 h, round7_13 D I K a0 a1 a2 a3 a4 a5 a6 h → I [a0, a1, a2, a3, a4, a5, a6] h) → I vs h
def round7_9 (D : Orc) (I : List Value → H → Prop) (K : Kl) (a0 a1 a2 a3 a4 : Value) (h10 : H) : Prop :=
boolW a1 (fun t11 => intK IntKind.i64 a4 (fun x12 => lenW a0 (fun n13 => cond (decide (x12 < (n13 : Int))) (
D 14 [a2, (Value.int IntKind.i64 x12)] h10 (fun v14 h15 => ∃ x16 : Int, v14 = (Value.int IntKind.i64 x16) ∧ loop7_13 D [a0, (Value.bool t11), a2, a3, (Value.int IntKind.i64 x12), (Value.int IntKind.i64 x16), (Value.int IntKind.i64 (0 : Int))] h15 (fun x52 vs53 h51 => xs x52 (boolW (nth vs53 0) (fun t55 => K X.r [(Value.bool t55)] h51)) (fun i54 => cond (Nat.beq i54 2) (
boolW (nth vs53 1) (fun t56 => intK IntKind.i64 (nth vs53 4) (fun x57 => I [(nth vs53 0), (Value.bool t56), (nth vs53 2), (nth vs53 3), (Value.int IntKind.i64 (IntKind.wrap IntKind.i64 (x57 + (1 : Int))))] h51))) (False)) (fun c => (fun c h => K (X.p c) [] h) c h51))) (fun c h => K (X.p c) [] h)) (
K (X.e 0) [(Value.bool t11), a2, a3] h10))))
def loop7_9 (D : Orc) (vs : List Value) (h : H) (K : Kl) : Prop := ∀ I : List Value → H → Prop, (∀ a0 a1 a2 a3 a4 h, round7_9 D I K a0 a1 a2 a3 a4 h → I [a0, a1, a2, a3, a4] h) → I vs h
def L7 (D : Orc) : Lor := fun b vs h K => match firstId b with | some i => cond (Nat.beq i 9) (loop7_9 D vs h K) (cond (Nat.beq i 13) (loop7_13 D vs h K) (False)) | none => False
/-- lodestone/lodestonelaw14.GraphCounts -/
def F7 (D : Orc) (a0 : Value) (h : H) (k : Kv) (kp : Kp) : Prop :=
D 9 [] h (fun v0 h1 => ∃ t2 : Bool, v0 = (Value.bool t2) ∧ cond (!t2) (
k (Value.bool false) h1) (
lenW a0 (fun n3 => cond (decide ((n3 : Int) > (200 : Int))) (
k (Value.bool t2) h1) (
D 11 [a0] h1 (fun v4 h5 => ∃ v6 : Value, v4 = v6 ∧ lenW a0 (fun n7 => mkSliceW h5 24 [(Value.slice none 0 0)] (n7 : Int) (n7 : Int) (fun s8 h9 => loop7_9 D [a0, (Value.bool t2), v6, s8, (Value.int IntKind.i64 (0 : Int))] h9 (fun x59 vs60 h58 => xs x59 (boolW (nth vs60 0) (fun t62 => k (Value.bool t62) h58)) (fun i61 => cond (Nat.beq i61 0) (
boolW (nth vs60 0) (fun t63 => cond t63 (
D 11 [(nth vs60 2)] h58 (fun v64 h65 => ∃ v66 : Value, v64 = v66 ∧ D 13 [v66, (nth vs60 1)] h65 (fun v67 h68 => ∃ t69 : Bool, v67 = (Value.bool t69) ∧ k (Value.bool t69) h68) kp) kp) (
k (Value.bool false) h58))) (False)) (fun c => kp c h58))))) kp)))) kp
def Cl7 (D : Orc) : Prop := ∀ a0 h k kp, F7 D a0 h k kp → D 7 [a0] h k kp
theorem tieR7_9 (D : Orc) (I : List Value → H → Prop) (K : Kl) (a0 a1 a2 a3 a4 : Value) (h : H) : round7_9 D I K a0 a1 a2 a3 a4 h = round Try.prog D (L7 D) lv7 (nthC (allLoops (bodyOf Try.f7)) 0) I K [a0, a1, a2, a3, a4] h := by kernel_rfl
theorem tieR7_13 (D : Orc) (I : List Value → H → Prop) (K : Kl) (a0 a1 a2 a3 a4 a5 a6 : Value) (h : H) : round7_13 D I K a0 a1 a2 a3 a4 a5 a6 h = round Try.prog D (L7 D) lv7 (nthC (allLoops (bodyOf Try.f7)) 1) I K [a0, a1, a2, a3, a4, a5, a6] h := by kernel_rfl
theorem tieF7 (D : Orc) (a0 : Value) (h : H) (k : Kv) (kp : Kp) : F7 D a0 h k kp = bodyW Try.prog D (L7 D) lv7 Try.f7 [a0] h k kp := by kernel_rfl
theorem lfp7 : Lfps Try.prog (CS Try.prog) (L7 (CS Try.prog)) lv7 (allLoops (bodyOf Try.f7)) := by
  have e : (allLoops (bodyOf Try.f7)) = [nthC (allLoops (bodyOf Try.f7)) 0, nthC (allLoops (bodyOf Try.f7)) 1] := by kernel_rfl
  rw [e]
  exact ⟨(fun vs h K hk I H => hk I (fun a0 a1 a2 a3 a4 h hr => H _ _ ((tieR7_9 (CS Try.prog) I K a0 a1 a2 a3 a4 h) ▸ hr))), (fun vs h K hk I H => hk I (fun a0 a1 a2 a3 a4 a5 a6 h hr => H _ _ ((tieR7_13 (CS Try.prog) I K a0 a1 a2 a3 a4 a5 a6 h) ▸ hr))), trivial⟩
theorem cl7 : Cl7 (CS Try.prog) := fun a0 h k kp hk =>
  fn_sound wide (fn := Try.f7) (by kernel_rfl) (by kernel_rfl) (by kernel_rfl) lfp7 (by rw [tieF7] at hk; exact hk)
def lv8 : Lv := Lv.mk 195 [.raw, .int IntKind.i64, .int IntKind.i64] (fun i => cond (Nat.beq i 13) ([(0, .raw), (1, .int IntKind.i64), (2, .int IntKind.i64), (7, .bool), (8, .int IntKind.i64), (9, .raw), (10, .raw), (12, .raw), (13, .int IntKind.i64)]) (cond (Nat.beq i 16) ([(0, .raw), (1, .int IntKind.i64), (2, .int IntKind.i64), (7, .bool), (8, .int IntKind.i64), (9, .raw), (10, .raw), (12, .raw), (13, .int IntKind.i64), (14, .int IntKind.i64)]) ([]))) (fun i => cond (Nat.beq i 13) ([(0, [(0, .raw), (1, .int IntKind.i64), (2, .int IntKind.i64), (7, .bool), (9, .raw), (12, .raw)])]) (cond (Nat.beq i 16) ([(2, [(0, .raw), (1, .int IntKind.i64), (2, .int IntKind.i64), (7, .bool), (8, .int IntKind.i64), (9, .raw), (10, .raw), (12, .raw), (13, .int IntKind.i64)])]) ([]))) [(6, .bool)] (fun i => cond (Nat.beq i 6) (some [(0, .raw), (1, .int IntKind.i64), (2, .int IntKind.i64), (7, .bool), (8, .int IntKind.i64), (43, .bool)]) (cond (Nat.beq i 19) (some [(0, .raw), (1, .int IntKind.i64), (2, .int IntKind.i64), (7, .bool), (8, .int IntKind.i64), (9, .raw), (10, .raw), (12, .raw), (13, .int IntKind.i64), (14, .int IntKind.i64), (15, .bool)]) (cond (Nat.beq i 20) (some [(0, .raw), (1, .int IntKind.i64), (2, .int IntKind.i64), (7, .bool), (8, .int IntKind.i64), (9, .raw), (10, .raw), (12, .raw), (13, .int IntKind.i64), (14, .int IntKind.i64), (15, .bool), (16, .bool)]) (cond (Nat.beq i 21) (some [(0, .raw), (1, .int IntKind.i64), (2, .int IntKind.i64), (7, .bool), (8, .int IntKind.i64), (9, .raw), (10, .raw), (12, .raw), (13, .int IntKind.i64), (14, .int IntKind.i64), (15, .bool), (16, .bool), (17, .bool)]) (cond (Nat.beq i 22) (some [(0, .raw), (1, .int IntKind.i64), (2, .int IntKind.i64), (7, .bool), (8, .int IntKind.i64), (9, .raw), (10, .raw), (12, .raw), (13, .int IntKind.i64), (14, .int IntKind.i64), (15, .bool), (16, .bool), (17, .bool), (18, .bool)]) (cond (Nat.beq i 23) (some [(0, .raw), (1, .int IntKind.i64), (2, .int IntKind.i64), (7, .bool), (8, .int IntKind.i64), (9, .raw), (10, .raw), (12, .raw), (13, .int IntKind.i64), (14, .int IntKind.i64), (181, .bool)]) (none)))))))
def j8_16_23 (D : Orc) (I : List Value → H → Prop) (K : Kl) (a0 a1 a2 a3 a4 a5 a6 a7 a8 a9 a10 : Value) (h127 : H) : Prop :=
intK IntKind.i64 a1 (fun x128 => intK IntKind.i64 a2 (fun x129 => boolW a3 (fun t130 => intK IntKind.i64 a4 (fun x131 => intK IntKind.i64 a8 (fun x132 => intK IntKind.i64 a9 (fun x133 => boolW a10 (fun t134 => cond t134 (
K X.r [(Value.bool false)] h127) (
I [a0, (Value.int IntKind.i64 x128), (Value.int IntKind.i64 x129), (Value.bool t130), (Value.int IntKind.i64 x131), a5, a6, a7, (Value.int IntKind.i64 x132), (Value.int IntKind.i64 (IntKind.wrap IntKind.i64 (x133 + (1 : Int))))] h127))))))))
def j8_16_22 (D : Orc) (I : List Value → H → Prop) (K : Kl) (a0 a1 a2 a3 a4 a5 a6 a7 a8 a9 a10 a11 a12 a13 : Value) (h116 : H) : Prop :=
intK IntKind.i64 a1 (fun x117 => intK IntKind.i64 a2 (fun x118 => boolW a3 (fun t119 => intK IntKind.i64 a4 (fun x120 => intK IntKind.i64 a8 (fun x121 => intK IntKind.i64 a9 (fun x122 => boolW a10 (fun t123 => boolW a11 (fun t124 => boolW a12 (fun t125 => boolW a13 (fun t126 => cond t123 (
cond (!(!t124)) (
cond t125 (
j8_16_23 D I K a0 (Value.int IntKind.i64 x117) (Value.int IntKind.i64 x118) (Value.bool t119) (Value.int IntKind.i64 x120) a5 a6 a7 (Value.int IntKind.i64 x121) (Value.int IntKind.i64 x122) (Value.bool (!(t124 == t126))) h116) (
j8_16_23 D I K a0 (Value.int IntKind.i64 x117) (Value.int IntKind.i64 x118) (Value.bool t119) (Value.int IntKind.i64 x120) a5 a6 a7 (Value.int IntKind.i64 x121) (Value.int IntKind.i64 x122) (Value.bool (!(t124 == false))) h116)) (
j8_16_23 D I K a0 (Value.int IntKind.i64 x117) (Value.int IntKind.i64 x118) (Value.bool t119) (Value.int IntKind.i64 x120) a5 a6 a7 (Value.int IntKind.i64 x121) (Value.int IntKind.i64 x122) (Value.bool true) h116)) (
cond t125 (
j8_16_23 D I K a0 (Value.int IntKind.i64 x117) (Value.int IntKind.i64 x118) (Value.bool t119) (Value.int IntKind.i64 x120) a5 a6 a7 (Value.int IntKind.i64 x121) (Value.int IntKind.i64 x122) (Value.bool (!(t124 == t126))) h116) (
j8_16_23 D I K a0 (Value.int IntKind.i64 x117) (Value.int IntKind.i64 x118) (Value.bool t119) (Value.int IntKind.i64 x120) a5 a6 a7 (Value.int IntKind.i64 x121) (Value.int IntKind.i64 x122) (Value.bool (!(t124 == false))) h116))))))))))))
def j8_16_21 (D : Orc) (I : List Value → H → Prop) (K : Kl) (a0 a1 a2 a3 a4 a5 a6 a7 a8 a9 a10 a11 a12 : Value) (h94 : H) : Prop :=
intK IntKind.i64 a1 (fun x95 => intK IntKind.i64 a2 (fun x96 => boolW a3 (fun t97 => intK IntKind.i64 a4 (fun x98 => intK IntKind.i64 a8 (fun x99 => intK IntKind.i64 a9 (fun x100 => boolW a10 (fun t101 => boolW a11 (fun t102 => boolW a12 (fun t103 => slAtW a6 x100 1 (fun ad104 => ∃ v105 : Value, rd h94 ad104 = some v105 ∧ slAtW v105 x99 1 (fun ad106 => ∃ t107 : Bool, rd h94 ad106 = some (Value.bool t107) ∧ cond (!t107) (
cond (!(x100 == x95)) (
slAtW a6 x100 1 (fun ad108 => ∃ v109 : Value, rd h94 ad108 = some v109 ∧ slAtW v109 x95 1 (fun ad110 => ∃ t111 : Bool, rd h94 ad110 = some (Value.bool t111) ∧ cond t111 (
cond (!(x96 == x99)) (
slAtW a6 x96 1 (fun ad112 => ∃ v113 : Value, rd h94 ad112 = some v113 ∧ slAtW v113 x99 1 (fun ad114 => ∃ t115 : Bool, rd h94 ad114 = some (Value.bool t115) ∧ j8_16_22 D I K a0 (Value.int IntKind.i64 x95) (Value.int IntKind.i64 x96) (Value.bool t97) (Value.int IntKind.i64 x98) a5 a6 a7 (Value.int IntKind.i64 x99) (Value.int IntKind.i64 x100) (Value.bool t101) (Value.bool t102) (Value.bool t103) (Value.bool t115) h94))) (
j8_16_22 D I K a0 (Value.int IntKind.i64 x95) (Value.int IntKind.i64 x96) (Value.bool t97) (Value.int IntKind.i64 x98) a5 a6 a7 (Value.int IntKind.i64 x99) (Value.int IntKind.i64 x100) (Value.bool t101) (Value.bool t102) (Value.bool t103) (Value.bool true) h94)) (
j8_16_22 D I K a0 (Value.int IntKind.i64 x95) (Value.int IntKind.i64 x96) (Value.bool t97) (Value.int IntKind.i64 x98) a5 a6 a7 (Value.int IntKind.i64 x99) (Value.int IntKind.i64 x100) (Value.bool t101) (Value.bool t102) (Value.bool t103) (Value.bool false) h94)))) (
cond (!(x96 == x99)) (
slAtW a6 x96 1 (fun ad135 => ∃ v136 : Value, rd h94 ad135 = some v136 ∧ slAtW v136 x99 1 (fun ad137 => ∃ t138 : Bool, rd h94 ad137 = some (Value.bool t138) ∧ j8_16_22 D I K a0 (Value.int IntKind.i64 x95) (Value.int IntKind.i64 x96) (Value.bool t97) (Value.int IntKind.i64 x98) a5 a6 a7 (Value.int IntKind.i64 x99) (Value.int IntKind.i64 x100) (Value.bool t101) (Value.bool t102) (Value.bool t103) (Value.bool t138) h94))) (
j8_16_22 D I K a0 (Value.int IntKind.i64 x95) (Value.int IntKind.i64 x96) (Value.bool t97) (Value.int IntKind.i64 x98) a5 a6 a7 (Value.int IntKind.i64 x99) (Value.int IntKind.i64 x100) (Value.bool t101) (Value.bool t102) (Value.bool t103) (Value.bool true) h94))) (
j8_16_22 D I K a0 (Value.int IntKind.i64 x95) (Value.int IntKind.i64 x96) (Value.bool t97) (Value.int IntKind.i64 x98) a5 a6 a7 (Value.int IntKind.i64 x99) (Value.int IntKind.i64 x100) (Value.bool t101) (Value.bool t102) (Value.bool t103) (Value.bool true) h94))))))))))))
def j8_16_20 (D : Orc) (I : List Value → H → Prop) (K : Kl) (a0 a1 a2 a3 a4 a5 a6 a7 a8 a9 a10 a11 : Value) (h73 : H) : Prop :=
intK IntKind.i64 a1 (fun x74 => intK IntKind.i64 a2 (fun x75 => boolW a3 (fun t76 => intK IntKind.i64 a4 (fun x77 => intK IntKind.i64 a8 (fun x78 => intK IntKind.i64 a9 (fun x79 => boolW a10 (fun t80 => boolW a11 (fun t81 => slAtW a6 x78 1 (fun ad82 => ∃ v83 : Value, rd h73 ad82 = some v83 ∧ slAtW v83 x79 1 (fun ad84 => ∃ t85 : Bool, rd h73 ad84 = some (Value.bool t85) ∧ cond (!t85) (
cond (!(x78 == x74)) (
slAtW a6 x78 1 (fun ad86 => ∃ v87 : Value, rd h73 ad86 = some v87 ∧ slAtW v87 x74 1 (fun ad88 => ∃ t89 : Bool, rd h73 ad88 = some (Value.bool t89) ∧ cond t89 (
cond (!(x75 == x79)) (
slAtW a6 x75 1 (fun ad90 => ∃ v91 : Value, rd h73 ad90 = some v91 ∧ slAtW v91 x79 1 (fun ad92 => ∃ t93 : Bool, rd h73 ad92 = some (Value.bool t93) ∧ j8_16_21 D I K a0 (Value.int IntKind.i64 x74) (Value.int IntKind.i64 x75) (Value.bool t76) (Value.int IntKind.i64 x77) a5 a6 a7 (Value.int IntKind.i64 x78) (Value.int IntKind.i64 x79) (Value.bool t80) (Value.bool t81) (Value.bool t93) h73))) (
j8_16_21 D I K a0 (Value.int IntKind.i64 x74) (Value.int IntKind.i64 x75) (Value.bool t76) (Value.int IntKind.i64 x77) a5 a6 a7 (Value.int IntKind.i64 x78) (Value.int IntKind.i64 x79) (Value.bool t80) (Value.bool t81) (Value.bool true) h73)) (
j8_16_21 D I K a0 (Value.int IntKind.i64 x74) (Value.int IntKind.i64 x75) (Value.bool t76) (Value.int IntKind.i64 x77) a5 a6 a7 (Value.int IntKind.i64 x78) (Value.int IntKind.i64 x79) (Value.bool t80) (Value.bool t81) (Value.bool false) h73)))) (
cond (!(x75 == x79)) (
slAtW a6 x75 1 (fun ad139 => ∃ v140 : Value, rd h73 ad139 = some v140 ∧ slAtW v140 x79 1 (fun ad141 => ∃ t142 : Bool, rd h73 ad141 = some (Value.bool t142) ∧ j8_16_21 D I K a0 (Value.int IntKind.i64 x74) (Value.int IntKind.i64 x75) (Value.bool t76) (Value.int IntKind.i64 x77) a5 a6 a7 (Value.int IntKind.i64 x78) (Value.int IntKind.i64 x79) (Value.bool t80) (Value.bool t81) (Value.bool t142) h73))) (
j8_16_21 D I K a0 (Value.int IntKind.i64 x74) (Value.int IntKind.i64 x75) (Value.bool t76) (Value.int IntKind.i64 x77) a5 a6 a7 (Value.int IntKind.i64 x78) (Value.int IntKind.i64 x79) (Value.bool t80) (Value.bool t81) (Value.bool true) h73))) (
j8_16_21 D I K a0 (Value.int IntKind.i64 x74) (Value.int IntKind.i64 x75) (Value.bool t76) (Value.int IntKind.i64 x77) a5 a6 a7 (Value.int IntKind.i64 x78) (Value.int IntKind.i64 x79) (Value.bool t80) (Value.bool t81) (Value.bool true) h73)))))))))))
def j8_16_19 (D : Orc) (I : List Value → H → Prop) (K : Kl) (a0 a1 a2 a3 a4 a5 a6 a7 a8 a9 a10 : Value) (h56 : H) : Prop :=
intK IntKind.i64 a1 (fun x57 => intK IntKind.i64 a2 (fun x58 => boolW a3 (fun t59 => intK IntKind.i64 a4 (fun x60 => intK IntKind.i64 a8 (fun x61 => intK IntKind.i64 a9 (fun x62 => boolW a10 (fun t63 => D 14 [a7, (Value.int IntKind.i64 x61)] h56 (fun v64 h65 => ∃ x66 : Int, v64 = (Value.int IntKind.i64 x66) ∧ cond (decide (x66 ≥ (0 : Int))) (
D 14 [a7, (Value.int IntKind.i64 x61)] h65 (fun v67 h68 => ∃ x69 : Int, v67 = (Value.int IntKind.i64 x69) ∧ D 14 [a7, (Value.int IntKind.i64 x62)] h68 (fun v70 h71 => ∃ x72 : Int, v70 = (Value.int IntKind.i64 x72) ∧ j8_16_20 D I K a0 (Value.int IntKind.i64 x57) (Value.int IntKind.i64 x58) (Value.bool t59) (Value.int IntKind.i64 x60) a5 a6 a7 (Value.int IntKind.i64 x61) (Value.int IntKind.i64 x62) (Value.bool t63) (Value.bool (x69 == x72)) h71) (fun c h => K (X.p c) [] h)) (fun c h => K (X.p c) [] h)) (
j8_16_20 D I K a0 (Value.int IntKind.i64 x57) (Value.int IntKind.i64 x58) (Value.bool t59) (Value.int IntKind.i64 x60) a5 a6 a7 (Value.int IntKind.i64 x61) (Value.int IntKind.i64 x62) (Value.bool t63) (Value.bool false) h65)) (fun c h => K (X.p c) [] h))))))))
def round8_16 (D : Orc) (I : List Value → H → Prop) (K : Kl) (a0 a1 a2 a3 a4 a5 a6 a7 a8 a9 : Value) (h40 : H) : Prop :=
intK IntKind.i64 a1 (fun x41 => intK IntKind.i64 a2 (fun x42 => boolW a3 (fun t43 => intK IntKind.i64 a4 (fun x44 => intK IntKind.i64 a8 (fun x45 => intK IntKind.i64 a9 (fun x46 => cond (decide (x46 < x44)) (
D 14 [a5, (Value.int IntKind.i64 x45)] h40 (fun v47 h48 => ∃ x49 : Int, v47 = (Value.int IntKind.i64 x49) ∧ cond (decide (x49 ≥ (0 : Int))) (
D 14 [a5, (Value.int IntKind.i64 x45)] h48 (fun v50 h51 => ∃ x52 : Int, v50 = (Value.int IntKind.i64 x52) ∧ D 14 [a5, (Value.int IntKind.i64 x46)] h51 (fun v53 h54 => ∃ x55 : Int, v53 = (Value.int IntKind.i64 x55) ∧ j8_16_19 D I K a0 (Value.int IntKind.i64 x41) (Value.int IntKind.i64 x42) (Value.bool t43) (Value.int IntKind.i64 x44) a5 a6 a7 (Value.int IntKind.i64 x45) (Value.int IntKind.i64 x46) (Value.bool (x52 == x55)) h54) (fun c h => K (X.p c) [] h)) (fun c h => K (X.p c) [] h)) (
j8_16_19 D I K a0 (Value.int IntKind.i64 x41) (Value.int IntKind.i64 x42) (Value.bool t43) (Value.int IntKind.i64 x44) a5 a6 a7 (Value.int IntKind.i64 x45) (Value.int IntKind.i64 x46) (Value.bool false) h48)) (fun c h => K (X.p c) [] h)) (
K (X.e 2) [a0, (Value.int IntKind.i64 x41), (Value.int IntKind.i64 x42), (Value.bool t43), (Value.int IntKind.i64 x44), a5, a6, a7, (Value.int IntKind.i64 x45)] h40)))))))
def loop8_16 (D : Orc) (vs : List Value) (h : H) (K : Kl) : Prop := ∀ I : List Value → H → Prop, (∀ a0 a1 a2 a3 a4 a5 a6 a7 a8 a9 h, round8_16 D I K a0 a1 a2 a3 a4 a5 a6 a7 a8 a9 h → I [a0, a1, a2, a3, a4, a5, a6, a7, a8, a9] h) → I vs h
def round8_13 (D : Orc) (I : List Value → H → Prop) (K : Kl) (a0 a1 a2 a3 a4 a5 a6 a7 a8 : Value) (h34 : H) : Prop :=
intK IntKind.i64 a1 (fun x35 => intK IntKind.i64 a2 (fun x36 => boolW a3 (fun t37 => intK IntKind.i64 a4 (fun x38 => intK IntKind.i64 a8 (fun x39 => cond (decide (x39 < x38)) (
loop8_16 D [a0, (Value.int IntKind.i64 x35), (Value.int IntKind.i64 x36), (Value.bool t37), (Value.int IntKind.i64 x38), a5, a6, a7, (Value.int IntKind.i64 x39), (Value.int IntKind.i64 (0 : Int))] h34 (fun x144 vs145 h143 => xs x144 (boolW (nth vs145 0) (fun t147 => K X.r [(Value.bool t147)] h143)) (fun i146 => cond (Nat.beq i146 2) (
intK IntKind.i64 (nth vs145 1) (fun x148 => intK IntKind.i64 (nth vs145 2) (fun x149 => boolW (nth vs145 3) (fun t150 => intK IntKind.i64 (nth vs145 4) (fun x151 => intK IntKind.i64 (nth vs145 8) (fun x152 => I [(nth vs145 0), (Value.int IntKind.i64 x148), (Value.int IntKind.i64 x149), (Value.bool t150), (Value.int IntKind.i64 x151), (nth vs145 5), (nth vs145 6), (nth vs145 7), (Value.int IntKind.i64 (IntKind.wrap IntKind.i64 (x152 + (1 : Int))))] h143)))))) (False)) (fun c => (fun c h => K (X.p c) [] h) c h143))) (
K (X.e 0) [a0, (Value.int IntKind.i64 x35), (Value.int IntKind.i64 x36), (Value.bool t37), a5, a7] h34))))))
def loop8_13 (D : Orc) (vs : List Value) (h : H) (K : Kl) : Prop := ∀ I : List Value → H → Prop, (∀ a0 a1 a2 a3 a4 a5 a6 a7 a8 h, round8_13 D I K a0 a1 a2 a3 a4 a5 a6 a7 a8 h → I [a0, a1, a2, a3, a4, a5, a6, a7, a8] h) → I vs h
def j8__6 (D : Orc) (k : Kv) (kp : Kp) (a0 a1 a2 a3 a4 a5 : Value) (h6 : H) : Prop :=
intK IntKind.i64 a1 (fun x7 => intK IntKind.i64 a2 (fun x8 => boolW a3 (fun t9 => intK IntKind.i64 a4 (fun x10 => boolW a5 (fun t11 => cond t11 (
k (Value.bool t9) h6) (
D 11 [a0] h6 (fun v12 h13 => ∃ v14 : Value, v12 = v14 ∧ D 15 [a0] h13 (fun v15 h16 => ∃ v17 : Value, v15 = v17 ∧ D 10 [a0] h16 (fun v18 h19 => ∃ v20 : Value, v18 = v20 ∧ slAtW v20 x7 1 (fun ad21 => ∃ v22 : Value, rd h19 ad21 = some v22 ∧ one (Value.int IntKind.i64 x8) = true ∧ 0 < 1 ∧ newSl h19 1 [(Value.int IntKind.i64 x8)] (fun s23 h24 => slenW s23 (fun n25 => srcW h24 1 s23 (n25) (fun w26 => apW h24 1 8 [(Value.int IntKind.i64 (0 : Int))] v22 (n25) w26 (fun s27 h28 => slAtW v20 x7 1 (fun ad29 => one s27 = true ∧ 1 = 1 ∧ ∃ h30, wr1 h28 ad29 s27 = some h30 ∧ D 11 [v20] h30 (fun v31 h32 => ∃ v33 : Value, v31 = v33 ∧ loop8_13 D [a0, (Value.int IntKind.i64 x7), (Value.int IntKind.i64 x8), (Value.bool t9), (Value.int IntKind.i64 x10), v14, v17, v33, (Value.int IntKind.i64 (0 : Int))] h32 (fun x154 vs155 h153 => xs x154 (boolW (nth vs155 0) (fun t157 => k (Value.bool t157) h153)) (fun i156 => cond (Nat.beq i156 0) (
intK IntKind.i64 (nth vs155 1) (fun x158 => intK IntKind.i64 (nth vs155 2) (fun x159 => boolW (nth vs155 3) (fun t160 => cond t160 (
D 16 [(nth vs155 0), (Value.int IntKind.i64 x158), (Value.int IntKind.i64 x159)] h153 (fun v161 h162 => ∃ t163 : Bool, v161 = (Value.bool t163) ∧ cond (!(!t163)) (
D 13 [(nth vs155 4), (nth vs155 5)] h162 (fun v164 h165 => ∃ t166 : Bool, v164 = (Value.bool t166) ∧ k (Value.bool t166) h165) kp) (
k (Value.bool true) h162)) kp) (
k (Value.bool false) h153))))) (False)) (fun c => kp c h153))) kp))))))) kp) kp) kp))))))
def L8 (D : Orc) : Lor := fun b vs h K => match firstId b with | some i => cond (Nat.beq i 13) (loop8_13 D vs h K) (cond (Nat.beq i 16) (loop8_16 D vs h K) (False)) | none => False
/-- lodestone/lodestonelaw14.GraphMore -/
def F8 (D : Orc) (a0 a1 a2 : Value) (h : H) (k : Kv) (kp : Kp) : Prop :=
intK IntKind.i64 a1 (fun x0 => intK IntKind.i64 a2 (fun x1 => D 9 [] h (fun v2 h3 => ∃ t4 : Bool, v2 = (Value.bool t4) ∧ cond (!t4) (
k (Value.bool false) h3) (
lenW a0 (fun n5 => cond (!(decide ((n5 : Int) > (60 : Int)))) (
cond (!(decide (x0 < (0 : Int)))) (
cond (!(decide (x0 ≥ (n5 : Int)))) (
cond (!(decide (x1 < (0 : Int)))) (
j8__6 D k kp a0 (Value.int IntKind.i64 x0) (Value.int IntKind.i64 x1) (Value.bool t4) (Value.int IntKind.i64 (n5 : Int)) (Value.bool (decide (x1 ≥ (n5 : Int)))) h3) (
j8__6 D k kp a0 (Value.int IntKind.i64 x0) (Value.int IntKind.i64 x1) (Value.bool t4) (Value.int IntKind.i64 (n5 : Int)) (Value.bool true) h3)) (
j8__6 D k kp a0 (Value.int IntKind.i64 x0) (Value.int IntKind.i64 x1) (Value.bool t4) (Value.int IntKind.i64 (n5 : Int)) (Value.bool true) h3)) (
j8__6 D k kp a0 (Value.int IntKind.i64 x0) (Value.int IntKind.i64 x1) (Value.bool t4) (Value.int IntKind.i64 (n5 : Int)) (Value.bool true) h3)) (
j8__6 D k kp a0 (Value.int IntKind.i64 x0) (Value.int IntKind.i64 x1) (Value.bool t4) (Value.int IntKind.i64 (n5 : Int)) (Value.bool true) h3)))) kp))
def Cl8 (D : Orc) : Prop := ∀ a0 a1 a2 h k kp, F8 D a0 a1 a2 h k kp → D 8 [a0, a1, a2] h k kp
theorem tieR8_13 (D : Orc) (I : List Value → H → Prop) (K : Kl) (a0 a1 a2 a3 a4 a5 a6 a7 a8 : Value) (h : H) : round8_13 D I K a0 a1 a2 a3 a4 a5 a6 a7 a8 h = round Try.prog D (L8 D) lv8 (nthC (allLoops (bodyOf Try.f8)) 0) I K [a0, a1, a2, a3, a4, a5, a6, a7, a8] h := by kernel_rfl
theorem tieR8_16 (D : Orc) (I : List Value → H → Prop) (K : Kl) (a0 a1 a2 a3 a4 a5 a6 a7 a8 a9 : Value) (h : H) : round8_16 D I K a0 a1 a2 a3 a4 a5 a6 a7 a8 a9 h = round Try.prog D (L8 D) lv8 (nthC (allLoops (bodyOf Try.f8)) 1) I K [a0, a1, a2, a3, a4, a5, a6, a7, a8, a9] h := by kernel_rfl
theorem tieF8 (D : Orc) (a0 a1 a2 : Value) (h : H) (k : Kv) (kp : Kp) : F8 D a0 a1 a2 h k kp = bodyW Try.prog D (L8 D) lv8 Try.f8 [a0, a1, a2] h k kp := by kernel_rfl
theorem lfp8 : Lfps Try.prog (CS Try.prog) (L8 (CS Try.prog)) lv8 (allLoops (bodyOf Try.f8)) := by
  have e : (allLoops (bodyOf Try.f8)) = [nthC (allLoops (bodyOf Try.f8)) 0, nthC (allLoops (bodyOf Try.f8)) 1] := by kernel_rfl
  rw [e]
  exact ⟨(fun vs h K hk I H => hk I (fun a0 a1 a2 a3 a4 a5 a6 a7 a8 h hr => H _ _ ((tieR8_13 (CS Try.prog) I K a0 a1 a2 a3 a4 a5 a6 a7 a8 h) ▸ hr))), (fun vs h K hk I H => hk I (fun a0 a1 a2 a3 a4 a5 a6 a7 a8 a9 h hr => H _ _ ((tieR8_16 (CS Try.prog) I K a0 a1 a2 a3 a4 a5 a6 a7 a8 a9 h) ▸ hr))), trivial⟩
theorem cl8 : Cl8 (CS Try.prog) := fun a0 a1 a2 h k kp hk =>
  fn_sound wide (fn := Try.f8) (by kernel_rfl) (by kernel_rfl) (by kernel_rfl) lfp8 (by rw [tieF8] at hk; exact hk)
def lv9 : Lv := Lv.mk 49 [] (fun i => []) (fun i => []) [(0, .bool)] (fun i => none)
def L9 (D : Orc) : Lor := fun b vs h K => match firstId b with | some i => False | none => False
/-- lodestone/lodestonelaw14.shown -/
def F9 (D : Orc) (h : H) (k : Kv) (kp : Kp) : Prop :=
one (Value.int IntKind.i64 (1 : Int)) = true ∧ 0 < 1 ∧ newSl h 1 [(Value.int IntKind.i64 (1 : Int))] (fun s0 h1 => one (Value.int IntKind.i64 (2 : Int)) = true ∧ 0 < 1 ∧ newSl h1 1 [(Value.int IntKind.i64 (2 : Int))] (fun s2 h3 => one (Value.int IntKind.i64 (0 : Int)) = true ∧ 0 < 2 ∧ one (Value.int IntKind.i64 (3 : Int)) = true ∧ 1 < 2 ∧ newSl h3 2 [(Value.int IntKind.i64 (0 : Int)), (Value.int IntKind.i64 (3 : Int))] (fun s4 h5 => one (Value.int IntKind.i64 (3 : Int)) = true ∧ 0 < 1 ∧ newSl h5 1 [(Value.int IntKind.i64 (3 : Int))] (fun s6 h7 => one (Value.int IntKind.i64 (0 : Int)) = true ∧ 0 < 1 ∧ newSl h7 1 [(Value.int IntKind.i64 (0 : Int))] (fun s8 h9 => one s0 = true ∧ 0 < 5 ∧ one s2 = true ∧ 1 < 5 ∧ one s4 = true ∧ 2 < 5 ∧ one s6 = true ∧ 3 < 5 ∧ one s8 = true ∧ 4 < 5 ∧ newSl h9 5 [s0, s2, s4, s6, s8] (fun s10 h11 => D 11 [s10] h11 (fun v12 h13 => ∃ v14 : Value, v12 = v14 ∧ one (Value.int IntKind.i64 (3 : Int)) = true ∧ 0 < 3 ∧ one (Value.int IntKind.i64 (-1 : Int)) = true ∧ 1 < 3 ∧ one (Value.int IntKind.i64 (9 : Int)) = true ∧ 2 < 3 ∧ newSl h13 3 [(Value.int IntKind.i64 (3 : Int)), (Value.int IntKind.i64 (-1 : Int)), (Value.int IntKind.i64 (9 : Int))] (fun s15 h16 => one (Value.int IntKind.i64 (2 : Int)) = true ∧ 0 < 1 ∧ newSl h16 1 [(Value.int IntKind.i64 (2 : Int))] (fun s17 h18 => one (Value.int IntKind.i64 (1 : Int)) = true ∧ 0 < 1 ∧ newSl h18 1 [(Value.int IntKind.i64 (1 : Int))] (fun s19 h20 => one (Value.int IntKind.i64 (0 : Int)) = true ∧ 0 < 1 ∧ newSl h20 1 [(Value.int IntKind.i64 (0 : Int))] (fun s21 h22 => one s15 = true ∧ 0 < 4 ∧ one s17 = true ∧ 1 < 4 ∧ one s19 = true ∧ 2 < 4 ∧ one s21 = true ∧ 3 < 4 ∧ newSl h22 4 [s15, s17, s19, s21] (fun s23 h24 => D 11 [s23] h24 (fun v25 h26 => ∃ v27 : Value, v25 = v27 ∧ one (Value.int IntKind.i64 (1 : Int)) = true ∧ 0 < 1 ∧ newSl h26 1 [(Value.int IntKind.i64 (1 : Int))] (fun s28 h29 => one (Value.int IntKind.i64 (2 : Int)) = true ∧ 0 < 1 ∧ newSl h29 1 [(Value.int IntKind.i64 (2 : Int))] (fun s30 h31 => newSl h31 0 [] (fun s32 h33 => one s28 = true ∧ 0 < 3 ∧ one s30 = true ∧ 1 < 3 ∧ one s32 = true ∧ 2 < 3 ∧ newSl h33 3 [s28, s30, s32] (fun s34 h35 => D 11 [s34] h35 (fun v36 h37 => ∃ v38 : Value, v36 = v38 ∧ one (Value.int IntKind.i64 (0 : Int)) = true ∧ 0 < 1 ∧ newSl h37 1 [(Value.int IntKind.i64 (0 : Int))] (fun s39 h40 => one s39 = true ∧ 0 < 1 ∧ newSl h40 1 [s39] (fun s41 h42 => D 11 [s41] h42 (fun v43 h44 => ∃ v45 : Value, v43 = v45 ∧ one (Value.int IntKind.i64 (0 : Int)) = true ∧ 0 < 3 ∧ one (Value.int IntKind.i64 (1 : Int)) = true ∧ 1 < 3 ∧ one (Value.int IntKind.i64 (2 : Int)) = true ∧ 2 < 3 ∧ newSl h44 3 [(Value.int IntKind.i64 (0 : Int)), (Value.int IntKind.i64 (1 : Int)), (Value.int IntKind.i64 (2 : Int))] (fun s46 h47 => one (Value.int IntKind.i64 (3 : Int)) = true ∧ 0 < 1 ∧ newSl h47 1 [(Value.int IntKind.i64 (3 : Int))] (fun s48 h49 => one s46 = true ∧ 0 < 2 ∧ one s48 = true ∧ 1 < 2 ∧ newSl h49 2 [s46, s48] (fun s50 h51 => D 13 [v14, s50] h51 (fun v52 h53 => ∃ t54 : Bool, v52 = (Value.bool t54) ∧ cond t54 (
one (Value.int IntKind.i64 (0 : Int)) = true ∧ 0 < 2 ∧ one (Value.int IntKind.i64 (3 : Int)) = true ∧ 1 < 2 ∧ newSl h53 2 [(Value.int IntKind.i64 (0 : Int)), (Value.int IntKind.i64 (3 : Int))] (fun s55 h56 => one (Value.int IntKind.i64 (1 : Int)) = true ∧ 0 < 2 ∧ one (Value.int IntKind.i64 (2 : Int)) = true ∧ 1 < 2 ∧ newSl h56 2 [(Value.int IntKind.i64 (1 : Int)), (Value.int IntKind.i64 (2 : Int))] (fun s57 h58 => one s55 = true ∧ 0 < 2 ∧ one s57 = true ∧ 1 < 2 ∧ newSl h58 2 [s55, s57] (fun s59 h60 => D 13 [v27, s59] h60 (fun v61 h62 => ∃ t63 : Bool, v61 = (Value.bool t63) ∧ cond t63 (
lenW v38 (fun n64 => cond ((n64 : Int) == (0 : Int)) (
one (Value.int IntKind.i64 (0 : Int)) = true ∧ 0 < 1 ∧ newSl h62 1 [(Value.int IntKind.i64 (0 : Int))] (fun s65 h66 => one s65 = true ∧ 0 < 1 ∧ newSl h66 1 [s65] (fun s67 h68 => D 13 [v45, s67] h68 (fun v69 h70 => ∃ t71 : Bool, v69 = (Value.bool t71) ∧ k (Value.bool t71) h70) kp))) (
k (Value.bool false) h62))) (
k (Value.bool false) h62)) kp)))) (
k (Value.bool false) h53)) kp)))) kp))) kp))))) kp)))))) kp))))))
def Cl9 (D : Orc) : Prop := ∀  h k kp, F9 D  h k kp → D 9 [] h k kp
theorem tieF9 (D : Orc) (h : H) (k : Kv) (kp : Kp) : F9 D  h k kp = bodyW Try.prog D (L9 D) lv9 Try.f9 [] h k kp := by kernel_rfl
theorem lfp9 : Lfps Try.prog (CS Try.prog) (L9 (CS Try.prog)) lv9 (allLoops (bodyOf Try.f9)) := by
  have e : (allLoops (bodyOf Try.f9)) = [] := by kernel_rfl
  rw [e]
  exact trivial
theorem cl9 : Cl9 (CS Try.prog) := fun  h k kp hk =>
  fn_sound wide (fn := Try.f9) (by kernel_rfl) (by kernel_rfl) (by kernel_rfl) lfp9 (by rw [tieF9] at hk; exact hk)
def lv10 : Lv := Lv.mk 22 [.raw] (fun i => cond (Nat.beq i 3) ([(0, .raw), (3, .raw), (4, .int IntKind.i64)]) ([])) (fun i => cond (Nat.beq i 3) ([(0, [(3, .raw)])]) ([])) [(2, .raw)] (fun i => none)
def round10_3 (D : Orc) (I : List Value → H → Prop) (K : Kl) (a0 a1 a2 : Value) (h2 : H) : Prop :=
intK IntKind.i64 a2 (fun x3 => lenW a0 (fun n4 => cond (decide (x3 < (n4 : Int))) (
newSl h2 0 [] (fun s5 h6 => slAtW a0 x3 1 (fun ad7 => ∃ v8 : Value, rd h6 ad7 = some v8 ∧ slenW v8 (fun n9 => srcW h6 1 v8 (n9) (fun w10 => apW h6 1 8 [(Value.int IntKind.i64 (0 : Int))] s5 (n9) w10 (fun s11 h12 => one s11 = true ∧ 0 < 1 ∧ newSl h12 1 [s11] (fun s13 h14 => slenW s13 (fun n15 => srcW h14 1 s13 (n15) (fun w16 => apW h14 1 24 [(Value.slice none 0 0)] a1 (n15) w16 (fun s17 h18 => I [a0, s17, (Value.int IntKind.i64 (IntKind.wrap IntKind.i64 (x3 + (1 : Int))))] h18)))))))))) (
K (X.e 0) [a1] h2)))
def loop10_3 (D : Orc) (vs : List Value) (h : H) (K : Kl) : Prop := ∀ I : List Value → H → Prop, (∀ a0 a1 a2 h, round10_3 D I K a0 a1 a2 h → I [a0, a1, a2] h) → I vs h
def L10 (D : Orc) : Lor := fun b vs h K => match firstId b with | some i => cond (Nat.beq i 3) (loop10_3 D vs h K) (False) | none => False
/-- lodestone/lodestonelaw14.copied -/
def F10 (D : Orc) (a0 : Value) (h : H) (k : Kv) (kp : Kp) : Prop :=
newSl h 0 [] (fun s0 h1 => loop10_3 D [a0, s0, (Value.int IntKind.i64 (0 : Int))] h1 (fun x20 vs21 h19 => xs x20 (k (nth vs21 0) h19) (fun i22 => cond (Nat.beq i22 0) (
k (nth vs21 0) h19) (False)) (fun c => kp c h19)))
def Cl10 (D : Orc) : Prop := ∀ a0 h k kp, F10 D a0 h k kp → D 10 [a0] h k kp
theorem tieR10_3 (D : Orc) (I : List Value → H → Prop) (K : Kl) (a0 a1 a2 : Value) (h : H) : round10_3 D I K a0 a1 a2 h = round Try.prog D (L10 D) lv10 (nthC (allLoops (bodyOf Try.f10)) 0) I K [a0, a1, a2] h := by kernel_rfl
theorem tieF10 (D : Orc) (a0 : Value) (h : H) (k : Kv) (kp : Kp) : F10 D a0 h k kp = bodyW Try.prog D (L10 D) lv10 Try.f10 [a0] h k kp := by kernel_rfl
theorem lfp10 : Lfps Try.prog (CS Try.prog) (L10 (CS Try.prog)) lv10 (allLoops (bodyOf Try.f10)) := by
  have e : (allLoops (bodyOf Try.f10)) = [nthC (allLoops (bodyOf Try.f10)) 0] := by kernel_rfl
  rw [e]
  exact ⟨(fun vs h K hk I H => hk I (fun a0 a1 a2 h hr => H _ _ ((tieR10_3 (CS Try.prog) I K a0 a1 a2 h) ▸ hr))), trivial⟩
theorem cl10 : Cl10 (CS Try.prog) := fun a0 h k kp hk =>
  fn_sound wide (fn := Try.f10) (by kernel_rfl) (by kernel_rfl) (by kernel_rfl) lfp10 (by rw [tieF10] at hk; exact hk)
def lv11 : Lv := Lv.mk 44 [.raw] (fun i => cond (Nat.beq i 7) ([(4, .raw), (6, .raw), (19, .int IntKind.i64), (20, .int IntKind.i64)]) ([])) (fun i => cond (Nat.beq i 7) ([(0, [(4, .raw)])]) ([])) [(2, .raw)] (fun i => cond (Nat.beq i 11) (some [(4, .raw), (6, .raw), (19, .int IntKind.i64), (20, .int IntKind.i64)]) (none))
def j11_7_11 (D : Orc) (I : List Value → H → Prop) (K : Kl) (a0 a1 a2 a3 : Value) (h50 : H) : Prop :=
intK IntKind.i64 a2 (fun x51 => intK IntKind.i64 a3 (fun x52 => I [a0, a1, (Value.int IntKind.i64 x51), (Value.int IntKind.i64 (IntKind.wrap IntKind.i64 (x52 + (1 : Int))))] h50))
def round11_7 (D : Orc) (I : List Value → H → Prop) (K : Kl) (a0 a1 a2 a3 : Value) (h37 : H) : Prop :=
intK IntKind.i64 a2 (fun x38 => intK IntKind.i64 a3 (fun x39 => cond (decide (x39 < x38)) (
ptrW a0 (fun ad40 => ∃ v41 : Value, rd h37 ad40 = some v41 ∧ nonNil v41 = true ∧ ptrW v41 (fun ad42 => ∃ v43 : Value, rd h37 (Addr.add ad42 0) = some v43 ∧ slAtW v43 x39 1 (fun ad44 => ∃ x45 : Int, rd h37 ad44 = some (Value.int IntKind.i64 x45) ∧ cond (x45 == (0 : Int)) (
ptrW a1 (fun ad46 => ∃ v47 : Value, rd h37 ad46 = some v47 ∧ callV Try.prog D 0 v47 [(Value.int IntKind.i64 x39)] h37 (fun v48 h49 => j11_7_11 D I K a0 a1 (Value.int IntKind.i64 x38) (Value.int IntKind.i64 x39) h49) (fun c h => K (X.p c) [] h))) (
j11_7_11 D I K a0 a1 (Value.int IntKind.i64 x38) (Value.int IntKind.i64 x39) h37))))) (
K (X.e 0) [a0] h37)))
def loop11_7 (D : Orc) (vs : List Value) (h : H) (K : Kl) : Prop := ∀ I : List Value → H → Prop, (∀ a0 a1 a2 a3 h, round11_7 D I K a0 a1 a2 a3 h → I [a0, a1, a2, a3] h) → I vs h
def L11 (D : Orc) : Lor := fun b vs h K => match firstId b with | some i => cond (Nat.beq i 7) (loop11_7 D vs h K) (False) | none => False
/-- lodestone/graph.Parts -/
def F11 (D : Orc) (a0 : Value) (h : H) (k : Kv) (kp : Kp) : Prop :=
one a0 = true ∧ newW h [a0] (fun p0 h1 => ptrW p0 (fun ad2 => ∃ v3 : Value, rd h1 ad2 = some v3 ∧ lenW v3 (fun n4 => newW h1 [(Value.int IntKind.i64 (0 : Int))] (fun p5 h6 => ptrW p5 (fun ad7 => one (Value.int IntKind.i64 (n4 : Int)) = true ∧ 1 = 1 ∧ ∃ h8, wr1 h6 ad7 (Value.int IntKind.i64 (n4 : Int)) = some h8 ∧ ptrW p5 (fun ad9 => ∃ x10 : Int, rd h8 ad9 = some (Value.int IntKind.i64 x10) ∧ mkSliceW h8 8 [(Value.int IntKind.i64 (0 : Int))] x10 x10 (fun s11 h12 => ptrW p5 (fun ad13 => ∃ x14 : Int, rd h12 ad13 = some (Value.int IntKind.i64 x14) ∧ mkSliceW h12 8 [(Value.int IntKind.i64 (0 : Int))] x14 x14 (fun s15 h16 => ptrW p5 (fun ad17 => ∃ x18 : Int, rd h16 ad17 = some (Value.int IntKind.i64 x18) ∧ mkSliceW h16 1 [(Value.bool false)] x18 x18 (fun s19 h20 => one s11 = true ∧ 0 < 5 ∧ one s15 = true ∧ 1 < 5 ∧ one s19 = true ∧ 3 < 5 ∧ newW h20 [s11, s15, (Value.slice none 0 0), s19, (Value.slice none 0 0)] (fun p21 h22 => newW h22 [(Value.pointer none)] (fun p23 h24 => ptrW p23 (fun ad25 => one p21 = true ∧ 1 = 1 ∧ ∃ h26, wr1 h24 ad25 p21 = some h26 ∧ newW h26 [(Value.int IntKind.i64 (0 : Int))] (fun p27 h28 => ptrW p27 (fun ad29 => one (Value.int IntKind.i64 (0 : Int)) = true ∧ 1 = 1 ∧ ∃ h30, wr1 h28 ad29 (Value.int IntKind.i64 (0 : Int)) = some h30 ∧ newW h30 [Value.nilFunc] (fun p31 h32 => ptrW p31 (fun ad33 => one (Value.func (Fn.func 17) #[] #[p27, p23, p0, p5, p31]) = true ∧ 1 = 1 ∧ ∃ h34, wr1 h32 ad33 (Value.func (Fn.func 17) #[] #[p27, p23, p0, p5, p31]) = some h34 ∧ ptrW p5 (fun ad35 => ∃ x36 : Int, rd h34 ad35 = some (Value.int IntKind.i64 x36) ∧ loop11_7 D [p23, p31, (Value.int IntKind.i64 x36), (Value.int IntKind.i64 (0 : Int))] h34 (fun x54 vs55 h53 => xs x54 (k (nth vs55 0) h53) (fun i56 => cond (Nat.beq i56 0) (
ptrW (nth vs55 0) (fun ad57 => ∃ v58 : Value, rd h53 ad57 = some v58 ∧ nonNil v58 = true ∧ ptrW v58 (fun ad59 => ∃ v60 : Value, rd h53 (Addr.add ad59 4) = some v60 ∧ D 19 [v60, (Value.func (Fn.func 20) #[] #[])] h53 (fun v61 h62 => v61 = (Value.tuple #[]) ∧ ptrW (nth vs55 0) (fun ad63 => ∃ v64 : Value, rd h62 ad63 = some v64 ∧ nonNil v64 = true ∧ ptrW v64 (fun ad65 => ∃ v66 : Value, rd h62 (Addr.add ad65 4) = some v66 ∧ k v66 h62))) kp))) (False)) (fun c => kp c h53)))))))))))))))))))))
def Cl11 (D : Orc) : Prop := ∀ a0 h k kp, F11 D a0 h k kp → D 11 [a0] h k kp
theorem tieR11_7 (D : Orc) (I : List Value → H → Prop) (K : Kl) (a0 a1 a2 a3 : Value) (h : H) : round11_7 D I K a0 a1 a2 a3 h = round Try.prog D (L11 D) lv11 (nthC (allLoops (bodyOf Try.f11)) 0) I K [a0, a1, a2, a3] h := by kernel_rfl
theorem tieF11 (D : Orc) (a0 : Value) (h : H) (k : Kv) (kp : Kp) : F11 D a0 h k kp = bodyW Try.prog D (L11 D) lv11 Try.f11 [a0] h k kp := by kernel_rfl
theorem lfp11 : Lfps Try.prog (CS Try.prog) (L11 (CS Try.prog)) lv11 (allLoops (bodyOf Try.f11)) := by
  have e : (allLoops (bodyOf Try.f11)) = [nthC (allLoops (bodyOf Try.f11)) 0] := by kernel_rfl
  rw [e]
  exact ⟨(fun vs h K hk I H => hk I (fun a0 a1 a2 a3 h hr => H _ _ ((tieR11_7 (CS Try.prog) I K a0 a1 a2 a3 h) ▸ hr))), trivial⟩
theorem cl11 : Cl11 (CS Try.prog) := fun a0 h k kp hk =>
  fn_sound wide (fn := Try.f11) (by kernel_rfl) (by kernel_rfl) (by kernel_rfl) lfp11 (by rw [tieF11] at hk; exact hk)
def lv12 : Lv := Lv.mk 59 [.raw] (fun i => cond (Nat.beq i 4) ([(0, .raw), (3, .raw), (4, .raw), (5, .int IntKind.i64)]) (cond (Nat.beq i 8) ([(0, .raw), (3, .raw), (4, .raw), (5, .int IntKind.i64), (6, .raw), (7, .int IntKind.i64)]) ([]))) (fun i => cond (Nat.beq i 4) ([(0, [(4, .raw)])]) (cond (Nat.beq i 8) ([(2, [(0, .raw), (3, .raw), (4, .raw), (5, .int IntKind.i64), (6, .raw)])]) ([]))) [(2, .raw)] (fun i => cond (Nat.beq i 5) (some [(0, .raw), (3, .raw), (4, .raw), (5, .int IntKind.i64)]) (cond (Nat.beq i 9) (some [(0, .raw), (3, .raw), (4, .raw), (5, .int IntKind.i64), (6, .raw), (7, .int IntKind.i64)]) (cond (Nat.beq i 11) (some [(0, .raw), (3, .raw), (4, .raw), (5, .int IntKind.i64), (6, .raw), (7, .int IntKind.i64), (39, .bool)]) (cond (Nat.beq i 13) (some [(0, .raw), (3, .raw), (4, .raw), (5, .int IntKind.i64), (6, .raw), (53, .bool)]) (none)))))
def j12_8_9 (D : Orc) (I : List Value → H → Prop) (K : Kl) (a0 a1 a2 a3 a4 a5 : Value) (h32 : H) : Prop :=
intK IntKind.i64 a3 (fun x33 => intK IntKind.i64 a5 (fun x34 => I [a0, a1, a2, (Value.int IntKind.i64 x33), a4, (Value.int IntKind.i64 (IntKind.wrap IntKind.i64 (x34 + (1 : Int))))] h32))
def j12_8_11 (D : Orc) (I : List Value → H → Prop) (K : Kl) (a0 a1 a2 a3 a4 a5 a6 : Value) (h22 : H) : Prop :=
intK IntKind.i64 a3 (fun x23 => intK IntKind.i64 a5 (fun x24 => boolW a6 (fun t25 => cond t25 (
one (Value.int IntKind.i64 x24) = true ∧ 0 < 1 ∧ newSl h22 1 [(Value.int IntKind.i64 x24)] (fun s26 h27 => slenW s26 (fun n28 => srcW h27 1 s26 (n28) (fun w29 => apW h27 1 8 [(Value.int IntKind.i64 (0 : Int))] a4 (n28) w29 (fun s30 h31 => j12_8_9 D I K a0 a1 a2 (Value.int IntKind.i64 x23) s30 (Value.int IntKind.i64 x24) h31))))) (
j12_8_9 D I K a0 a1 a2 (Value.int IntKind.i64 x23) a4 (Value.int IntKind.i64 x24) h22))))
def round12_8 (D : Orc) (I : List Value → H → Prop) (K : Kl) (a0 a1 a2 a3 a4 a5 : Value) (h10 : H) : Prop :=
intK IntKind.i64 a3 (fun x11 => intK IntKind.i64 a5 (fun x12 => lenW a0 (fun n13 => cond (decide (x12 < (n13 : Int))) (
slAtW a1 x11 1 (fun ad14 => ∃ v15 : Value, rd h10 ad14 = some v15 ∧ slAtW v15 x12 1 (fun ad16 => ∃ t17 : Bool, rd h10 ad16 = some (Value.bool t17) ∧ cond t17 (
slAtW a1 x12 1 (fun ad18 => ∃ v19 : Value, rd h10 ad18 = some v19 ∧ slAtW v19 x11 1 (fun ad20 => ∃ t21 : Bool, rd h10 ad20 = some (Value.bool t21) ∧ j12_8_11 D I K a0 a1 a2 (Value.int IntKind.i64 x11) a4 (Value.int IntKind.i64 x12) (Value.bool t21) h10))) (
j12_8_11 D I K a0 a1 a2 (Value.int IntKind.i64 x11) a4 (Value.int IntKind.i64 x12) (Value.bool false) h10)))) (
K (X.e 2) [a0, a1, a2, (Value.int IntKind.i64 x11), a4] h10))))
def loop12_8 (D : Orc) (vs : List Value) (h : H) (K : Kl) : Prop := ∀ I : List Value → H → Prop, (∀ a0 a1 a2 a3 a4 a5 h, round12_8 D I K a0 a1 a2 a3 a4 a5 h → I [a0, a1, a2, a3, a4, a5] h) → I vs h
def j12_4_5 (D : Orc) (I : List Value → H → Prop) (K : Kl) (a0 a1 a2 a3 : Value) (h52 : H) : Prop :=
intK IntKind.i64 a3 (fun x53 => I [a0, a1, a2, (Value.int IntKind.i64 (IntKind.wrap IntKind.i64 (x53 + (1 : Int))))] h52)
def j12_4_13 (D : Orc) (I : List Value → H → Prop) (K : Kl) (a0 a1 a2 a3 a4 a5 : Value) (h43 : H) : Prop :=
intK IntKind.i64 a3 (fun x44 => boolW a5 (fun t45 => cond t45 (
one a4 = true ∧ 0 < 1 ∧ newSl h43 1 [a4] (fun s46 h47 => slenW s46 (fun n48 => srcW h47 1 s46 (n48) (fun w49 => apW h47 1 24 [(Value.slice none 0 0)] a2 (n48) w49 (fun s50 h51 => j12_4_5 D I K a0 a1 s50 (Value.int IntKind.i64 x44) h51))))) (
j12_4_5 D I K a0 a1 a2 (Value.int IntKind.i64 x44) h43)))
def round12_4 (D : Orc) (I : List Value → H → Prop) (K : Kl) (a0 a1 a2 a3 : Value) (h5 : H) : Prop :=
intK IntKind.i64 a3 (fun x6 => lenW a0 (fun n7 => cond (decide (x6 < (n7 : Int))) (
newSl h5 0 [] (fun s8 h9 => loop12_8 D [a0, a1, a2, (Value.int IntKind.i64 x6), s8, (Value.int IntKind.i64 (0 : Int))] h9 (fun x36 vs37 h35 => xs x36 (K X.r [(nth vs37 0)] h35) (fun i38 => cond (Nat.beq i38 2) (
intK IntKind.i64 (nth vs37 3) (fun x39 => lenW (nth vs37 4) (fun n40 => cond (decide ((n40 : Int) > (0 : Int))) (
slAtW (nth vs37 4) (0 : Int) 1 (fun ad41 => ∃ x42 : Int, rd h35 ad41 = some (Value.int IntKind.i64 x42) ∧ j12_4_13 D I K (nth vs37 0) (nth vs37 1) (nth vs37 2) (Value.int IntKind.i64 x39) (nth vs37 4) (Value.bool (x42 == x39)) h35)) (
j12_4_13 D I K (nth vs37 0) (nth vs37 1) (nth vs37 2) (Value.int IntKind.i64 x39) (nth vs37 4) (Value.bool false) h35)))) (False)) (fun c => (fun c h => K (X.p c) [] h) c h35)))) (
K (X.e 0) [a2] h5)))
def loop12_4 (D : Orc) (vs : List Value) (h : H) (K : Kl) : Prop := ∀ I : List Value → H → Prop, (∀ a0 a1 a2 a3 h, round12_4 D I K a0 a1 a2 a3 h → I [a0, a1, a2, a3] h) → I vs h
def L12 (D : Orc) : Lor := fun b vs h K => match firstId b with | some i => cond (Nat.beq i 4) (loop12_4 D vs h K) (cond (Nat.beq i 8) (loop12_8 D vs h K) (False)) | none => False
/-- lodestone/lodestoneref14.Parts -/
def F12 (D : Orc) (a0 : Value) (h : H) (k : Kv) (kp : Kp) : Prop :=
D 15 [a0] h (fun v0 h1 => ∃ v2 : Value, v0 = v2 ∧ newSl h1 0 [] (fun s3 h4 => loop12_4 D [a0, v2, s3, (Value.int IntKind.i64 (0 : Int))] h4 (fun x55 vs56 h54 => xs x55 (k (nth vs56 0) h54) (fun i57 => cond (Nat.beq i57 0) (
k (nth vs56 0) h54) (False)) (fun c => kp c h54)))) kp
def Cl12 (D : Orc) : Prop := ∀ a0 h k kp, F12 D a0 h k kp → D 12 [a0] h k kp
theorem tieR12_4 (D : Orc) (I : List Value → H → Prop) (K : Kl) (a0 a1 a2 a3 : Value) (h : H) : round12_4 D I K a0 a1 a2 a3 h = round Try.prog D (L12 D) lv12 (nthC (allLoops (bodyOf Try.f12)) 0) I K [a0, a1, a2, a3] h := by kernel_rfl
theorem tieR12_8 (D : Orc) (I : List Value → H → Prop) (K : Kl) (a0 a1 a2 a3 a4 a5 : Value) (h : H) : round12_8 D I K a0 a1 a2 a3 a4 a5 h = round Try.prog D (L12 D) lv12 (nthC (allLoops (bodyOf Try.f12)) 1) I K [a0, a1, a2, a3, a4, a5] h := by kernel_rfl
theorem tieF12 (D : Orc) (a0 : Value) (h : H) (k : Kv) (kp : Kp) : F12 D a0 h k kp = bodyW Try.prog D (L12 D) lv12 Try.f12 [a0] h k kp := by kernel_rfl
theorem lfp12 : Lfps Try.prog (CS Try.prog) (L12 (CS Try.prog)) lv12 (allLoops (bodyOf Try.f12)) := by
  have e : (allLoops (bodyOf Try.f12)) = [nthC (allLoops (bodyOf Try.f12)) 0, nthC (allLoops (bodyOf Try.f12)) 1] := by kernel_rfl
  rw [e]
  exact ⟨(fun vs h K hk I H => hk I (fun a0 a1 a2 a3 h hr => H _ _ ((tieR12_4 (CS Try.prog) I K a0 a1 a2 a3 h) ▸ hr))), (fun vs h K hk I H => hk I (fun a0 a1 a2 a3 a4 a5 h hr => H _ _ ((tieR12_8 (CS Try.prog) I K a0 a1 a2 a3 a4 a5 h) ▸ hr))), trivial⟩
theorem cl12 : Cl12 (CS Try.prog) := fun a0 h k kp hk =>
  fn_sound wide (fn := Try.f12) (by kernel_rfl) (by kernel_rfl) (by kernel_rfl) lfp12 (by rw [tieF12] at hk; exact hk)
def lv13 : Lv := Lv.mk 53 [.raw, .raw] (fun i => cond (Nat.beq i 4) ([(0, .raw), (1, .raw), (5, .int IntKind.i64)]) (cond (Nat.beq i 9) ([(0, .raw), (1, .raw), (5, .int IntKind.i64), (6, .int IntKind.i64)]) ([]))) (fun i => cond (Nat.beq i 4) ([(0, [])]) (cond (Nat.beq i 9) ([(2, [(0, .raw), (1, .raw), (5, .int IntKind.i64)])]) ([]))) [(4, .bool)] (fun i => none)
def round13_9 (D : Orc) (I : List Value → H → Prop) (K : Kl) (a0 a1 a2 a3 : Value) (h11 : H) : Prop :=
intK IntKind.i64 a2 (fun x12 => intK IntKind.i64 a3 (fun x13 => slAtW a0 x12 1 (fun ad14 => ∃ v15 : Value, rd h11 ad14 = some v15 ∧ lenW v15 (fun n16 => cond (decide (x13 < (n16 : Int))) (
slAtW a0 x12 1 (fun ad17 => ∃ v18 : Value, rd h11 ad17 = some v18 ∧ slAtW v18 x13 1 (fun ad19 => ∃ x20 : Int, rd h11 ad19 = some (Value.int IntKind.i64 x20) ∧ slAtW a1 x12 1 (fun ad21 => ∃ v22 : Value, rd h11 ad21 = some v22 ∧ slAtW v22 x13 1 (fun ad23 => ∃ x24 : Int, rd h11 ad23 = some (Value.int IntKind.i64 x24) ∧ cond (x20 != x24) (
K X.r [(Value.bool false)] h11) (
I [a0, a1, (Value.int IntKind.i64 x12), (Value.int IntKind.i64 (IntKind.wrap IntKind.i64 (x13 + (1 : Int))))] h11)))))) (
K (X.e 2) [a0, a1, (Value.int IntKind.i64 x12)] h11)))))
def loop13_9 (D : Orc) (vs : List Value) (h : H) (K : Kl) : Prop := ∀ I : List Value → H → Prop, (∀ a0 a1 a2 a3 h, round13_9 D I K a0 a1 a2 a3 h → I [a0, a1, a2, a3] h) → I vs h
def round13_4 (D : Orc) (I : List Value → H → Prop) (K : Kl) (a0 a1 a2 : Value) (h2 : H) : Prop :=
intK IntKind.i64 a2 (fun x3 => lenW a0 (fun n4 => cond (decide (x3 < (n4 : Int))) (
slAtW a0 x3 1 (fun ad5 => ∃ v6 : Value, rd h2 ad5 = some v6 ∧ lenW v6 (fun n7 => slAtW a1 x3 1 (fun ad8 => ∃ v9 : Value, rd h2 ad8 = some v9 ∧ lenW v9 (fun n10 => cond ((n7 : Int) != (n10 : Int)) (
K X.r [(Value.bool false)] h2) (
loop13_9 D [a0, a1, (Value.int IntKind.i64 x3), (Value.int IntKind.i64 (0 : Int))] h2 (fun x26 vs27 h25 => xs x26 (boolW (nth vs27 0) (fun t29 => K X.r [(Value.bool t29)] h25)) (fun i28 => cond (Nat.beq i28 2) (
intK IntKind.i64 (nth vs27 2) (fun x30 => I [(nth vs27 0), (nth vs27 1), (Value.int IntKind.i64 (IntKind.wrap IntKind.i64 (x30 + (1 : Int))))] h25)) (False)) (fun c => (fun c h => K (X.p c) [] h) c h25)))))))) (
K (X.e 0) [] h2)))
def loop13_4 (D : Orc) (vs : List Value) (h : H) (K : Kl) : Prop := ∀ I : List Value → H → Prop, (∀ a0 a1 a2 h, round13_4 D I K a0 a1 a2 h → I [a0, a1, a2] h) → I vs h
def L13 (D : Orc) : Lor := fun b vs h K => match firstId b with | some i => cond (Nat.beq i 4) (loop13_4 D vs h K) (cond (Nat.beq i 9) (loop13_9 D vs h K) (False)) | none => False
/-- lodestone/lodestonelaw14.same -/
def F13 (D : Orc) (a0 a1 : Value) (h : H) (k : Kv) (kp : Kp) : Prop :=
lenW a0 (fun n0 => lenW a1 (fun n1 => cond ((n0 : Int) != (n1 : Int)) (
k (Value.bool false) h) (
loop13_4 D [a0, a1, (Value.int IntKind.i64 (0 : Int))] h (fun x32 vs33 h31 => xs x32 (boolW (nth vs33 0) (fun t35 => k (Value.bool t35) h31)) (fun i34 => cond (Nat.beq i34 0) (
k (Value.bool true) h31) (False)) (fun c => kp c h31)))))
def Cl13 (D : Orc) : Prop := ∀ a0 a1 h k kp, F13 D a0 a1 h k kp → D 13 [a0, a1] h k kp
theorem tieR13_4 (D : Orc) (I : List Value → H → Prop) (K : Kl) (a0 a1 a2 : Value) (h : H) : round13_4 D I K a0 a1 a2 h = round Try.prog D (L13 D) lv13 (nthC (allLoops (bodyOf Try.f13)) 0) I K [a0, a1, a2] h := by kernel_rfl
theorem tieR13_9 (D : Orc) (I : List Value → H → Prop) (K : Kl) (a0 a1 a2 a3 : Value) (h : H) : round13_9 D I K a0 a1 a2 a3 h = round Try.prog D (L13 D) lv13 (nthC (allLoops (bodyOf Try.f13)) 1) I K [a0, a1, a2, a3] h := by kernel_rfl
theorem tieF13 (D : Orc) (a0 a1 : Value) (h : H) (k : Kv) (kp : Kp) : F13 D a0 a1 h k kp = bodyW Try.prog D (L13 D) lv13 Try.f13 [a0, a1] h k kp := by kernel_rfl
theorem lfp13 : Lfps Try.prog (CS Try.prog) (L13 (CS Try.prog)) lv13 (allLoops (bodyOf Try.f13)) := by
  have e : (allLoops (bodyOf Try.f13)) = [nthC (allLoops (bodyOf Try.f13)) 0, nthC (allLoops (bodyOf Try.f13)) 1] := by kernel_rfl
  rw [e]
  exact ⟨(fun vs h K hk I H => hk I (fun a0 a1 a2 h hr => H _ _ ((tieR13_4 (CS Try.prog) I K a0 a1 a2 h) ▸ hr))), (fun vs h K hk I H => hk I (fun a0 a1 a2 a3 h hr => H _ _ ((tieR13_9 (CS Try.prog) I K a0 a1 a2 a3 h) ▸ hr))), trivial⟩
theorem cl13 : Cl13 (CS Try.prog) := fun a0 a1 h k kp hk =>
  fn_sound wide (fn := Try.f13) (by kernel_rfl) (by kernel_rfl) (by kernel_rfl) lfp13 (by rw [tieF13] at hk; exact hk)
def lv14 : Lv := Lv.mk 32 [.raw, .int IntKind.i64] (fun i => cond (Nat.beq i 2) ([(0, .raw), (1, .int IntKind.i64), (5, .int IntKind.i64)]) (cond (Nat.beq i 5) ([(0, .raw), (1, .int IntKind.i64), (5, .int IntKind.i64), (6, .int IntKind.i64)]) ([]))) (fun i => cond (Nat.beq i 2) ([(0, [])]) (cond (Nat.beq i 5) ([(2, [(0, .raw), (1, .int IntKind.i64), (5, .int IntKind.i64)])]) ([]))) [(4, .int IntKind.i64)] (fun i => none)
def round14_5 (D : Orc) (I : List Value → H → Prop) (K : Kl) (a0 a1 a2 a3 : Value) (h5 : H) : Prop :=
intK IntKind.i64 a1 (fun x6 => intK IntKind.i64 a2 (fun x7 => intK IntKind.i64 a3 (fun x8 => slAtW a0 x7 1 (fun ad9 => ∃ v10 : Value, rd h5 ad9 = some v10 ∧ lenW v10 (fun n11 => cond (decide (x8 < (n11 : Int))) (
slAtW a0 x7 1 (fun ad12 => ∃ v13 : Value, rd h5 ad12 = some v13 ∧ slAtW v13 x8 1 (fun ad14 => ∃ x15 : Int, rd h5 ad14 = some (Value.int IntKind.i64 x15) ∧ cond (x15 == x6) (
K X.r [(Value.int IntKind.i64 x7)] h5) (
I [a0, (Value.int IntKind.i64 x6), (Value.int IntKind.i64 x7), (Value.int IntKind.i64 (IntKind.wrap IntKind.i64 (x8 + (1 : Int))))] h5)))) (
K (X.e 2) [a0, (Value.int IntKind.i64 x6), (Value.int IntKind.i64 x7)] h5))))))
def loop14_5 (D : Orc) (vs : List Value) (h : H) (K : Kl) : Prop := ∀ I : List Value → H → Prop, (∀ a0 a1 a2 a3 h, round14_5 D I K a0 a1 a2 a3 h → I [a0, a1, a2, a3] h) → I vs h
def round14_2 (D : Orc) (I : List Value → H → Prop) (K : Kl) (a0 a1 a2 : Value) (h1 : H) : Prop :=
intK IntKind.i64 a1 (fun x2 => intK IntKind.i64 a2 (fun x3 => lenW a0 (fun n4 => cond (decide (x3 < (n4 : Int))) (
loop14_5 D [a0, (Value.int IntKind.i64 x2), (Value.int IntKind.i64 x3), (Value.int IntKind.i64 (0 : Int))] h1 (fun x17 vs18 h16 => xs x17 (intK IntKind.i64 (nth vs18 0) (fun x20 => K X.r [(Value.int IntKind.i64 x20)] h16)) (fun i19 => cond (Nat.beq i19 2) (
intK IntKind.i64 (nth vs18 1) (fun x21 => intK IntKind.i64 (nth vs18 2) (fun x22 => I [(nth vs18 0), (Value.int IntKind.i64 x21), (Value.int IntKind.i64 (IntKind.wrap IntKind.i64 (x22 + (1 : Int))))] h16))) (False)) (fun c => (fun c h => K (X.p c) [] h) c h16))) (
K (X.e 0) [] h1))))
def loop14_2 (D : Orc) (vs : List Value) (h : H) (K : Kl) : Prop := ∀ I : List Value → H → Prop, (∀ a0 a1 a2 h, round14_2 D I K a0 a1 a2 h → I [a0, a1, a2] h) → I vs h
def L14 (D : Orc) : Lor := fun b vs h K => match firstId b with | some i => cond (Nat.beq i 2) (loop14_2 D vs h K) (cond (Nat.beq i 5) (loop14_5 D vs h K) (False)) | none => False
/-- lodestone/lodestonelaw14.home -/
def F14 (D : Orc) (a0 a1 : Value) (h : H) (k : Kv) (kp : Kp) : Prop :=
intK IntKind.i64 a1 (fun x0 => loop14_2 D [a0, (Value.int IntKind.i64 x0), (Value.int IntKind.i64 (0 : Int))] h (fun x24 vs25 h23 => xs x24 (intK IntKind.i64 (nth vs25 0) (fun x27 => k (Value.int IntKind.i64 x27) h23)) (fun i26 => cond (Nat.beq i26 0) (
k (Value.int IntKind.i64 (-1 : Int)) h23) (False)) (fun c => kp c h23)))
def Cl14 (D : Orc) : Prop := ∀ a0 a1 h k kp, F14 D a0 a1 h k kp → D 14 [a0, a1] h k kp
theorem tieR14_2 (D : Orc) (I : List Value → H → Prop) (K : Kl) (a0 a1 a2 : Value) (h : H) : round14_2 D I K a0 a1 a2 h = round Try.prog D (L14 D) lv14 (nthC (allLoops (bodyOf Try.f14)) 0) I K [a0, a1, a2] h := by kernel_rfl
theorem tieR14_5 (D : Orc) (I : List Value → H → Prop) (K : Kl) (a0 a1 a2 a3 : Value) (h : H) : round14_5 D I K a0 a1 a2 a3 h = round Try.prog D (L14 D) lv14 (nthC (allLoops (bodyOf Try.f14)) 1) I K [a0, a1, a2, a3] h := by kernel_rfl
theorem tieF14 (D : Orc) (a0 a1 : Value) (h : H) (k : Kv) (kp : Kp) : F14 D a0 a1 h k kp = bodyW Try.prog D (L14 D) lv14 Try.f14 [a0, a1] h k kp := by kernel_rfl
theorem lfp14 : Lfps Try.prog (CS Try.prog) (L14 (CS Try.prog)) lv14 (allLoops (bodyOf Try.f14)) := by
  have e : (allLoops (bodyOf Try.f14)) = [nthC (allLoops (bodyOf Try.f14)) 0, nthC (allLoops (bodyOf Try.f14)) 1] := by kernel_rfl
  rw [e]
  exact ⟨(fun vs h K hk I H => hk I (fun a0 a1 a2 h hr => H _ _ ((tieR14_2 (CS Try.prog) I K a0 a1 a2 h) ▸ hr))), (fun vs h K hk I H => hk I (fun a0 a1 a2 a3 h hr => H _ _ ((tieR14_5 (CS Try.prog) I K a0 a1 a2 a3 h) ▸ hr))), trivial⟩
theorem cl14 : Cl14 (CS Try.prog) := fun a0 a1 h k kp hk =>
  fn_sound wide (fn := Try.f14) (by kernel_rfl) (by kernel_rfl) (by kernel_rfl) lfp14 (by rw [tieF14] at hk; exact hk)
def lv15 : Lv := Lv.mk 109 [.raw] (fun i => cond (Nat.beq i 4) ([(0, .raw), (3, .int IntKind.i64), (4, .raw), (5, .int IntKind.i64)]) (cond (Nat.beq i 8) ([(0, .raw), (3, .int IntKind.i64), (4, .raw), (5, .int IntKind.i64), (6, .raw), (7, .int IntKind.i64)]) (cond (Nat.beq i 14) ([(3, .int IntKind.i64), (4, .raw), (8, .int IntKind.i64)]) (cond (Nat.beq i 17) ([(3, .int IntKind.i64), (4, .raw), (8, .int IntKind.i64), (9, .int IntKind.i64)]) (cond (Nat.beq i 20) ([(3, .int IntKind.i64), (4, .raw), (8, .int IntKind.i64), (9, .int IntKind.i64), (10, .int IntKind.i64)]) ([])))))) (fun i => cond (Nat.beq i 4) ([(0, [(3, .int IntKind.i64), (4, .raw)])]) (cond (Nat.beq i 8) ([(2, [(0, .raw), (3, .int IntKind.i64), (4, .raw), (5, .int IntKind.i64), (6, .raw)])]) (cond (Nat.beq i 14) ([(4, [(4, .raw)])]) (cond (Nat.beq i 17) ([(6, [(3, .int IntKind.i64), (4, .raw), (8, .int IntKind.i64)])]) (cond (Nat.beq i 20) ([(8, [(3, .int IntKind.i64), (4, .raw), (8, .int IntKind.i64), (9, .int IntKind.i64)])]) ([])))))) [(2, .raw)] (fun i => cond (Nat.beq i 9) (some [(0, .raw), (3, .int IntKind.i64), (4, .raw), (5, .int IntKind.i64), (6, .raw), (7, .int IntKind.i64)]) (cond (Nat.beq i 11) (some [(0, .raw), (3, .int IntKind.i64), (4, .raw), (5, .int IntKind.i64), (6, .raw), (7, .int IntKind.i64), (48, .bool)]) (cond (Nat.beq i 21) (some [(3, .int IntKind.i64), (4, .raw), (8, .int IntKind.i64), (9, .int IntKind.i64), (10, .int IntKind.i64)]) (none))))
def j15_8_9 (D : Orc) (I : List Value → H → Prop) (K : Kl) (a0 a1 a2 a3 a4 a5 : Value) (h34 : H) : Prop :=
intK IntKind.i64 a1 (fun x35 => intK IntKind.i64 a3 (fun x36 => intK IntKind.i64 a5 (fun x37 => I [a0, (Value.int IntKind.i64 x35), a2, (Value.int IntKind.i64 x36), a4, (Value.int IntKind.i64 (IntKind.wrap IntKind.i64 (x37 + (1 : Int))))] h34)))
def j15_8_11 (D : Orc) (I : List Value → H → Prop) (K : Kl) (a0 a1 a2 a3 a4 a5 a6 : Value) (h23 : H) : Prop :=
intK IntKind.i64 a1 (fun x24 => intK IntKind.i64 a3 (fun x25 => intK IntKind.i64 a5 (fun x26 => boolW a6 (fun t27 => cond t27 (
slAtW a0 x25 1 (fun ad28 => ∃ v29 : Value, rd h23 ad28 = some v29 ∧ slAtW v29 x26 1 (fun ad30 => ∃ x31 : Int, rd h23 ad30 = some (Value.int IntKind.i64 x31) ∧ slAtW a4 x31 1 (fun ad32 => one (Value.bool true) = true ∧ 1 = 1 ∧ ∃ h33, wr1 h23 ad32 (Value.bool true) = some h33 ∧ j15_8_9 D I K a0 (Value.int IntKind.i64 x24) a2 (Value.int IntKind.i64 x25) a4 (Value.int IntKind.i64 x26) h33)))) (
j15_8_9 D I K a0 (Value.int IntKind.i64 x24) a2 (Value.int IntKind.i64 x25) a4 (Value.int IntKind.i64 x26) h23)))))
def round15_8 (D : Orc) (I : List Value → H → Prop) (K : Kl) (a0 a1 a2 a3 a4 a5 : Value) (h8 : H) : Prop :=
intK IntKind.i64 a1 (fun x9 => intK IntKind.i64 a3 (fun x10 => intK IntKind.i64 a5 (fun x11 => slAtW a0 x10 1 (fun ad12 => ∃ v13 : Value, rd h8 ad12 = some v13 ∧ lenW v13 (fun n14 => cond (decide (x11 < (n14 : Int))) (
slAtW a0 x10 1 (fun ad15 => ∃ v16 : Value, rd h8 ad15 = some v16 ∧ slAtW v16 x11 1 (fun ad17 => ∃ x18 : Int, rd h8 ad17 = some (Value.int IntKind.i64 x18) ∧ cond (decide (x18 ≥ (0 : Int))) (
slAtW a0 x10 1 (fun ad19 => ∃ v20 : Value, rd h8 ad19 = some v20 ∧ slAtW v20 x11 1 (fun ad21 => ∃ x22 : Int, rd h8 ad21 = some (Value.int IntKind.i64 x22) ∧ j15_8_11 D I K a0 (Value.int IntKind.i64 x9) a2 (Value.int IntKind.i64 x10) a4 (Value.int IntKind.i64 x11) (Value.bool (decide (x22 < x9))) h8))) (
j15_8_11 D I K a0 (Value.int IntKind.i64 x9) a2 (Value.int IntKind.i64 x10) a4 (Value.int IntKind.i64 x11) (Value.bool false) h8)))) (
K (X.e 2) [a0, (Value.int IntKind.i64 x9), a2, (Value.int IntKind.i64 x10), a4] h8))))))
def loop15_8 (D : Orc) (vs : List Value) (h : H) (K : Kl) : Prop := ∀ I : List Value → H → Prop, (∀ a0 a1 a2 a3 a4 a5 h, round15_8 D I K a0 a1 a2 a3 a4 a5 h → I [a0, a1, a2, a3, a4, a5] h) → I vs h
def round15_4 (D : Orc) (I : List Value → H → Prop) (K : Kl) (a0 a1 a2 a3 : Value) (h3 : H) : Prop :=
intK IntKind.i64 a1 (fun x4 => intK IntKind.i64 a3 (fun x5 => cond (decide (x5 < x4)) (
mkSliceW h3 1 [(Value.bool false)] x4 x4 (fun s6 h7 => loop15_8 D [a0, (Value.int IntKind.i64 x4), a2, (Value.int IntKind.i64 x5), s6, (Value.int IntKind.i64 (0 : Int))] h7 (fun x39 vs40 h38 => xs x39 (K X.r [(nth vs40 0)] h38) (fun i41 => cond (Nat.beq i41 2) (
intK IntKind.i64 (nth vs40 1) (fun x42 => intK IntKind.i64 (nth vs40 3) (fun x43 => one (nth vs40 4) = true ∧ 0 < 1 ∧ newSl h38 1 [(nth vs40 4)] (fun s44 h45 => slenW s44 (fun n46 => srcW h45 1 s44 (n46) (fun w47 => apW h45 1 24 [(Value.slice none 0 0)] (nth vs40 2) (n46) w47 (fun s48 h49 => I [(nth vs40 0), (Value.int IntKind.i64 x42), s48, (Value.int IntKind.i64 (IntKind.wrap IntKind.i64 (x43 + (1 : Int))))] h49))))))) (False)) (fun c => (fun c h => K (X.p c) [] h) c h38)))) (
K (X.e 0) [(Value.int IntKind.i64 x4), a2] h3)))
def loop15_4 (D : Orc) (vs : List Value) (h : H) (K : Kl) : Prop := ∀ I : List Value → H → Prop, (∀ a0 a1 a2 a3 h, round15_4 D I K a0 a1 a2 a3 h → I [a0, a1, a2, a3] h) → I vs h
def j15_20_21 (D : Orc) (I : List Value → H → Prop) (K : Kl) (a0 a1 a2 a3 a4 : Value) (h83 : H) : Prop :=
intK IntKind.i64 a0 (fun x84 => intK IntKind.i64 a2 (fun x85 => intK IntKind.i64 a3 (fun x86 => intK IntKind.i64 a4 (fun x87 => I [(Value.int IntKind.i64 x84), a1, (Value.int IntKind.i64 x85), (Value.int IntKind.i64 x86), (Value.int IntKind.i64 (IntKind.wrap IntKind.i64 (x87 + (1 : Int))))] h83))))
def round15_20 (D : Orc) (I : List Value → H → Prop) (K : Kl) (a0 a1 a2 a3 a4 : Value) (h62 : H) : Prop :=
intK IntKind.i64 a0 (fun x63 => intK IntKind.i64 a2 (fun x64 => intK IntKind.i64 a3 (fun x65 => intK IntKind.i64 a4 (fun x66 => slAtW a1 x65 1 (fun ad67 => ∃ v68 : Value, rd h62 ad67 = some v68 ∧ slAtW v68 x64 1 (fun ad69 => ∃ t70 : Bool, rd h62 ad69 = some (Value.bool t70) ∧ cond t70 (
cond (decide (x66 < x63)) (
slAtW a1 x65 1 (fun ad71 => ∃ v72 : Value, rd h62 ad71 = some v72 ∧ slAtW a1 x65 1 (fun ad73 => ∃ v74 : Value, rd h62 ad73 = some v74 ∧ slAtW v74 x66 1 (fun ad75 => ∃ t76 : Bool, rd h62 ad75 = some (Value.bool t76) ∧ cond (!t76) (
slAtW a1 x64 1 (fun ad77 => ∃ v78 : Value, rd h62 ad77 = some v78 ∧ slAtW v78 x66 1 (fun ad79 => ∃ t80 : Bool, rd h62 ad79 = some (Value.bool t80) ∧ slAtW v72 x66 1 (fun ad81 => one (Value.bool t80) = true ∧ 1 = 1 ∧ ∃ h82, wr1 h62 ad81 (Value.bool t80) = some h82 ∧ j15_20_21 D I K (Value.int IntKind.i64 x63) a1 (Value.int IntKind.i64 x64) (Value.int IntKind.i64 x65) (Value.int IntKind.i64 x66) h82)))) (
slAtW v72 x66 1 (fun ad88 => one (Value.bool true) = true ∧ 1 = 1 ∧ ∃ h89, wr1 h62 ad88 (Value.bool true) = some h89 ∧ j15_20_21 D I K (Value.int IntKind.i64 x63) a1 (Value.int IntKind.i64 x64) (Value.int IntKind.i64 x65) (Value.int IntKind.i64 x66) h89)))))) (
K (X.e 8) [(Value.int IntKind.i64 x63), a1, (Value.int IntKind.i64 x64), (Value.int IntKind.i64 x65)] h62)) (
K (X.e 8) [(Value.int IntKind.i64 x63), a1, (Value.int IntKind.i64 x64), (Value.int IntKind.i64 x65)] h62)))))))
def loop15_20 (D : Orc) (vs : List Value) (h : H) (K : Kl) : Prop := ∀ I : List Value → H → Prop, (∀ a0 a1 a2 a3 a4 h, round15_20 D I K a0 a1 a2 a3 a4 h → I [a0, a1, a2, a3, a4] h) → I vs h
def round15_17 (D : Orc) (I : List Value → H → Prop) (K : Kl) (a0 a1 a2 a3 : Value) (h58 : H) : Prop :=
intK IntKind.i64 a0 (fun x59 => intK IntKind.i64 a2 (fun x60 => intK IntKind.i64 a3 (fun x61 => cond (decide (x61 < x59)) (
loop15_20 D [(Value.int IntKind.i64 x59), a1, (Value.int IntKind.i64 x60), (Value.int IntKind.i64 x61), (Value.int IntKind.i64 (0 : Int))] h58 (fun x91 vs92 h90 => xs x91 (K X.r [(nth vs92 0)] h90) (fun i93 => cond (Nat.beq i93 8) (
intK IntKind.i64 (nth vs92 0) (fun x94 => intK IntKind.i64 (nth vs92 2) (fun x95 => intK IntKind.i64 (nth vs92 3) (fun x96 => I [(Value.int IntKind.i64 x94), (nth vs92 1), (Value.int IntKind.i64 x95), (Value.int IntKind.i64 (IntKind.wrap IntKind.i64 (x96 + (1 : Int))))] h90)))) (False)) (fun c => (fun c h => K (X.p c) [] h) c h90))) (
K (X.e 6) [(Value.int IntKind.i64 x59), a1, (Value.int IntKind.i64 x60)] h58))))
def loop15_17 (D : Orc) (vs : List Value) (h : H) (K : Kl) : Prop := ∀ I : List Value → H → Prop, (∀ a0 a1 a2 a3 h, round15_17 D I K a0 a1 a2 a3 h → I [a0, a1, a2, a3] h) → I vs h
def round15_14 (D : Orc) (I : List Value → H → Prop) (K : Kl) (a0 a1 a2 : Value) (h55 : H) : Prop :=
intK IntKind.i64 a0 (fun x56 => intK IntKind.i64 a2 (fun x57 => cond (decide (x57 < x56)) (
loop15_17 D [(Value.int IntKind.i64 x56), a1, (Value.int IntKind.i64 x57), (Value.int IntKind.i64 (0 : Int))] h55 (fun x98 vs99 h97 => xs x98 (K X.r [(nth vs99 0)] h97) (fun i100 => cond (Nat.beq i100 6) (
intK IntKind.i64 (nth vs99 0) (fun x101 => intK IntKind.i64 (nth vs99 2) (fun x102 => I [(Value.int IntKind.i64 x101), (nth vs99 1), (Value.int IntKind.i64 (IntKind.wrap IntKind.i64 (x102 + (1 : Int))))] h97))) (False)) (fun c => (fun c h => K (X.p c) [] h) c h97))) (
K (X.e 4) [a1] h55)))
def loop15_14 (D : Orc) (vs : List Value) (h : H) (K : Kl) : Prop := ∀ I : List Value → H → Prop, (∀ a0 a1 a2 h, round15_14 D I K a0 a1 a2 h → I [a0, a1, a2] h) → I vs h
def L15 (D : Orc) : Lor := fun b vs h K => match firstId b with | some i => cond (Nat.beq i 4) (loop15_4 D vs h K) (cond (Nat.beq i 8) (loop15_8 D vs h K) (cond (Nat.beq i 14) (loop15_14 D vs h K) (cond (Nat.beq i 17) (loop15_17 D vs h K) (cond (Nat.beq i 20) (loop15_20 D vs h K) (False))))) | none => False
/-- lodestone/lodestoneref14.Ways -/
def F15 (D : Orc) (a0 : Value) (h : H) (k : Kv) (kp : Kp) : Prop :=
lenW a0 (fun n0 => newSl h 0 [] (fun s1 h2 => loop15_4 D [a0, (Value.int IntKind.i64 (n0 : Int)), s1, (Value.int IntKind.i64 (0 : Int))] h2 (fun x51 vs52 h50 => xs x51 (k (nth vs52 0) h50) (fun i53 => cond (Nat.beq i53 0) (
intK IntKind.i64 (nth vs52 0) (fun x54 => loop15_14 D [(Value.int IntKind.i64 x54), (nth vs52 1), (Value.int IntKind.i64 (0 : Int))] h50 (fun x104 vs105 h103 => xs x104 (k (nth vs105 0) h103) (fun i106 => cond (Nat.beq i106 4) (
k (nth vs105 0) h103) (False)) (fun c => kp c h103)))) (False)) (fun c => kp c h50))))
def Cl15 (D : Orc) : Prop := ∀ a0 h k kp, F15 D a0 h k kp → D 15 [a0] h k kp
theorem tieR15_4 (D : Orc) (I : List Value → H → Prop) (K : Kl) (a0 a1 a2 a3 : Value) (h : H) : round15_4 D I K a0 a1 a2 a3 h = round Try.prog D (L15 D) lv15 (nthC (allLoops (bodyOf Try.f15)) 0) I K [a0, a1, a2, a3] h := by kernel_rfl
theorem tieR15_8 (D : Orc) (I : List Value → H → Prop) (K : Kl) (a0 a1 a2 a3 a4 a5 : Value) (h : H) : round15_8 D I K a0 a1 a2 a3 a4 a5 h = round Try.prog D (L15 D) lv15 (nthC (allLoops (bodyOf Try.f15)) 1) I K [a0, a1, a2, a3, a4, a5] h := by kernel_rfl
theorem tieR15_14 (D : Orc) (I : List Value → H → Prop) (K : Kl) (a0 a1 a2 : Value) (h : H) : round15_14 D I K a0 a1 a2 h = round Try.prog D (L15 D) lv15 (nthC (allLoops (bodyOf Try.f15)) 2) I K [a0, a1, a2] h := by kernel_rfl
theorem tieR15_17 (D : Orc) (I : List Value → H → Prop) (K : Kl) (a0 a1 a2 a3 : Value) (h : H) : round15_17 D I K a0 a1 a2 a3 h = round Try.prog D (L15 D) lv15 (nthC (allLoops (bodyOf Try.f15)) 3) I K [a0, a1, a2, a3] h := by kernel_rfl
theorem tieR15_20 (D : Orc) (I : List Value → H → Prop) (K : Kl) (a0 a1 a2 a3 a4 : Value) (h : H) : round15_20 D I K a0 a1 a2 a3 a4 h = round Try.prog D (L15 D) lv15 (nthC (allLoops (bodyOf Try.f15)) 4) I K [a0, a1, a2, a3, a4] h := by kernel_rfl
theorem tieF15 (D : Orc) (a0 : Value) (h : H) (k : Kv) (kp : Kp) : F15 D a0 h k kp = bodyW Try.prog D (L15 D) lv15 Try.f15 [a0] h k kp := by kernel_rfl
theorem lfp15 : Lfps Try.prog (CS Try.prog) (L15 (CS Try.prog)) lv15 (allLoops (bodyOf Try.f15)) := by
  have e : (allLoops (bodyOf Try.f15)) = [nthC (allLoops (bodyOf Try.f15)) 0, nthC (allLoops (bodyOf Try.f15)) 1, nthC (allLoops (bodyOf Try.f15)) 2, nthC (allLoops (bodyOf Try.f15)) 3, nthC (allLoops (bodyOf Try.f15)) 4] := by kernel_rfl
  rw [e]
  exact ⟨(fun vs h K hk I H => hk I (fun a0 a1 a2 a3 h hr => H _ _ ((tieR15_4 (CS Try.prog) I K a0 a1 a2 a3 h) ▸ hr))), (fun vs h K hk I H => hk I (fun a0 a1 a2 a3 a4 a5 h hr => H _ _ ((tieR15_8 (CS Try.prog) I K a0 a1 a2 a3 a4 a5 h) ▸ hr))), (fun vs h K hk I H => hk I (fun a0 a1 a2 h hr => H _ _ ((tieR15_14 (CS Try.prog) I K a0 a1 a2 h) ▸ hr))), (fun vs h K hk I H => hk I (fun a0 a1 a2 a3 h hr => H _ _ ((tieR15_17 (CS Try.prog) I K a0 a1 a2 a3 h) ▸ hr))), (fun vs h K hk I H => hk I (fun a0 a1 a2 a3 a4 h hr => H _ _ ((tieR15_20 (CS Try.prog) I K a0 a1 a2 a3 a4 h) ▸ hr))), trivial⟩
theorem cl15 : Cl15 (CS Try.prog) := fun a0 h k kp hk =>
  fn_sound wide (fn := Try.f15) (by kernel_rfl) (by kernel_rfl) (by kernel_rfl) lfp15 (by rw [tieF15] at hk; exact hk)
def lv16 : Lv := Lv.mk 26 [.raw, .int IntKind.i64, .int IntKind.i64] (fun i => cond (Nat.beq i 2) ([(0, .raw), (1, .int IntKind.i64), (2, .int IntKind.i64), (7, .int IntKind.i64)]) ([])) (fun i => cond (Nat.beq i 2) ([(0, [])]) ([])) [(6, .bool)] (fun i => none)
def round16_2 (D : Orc) (I : List Value → H → Prop) (K : Kl) (a0 a1 a2 a3 : Value) (h2 : H) : Prop :=
intK IntKind.i64 a1 (fun x3 => intK IntKind.i64 a2 (fun x4 => intK IntKind.i64 a3 (fun x5 => slAtW a0 x3 1 (fun ad6 => ∃ v7 : Value, rd h2 ad6 = some v7 ∧ lenW v7 (fun n8 => cond (decide (x5 < (n8 : Int))) (
slAtW a0 x3 1 (fun ad9 => ∃ v10 : Value, rd h2 ad9 = some v10 ∧ slAtW v10 x5 1 (fun ad11 => ∃ x12 : Int, rd h2 ad11 = some (Value.int IntKind.i64 x12) ∧ cond (x12 == x4) (
K X.r [(Value.bool true)] h2) (
I [a0, (Value.int IntKind.i64 x3), (Value.int IntKind.i64 x4), (Value.int IntKind.i64 (IntKind.wrap IntKind.i64 (x5 + (1 : Int))))] h2)))) (
K (X.e 0) [] h2))))))
def loop16_2 (D : Orc) (vs : List Value) (h : H) (K : Kl) : Prop := ∀ I : List Value → H → Prop, (∀ a0 a1 a2 a3 h, round16_2 D I K a0 a1 a2 a3 h → I [a0, a1, a2, a3] h) → I vs h
def L16 (D : Orc) : Lor := fun b vs h K => match firstId b with | some i => cond (Nat.beq i 2) (loop16_2 D vs h K) (False) | none => False
/-- lodestone/lodestonelaw14.edge -/
def F16 (D : Orc) (a0 a1 a2 : Value) (h : H) (k : Kv) (kp : Kp) : Prop :=
intK IntKind.i64 a1 (fun x0 => intK IntKind.i64 a2 (fun x1 => loop16_2 D [a0, (Value.int IntKind.i64 x0), (Value.int IntKind.i64 x1), (Value.int IntKind.i64 (0 : Int))] h (fun x14 vs15 h13 => xs x14 (boolW (nth vs15 0) (fun t17 => k (Value.bool t17) h13)) (fun i16 => cond (Nat.beq i16 0) (
k (Value.bool false) h13) (False)) (fun c => kp c h13))))
def Cl16 (D : Orc) : Prop := ∀ a0 a1 a2 h k kp, F16 D a0 a1 a2 h k kp → D 16 [a0, a1, a2] h k kp
theorem tieR16_2 (D : Orc) (I : List Value → H → Prop) (K : Kl) (a0 a1 a2 a3 : Value) (h : H) : round16_2 D I K a0 a1 a2 a3 h = round Try.prog D (L16 D) lv16 (nthC (allLoops (bodyOf Try.f16)) 0) I K [a0, a1, a2, a3] h := by kernel_rfl
theorem tieF16 (D : Orc) (a0 a1 a2 : Value) (h : H) (k : Kv) (kp : Kp) : F16 D a0 a1 a2 h k kp = bodyW Try.prog D (L16 D) lv16 Try.f16 [a0, a1, a2] h k kp := by kernel_rfl
theorem lfp16 : Lfps Try.prog (CS Try.prog) (L16 (CS Try.prog)) lv16 (allLoops (bodyOf Try.f16)) := by
  have e : (allLoops (bodyOf Try.f16)) = [nthC (allLoops (bodyOf Try.f16)) 0] := by kernel_rfl
  rw [e]
  exact ⟨(fun vs h K hk I H => hk I (fun a0 a1 a2 a3 h hr => H _ _ ((tieR16_2 (CS Try.prog) I K a0 a1 a2 a3 h) ▸ hr))), trivial⟩
theorem cl16 : Cl16 (CS Try.prog) := fun a0 a1 a2 h k kp hk =>
  fn_sound wide (fn := Try.f16) (by kernel_rfl) (by kernel_rfl) (by kernel_rfl) lfp16 (by rw [tieF16] at hk; exact hk)
def lv17 : Lv := Lv.mk 147 [.int IntKind.i64] (fun i => cond (Nat.beq i 6) ([(0, .int IntKind.i64), (2, .raw), (4, .raw), (5, .raw), (7, .bool), (45, .raw), (46, .int IntKind.i64), (47, .int IntKind.i64)]) ([])) (fun i => cond (Nat.beq i 6) ([(0, [(0, .int IntKind.i64), (2, .raw), (7, .bool)])]) ([])) [] (fun i => cond (Nat.beq i 15) (some [(0, .int IntKind.i64), (2, .raw), (4, .raw), (5, .raw), (7, .bool), (45, .raw), (46, .int IntKind.i64), (47, .int IntKind.i64)]) (cond (Nat.beq i 14) (some [(0, .int IntKind.i64), (2, .raw), (4, .raw), (5, .raw), (7, .bool), (9, .int IntKind.i64), (45, .raw), (46, .int IntKind.i64), (47, .int IntKind.i64)]) (cond (Nat.beq i 9) (some [(0, .int IntKind.i64), (2, .raw), (4, .raw), (5, .raw), (7, .bool), (9, .int IntKind.i64), (45, .raw), (46, .int IntKind.i64), (47, .int IntKind.i64), (51, .bool)]) (none))))
def j17_6_15 (D : Orc) (I : List Value → H → Prop) (K : Kl) (a0 a1 a2 a3 a4 a5 a6 a7 : Value) (h70 : H) : Prop :=
intK IntKind.i64 a0 (fun x71 => boolW a4 (fun t72 => intK IntKind.i64 a6 (fun x73 => intK IntKind.i64 a7 (fun x74 => I [(Value.int IntKind.i64 x71), a1, a2, a3, (Value.bool t72), a5, (Value.int IntKind.i64 x73), (Value.int IntKind.i64 (IntKind.wrap IntKind.i64 (x74 + (1 : Int))))] h70))))
def j17_6_14 (D : Orc) (I : List Value → H → Prop) (K : Kl) (a0 a1 a2 a3 a4 a5 a6 a7 a8 : Value) (h64 : H) : Prop :=
intK IntKind.i64 a0 (fun x65 => boolW a4 (fun t66 => intK IntKind.i64 a5 (fun x67 => intK IntKind.i64 a7 (fun x68 => intK IntKind.i64 a8 (fun x69 => cond (!t66) (
j17_6_15 D I K (Value.int IntKind.i64 x65) a1 a2 a3 (Value.bool (x67 == x65)) a6 (Value.int IntKind.i64 x68) (Value.int IntKind.i64 x69) h64) (
j17_6_15 D I K (Value.int IntKind.i64 x65) a1 a2 a3 (Value.bool true) a6 (Value.int IntKind.i64 x68) (Value.int IntKind.i64 x69) h64))))))
def j17_6_9 (D : Orc) (I : List Value → H → Prop) (K : Kl) (a0 a1 a2 a3 a4 a5 a6 a7 a8 a9 : Value) (h57 : H) : Prop :=
intK IntKind.i64 a0 (fun x58 => boolW a4 (fun t59 => intK IntKind.i64 a5 (fun x60 => intK IntKind.i64 a7 (fun x61 => intK IntKind.i64 a8 (fun x62 => boolW a9 (fun t63 => cond t63 (
j17_6_14 D I K (Value.int IntKind.i64 x58) a1 a2 a3 (Value.bool t59) (Value.int IntKind.i64 x60) a6 (Value.int IntKind.i64 x61) (Value.int IntKind.i64 x62) h57) (
ptrW a1 (fun ad75 => ∃ v76 : Value, rd h57 ad75 = some v76 ∧ nonNil v76 = true ∧ ptrW v76 (fun ad77 => ∃ v78 : Value, rd h57 (Addr.add ad77 0) = some v78 ∧ slAtW v78 x60 1 (fun ad79 => ∃ x80 : Int, rd h57 ad79 = some (Value.int IntKind.i64 x80) ∧ cond (x80 == (0 : Int)) (
ptrW a3 (fun ad81 => ∃ v82 : Value, rd h57 ad81 = some v82 ∧ callV Try.prog D 0 v82 [(Value.int IntKind.i64 x60)] h57 (fun v83 h84 => ptrW a1 (fun ad85 => ∃ v86 : Value, rd h84 ad85 = some v86 ∧ nonNil v86 = true ∧ ptrW v86 (fun ad87 => ∃ v88 : Value, rd h84 (Addr.add ad87 1) = some v88 ∧ ptrW a1 (fun ad89 => ∃ v90 : Value, rd h84 ad89 = some v90 ∧ nonNil v90 = true ∧ ptrW v90 (fun ad91 => ∃ v92 : Value, rd h84 (Addr.add ad91 1) = some v92 ∧ slAtW v92 x58 1 (fun ad93 => ∃ x94 : Int, rd h84 ad93 = some (Value.int IntKind.i64 x94) ∧ ptrW a1 (fun ad95 => ∃ v96 : Value, rd h84 ad95 = some v96 ∧ nonNil v96 = true ∧ ptrW v96 (fun ad97 => ∃ v98 : Value, rd h84 (Addr.add ad97 1) = some v98 ∧ slAtW v98 x60 1 (fun ad99 => ∃ x100 : Int, rd h84 ad99 = some (Value.int IntKind.i64 x100) ∧ minMax false [(Value.int IntKind.i64 x94), (Value.int IntKind.i64 x100)] (fun v101 => slAtW v88 x58 1 (fun ad102 => one v101 = true ∧ 1 = 1 ∧ ∃ h103, wr1 h84 ad102 v101 = some h103 ∧ j17_6_14 D I K (Value.int IntKind.i64 x58) a1 a2 a3 (Value.bool t59) (Value.int IntKind.i64 x60) a6 (Value.int IntKind.i64 x61) (Value.int IntKind.i64 x62) h103))))))))))) (fun c h => K (X.p c) [] h))) (
ptrW a1 (fun ad104 => ∃ v105 : Value, rd h57 ad104 = some v105 ∧ nonNil v105 = true ∧ ptrW v105 (fun ad106 => ∃ v107 : Value, rd h57 (Addr.add ad106 3) = some v107 ∧ slAtW v107 x60 1 (fun ad108 => ∃ t109 : Bool, rd h57 ad108 = some (Value.bool t109) ∧ cond t109 (
ptrW a1 (fun ad110 => ∃ v111 : Value, rd h57 ad110 = some v111 ∧ nonNil v111 = true ∧ ptrW v111 (fun ad112 => ∃ v113 : Value, rd h57 (Addr.add ad112 1) = some v113 ∧ ptrW a1 (fun ad114 => ∃ v115 : Value, rd h57 ad114 = some v115 ∧ nonNil v115 = true ∧ ptrW v115 (fun ad116 => ∃ v117 : Value, rd h57 (Addr.add ad116 1) = some v117 ∧ slAtW v117 x58 1 (fun ad118 => ∃ x119 : Int, rd h57 ad118 = some (Value.int IntKind.i64 x119) ∧ ptrW a1 (fun ad120 => ∃ v121 : Value, rd h57 ad120 = some v121 ∧ nonNil v121 = true ∧ ptrW v121 (fun ad122 => ∃ v123 : Value, rd h57 (Addr.add ad122 0) = some v123 ∧ slAtW v123 x60 1 (fun ad124 => ∃ x125 : Int, rd h57 ad124 = some (Value.int IntKind.i64 x125) ∧ minMax false [(Value.int IntKind.i64 x119), (Value.int IntKind.i64 x125)] (fun v126 => slAtW v113 x58 1 (fun ad127 => one v126 = true ∧ 1 = 1 ∧ ∃ h128, wr1 h57 ad127 v126 = some h128 ∧ j17_6_14 D I K (Value.int IntKind.i64 x58) a1 a2 a3 (Value.bool t59) (Value.int IntKind.i64 x60) a6 (Value.int IntKind.i64 x61) (Value.int IntKind.i64 x62) h128))))))))))) (
j17_6_14 D I K (Value.int IntKind.i64 x58) a1 a2 a3 (Value.bool t59) (Value.int IntKind.i64 x60) a6 (Value.int IntKind.i64 x61) (Value.int IntKind.i64 x62) h57)))))))))))))))
def round17_6 (D : Orc) (I : List Value → H → Prop) (K : Kl) (a0 a1 a2 a3 a4 a5 a6 a7 : Value) (h48 : H) : Prop :=
intK IntKind.i64 a0 (fun x49 => boolW a4 (fun t50 => intK IntKind.i64 a6 (fun x51 => intK IntKind.i64 a7 (fun x52 => cond (decide (x52 < x51)) (
slAtW a5 x52 1 (fun ad53 => ∃ x54 : Int, rd h48 ad53 = some (Value.int IntKind.i64 x54) ∧ cond (!(decide (x54 < (0 : Int)))) (
ptrW a2 (fun ad55 => ∃ x56 : Int, rd h48 ad55 = some (Value.int IntKind.i64 x56) ∧ j17_6_9 D I K (Value.int IntKind.i64 x49) a1 a2 a3 (Value.bool t50) (Value.int IntKind.i64 x54) a5 (Value.int IntKind.i64 x51) (Value.int IntKind.i64 x52) (Value.bool (decide (x54 ≥ x56))) h48)) (
j17_6_9 D I K (Value.int IntKind.i64 x49) a1 a2 a3 (Value.bool t50) (Value.int IntKind.i64 x54) a5 (Value.int IntKind.i64 x51) (Value.int IntKind.i64 x52) (Value.bool true) h48))) (
K (X.e 0) [(Value.int IntKind.i64 x49), a1, (Value.bool t50)] h48)))))
def loop17_6 (D : Orc) (vs : List Value) (h : H) (K : Kl) : Prop := ∀ I : List Value → H → Prop, (∀ a0 a1 a2 a3 a4 a5 a6 a7 h, round17_6 D I K a0 a1 a2 a3 a4 a5 a6 a7 h → I [a0, a1, a2, a3, a4, a5, a6, a7] h) → I vs h
def L17 (D : Orc) : Lor := fun b vs h K => match firstId b with | some i => cond (Nat.beq i 6) (loop17_6 D vs h K) (False) | none => False
/-- lodestone/graph.Parts$1 -/
def F17 (D : Orc) (a0 a1 a2 a3 a4 a5 : Value) (h : H) (k : Kv) (kp : Kp) : Prop :=
intK IntKind.i64 a0 (fun x0 => ptrW a1 (fun ad1 => ∃ x2 : Int, rd h ad1 = some (Value.int IntKind.i64 x2) ∧ ptrW a1 (fun ad3 => one (Value.int IntKind.i64 (IntKind.wrap IntKind.i64 (x2 + (1 : Int)))) = true ∧ 1 = 1 ∧ ∃ h4, wr1 h ad3 (Value.int IntKind.i64 (IntKind.wrap IntKind.i64 (x2 + (1 : Int)))) = some h4 ∧ ptrW a2 (fun ad5 => ∃ v6 : Value, rd h4 ad5 = some v6 ∧ nonNil v6 = true ∧ ptrW v6 (fun ad7 => ∃ v8 : Value, rd h4 (Addr.add ad7 0) = some v8 ∧ ptrW a2 (fun ad9 => ∃ v10 : Value, rd h4 ad9 = some v10 ∧ nonNil v10 = true ∧ ptrW v10 (fun ad11 => ∃ v12 : Value, rd h4 (Addr.add ad11 1) = some v12 ∧ ptrW a1 (fun ad13 => ∃ x14 : Int, rd h4 ad13 = some (Value.int IntKind.i64 x14) ∧ ptrW a1 (fun ad15 => ∃ x16 : Int, rd h4 ad15 = some (Value.int IntKind.i64 x16) ∧ slAtW v8 x0 1 (fun ad17 => one (Value.int IntKind.i64 x14) = true ∧ 1 = 1 ∧ ∃ h18, wr1 h4 ad17 (Value.int IntKind.i64 x14) = some h18 ∧ (ptrW a1 (fun ad19 => rd h18 ad19 = some (Value.int IntKind.i64 x16))) ∧ slAtW v12 x0 1 (fun ad20 => one (Value.int IntKind.i64 x16) = true ∧ 1 = 1 ∧ ∃ h21, wr1 h18 ad20 (Value.int IntKind.i64 x16) = some h21 ∧ ptrW a2 (fun ad22 => ∃ v23 : Value, rd h21 ad22 = some v23 ∧ ptrW a2 (fun ad24 => ∃ v25 : Value, rd h21 ad24 = some v25 ∧ nonNil v25 = true ∧ ptrW v25 (fun ad26 => ∃ v27 : Value, rd h21 (Addr.add ad26 2) = some v27 ∧ one (Value.int IntKind.i64 x0) = true ∧ 0 < 1 ∧ newSl h21 1 [(Value.int IntKind.i64 x0)] (fun s28 h29 => slenW s28 (fun n30 => srcW h29 1 s28 (n30) (fun w31 => apW h29 1 8 [(Value.int IntKind.i64 (0 : Int))] v27 (n30) w31 (fun s32 h33 => (ptrW a2 (fun ad34 => rd h33 ad34 = some v23)) ∧ nonNil v23 = true ∧ ptrW v23 (fun ad35 => one s32 = true ∧ 1 = 1 ∧ ∃ h36, wr1 h33 (Addr.add ad35 2) s32 = some h36 ∧ ptrW a2 (fun ad37 => ∃ v38 : Value, rd h36 ad37 = some v38 ∧ nonNil v38 = true ∧ ptrW v38 (fun ad39 => ∃ v40 : Value, rd h36 (Addr.add ad39 3) = some v40 ∧ slAtW v40 x0 1 (fun ad41 => one (Value.bool true) = true ∧ 1 = 1 ∧ ∃ h42, wr1 h36 ad41 (Value.bool true) = some h42 ∧ ptrW a3 (fun ad43 => ∃ v44 : Value, rd h42 ad43 = some v44 ∧ slAtW v44 x0 1 (fun ad45 => ∃ v46 : Value, rd h42 ad45 = some v46 ∧ lenW v46 (fun n47 => loop17_6 D [(Value.int IntKind.i64 x0), a2, a4, a5, (Value.bool false), v46, (Value.int IntKind.i64 (n47 : Int)), (Value.int IntKind.i64 (0 : Int))] h42 (fun x130 vs131 h129 => xs x130 (k (Value.tuple #[]) h129) (fun i132 => cond (Nat.beq i132 0) (
intK IntKind.i64 (nth vs131 0) (fun x133 => boolW (nth vs131 2) (fun t134 => ptrW (nth vs131 1) (fun ad135 => ∃ v136 : Value, rd h129 ad135 = some v136 ∧ nonNil v136 = true ∧ ptrW v136 (fun ad137 => ∃ v138 : Value, rd h129 (Addr.add ad137 1) = some v138 ∧ slAtW v138 x133 1 (fun ad139 => ∃ x140 : Int, rd h129 ad139 = some (Value.int IntKind.i64 x140) ∧ ptrW (nth vs131 1) (fun ad141 => ∃ v142 : Value, rd h129 ad141 = some v142 ∧ nonNil v142 = true ∧ ptrW v142 (fun ad143 => ∃ v144 : Value, rd h129 (Addr.add ad143 0) = some v144 ∧ slAtW v144 x133 1 (fun ad145 => ∃ x146 : Int, rd h129 ad145 = some (Value.int IntKind.i64 x146) ∧ cond (x140 == x146) (
ptrW (nth vs131 1) (fun ad147 => ∃ v148 : Value, rd h129 ad147 = some v148 ∧ D 18 [v148, (Value.int IntKind.i64 x133), (Value.bool t134)] h129 (fun v149 h150 => v149 = (Value.tuple #[]) ∧ k (Value.tuple #[]) h150) kp)) (
k (Value.tuple #[]) h129)))))))))) (False)) (fun c => kp c h129)))))))))))))))))))))))))))
def Cl17 (D : Orc) : Prop := ∀ a0 a1 a2 a3 a4 a5 h k kp, F17 D a0 a1 a2 a3 a4 a5 h k kp → D 17 [a0, a1, a2, a3, a4, a5] h k kp
theorem tieR17_6 (D : Orc) (I : List Value → H → Prop) (K : Kl) (a0 a1 a2 a3 a4 a5 a6 a7 : Value) (h : H) : round17_6 D I K a0 a1 a2 a3 a4 a5 a6 a7 h = round Try.prog D (L17 D) lv17 (nthC (allLoops (bodyOf Try.f17)) 0) I K [a0, a1, a2, a3, a4, a5, a6, a7] h := by kernel_rfl
theorem tieF17 (D : Orc) (a0 a1 a2 a3 a4 a5 : Value) (h : H) (k : Kv) (kp : Kp) : F17 D a0 a1 a2 a3 a4 a5 h k kp = bodyW Try.prog D (L17 D) lv17 Try.f17 [a0, a1, a2, a3, a4, a5] h k kp := by kernel_rfl
theorem lfp17 : Lfps Try.prog (CS Try.prog) (L17 (CS Try.prog)) lv17 (allLoops (bodyOf Try.f17)) := by
  have e : (allLoops (bodyOf Try.f17)) = [nthC (allLoops (bodyOf Try.f17)) 0] := by kernel_rfl
  rw [e]
  exact ⟨(fun vs h K hk I H => hk I (fun a0 a1 a2 a3 a4 a5 a6 a7 h hr => H _ _ ((tieR17_6 (CS Try.prog) I K a0 a1 a2 a3 a4 a5 a6 a7 h) ▸ hr))), trivial⟩
theorem cl17 : Cl17 (CS Try.prog) := fun a0 a1 a2 a3 a4 a5 h k kp hk =>
  fn_sound wide (fn := Try.f17) (by kernel_rfl) (by kernel_rfl) (by kernel_rfl) lfp17 (by rw [tieF17] at hk; exact hk)
def lv18 : Lv := Lv.mk 63 [.raw, .int IntKind.i64, .bool] (fun i => cond (Nat.beq i 4) ([(0, .raw), (2, .bool), (7, .raw), (32, .raw), (33, .int IntKind.i64), (34, .int IntKind.i64)]) ([])) (fun i => cond (Nat.beq i 4) ([(0, [(0, .raw), (2, .bool), (7, .raw)])]) ([])) [] (fun i => cond (Nat.beq i 9) (some [(0, .raw), (7, .raw), (50, .bool)]) (none))
def round18_4 (D : Orc) (I : List Value → H → Prop) (K : Kl) (a0 a1 a2 a3 a4 a5 : Value) (h19 : H) : Prop :=
boolW a1 (fun t20 => intK IntKind.i64 a4 (fun x21 => intK IntKind.i64 a5 (fun x22 => cond (decide (x22 < x21)) (
slAtW a3 x22 1 (fun ad23 => ∃ x24 : Int, rd h19 ad23 = some (Value.int IntKind.i64 x24) ∧ nonNil a0 = true ∧ ptrW a0 (fun ad25 => ∃ v26 : Value, rd h19 (Addr.add ad25 3) = some v26 ∧ slAtW v26 x24 1 (fun ad27 => one (Value.bool false) = true ∧ 1 = 1 ∧ ∃ h28, wr1 h19 ad27 (Value.bool false) = some h28 ∧ I [a0, (Value.bool t20), a2, a3, (Value.int IntKind.i64 x21), (Value.int IntKind.i64 (IntKind.wrap IntKind.i64 (x22 + (1 : Int))))] h28)))) (
K (X.e 0) [a0, (Value.bool t20), a2] h19))))
def loop18_4 (D : Orc) (vs : List Value) (h : H) (K : Kl) : Prop := ∀ I : List Value → H → Prop, (∀ a0 a1 a2 a3 a4 a5 h, round18_4 D I K a0 a1 a2 a3 a4 a5 h → I [a0, a1, a2, a3, a4, a5] h) → I vs h
def j18__9 (D : Orc) (k : Kv) (kp : Kp) (a0 a1 a2 : Value) (h35 : H) : Prop :=
boolW a2 (fun t36 => cond t36 (
D 23 [a1] h35 (fun v37 h38 => v37 = (Value.tuple #[]) ∧ nonNil a0 = true ∧ ptrW a0 (fun ad39 => ∃ v40 : Value, rd h38 (Addr.add ad39 4) = some v40 ∧ one a1 = true ∧ 0 < 1 ∧ newSl h38 1 [a1] (fun s41 h42 => slenW s41 (fun n43 => srcW h42 1 s41 (n43) (fun w44 => apW h42 1 24 [(Value.slice none 0 0)] v40 (n43) w44 (fun s45 h46 => nonNil a0 = true ∧ ptrW a0 (fun ad47 => one s45 = true ∧ 1 = 1 ∧ ∃ h48, wr1 h46 (Addr.add ad47 4) s45 = some h48 ∧ k (Value.tuple #[]) h48))))))) kp) (
k (Value.tuple #[]) h35))
def L18 (D : Orc) : Lor := fun b vs h K => match firstId b with | some i => cond (Nat.beq i 4) (loop18_4 D vs h K) (False) | none => False
/-- (*lodestone/graph.search).close -/
def F18 (D : Orc) (a0 a1 a2 : Value) (h : H) (k : Kv) (kp : Kp) : Prop :=
intK IntKind.i64 a1 (fun x0 => boolW a2 (fun t1 => nonNil a0 = true ∧ ptrW a0 (fun ad2 => ∃ v3 : Value, rd h (Addr.add ad2 2) = some v3 ∧ D 21 [v3, (Value.int IntKind.i64 x0)] h (fun v4 h5 => ∃ x6 : Int, v4 = (Value.int IntKind.i64 x6) ∧ nonNil a0 = true ∧ ptrW a0 (fun ad7 => ∃ v8 : Value, rd h5 (Addr.add ad7 2) = some v8 ∧ slCutW v8 (some x6) none none 1 (fun s9 => D 22 [s9] h5 (fun v10 h11 => ∃ v12 : Value, v10 = v12 ∧ nonNil a0 = true ∧ ptrW a0 (fun ad13 => ∃ v14 : Value, rd h11 (Addr.add ad13 2) = some v14 ∧ slCutW v14 none (some x6) none 1 (fun s15 => nonNil a0 = true ∧ ptrW a0 (fun ad16 => one s15 = true ∧ 1 = 1 ∧ ∃ h17, wr1 h11 (Addr.add ad16 2) s15 = some h17 ∧ lenW v12 (fun n18 => loop18_4 D [a0, (Value.bool t1), v12, v12, (Value.int IntKind.i64 (n18 : Int)), (Value.int IntKind.i64 (0 : Int))] h17 (fun x30 vs31 h29 => xs x30 (k (Value.tuple #[]) h29) (fun i32 => cond (Nat.beq i32 0) (
boolW (nth vs31 1) (fun t33 => lenW (nth vs31 2) (fun n34 => cond (!(decide ((n34 : Int) > (1 : Int)))) (
j18__9 D k kp (nth vs31 0) (nth vs31 2) (Value.bool t33) h29) (
j18__9 D k kp (nth vs31 0) (nth vs31 2) (Value.bool true) h29)))) (False)) (fun c => kp c h29))))))) kp))) kp)))
def Cl18 (D : Orc) : Prop := ∀ a0 a1 a2 h k kp, F18 D a0 a1 a2 h k kp → D 18 [a0, a1, a2] h k kp
theorem tieR18_4 (D : Orc) (I : List Value → H → Prop) (K : Kl) (a0 a1 a2 a3 a4 a5 : Value) (h : H) : round18_4 D I K a0 a1 a2 a3 a4 a5 h = round Try.prog D (L18 D) lv18 (nthC (allLoops (bodyOf Try.f18)) 0) I K [a0, a1, a2, a3, a4, a5] h := by kernel_rfl
theorem tieF18 (D : Orc) (a0 a1 a2 : Value) (h : H) (k : Kv) (kp : Kp) : F18 D a0 a1 a2 h k kp = bodyW Try.prog D (L18 D) lv18 Try.f18 [a0, a1, a2] h k kp := by kernel_rfl
theorem lfp18 : Lfps Try.prog (CS Try.prog) (L18 (CS Try.prog)) lv18 (allLoops (bodyOf Try.f18)) := by
  have e : (allLoops (bodyOf Try.f18)) = [nthC (allLoops (bodyOf Try.f18)) 0] := by kernel_rfl
  rw [e]
  exact ⟨(fun vs h K hk I H => hk I (fun a0 a1 a2 a3 a4 a5 h hr => H _ _ ((tieR18_4 (CS Try.prog) I K a0 a1 a2 a3 a4 a5 h) ▸ hr))), trivial⟩
theorem cl18 : Cl18 (CS Try.prog) := fun a0 a1 a2 h k kp hk =>
  fn_sound wide (fn := Try.f18) (by kernel_rfl) (by kernel_rfl) (by kernel_rfl) lfp18 (by rw [tieF18] at hk; exact hk)
def lv20 : Lv := Lv.mk 12 [.raw, .raw] (fun i => []) (fun i => []) [(4, .int IntKind.i64)] (fun i => none)
def L20 (D : Orc) : Lor := fun b vs h K => match firstId b with | some i => False | none => False
/-- lodestone/graph.Parts$2 -/
def F20 (D : Orc) (a0 a1 : Value) (h : H) (k : Kv) (kp : Kp) : Prop :=
slAtW a0 (0 : Int) 1 (fun ad0 => ∃ x1 : Int, rd h ad0 = some (Value.int IntKind.i64 x1) ∧ slAtW a1 (0 : Int) 1 (fun ad2 => ∃ x3 : Int, rd h ad2 = some (Value.int IntKind.i64 x3) ∧ k (Value.int IntKind.i64 (IntKind.wrap IntKind.i64 (x1 - x3))) h))
def Cl20 (D : Orc) : Prop := ∀ a0 a1 h k kp, F20 D a0 a1 h k kp → D 20 [a0, a1] h k kp
theorem tieF20 (D : Orc) (a0 a1 : Value) (h : H) (k : Kv) (kp : Kp) : F20 D a0 a1 h k kp = bodyW Try.prog D (L20 D) lv20 Try.f20 [a0, a1] h k kp := by kernel_rfl
theorem lfp20 : Lfps Try.prog (CS Try.prog) (L20 (CS Try.prog)) lv20 (allLoops (bodyOf Try.f20)) := by
  have e : (allLoops (bodyOf Try.f20)) = [] := by kernel_rfl
  rw [e]
  exact trivial
theorem cl20 : Cl20 (CS Try.prog) := fun a0 a1 h k kp hk =>
  fn_sound wide (fn := Try.f20) (by kernel_rfl) (by kernel_rfl) (by kernel_rfl) lfp20 (by rw [tieF20] at hk; exact hk)
def lv21 : Lv := Lv.mk 19 [.raw, .int IntKind.i64] (fun i => cond (Nat.beq i 2) ([(0, .raw), (1, .int IntKind.i64), (7, .int IntKind.i64), (8, .int IntKind.i64)]) ([])) (fun i => cond (Nat.beq i 2) ([(0, [])]) ([])) [(4, .int IntKind.i64)] (fun i => none)
def round21_2 (D : Orc) (I : List Value → H → Prop) (K : Kl) (a0 a1 a2 a3 : Value) (h2 : H) : Prop :=
intK IntKind.i64 a1 (fun x3 => intK IntKind.i64 a2 (fun x4 => intK IntKind.i64 a3 (fun x5 => cond (decide (x5 < x4)) (
slAtW a0 x5 1 (fun ad6 => ∃ x7 : Int, rd h2 ad6 = some (Value.int IntKind.i64 x7) ∧ cond (x3 == x7) (
K X.r [(Value.int IntKind.i64 x5)] h2) (
I [a0, (Value.int IntKind.i64 x3), (Value.int IntKind.i64 x4), (Value.int IntKind.i64 (IntKind.wrap IntKind.i64 (x5 + (1 : Int))))] h2))) (
K (X.e 0) [] h2))))
def loop21_2 (D : Orc) (vs : List Value) (h : H) (K : Kl) : Prop := ∀ I : List Value → H → Prop, (∀ a0 a1 a2 a3 h, round21_2 D I K a0 a1 a2 a3 h → I [a0, a1, a2, a3] h) → I vs h
def L21 (D : Orc) : Lor := fun b vs h K => match firstId b with | some i => cond (Nat.beq i 2) (loop21_2 D vs h K) (False) | none => False
/-- slices.Index[[]int,int] -/
def F21 (D : Orc) (a0 a1 : Value) (h : H) (k : Kv) (kp : Kp) : Prop :=
intK IntKind.i64 a1 (fun x0 => lenW a0 (fun n1 => loop21_2 D [a0, (Value.int IntKind.i64 x0), (Value.int IntKind.i64 (n1 : Int)), (Value.int IntKind.i64 (0 : Int))] h (fun x9 vs10 h8 => xs x9 (intK IntKind.i64 (nth vs10 0) (fun x12 => k (Value.int IntKind.i64 x12) h8)) (fun i11 => cond (Nat.beq i11 0) (
k (Value.int IntKind.i64 (-1 : Int)) h8) (False)) (fun c => kp c h8))))
def Cl21 (D : Orc) : Prop := ∀ a0 a1 h k kp, F21 D a0 a1 h k kp → D 21 [a0, a1] h k kp
theorem tieR21_2 (D : Orc) (I : List Value → H → Prop) (K : Kl) (a0 a1 a2 a3 : Value) (h : H) : round21_2 D I K a0 a1 a2 a3 h = round Try.prog D (L21 D) lv21 (nthC (allLoops (bodyOf Try.f21)) 0) I K [a0, a1, a2, a3] h := by kernel_rfl
theorem tieF21 (D : Orc) (a0 a1 : Value) (h : H) (k : Kv) (kp : Kp) : F21 D a0 a1 h k kp = bodyW Try.prog D (L21 D) lv21 Try.f21 [a0, a1] h k kp := by kernel_rfl
theorem lfp21 : Lfps Try.prog (CS Try.prog) (L21 (CS Try.prog)) lv21 (allLoops (bodyOf Try.f21)) := by
  have e : (allLoops (bodyOf Try.f21)) = [nthC (allLoops (bodyOf Try.f21)) 0] := by kernel_rfl
  rw [e]
  exact ⟨(fun vs h K hk I H => hk I (fun a0 a1 a2 a3 h hr => H _ _ ((tieR21_2 (CS Try.prog) I K a0 a1 a2 a3 h) ▸ hr))), trivial⟩
theorem cl21 : Cl21 (CS Try.prog) := fun a0 a1 h k kp hk =>
  fn_sound wide (fn := Try.f21) (by kernel_rfl) (by kernel_rfl) (by kernel_rfl) lfp21 (by rw [tieF21] at hk; exact hk)
def lv22 : Lv := Lv.mk 8 [.raw] (fun i => []) (fun i => []) [(2, .raw)] (fun i => none)
def L22 (D : Orc) : Lor := fun b vs h K => match firstId b with | some i => False | none => False
/-- slices.Clone[[]int,int] -/
def F22 (D : Orc) (a0 : Value) (h : H) (k : Kv) (kp : Kp) : Prop :=
eqSl a0 (Value.slice none 0 0) (fun t0 => cond t0 (
k (Value.slice none 0 0) h) (
newSl h 0 [] (fun s1 h2 => slenW a0 (fun n3 => srcW h2 1 a0 (n3) (fun w4 => apW h2 1 8 [(Value.int IntKind.i64 (0 : Int))] s1 (n3) w4 (fun s5 h6 => k s5 h6))))))
def Cl22 (D : Orc) : Prop := ∀ a0 h k kp, F22 D a0 h k kp → D 22 [a0] h k kp
theorem tieF22 (D : Orc) (a0 : Value) (h : H) (k : Kv) (kp : Kp) : F22 D a0 h k kp = bodyW Try.prog D (L22 D) lv22 Try.f22 [a0] h k kp := by kernel_rfl
theorem lfp22 : Lfps Try.prog (CS Try.prog) (L22 (CS Try.prog)) lv22 (allLoops (bodyOf Try.f22)) := by
  have e : (allLoops (bodyOf Try.f22)) = [] := by kernel_rfl
  rw [e]
  exact trivial
theorem cl22 : Cl22 (CS Try.prog) := fun a0 h k kp hk =>
  fn_sound wide (fn := Try.f22) (by kernel_rfl) (by kernel_rfl) (by kernel_rfl) lfp22 (by rw [tieF22] at hk; exact hk)
end Go.Proofs.Ytdndngngdngjjaa.Am
