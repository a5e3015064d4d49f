/-
  Packed: 
-/
import Derived.Test.YtnlhnlmnlfmojaaDoorAmFns
set_option linter.unusedVariables false
set_option linter.unusedSimpArgs false
set_option linter.unnecessarySimpa false
namespace Go.Proofs.YtnlhnlmnlfmojaaDoor.Am
open Go Go.Proofs
set_option maxRecDepth 100000
set_option linter.unusedVariables false
def lv6 : Lv := Lv.mk 81 [.raw] (fun i => cond (Nat.beq i 7) ([(0, .raw), (4, .raw), (6, .raw), (8, .int IntKind.i64)]) (cond (Nat.beq i 14) ([(6, .raw), (9, .raw), (11, .int IntKind.i64)]) ([]))) (fun i => cond (Nat.beq i 7) ([(0, [(0, .raw), (6, .raw)])]) (cond (Nat.beq i 14) ([(2, [(6, .raw), (9, .raw)])]) ([]))) [(2, .bool)] (fun i => cond (Nat.beq i 5) (some [(0, .raw), (4, .raw), (6, .raw), (36, .bool)]) (none))
def round6_7 (D : Orc) (I : List Value → H → Prop) (K : Kl) (a0 a1 a2 a3 : Value) (h15 : H) : Prop :=
intK IntKind.i64 a3 (fun x16 => lenW a1 (fun n17 => cond (decide (x16 < (n17 : Int))) (
slAtW a1 x16 2 (fun ad18 => ∃ s19 : ByteArray, ∃ x20 : Int, rdN h15 ad18 2 = some [(Value.string s19), (Value.int IntKind.i64 x20)] ∧ slAtW a2 x16 2 (fun ad21 => ∃ s22 : ByteArray, ∃ x23 : Int, rdN h15 ad21 2 = some [(Value.string s22), (Value.int IntKind.i64 x23)] ∧ cond (!((s19.toList == s22.toList) && ((x20 == x23) && true))) (
K X.r [(Value.bool false)] h15) (
slAtW a1 x16 2 (fun ad24 => 2 = 2 ∧ List.all [(Value.string (ByteArray.mk #[])), (Value.int IntKind.i64 (0 : Int))] one = true ∧ ∃ h25, wr h15 ad24 [(Value.string (ByteArray.mk #[])), (Value.int IntKind.i64 (0 : Int))] = some h25 ∧ I [a0, a1, a2, (Value.int IntKind.i64 (IntKind.wrap IntKind.i64 (x16 + (1 : Int))))] h25))))) (
K (X.e 0) [a0, a2] h15)))
def loop6_7 (D : Orc) (vs : List Value) (h : H) (K : Kl) : Prop := ∀ I : List Value → H → Prop, (∀ a0 a1 a2 a3 h, round6_7 D I K a0 a1 a2 a3 h → I [a0, a1, a2, a3] h) → I vs h
def round6_14 (D : Orc) (I : List Value → H → Prop) (K : Kl) (a0 a1 a2 : Value) (h35 : H) : Prop :=
intK IntKind.i64 a2 (fun x36 => lenW a0 (fun n37 => cond (decide (x36 < (n37 : Int))) (
slAtW a1 x36 2 (fun ad38 => ∃ s39 : ByteArray, ∃ x40 : Int, rdN h35 ad38 2 = some [(Value.string s39), (Value.int IntKind.i64 x40)] ∧ slAtW a0 x36 2 (fun ad41 => ∃ s42 : ByteArray, ∃ x43 : Int, rdN h35 ad41 2 = some [(Value.string s42), (Value.int IntKind.i64 x43)] ∧ cond (!((s39.toList == s42.toList) && ((x40 == x43) && true))) (
K X.r [(Value.bool false)] h35) (
I [a0, a1, (Value.int IntKind.i64 (IntKind.wrap IntKind.i64 (x36 + (1 : Int))))] h35)))) (
K (X.e 2) [a0, a1] h35)))
def loop6_14 (D : Orc) (vs : List Value) (h : H) (K : Kl) : Prop := ∀ I : List Value → H → Prop, (∀ a0 a1 a2 h, round6_14 D I K a0 a1 a2 h → I [a0, a1, a2] h) → I vs h
def j6__5 (D : Orc) (k : Kv) (kp : Kp) (a0 a1 a2 a3 : Value) (h13 : H) : Prop :=
boolW a3 (fun t14 => cond t14 (
k (Value.bool false) h13) (
loop6_7 D [a0, a1, a2, (Value.int IntKind.i64 (0 : Int))] h13 (fun x27 vs28 h26 => xs x27 (boolW (nth vs28 0) (fun t30 => k (Value.bool t30) h26)) (fun i29 => cond (Nat.beq i29 0) (
D 20 [(nth vs28 0)] h26 (fun v31 h32 => ∃ v33 : Value, ∃ x34 : Int, v31 = (Value.tuple #[v33, (Value.int IntKind.i64 x34)]) ∧ loop6_14 D [(nth vs28 1), v33, (Value.int IntKind.i64 (0 : Int))] h32 (fun x45 vs46 h44 => xs x45 (boolW (nth vs46 0) (fun t48 => k (Value.bool t48) h44)) (fun i47 => cond (Nat.beq i47 2) (
lenW (nth vs46 1) (fun n49 => lenW (nth vs46 0) (fun n50 => k (Value.bool ((n49 : Int) == (n50 : Int))) h44))) (False)) (fun c => kp c h44))) kp) (False)) (fun c => kp c h26))))
def L6 (D : Orc) : Lor := fun b vs h K => match firstId b with | some i => cond (Nat.beq i 7) (loop6_7 D vs h K) (cond (Nat.beq i 14) (loop6_14 D vs h K) (False)) | none => False
/-- lodestone/lodestonelaw13.PairsExtend -/
def F6 (D : Orc) (a0 : Value) (h : H) (k : Kv) (kp : Kp) : Prop :=
D 19 [] h (fun v0 h1 => ∃ t2 : Bool, v0 = (Value.bool t2) ∧ D 20 [a0] h1 (fun v3 h4 => ∃ v5 : Value, ∃ x6 : Int, v3 = (Value.tuple #[v5, (Value.int IntKind.i64 x6)]) ∧ D 21 [a0] h4 (fun v7 h8 => ∃ v9 : Value, ∃ x10 : Int, v7 = (Value.tuple #[v9, (Value.int IntKind.i64 x10)]) ∧ cond (!(!t2)) (
cond (!(x6 != x10)) (
lenW v5 (fun n11 => lenW v9 (fun n12 => j6__5 D k kp a0 v5 v9 (Value.bool ((n11 : Int) != (n12 : Int))) h8))) (
j6__5 D k kp a0 v5 v9 (Value.bool true) h8)) (
j6__5 D k kp a0 v5 v9 (Value.bool true) h8)) kp) kp) kp
def Cl6 (D : Orc) : Prop := ∀ a0 h k kp, F6 D a0 h k kp → D 6 [a0] h k kp
theorem tieR6_7 (D : Orc) (I : List Value → H → Prop) (K : Kl) (a0 a1 a2 a3 : Value) (h : H) : round6_7 D I K a0 a1 a2 a3 h = round Tryd.prog D (L6 D) lv6 (nthC (allLoops (bodyOf Tryd.f6)) 0) I K [a0, a1, a2, a3] h := by kernel_rfl
theorem tieR6_14 (D : Orc) (I : List Value → H → Prop) (K : Kl) (a0 a1 a2 : Value) (h : H) : round6_14 D I K a0 a1 a2 h = round Tryd.prog D (L6 D) lv6 (nthC (allLoops (bodyOf Tryd.f6)) 1) I K [a0, a1, a2] h := by kernel_rfl
theorem tieF6 (D : Orc) (a0 : Value) (h : H) (k : Kv) (kp : Kp) : F6 D a0 h k kp = bodyW Tryd.prog D (L6 D) lv6 Tryd.f6 [a0] h k kp := by kernel_rfl
theorem lfp6 : Lfps Tryd.prog (CS Tryd.prog) (L6 (CS Tryd.prog)) lv6 (allLoops (bodyOf Tryd.f6)) := by
  have e : (allLoops (bodyOf Tryd.f6)) = [nthC (allLoops (bodyOf Tryd.f6)) 0, nthC (allLoops (bodyOf Tryd.f6)) 1] := by kernel_rfl
  rw [e]
  exact ⟨(fun vs h K hk I H => hk I (fun a0 a1 a2 a3 h hr => H _ _ ((tieR6_7 (CS Tryd.prog) I K a0 a1 a2 a3 h) ▸ hr))), (fun vs h K hk I H => hk I (fun a0 a1 a2 h hr => H _ _ ((tieR6_14 (CS Tryd.prog) I K a0 a1 a2 h) ▸ hr))), trivial⟩
theorem cl6 : Cl6 (CS Tryd.prog) := fun a0 h k kp hk =>
  fn_sound wide (fn := Tryd.f6) (by kernel_rfl) (by kernel_rfl) (by kernel_rfl) lfp6 (by rw [tieF6] at hk; exact hk)
def lv7 : Lv := Lv.mk 89 [.raw] (fun i => cond (Nat.beq i 6) ([(1, .raw), (3, .bool), (4, .raw), (5, .int IntKind.i64), (6, .raw), (7, .int IntKind.i64), (8, .bool), (9, .int IntKind.i64)]) (cond (Nat.beq i 9) ([(1, .raw), (3, .bool), (4, .raw), (5, .int IntKind.i64), (6, .raw), (7, .int IntKind.i64), (8, .bool), (9, .int IntKind.i64), (10, .int IntKind.i64)]) (cond (Nat.beq i 13) ([(1, .raw), (3, .bool), (4, .raw), (5, .int IntKind.i64), (6, .raw), (7, .int IntKind.i64), (8, .bool), (9, .int IntKind.i64), (11, .int IntKind.i64)]) ([])))) (fun i => cond (Nat.beq i 6) ([(0, [(1, .raw), (3, .bool), (5, .int IntKind.i64), (6, .raw), (7, .int IntKind.i64), (8, .bool)])]) (cond (Nat.beq i 9) ([(2, [(1, .raw), (3, .bool), (4, .raw), (5, .int IntKind.i64), (6, .raw), (7, .int IntKind.i64), (8, .bool), (9, .int IntKind.i64)])]) (cond (Nat.beq i 13) ([(4, [(1, .raw), (3, .bool), (4, .raw), (5, .int IntKind.i64), (6, .raw), (7, .int IntKind.i64), (8, .bool), (9, .int IntKind.i64)])]) ([])))) [(2, .bool)] (fun i => none)
def round7_9 (D : Orc) (I : List Value → H → Prop) (K : Kl) (a0 a1 a2 a3 a4 a5 a6 a7 a8 : Value) (h30 : H) : Prop :=
boolW a1 (fun t31 => intK IntKind.i64 a3 (fun x32 => intK IntKind.i64 a5 (fun x33 => boolW a6 (fun t34 => intK IntKind.i64 a7 (fun x35 => intK IntKind.i64 a8 (fun x36 => slAtW a2 x35 2 (fun ad37 => ∃ v38 : Value, rd h30 (Addr.add ad37 0) = some v38 ∧ lenW v38 (fun n39 => cond (decide (x36 < (n39 : Int))) (
slAtW a2 x35 2 (fun ad40 => ∃ v41 : Value, rd h30 (Addr.add ad40 0) = some v41 ∧ slAtW v41 x36 1 (fun ad42 => one (Value.int IntKind.i64 (99 : Int)) = true ∧ 1 = 1 ∧ ∃ h43, wr1 h30 ad42 (Value.int IntKind.i64 (99 : Int)) = some h43 ∧ I [a0, (Value.bool t31), a2, (Value.int IntKind.i64 x32), a4, (Value.int IntKind.i64 x33), (Value.bool t34), (Value.int IntKind.i64 x35), (Value.int IntKind.i64 (IntKind.wrap IntKind.i64 (x36 + (1 : Int))))] h43))) (
K (X.e 2) [a0, (Value.bool t31), a2, (Value.int IntKind.i64 x32), a4, (Value.int IntKind.i64 x33), (Value.bool t34), (Value.int IntKind.i64 x35)] h30)))))))))
def loop7_9 (D : Orc) (vs : List Value) (h : H) (K : Kl) : Prop := ∀ I : List Value → H → Prop, (∀ a0 a1 a2 a3 a4 a5 a6 a7 a8 h, round7_9 D I K a0 a1 a2 a3 a4 a5 a6 a7 a8 h → I [a0, a1, a2, a3, a4, a5, a6, a7, a8] h) → I vs h
def round7_13 (D : Orc) (I : List Value → H → Prop) (K : Kl) (a0 a1 a2 a3 a4 a5 a6 a7 a8 : Value) (h54 : H) : Prop :=
boolW a1 (fun t55 => intK IntKind.i64 a3 (fun x56 => intK IntKind.i64 a5 (fun x57 => boolW a6 (fun t58 => intK IntKind.i64 a7 (fun x59 => intK IntKind.i64 a8 (fun x60 => slAtW a2 x59 2 (fun ad61 => ∃ v62 : Value, rd h54 (Addr.add ad61 1) = some v62 ∧ lenW v62 (fun n63 => cond (decide (x60 < (n63 : Int))) (
slAtW a2 x59 2 (fun ad64 => ∃ v65 : Value, rd h54 (Addr.add ad64 1) = some v65 ∧ slAtW v65 x60 1 (fun ad66 => one (Value.int IntKind.i64 (98 : Int)) = true ∧ 1 = 1 ∧ ∃ h67, wr1 h54 ad66 (Value.int IntKind.i64 (98 : Int)) = some h67 ∧ I [a0, (Value.bool t55), a2, (Value.int IntKind.i64 x56), a4, (Value.int IntKind.i64 x57), (Value.bool t58), (Value.int IntKind.i64 x59), (Value.int IntKind.i64 (IntKind.wrap IntKind.i64 (x60 + (1 : Int))))] h67))) (
K (X.e 4) [a0, (Value.bool t55), a2, (Value.int IntKind.i64 x56), a4, (Value.int IntKind.i64 x57), (Value.bool t58), (Value.int IntKind.i64 x59)] h54)))))))))
def loop7_13 (D : Orc) (vs : List Value) (h : H) (K : Kl) : Prop := ∀ I : List Value → H → Prop, (∀ a0 a1 a2 a3 a4 a5 a6 a7 a8 h, round7_13 D I K a0 a1 a2 a3 a4 a5 a6 a7 a8 h → I [a0, a1, a2, a3, a4, a5, a6, a7, a8] h) → I vs h
def round7_6 (D : Orc) (I : List Value → H → Prop) (K : Kl) (a0 a1 a2 a3 a4 a5 a6 a7 : Value) (h23 : H) : Prop :=
boolW a1 (fun t24 => intK IntKind.i64 a3 (fun x25 => intK IntKind.i64 a5 (fun x26 => boolW a6 (fun t27 => intK IntKind.i64 a7 (fun x28 => lenW a2 (fun n29 => cond (decide (x28 < (n29 : Int))) (
loop7_9 D [a0, (Value.bool t24), a2, (Value.int IntKind.i64 x25), a4, (Value.int IntKind.i64 x26), (Value.bool t27), (Value.int IntKind.i64 x28), (Value.int IntKind.i64 (0 : Int))] h23 (fun x45 vs46 h44 => xs x45 (boolW (nth vs46 0) (fun t48 => K X.r [(Value.bool t48)] h44)) (fun i47 => cond (Nat.beq i47 2) (
boolW (nth vs46 1) (fun t49 => intK IntKind.i64 (nth vs46 3) (fun x50 => intK IntKind.i64 (nth vs46 5) (fun x51 => boolW (nth vs46 6) (fun t52 => intK IntKind.i64 (nth vs46 7) (fun x53 => loop7_13 D [(nth vs46 0), (Value.bool t49), (nth vs46 2), (Value.int IntKind.i64 x50), (nth vs46 4), (Value.int IntKind.i64 x51), (Value.bool t52), (Value.int IntKind.i64 x53), (Value.int IntKind.i64 (0 : Int))] h44 (fun x69 vs70 h68 => xs x69 (boolW (nth vs70 0) (fun t72 => K X.r [(Value.bool t72)] h68)) (fun i71 => cond (Nat.beq i71 4) (
boolW (nth vs70 1) (fun t73 => intK IntKind.i64 (nth vs70 3) (fun x74 => intK IntKind.i64 (nth vs70 5) (fun x75 => boolW (nth vs70 6) (fun t76 => intK IntKind.i64 (nth vs70 7) (fun x77 => I [(nth vs70 0), (Value.bool t73), (nth vs70 2), (Value.int IntKind.i64 x74), (nth vs70 4), (Value.int IntKind.i64 x75), (Value.bool t76), (Value.int IntKind.i64 (IntKind.wrap IntKind.i64 (x77 + (1 : Int))))] h68)))))) (False)) (fun c => (fun c h => K (X.p c) [] h) c h68)))))))) (False)) (fun c => (fun c h => K (X.p c) [] h) c h44))) (
K (X.e 0) [a0, (Value.bool t24), (Value.int IntKind.i64 x25), a4, (Value.int IntKind.i64 x26), (Value.bool t27)] h23)))))))
def loop7_6 (D : Orc) (vs : List Value) (h : H) (K : Kl) : Prop := ∀ I : List Value → H → Prop, (∀ a0 a1 a2 a3 a4 a5 a6 a7 h, round7_6 D I K a0 a1 a2 a3 a4 a5 a6 a7 h → I [a0, a1, a2, a3, a4, a5, a6, a7] h) → I vs h
def L7 (D : Orc) : Lor := fun b vs h K => match firstId b with | some i => cond (Nat.beq i 6) (loop7_6 D vs h K) (cond (Nat.beq i 9) (loop7_9 D vs h K) (cond (Nat.beq i 13) (loop7_13 D vs h K) (False))) | none => False
/-- lodestone/lodestonelaw13.PairsOf -/
def F7 (D : Orc) (a0 : Value) (h : H) (k : Kv) (kp : Kp) : Prop :=
aggW a0 (fun l0 => newW h l0 (fun p1 h2 => D 19 [] h2 (fun v3 h4 => ∃ t5 : Bool, v3 = (Value.bool t5) ∧ ptrW p1 (fun ad6 => ∃ v7 : Value, ∃ v8 : Value, rdN h4 ad6 2 = some [v7, v8] ∧ D 22 [(Value.agg #[v7, v8])] h4 (fun v9 h10 => ∃ v11 : Value, ∃ x12 : Int, v9 = (Value.tuple #[v11, (Value.int IntKind.i64 x12)]) ∧ ptrW p1 (fun ad13 => ∃ v14 : Value, ∃ v15 : Value, rdN h10 ad13 2 = some [v14, v15] ∧ D 23 [(Value.agg #[v14, v15])] h10 (fun v16 h17 => ∃ v18 : Value, ∃ x19 : Int, v16 = (Value.tuple #[v18, (Value.int IntKind.i64 x19)]) ∧ D 24 [v11, v18] h17 (fun v20 h21 => ∃ t22 : Bool, v20 = (Value.bool t22) ∧ loop7_6 D [p1, (Value.bool t5), v11, (Value.int IntKind.i64 x12), v18, (Value.int IntKind.i64 x19), (Value.bool t22), (Value.int IntKind.i64 (0 : Int))] h21 (fun x79 vs80 h78 => xs x79 (boolW (nth vs80 0) (fun t82 => k (Value.bool t82) h78)) (fun i81 => cond (Nat.beq i81 0) (
boolW (nth vs80 1) (fun t83 => intK IntKind.i64 (nth vs80 2) (fun x84 => intK IntKind.i64 (nth vs80 4) (fun x85 => boolW (nth vs80 5) (fun t86 => ptrW (nth vs80 0) (fun ad87 => ∃ v88 : Value, ∃ v89 : Value, rdN h78 ad87 2 = some [v88, v89] ∧ D 22 [(Value.agg #[v88, v89])] h78 (fun v90 h91 => ∃ v92 : Value, ∃ x93 : Int, v90 = (Value.tuple #[v92, (Value.int IntKind.i64 x93)]) ∧ D 24 [v92, (nth vs80 3)] h91 (fun v94 h95 => ∃ t96 : Bool, v94 = (Value.bool t96) ∧ cond t83 (
cond t86 (
cond t96 (
k (Value.bool (x84 == x85)) h95) (
k (Value.bool false) h95)) (
k (Value.bool false) h95)) (
k (Value.bool false) h95)) kp) kp)))))) (False)) (fun c => kp c h78))) kp) kp)) kp)) kp))
def Cl7 (D : Orc) : Prop := ∀ a0 h k kp, F7 D a0 h k kp → D 7 [a0] h k kp
theorem tieR7_6 (D : Orc) (I : List Value → H → Prop) (K : Kl) (a0 a1 a2 a3 a4 a5 a6 a7 : Value) (h : H) : round7_6 D I K a0 a1 a2 a3 a4 a5 a6 a7 h = round Tryd.prog D (L7 D) lv7 (nthC (allLoops (bodyOf Tryd.f7)) 0) I K [a0, a1, a2, a3, a4, a5, a6, a7] h := by kernel_rfl
theorem tieR7_9 (D : Orc) (I : List Value → H → Prop) (K : Kl) (a0 a1 a2 a3 a4 a5 a6 a7 a8 : Value) (h : H) : round7_9 D I K a0 a1 a2 a3 a4 a5 a6 a7 a8 h = round Tryd.prog D (L7 D) lv7 (nthC (allLoops (bodyOf Tryd.f7)) 1) I K [a0, a1, a2, a3, a4, a5, a6, a7, a8] h := by kernel_rfl
theorem tieR7_13 (D : Orc) (I : List Value → H → Prop) (K : Kl) (a0 a1 a2 a3 a4 a5 a6 a7 a8 : Value) (h : H) : round7_13 D I K a0 a1 a2 a3 a4 a5 a6 a7 a8 h = round Tryd.prog D (L7 D) lv7 (nthC (allLoops (bodyOf Tryd.f7)) 2) I K [a0, a1, a2, a3, a4, a5, a6, a7, a8] h := by kernel_rfl
theorem tieF7 (D : Orc) (a0 : Value) (h : H) (k : Kv) (kp : Kp) : F7 D a0 h k kp = bodyW Tryd.prog D (L7 D) lv7 Tryd.f7 [a0] h k kp := by kernel_rfl
theorem lfp7 : Lfps Tryd.prog (CS Tryd.prog) (L7 (CS Tryd.prog)) lv7 (allLoops (bodyOf Tryd.f7)) := by
  have e : (allLoops (bodyOf Tryd.f7)) = [nthC (allLoops (bodyOf Tryd.f7)) 0, nthC (allLoops (bodyOf Tryd.f7)) 1, nthC (allLoops (bodyOf Tryd.f7)) 2] := by kernel_rfl
  rw [e]
  exact ⟨(fun vs h K hk I H => hk I (fun a0 a1 a2 a3 a4 a5 a6 a7 h hr => H _ _ ((tieR7_6 (CS Tryd.prog) I K a0 a1 a2 a3 a4 a5 a6 a7 h) ▸ hr))), (fun vs h K hk I H => hk I (fun a0 a1 a2 a3 a4 a5 a6 a7 a8 h hr => H _ _ ((tieR7_9 (CS Tryd.prog) I K a0 a1 a2 a3 a4 a5 a6 a7 a8 h) ▸ hr))), (fun vs h K hk I H => hk I (fun a0 a1 a2 a3 a4 a5 a6 a7 a8 h hr => H _ _ ((tieR7_13 (CS Tryd.prog) I K a0 a1 a2 a3 a4 a5 a6 a7 a8 h) ▸ hr))), trivial⟩
theorem cl7 : Cl7 (CS Tryd.prog) := fun a0 h k kp hk =>
  fn_sound wide (fn := Tryd.f7) (by kernel_rfl) (by kernel_rfl) (by kernel_rfl) lfp7 (by rw [tieF7] at hk; exact hk)
def lv19 : Lv := Lv.mk 102 [] (fun i => []) (fun i => []) [(0, .bool)] (fun i => cond (Nat.beq i 5) (some [(1, .raw), (2, .raw), (4, .raw), (37, .bool)]) (cond (Nat.beq i 8) (some [(1, .raw), (2, .raw), (6, .raw), (7, .bool)]) (none)))
def j19__8 (D : Orc) (k : Kv) (kp : Kp) (a0 a1 a2 a3 : Value) (h45 : H) : Prop :=
boolW a3 (fun t46 => ptrW a0 (fun ad47 => ∃ v48 : Value, ∃ v49 : Value, rdN h45 ad47 2 = some [v48, v49] ∧ one (Value.int IntKind.i64 (5 : Int)) = true ∧ 0 < 4 ∧ one (Value.int IntKind.i64 (1 : Int)) = true ∧ 1 < 4 ∧ one (Value.int IntKind.i64 (-1 : Int)) = true ∧ 2 < 4 ∧ one (Value.int IntKind.i64 (0 : Int)) = true ∧ 3 < 4 ∧ newSl h45 4 [(Value.int IntKind.i64 (5 : Int)), (Value.int IntKind.i64 (1 : Int)), (Value.int IntKind.i64 (-1 : Int)), (Value.int IntKind.i64 (0 : Int))] (fun s50 h51 => one s50 = true ∧ 1 < 2 ∧ one (Value.int IntKind.i64 (5 : Int)) = true ∧ 0 < 3 ∧ one (Value.int IntKind.i64 (0 : Int)) = true ∧ 1 < 3 ∧ one (Value.int IntKind.i64 (-1 : Int)) = true ∧ 2 < 3 ∧ newSl h51 3 [(Value.int IntKind.i64 (5 : Int)), (Value.int IntKind.i64 (0 : Int)), (Value.int IntKind.i64 (-1 : Int))] (fun s52 h53 => one s52 = true ∧ 0 < 2 ∧ D 43 [(Value.agg #[v48, v49]), (Value.agg #[(Value.slice none 0 0), s50]), (Value.agg #[s52, (Value.slice none 0 0)])] h53 (fun v54 h55 => ∃ t56 : Bool, v54 = (Value.bool t56) ∧ ptrW a0 (fun ad57 => ∃ v58 : Value, ∃ v59 : Value, rdN h55 ad57 2 = some [v58, v59] ∧ one (Value.int IntKind.i64 (5 : Int)) = true ∧ 0 < 5 ∧ one (Value.int IntKind.i64 (2 : Int)) = true ∧ 1 < 5 ∧ one (Value.int IntKind.i64 (0 : Int)) = true ∧ 2 < 5 ∧ one (Value.int IntKind.i64 (0 : Int)) = true ∧ 3 < 5 ∧ one (Value.int IntKind.i64 (0 : Int)) = true ∧ 4 < 5 ∧ newSl h55 5 [(Value.int IntKind.i64 (5 : Int)), (Value.int IntKind.i64 (2 : Int)), (Value.int IntKind.i64 (0 : Int)), (Value.int IntKind.i64 (0 : Int)), (Value.int IntKind.i64 (0 : Int))] (fun s60 h61 => one s60 = true ∧ 1 < 2 ∧ one (Value.int IntKind.i64 (5 : Int)) = true ∧ 0 < 4 ∧ one (Value.int IntKind.i64 (1 : Int)) = true ∧ 1 < 4 ∧ one (Value.int IntKind.i64 (-1 : Int)) = true ∧ 2 < 4 ∧ one (Value.int IntKind.i64 (-2 : Int)) = true ∧ 3 < 4 ∧ newSl h61 4 [(Value.int IntKind.i64 (5 : Int)), (Value.int IntKind.i64 (1 : Int)), (Value.int IntKind.i64 (-1 : Int)), (Value.int IntKind.i64 (-2 : Int))] (fun s62 h63 => one s62 = true ∧ 0 < 2 ∧ D 43 [(Value.agg #[v58, v59]), (Value.agg #[(Value.slice none 0 0), s60]), (Value.agg #[s62, (Value.slice none 0 0)])] h63 (fun v64 h65 => ∃ t66 : Bool, v64 = (Value.bool t66) ∧ cond t46 (
slAtW a1 (5 : Int) 2 (fun ad67 => ∃ s68 : ByteArray, ∃ x69 : Int, rdN h65 ad67 2 = some [(Value.string s68), (Value.int IntKind.i64 x69)] ∧ one (Value.string (ByteArray.mk #[112, 108, 117, 115, 35])) = true ∧ 0 < 2 ∧ one (Value.int IntKind.i64 (2 : Int)) = true ∧ 1 < 2 ∧ cond ((s68.toList == (ByteArray.mk #[112, 108, 117, 115, 35]).toList) && ((x69 == (2 : Int)) && true)) (
lenW a2 (fun n70 => cond ((n70 : Int) == (1 : Int)) (
slAtW a2 (0 : Int) 1 (fun ad71 => ∃ v72 : Value, rd h65 ad71 = some v72 ∧ lenW v72 (fun n73 => cond ((n73 : Int) == (1 : Int)) (
slAtW a2 (0 : Int) 1 (fun ad74 => ∃ v75 : Value, rd h65 ad74 = some v75 ∧ slAtW v75 (0 : Int) 1 (fun ad76 => ∃ x77 : Int, rd h65 ad76 = some (Value.int IntKind.i64 x77) ∧ cond (x77 == (0 : Int)) (
cond (!t56) (
k (Value.bool t66) h65) (
k (Value.bool false) h65)) (
k (Value.bool false) h65)))) (
k (Value.bool false) h65)))) (
k (Value.bool false) h65))) (
k (Value.bool false) h65))) (
k (Value.bool false) h65)) kp)))) kp))))
def j19__5 (D : Orc) (k : Kv) (kp : Kp) (a0 a1 a2 a3 : Value) (h23 : H) : Prop :=
boolW a3 (fun t24 => cond t24 (
k (Value.bool false) h23) (
ptrW a0 (fun ad25 => ∃ v26 : Value, ∃ v27 : Value, rdN h23 ad25 2 = some [v26, v27] ∧ D 42 [(Value.agg #[v26, v27]), a2] h23 (fun v28 h29 => ∃ v30 : Value, v28 = v30 ∧ slAtW a2 (0 : Int) 2 (fun ad31 => ∃ v32 : Value, rd h29 (Addr.add ad31 0) = some v32 ∧ one (Value.int IntKind.i64 (5 : Int)) = true ∧ 0 < 4 ∧ one (Value.int IntKind.i64 (1 : Int)) = true ∧ 1 < 4 ∧ one (Value.int IntKind.i64 (-1 : Int)) = true ∧ 2 < 4 ∧ one (Value.int IntKind.i64 (-2 : Int)) = true ∧ 3 < 4 ∧ newSl h29 4 [(Value.int IntKind.i64 (5 : Int)), (Value.int IntKind.i64 (1 : Int)), (Value.int IntKind.i64 (-1 : Int)), (Value.int IntKind.i64 (-2 : Int))] (fun s33 h34 => D 25 [v32, s33] h34 (fun v35 h36 => ∃ t37 : Bool, v35 = (Value.bool t37) ∧ cond t37 (
slAtW a2 (0 : Int) 2 (fun ad38 => ∃ v39 : Value, rd h36 (Addr.add ad38 1) = some v39 ∧ one (Value.int IntKind.i64 (5 : Int)) = true ∧ 0 < 3 ∧ one (Value.int IntKind.i64 (-1 : Int)) = true ∧ 1 < 3 ∧ one (Value.int IntKind.i64 (-2 : Int)) = true ∧ 2 < 3 ∧ newSl h36 3 [(Value.int IntKind.i64 (5 : Int)), (Value.int IntKind.i64 (-1 : Int)), (Value.int IntKind.i64 (-2 : Int))] (fun s40 h41 => D 25 [v39, s40] h41 (fun v42 h43 => ∃ t44 : Bool, v42 = (Value.bool t44) ∧ j19__8 D k kp a0 a1 v30 (Value.bool t44) h43) kp))) (
j19__8 D k kp a0 a1 v30 (Value.bool false) h36)) kp))) kp)))
def L19 (D : Orc) : Lor := fun b vs h K => match firstId b with | some i => False | none => False
/-- lodestone/lodestonelaw13.shown -/
def F19 (D : Orc) (h : H) (k : Kv) (kp : Kp) : Prop :=
D 41 [] h (fun v0 h1 => ∃ v2 : Value, ∃ v3 : Value, v0 = (Value.agg #[v2, v3]) ∧ newW h1 [(Value.slice none 0 0), (Value.slice none 0 0)] (fun p4 h5 => ptrW p4 (fun ad6 => 2 = 2 ∧ List.all [v2, v3] one = true ∧ ∃ h7, wr h5 ad6 [v2, v3] = some h7 ∧ ptrW p4 (fun ad8 => ∃ v9 : Value, rd h7 (Addr.add ad8 0) = some v9 ∧ D 20 [v9] h7 (fun v10 h11 => ∃ v12 : Value, ∃ x13 : Int, v10 = (Value.tuple #[v12, (Value.int IntKind.i64 x13)]) ∧ ptrW p4 (fun ad14 => ∃ v15 : Value, ∃ v16 : Value, rdN h11 ad14 2 = some [v15, v16] ∧ D 22 [(Value.agg #[v15, v16])] h11 (fun v17 h18 => ∃ v19 : Value, ∃ x20 : Int, v17 = (Value.tuple #[v19, (Value.int IntKind.i64 x20)]) ∧ lenW v12 (fun n21 => cond (!((n21 : Int) != (6 : Int))) (
lenW v19 (fun n22 => cond (!((n22 : Int) != (1 : Int))) (
cond (!(x13 != (0 : Int))) (
j19__5 D k kp p4 v12 v19 (Value.bool (x20 != (0 : Int))) h18) (
j19__5 D k kp p4 v12 v19 (Value.bool true) h18)) (
j19__5 D k kp p4 v12 v19 (Value.bool true) h18))) (
j19__5 D k kp p4 v12 v19 (Value.bool true) h18))) kp)) kp)))) kp
def Cl19 (D : Orc) : Prop := ∀  h k kp, F19 D  h k kp → D 19 [] h k kp
theorem tieF19 (D : Orc) (h : H) (k : Kv) (kp : Kp) : F19 D  h k kp = bodyW Tryd.prog D (L19 D) lv19 Tryd.f19 [] h k kp := by kernel_rfl
theorem lfp19 : Lfps Tryd.prog (CS Tryd.prog) (L19 (CS Tryd.prog)) lv19 (allLoops (bodyOf Tryd.f19)) := by
  have e : (allLoops (bodyOf Tryd.f19)) = [] := by kernel_rfl
  rw [e]
  exact trivial
theorem cl19 : Cl19 (CS Tryd.prog) := fun  h k kp hk =>
  fn_sound wide (fn := Tryd.f19) (by kernel_rfl) (by kernel_rfl) (by kernel_rfl) lfp19 (by rw [tieF19] at hk; exact hk)
def lv20 : Lv := Lv.mk 38 [.raw] (fun i => cond (Nat.beq i 8) ([(5, .raw), (18, .raw), (19, .int IntKind.i64), (20, .int IntKind.i64)]) ([])) (fun i => cond (Nat.beq i 8) ([(0, [(5, .raw)])]) ([])) [(2, .raw), (3, .int IntKind.i64)] (fun i => none)
def round20_8 (D : Orc) (I : List Value → H → Prop) (K : Kl) (a0 a1 a2 a3 : Value) (h8 : H) : Prop :=
intK IntKind.i64 a2 (fun x9 => intK IntKind.i64 a3 (fun x10 => cond (decide (x10 < x9)) (
slAtW a1 x10 2 (fun ad11 => ∃ s12 : ByteArray, ∃ x13 : Int, rdN h8 ad11 2 = some [(Value.string s12), (Value.int IntKind.i64 x13)] ∧ newW h8 [(Value.string (ByteArray.mk #[])), (Value.int IntKind.i64 (0 : Int))] (fun p14 h15 => ptrW p14 (fun ad16 => 2 = 2 ∧ List.all [(Value.string s12), (Value.int IntKind.i64 x13)] one = true ∧ ∃ h17, wr h15 ad16 [(Value.string s12), (Value.int IntKind.i64 x13)] = some h17 ∧ ptrW p14 (fun ad18 => ∃ s19 : ByteArray, rd h17 (Addr.add ad18 0) = some (Value.string s19) ∧ D 46 [(Value.string s19), (Value.string (ByteArray.mk #[35]))] h17 (fun v20 h21 => ∃ t22 : Bool, v20 = (Value.bool t22) ∧ cond t22 (
K X.r [(Value.slice none 0 0), (Value.int IntKind.i64 (34 : Int))] h21) (
ptrW p14 (fun ad23 => ∃ s24 : ByteArray, rd h21 (Addr.add ad23 0) = some (Value.string s24) ∧ s24.size + (ByteArray.mk #[35]).size ≤ 9223372036854775807 ∧ ptrW p14 (fun ad25 => ∃ x26 : Int, rd h21 (Addr.add ad25 1) = some (Value.int IntKind.i64 x26) ∧ one (Value.string (s24 ++ (ByteArray.mk #[35]))) = true ∧ 0 < 2 ∧ one (Value.int IntKind.i64 x26) = true ∧ 1 < 2 ∧ 2 = 2 ∧ 0 + 2 ≤ 2 ∧ newSl h21 1 [(Value.string (s24 ++ (ByteArray.mk #[35]))), (Value.int IntKind.i64 x26)] (fun s27 h28 => slenW s27 (fun n29 => srcW h28 2 s27 (n29) (fun w30 => apW h28 2 24 [(Value.string (ByteArray.mk #[])), (Value.int IntKind.i64 (0 : Int))] a0 (n29) w30 (fun s31 h32 => I [s31, a1, (Value.int IntKind.i64 x9), (Value.int IntKind.i64 (IntKind.wrap IntKind.i64 (x10 + (1 : Int))))] h32)))))))) (fun c h => K (X.p c) [] h)))))) (
K (X.e 0) [a0] h8)))
def loop20_8 (D : Orc) (vs : List Value) (h : H) (K : Kl) : Prop := ∀ I : List Value → H → Prop, (∀ a0 a1 a2 a3 h, round20_8 D I K a0 a1 a2 a3 h → I [a0, a1, a2, a3] h) → I vs h
def L20 (D : Orc) : Lor := fun b vs h K => match firstId b with | some i => cond (Nat.beq i 8) (loop20_8 D vs h K) (False) | none => False
/-- lodestone/pairs.Extend -/
def F20 (D : Orc) (a0 : Value) (h : H) (k : Kv) (kp : Kp) : Prop :=
D 44 [a0] h (fun v0 h1 => ∃ x2 : Int, v0 = (Value.int IntKind.i64 x2) ∧ cond (x2 != (0 : Int)) (
k (Value.tuple #[(Value.slice none 0 0), (Value.int IntKind.i64 x2)]) h1) (
lenW a0 (fun n3 => cond (decide ((n3 : Int) > (64 : Int))) (
k (Value.tuple #[(Value.slice none 0 0), (Value.int IntKind.i64 (37 : Int))]) h1) (
D 45 [a0] h1 (fun v4 h5 => ∃ v6 : Value, v4 = v6 ∧ lenW a0 (fun n7 => loop20_8 D [v6, a0, (Value.int IntKind.i64 (n7 : Int)), (Value.int IntKind.i64 (0 : Int))] h5 (fun x34 vs35 h33 => xs x34 (intK IntKind.i64 (nth vs35 1) (fun x37 => k (Value.tuple #[(nth vs35 0), (Value.int IntKind.i64 x37)]) h33)) (fun i36 => cond (Nat.beq i36 0) (
k (Value.tuple #[(nth vs35 0), (Value.int IntKind.i64 (0 : Int))]) h33) (False)) (fun c => kp c h33)))) kp)))) kp
def Cl20 (D : Orc) : Prop := ∀ a0 h k kp, F20 D a0 h k kp → D 20 [a0] h k kp
theorem tieR20_8 (D : Orc) (I : List Value → H → Prop) (K : Kl) (a0 a1 a2 a3 : Value) (h : H) : round20_8 D I K a0 a1 a2 a3 h = round Tryd.prog D (L20 D) lv20 (nthC (allLoops (bodyOf Tryd.f20)) 0) I K [a0, a1, a2, a3] h := by kernel_rfl
theorem tieF20 (D : Orc) (a0 : Value) (h : H) (k : Kv) (kp : Kp) : F20 D a0 h k kp = bodyW Tryd.prog D (L20 D) lv20 Tryd.f20 [a0] h k kp := by kernel_rfl
theorem lfp20 : Lfps Tryd.prog (CS Tryd.prog) (L20 (CS Tryd.prog)) lv20 (allLoops (bodyOf Tryd.f20)) := by
  have e : (allLoops (bodyOf Tryd.f20)) = [nthC (allLoops (bodyOf Tryd.f20)) 0] := by kernel_rfl
  rw [e]
  exact ⟨(fun vs h K hk I H => hk I (fun a0 a1 a2 a3 h hr => H _ _ ((tieR20_8 (CS Tryd.prog) I K a0 a1 a2 a3 h) ▸ hr))), trivial⟩
theorem cl20 : Cl20 (CS Tryd.prog) := fun a0 h k kp hk =>
  fn_sound wide (fn := Tryd.f20) (by kernel_rfl) (by kernel_rfl) (by kernel_rfl) lfp20 (by rw [tieF20] at hk; exact hk)
def lv21 : Lv := Lv.mk 37 [.raw] (fun i => cond (Nat.beq i 6) ([(0, .raw), (5, .raw), (6, .int IntKind.i64)]) ([])) (fun i => cond (Nat.beq i 6) ([(0, [(5, .raw)])]) ([])) [(2, .raw), (3, .int IntKind.i64)] (fun i => none)
def round21_6 (D : Orc) (I : List Value → H → Prop) (K : Kl) (a0 a1 a2 : Value) (h9 : H) : Prop :=
intK IntKind.i64 a2 (fun x10 => lenW a0 (fun n11 => cond (decide (x10 < (n11 : Int))) (
slAtW a0 x10 2 (fun ad12 => ∃ s13 : ByteArray, rd h9 (Addr.add ad12 0) = some (Value.string s13) ∧ s13.size + (ByteArray.mk #[35]).size ≤ 9223372036854775807 ∧ slAtW a0 x10 2 (fun ad14 => ∃ x15 : Int, rd h9 (Addr.add ad14 1) = some (Value.int IntKind.i64 x15) ∧ one (Value.string (s13 ++ (ByteArray.mk #[35]))) = true ∧ 0 < 2 ∧ one (Value.int IntKind.i64 x15) = true ∧ 1 < 2 ∧ 2 = 2 ∧ 0 + 2 ≤ 2 ∧ newSl h9 1 [(Value.string (s13 ++ (ByteArray.mk #[35]))), (Value.int IntKind.i64 x15)] (fun s16 h17 => slenW s16 (fun n18 => srcW h17 2 s16 (n18) (fun w19 => apW h17 2 24 [(Value.string (ByteArray.mk #[])), (Value.int IntKind.i64 (0 : Int))] a1 (n18) w19 (fun s20 h21 => I [a0, s20, (Value.int IntKind.i64 (IntKind.wrap IntKind.i64 (x10 + (1 : Int))))] h21))))))) (
K (X.e 0) [a1] h9)))
def loop21_6 (D : Orc) (vs : List Value) (h : H) (K : Kl) : Prop := ∀ I : List Value → H → Prop, (∀ a0 a1 a2 h, round21_6 D I K a0 a1 a2 h → I [a0, a1, a2] h) → I vs h
def L21 (D : Orc) : Lor := fun b vs h K => match firstId b with | some i => cond (Nat.beq i 6) (loop21_6 D vs h K) (False) | none => False
/-- lodestone/lodestoneref13.Extend -/
def F21 (D : Orc) (a0 : Value) (h : H) (k : Kv) (kp : Kp) : Prop :=
D 29 [a0] h (fun v0 h1 => ∃ x2 : Int, v0 = (Value.int IntKind.i64 x2) ∧ cond (x2 != (0 : Int)) (
k (Value.tuple #[(Value.slice none 0 0), (Value.int IntKind.i64 x2)]) h1) (
newSl h1 0 [] (fun s3 h4 => slenW a0 (fun n5 => srcW h4 2 a0 (n5) (fun w6 => apW h4 2 24 [(Value.string (ByteArray.mk #[])), (Value.int IntKind.i64 (0 : Int))] s3 (n5) w6 (fun s7 h8 => loop21_6 D [a0, s7, (Value.int IntKind.i64 (0 : Int))] h8 (fun x23 vs24 h22 => xs x23 (intK IntKind.i64 (nth vs24 1) (fun x26 => k (Value.tuple #[(nth vs24 0), (Value.int IntKind.i64 x26)]) h22)) (fun i25 => cond (Nat.beq i25 0) (
k (Value.tuple #[(nth vs24 0), (Value.int IntKind.i64 (0 : Int))]) h22) (False)) (fun c => kp c h22)))))))) kp
def Cl21 (D : Orc) : Prop := ∀ a0 h k kp, F21 D a0 h k kp → D 21 [a0] h k kp
theorem tieR21_6 (D : Orc) (I : List Value → H → Prop) (K : Kl) (a0 a1 a2 : Value) (h : H) : round21_6 D I K a0 a1 a2 h = round Tryd.prog D (L21 D) lv21 (nthC (allLoops (bodyOf Tryd.f21)) 0) I K [a0, a1, a2] h := by kernel_rfl
theorem tieF21 (D : Orc) (a0 : Value) (h : H) (k : Kv) (kp : Kp) : F21 D a0 h k kp = bodyW Tryd.prog D (L21 D) lv21 Tryd.f21 [a0] h k kp := by kernel_rfl
theorem lfp21 : Lfps Tryd.prog (CS Tryd.prog) (L21 (CS Tryd.prog)) lv21 (allLoops (bodyOf Tryd.f21)) := by
  have e : (allLoops (bodyOf Tryd.f21)) = [nthC (allLoops (bodyOf Tryd.f21)) 0] := by kernel_rfl
  rw [e]
  exact ⟨(fun vs h K hk I H => hk I (fun a0 a1 a2 h hr => H _ _ ((tieR21_6 (CS Tryd.prog) I K a0 a1 a2 h) ▸ hr))), trivial⟩
theorem cl21 : Cl21 (CS Tryd.prog) := fun a0 h k kp hk =>
  fn_sound wide (fn := Tryd.f21) (by kernel_rfl) (by kernel_rfl) (by kernel_rfl) lfp21 (by rw [tieF21] at hk; exact hk)
def lv22 : Lv := Lv.mk 71 [.raw] (fun i => cond (Nat.beq i 8) ([(1, .raw), (6, .raw), (7, .raw), (8, .raw), (27, .raw), (28, .int IntKind.i64), (29, .int IntKind.i64)]) (cond (Nat.beq i 11) ([(1, .raw), (6, .raw), (7, .raw), (8, .raw), (10, .raw), (27, .raw), (28, .int IntKind.i64), (29, .int IntKind.i64), (34, .raw), (35, .int IntKind.i64), (36, .int IntKind.i64)]) ([]))) (fun i => cond (Nat.beq i 8) ([(0, [(8, .raw)])]) (cond (Nat.beq i 11) ([(2, [(1, .raw), (6, .raw), (7, .raw), (8, .raw), (27, .raw), (28, .int IntKind.i64), (29, .int IntKind.i64)])]) ([]))) [(2, .raw), (3, .int IntKind.i64)] (fun i => cond (Nat.beq i 18) (some [(1, .raw), (6, .raw), (7, .raw), (8, .raw), (10, .raw), (27, .raw), (28, .int IntKind.i64), (29, .int IntKind.i64), (34, .raw), (35, .int IntKind.i64), (36, .int IntKind.i64)]) (none))
def j22_11_18 (D : Orc) (I : List Value → H → Prop) (K : Kl) (a0 a1 a2 a3 a4 a5 a6 a7 a8 a9 a10 : Value) (h42 : H) : Prop :=
intK IntKind.i64 a6 (fun x43 => intK IntKind.i64 a7 (fun x44 => intK IntKind.i64 a9 (fun x45 => intK IntKind.i64 a10 (fun x46 => I [a0, a1, a2, a3, a4, a5, (Value.int IntKind.i64 x43), (Value.int IntKind.i64 x44), a8, (Value.int IntKind.i64 x45), (Value.int IntKind.i64 (IntKind.wrap IntKind.i64 (x46 + (1 : Int))))] h42))))
def round22_11 (D : Orc) (I : List Value → H → Prop) (K : Kl) (a0 a1 a2 a3 a4 a5 a6 a7 a8 a9 a10 : Value) (h32 : H) : Prop :=
intK IntKind.i64 a6 (fun x33 => intK IntKind.i64 a7 (fun x34 => intK IntKind.i64 a9 (fun x35 => intK IntKind.i64 a10 (fun x36 => cond (decide (x36 < x35)) (
slAtW a8 x36 1 (fun ad37 => ∃ x38 : Int, rd h32 ad37 = some (Value.int IntKind.i64 x38) ∧ D 49 [a1, (Value.int IntKind.i64 x38)] h32 (fun v39 h40 => ∃ t41 : Bool, v39 = (Value.bool t41) ∧ cond (!t41) (
j22_11_18 D I K a0 a1 a2 a3 a4 a5 (Value.int IntKind.i64 x33) (Value.int IntKind.i64 x34) a8 (Value.int IntKind.i64 x35) (Value.int IntKind.i64 x36) h40) (
lenW a3 (fun n47 => cond ((n47 : Int) == (256 : Int)) (
K X.r [(Value.slice none 0 0), (Value.int IntKind.i64 (2 : Int))] h40) (
ptrW a0 (fun ad48 => ∃ v49 : Value, rd h40 (Addr.add ad48 0) = some v49 ∧ ptrW a4 (fun ad50 => ∃ v51 : Value, rd h40 (Addr.add ad50 1) = some v51 ∧ D 50 [v49, v51, (Value.int IntKind.i64 x36)] h40 (fun v52 h53 => ∃ v54 : Value, ∃ x55 : Int, v52 = (Value.tuple #[v54, (Value.int IntKind.i64 x55)]) ∧ ptrW a4 (fun ad56 => ∃ v57 : Value, rd h53 (Addr.add ad56 0) = some v57 ∧ callV Tryd.prog D 30 a2 [v57] h53 (fun v58 h59 => callV Tryd.prog D 30 a2 [v54] h59 (fun v60 h61 => one v58 = true ∧ 0 < 2 ∧ one v60 = true ∧ 1 < 2 ∧ 2 = 2 ∧ 0 + 2 ≤ 2 ∧ newSl h61 1 [v58, v60] (fun s62 h63 => slenW s62 (fun n64 => srcW h63 2 s62 (n64) (fun w65 => apW h63 2 48 [(Value.slice none 0 0), (Value.slice none 0 0)] a3 (n64) w65 (fun s66 h67 => j22_11_18 D I K a0 a1 a2 s66 a4 a5 (Value.int IntKind.i64 x33) (Value.int IntKind.i64 x34) a8 (Value.int IntKind.i64 x35) (Value.int IntKind.i64 x36) h67))))) (fun c h => K (X.p c) [] h)) (fun c h => K (X.p c) [] h))) (fun c h => K (X.p c) [] h))))))) (fun c h => K (X.p c) [] h))) (
K (X.e 2) [a0, a1, a2, a3, a5, (Value.int IntKind.i64 x33), (Value.int IntKind.i64 x34)] h32)))))
def loop22_11 (D : Orc) (vs : List Value) (h : H) (K : Kl) : Prop := ∀ I : List Value → H → Prop, (∀ a0 a1 a2 a3 a4 a5 a6 a7 a8 a9 a10 h, round22_11 D I K a0 a1 a2 a3 a4 a5 a6 a7 a8 a9 a10 h → I [a0, a1, a2, a3, a4, a5, a6, a7, a8, a9, a10] h) → I vs h
def round22_8 (D : Orc) (I : List Value → H → Prop) (K : Kl) (a0 a1 a2 a3 a4 a5 a6 : Value) (h19 : H) : Prop :=
intK IntKind.i64 a5 (fun x20 => intK IntKind.i64 a6 (fun x21 => cond (decide (x21 < x20)) (
slAtW a4 x21 2 (fun ad22 => ∃ v23 : Value, ∃ v24 : Value, rdN h19 ad22 2 = some [v23, v24] ∧ newW h19 [(Value.slice none 0 0), (Value.slice none 0 0)] (fun p25 h26 => ptrW p25 (fun ad27 => 2 = 2 ∧ List.all [v23, v24] one = true ∧ ∃ h28, wr h26 ad27 [v23, v24] = some h28 ∧ ptrW p25 (fun ad29 => ∃ v30 : Value, rd h28 (Addr.add ad29 1) = some v30 ∧ lenW v30 (fun n31 => loop22_11 D [a0, a1, a2, a3, p25, a4, (Value.int IntKind.i64 x20), (Value.int IntKind.i64 x21), v30, (Value.int IntKind.i64 (n31 : Int)), (Value.int IntKind.i64 (0 : Int))] h28 (fun x69 vs70 h68 => xs x69 (intK IntKind.i64 (nth vs70 1) (fun x72 => K X.r [(nth vs70 0), (Value.int IntKind.i64 x72)] h68)) (fun i71 => cond (Nat.beq i71 2) (
intK IntKind.i64 (nth vs70 5) (fun x73 => intK IntKind.i64 (nth vs70 6) (fun x74 => I [(nth vs70 0), (nth vs70 1), (nth vs70 2), (nth vs70 3), (nth vs70 4), (Value.int IntKind.i64 x73), (Value.int IntKind.i64 (IntKind.wrap IntKind.i64 (x74 + (1 : Int))))] h68))) (False)) (fun c => (fun c h => K (X.p c) [] h) c h68)))))))) (
K (X.e 0) [a3] h19)))
def loop22_8 (D : Orc) (vs : List Value) (h : H) (K : Kl) : Prop := ∀ I : List Value → H → Prop, (∀ a0 a1 a2 a3 a4 a5 a6 h, round22_8 D I K a0 a1 a2 a3 a4 a5 a6 h → I [a0, a1, a2, a3, a4, a5, a6] h) → I vs h
def L22 (D : Orc) : Lor := fun b vs h K => match firstId b with | some i => cond (Nat.beq i 8) (loop22_8 D vs h K) (cond (Nat.beq i 11) (loop22_11 D vs h K) (False)) | none => False
/-- lodestone/pairs.Of -/
def F22 (D : Orc) (a0 : Value) (h : H) (k : Kv) (kp : Kp) : Prop :=
aggW a0 (fun l0 => newW h l0 (fun p1 h2 => ptrW p1 (fun ad3 => ∃ v4 : Value, ∃ v5 : Value, rdN h2 ad3 2 = some [v4, v5] ∧ D 10 [(Value.agg #[v4, v5])] h2 (fun v6 h7 => ∃ x8 : Int, ∃ x9 : Int, v6 = (Value.tuple #[(Value.int IntKind.i64 x8), (Value.int IntKind.i64 x9)]) ∧ cond (x8 != (0 : Int)) (
k (Value.tuple #[(Value.slice none 0 0), (Value.int IntKind.i64 x8)]) h7) (
ptrW p1 (fun ad10 => ∃ v11 : Value, ∃ v12 : Value, rdN h7 ad10 2 = some [v11, v12] ∧ D 12 [(Value.agg #[v11, v12])] h7 (fun v13 h14 => ∃ v15 : Value, v13 = v15 ∧ ptrW p1 (fun ad16 => ∃ v17 : Value, rd h14 (Addr.add ad16 1) = some v17 ∧ lenW v17 (fun n18 => loop22_8 D [p1, v15, (Value.func (Fn.func 47) #[] #[p1]), (Value.slice none 0 0), v17, (Value.int IntKind.i64 (n18 : Int)), (Value.int IntKind.i64 (0 : Int))] h14 (fun x76 vs77 h75 => xs x76 (intK IntKind.i64 (nth vs77 1) (fun x79 => k (Value.tuple #[(nth vs77 0), (Value.int IntKind.i64 x79)]) h75)) (fun i78 => cond (Nat.beq i78 0) (
k (Value.tuple #[(nth vs77 0), (Value.int IntKind.i64 (0 : Int))]) h75) (False)) (fun c => kp c h75))))) kp))) kp)))
def Cl22 (D : Orc) : Prop := ∀ a0 h k kp, F22 D a0 h k kp → D 22 [a0] h k kp
theorem tieR22_8 (D : Orc) (I : List Value → H → Prop) (K : Kl) (a0 a1 a2 a3 a4 a5 a6 : Value) (h : H) : round22_8 D I K a0 a1 a2 a3 a4 a5 a6 h = round Tryd.prog D (L22 D) lv22 (nthC (allLoops (bodyOf Tryd.f22)) 0) I K [a0, a1, a2, a3, a4, a5, a6] h := by kernel_rfl
theorem tieR22_11 (D : Orc) (I : List Value → H → Prop) (K : Kl) (a0 a1 a2 a3 a4 a5 a6 a7 a8 a9 a10 : Value) (h : H) : round22_11 D I K a0 a1 a2 a3 a4 a5 a6 a7 a8 a9 a10 h = round Tryd.prog D (L22 D) lv22 (nthC (allLoops (bodyOf Tryd.f22)) 1) I K [a0, a1, a2, a3, a4, a5, a6, a7, a8, a9, a10] h := by kernel_rfl
theorem tieF22 (D : Orc) (a0 : Value) (h : H) (k : Kv) (kp : Kp) : F22 D a0 h k kp = bodyW Tryd.prog D (L22 D) lv22 Tryd.f22 [a0] h k kp := by kernel_rfl
theorem lfp22 : Lfps Tryd.prog (CS Tryd.prog) (L22 (CS Tryd.prog)) lv22 (allLoops (bodyOf Tryd.f22)) := by
  have e : (allLoops (bodyOf Tryd.f22)) = [nthC (allLoops (bodyOf Tryd.f22)) 0, nthC (allLoops (bodyOf Tryd.f22)) 1] := by kernel_rfl
  rw [e]
  exact ⟨(fun vs h K hk I H => hk I (fun a0 a1 a2 a3 a4 a5 a6 h hr => H _ _ ((tieR22_8 (CS Tryd.prog) I K a0 a1 a2 a3 a4 a5 a6 h) ▸ hr))), (fun vs h K hk I H => hk I (fun a0 a1 a2 a3 a4 a5 a6 a7 a8 a9 a10 h hr => H _ _ ((tieR22_11 (CS Tryd.prog) I K a0 a1 a2 a3 a4 a5 a6 a7 a8 a9 a10 h) ▸ hr))), trivial⟩
theorem cl22 : Cl22 (CS Tryd.prog) := fun a0 h k kp hk =>
  fn_sound wide (fn := Tryd.f22) (by kernel_rfl) (by kernel_rfl) (by kernel_rfl) lfp22 (by rw [tieF22] at hk; exact hk)
def lv23 : Lv := Lv.mk 77 [.raw] (fun i => cond (Nat.beq i 8) ([(1, .raw), (6, .raw), (7, .int IntKind.i64), (8, .raw), (9, .int IntKind.i64)]) (cond (Nat.beq i 12) ([(1, .raw), (6, .raw), (7, .int IntKind.i64), (8, .raw), (9, .int IntKind.i64), (10, .raw), (11, .int IntKind.i64)]) ([]))) (fun i => cond (Nat.beq i 8) ([(0, [(8, .raw)])]) (cond (Nat.beq i 12) ([(2, [(1, .raw), (6, .raw), (7, .int IntKind.i64), (8, .raw), (9, .int IntKind.i64)])]) ([]))) [(2, .raw), (3, .int IntKind.i64)] (fun i => cond (Nat.beq i 13) (some [(1, .raw), (6, .raw), (7, .int IntKind.i64), (8, .raw), (9, .int IntKind.i64), (10, .raw), (11, .int IntKind.i64)]) (none))
def j23_12_13 (D : Orc) (I : List Value → H → Prop) (K : Kl) (a0 a1 a2 a3 a4 a5 a6 : Value) (h39 : H) : Prop :=
intK IntKind.i64 a2 (fun x40 => intK IntKind.i64 a4 (fun x41 => intK IntKind.i64 a6 (fun x42 => I [a0, a1, (Value.int IntKind.i64 x40), a3, (Value.int IntKind.i64 x41), a5, (Value.int IntKind.i64 (IntKind.wrap IntKind.i64 (x42 + (1 : Int))))] h39)))
def round23_12 (D : Orc) (I : List Value → H → Prop) (K : Kl) (a0 a1 a2 a3 a4 a5 a6 : Value) (h29 : H) : Prop :=
intK IntKind.i64 a2 (fun x30 => intK IntKind.i64 a4 (fun x31 => intK IntKind.i64 a6 (fun x32 => lenW a5 (fun n33 => cond (decide (x32 < (n33 : Int))) (
slAtW a5 x32 1 (fun ad34 => ∃ x35 : Int, rd h29 ad34 = some (Value.int IntKind.i64 x35) ∧ D 51 [a1, (Value.int IntKind.i64 x35)] h29 (fun v36 h37 => ∃ t38 : Bool, v36 = (Value.bool t38) ∧ cond (!t38) (
j23_12_13 D I K a0 a1 (Value.int IntKind.i64 x30) a3 (Value.int IntKind.i64 x31) a5 (Value.int IntKind.i64 x32) h37) (
lenW a3 (fun n43 => cond ((n43 : Int) == (256 : Int)) (
K X.r [(Value.slice none 0 0), (Value.int IntKind.i64 (2 : Int))] h37) (
ptrW a0 (fun ad44 => ∃ v45 : Value, rd h37 (Addr.add ad44 1) = some v45 ∧ slAtW v45 x31 2 (fun ad46 => ∃ v47 : Value, rd h37 (Addr.add ad46 0) = some v47 ∧ ptrW a0 (fun ad48 => ∃ v49 : Value, rd h37 (Addr.add ad48 0) = some v49 ∧ D 52 [v47, (Value.int IntKind.i64 x30)] h37 (fun v50 h51 => ∃ v52 : Value, v50 = v52 ∧ (rd h51 (Addr.add ad48 0) = some v49) ∧ D 53 [v49, a5, (Value.int IntKind.i64 x32)] h51 (fun v53 h54 => ∃ x55 : Int, v53 = (Value.int IntKind.i64 x55) ∧ slCutW a5 (some x32) (some x55) none 1 (fun s56 => D 52 [s56, (Value.int IntKind.i64 x30)] h54 (fun v57 h58 => ∃ v59 : Value, v57 = v59 ∧ one v52 = true ∧ 0 < 2 ∧ one v59 = true ∧ 1 < 2 ∧ 2 = 2 ∧ 0 + 2 ≤ 2 ∧ newSl h58 1 [v52, v59] (fun s60 h61 => slenW s60 (fun n62 => srcW h61 2 s60 (n62) (fun w63 => apW h61 2 48 [(Value.slice none 0 0), (Value.slice none 0 0)] a3 (n62) w63 (fun s64 h65 => j23_12_13 D I K a0 a1 (Value.int IntKind.i64 x30) s64 (Value.int IntKind.i64 x31) a5 (Value.int IntKind.i64 x32) h65))))) (fun c h => K (X.p c) [] h))) (fun c h => K (X.p c) [] h)) (fun c h => K (X.p c) [] h)))))))) (fun c h => K (X.p c) [] h))) (
K (X.e 2) [a0, a1, (Value.int IntKind.i64 x30), a3, (Value.int IntKind.i64 x31)] h29)))))
def loop23_12 (D : Orc) (vs : List Value) (h : H) (K : Kl) : Prop := ∀ I : List Value → H → Prop, (∀ a0 a1 a2 a3 a4 a5 a6 h, round23_12 D I K a0 a1 a2 a3 a4 a5 a6 h → I [a0, a1, a2, a3, a4, a5, a6] h) → I vs h
def round23_8 (D : Orc) (I : List Value → H → Prop) (K : Kl) (a0 a1 a2 a3 a4 : Value) (h19 : H) : Prop :=
intK IntKind.i64 a2 (fun x20 => intK IntKind.i64 a4 (fun x21 => ptrW a0 (fun ad22 => ∃ v23 : Value, rd h19 (Addr.add ad22 1) = some v23 ∧ lenW v23 (fun n24 => cond (decide (x21 < (n24 : Int))) (
ptrW a0 (fun ad25 => ∃ v26 : Value, rd h19 (Addr.add ad25 1) = some v26 ∧ slAtW v26 x21 2 (fun ad27 => ∃ v28 : Value, rd h19 (Addr.add ad27 1) = some v28 ∧ loop23_12 D [a0, a1, (Value.int IntKind.i64 x20), a3, (Value.int IntKind.i64 x21), v28, (Value.int IntKind.i64 (0 : Int))] h19 (fun x67 vs68 h66 => xs x67 (intK IntKind.i64 (nth vs68 1) (fun x70 => K X.r [(nth vs68 0), (Value.int IntKind.i64 x70)] h66)) (fun i69 => cond (Nat.beq i69 2) (
intK IntKind.i64 (nth vs68 2) (fun x71 => intK IntKind.i64 (nth vs68 4) (fun x72 => I [(nth vs68 0), (nth vs68 1), (Value.int IntKind.i64 x71), (nth vs68 3), (Value.int IntKind.i64 (IntKind.wrap IntKind.i64 (x72 + (1 : Int))))] h66))) (False)) (fun c => (fun c h => K (X.p c) [] h) c h66))))) (
K (X.e 0) [a3] h19)))))
def loop23_8 (D : Orc) (vs : List Value) (h : H) (K : Kl) : Prop := ∀ I : List Value → H → Prop, (∀ a0 a1 a2 a3 a4 h, round23_8 D I K a0 a1 a2 a3 a4 h → I [a0, a1, a2, a3, a4] h) → I vs h
def L23 (D : Orc) : Lor := fun b vs h K => match firstId b with | some i => cond (Nat.beq i 8) (loop23_8 D vs h K) (cond (Nat.beq i 12) (loop23_12 D vs h K) (False)) | none => False
/-- lodestone/lodestoneref13.Of -/
def F23 (D : Orc) (a0 : Value) (h : H) (k : Kv) (kp : Kp) : Prop :=
aggW a0 (fun l0 => newW h l0 (fun p1 h2 => ptrW p1 (fun ad3 => ∃ v4 : Value, ∃ v5 : Value, rdN h2 ad3 2 = some [v4, v5] ∧ D 11 [(Value.agg #[v4, v5])] h2 (fun v6 h7 => ∃ x8 : Int, ∃ x9 : Int, v6 = (Value.tuple #[(Value.int IntKind.i64 x8), (Value.int IntKind.i64 x9)]) ∧ cond (x8 != (0 : Int)) (
k (Value.tuple #[(Value.slice none 0 0), (Value.int IntKind.i64 x8)]) h7) (
ptrW p1 (fun ad10 => ∃ v11 : Value, ∃ v12 : Value, rdN h7 ad10 2 = some [v11, v12] ∧ D 13 [(Value.agg #[v11, v12])] h7 (fun v13 h14 => ∃ v15 : Value, v13 = v15 ∧ ptrW p1 (fun ad16 => ∃ v17 : Value, rd h14 (Addr.add ad16 0) = some v17 ∧ lenW v17 (fun n18 => loop23_8 D [p1, v15, (Value.int IntKind.i64 (n18 : Int)), (Value.slice none 0 0), (Value.int IntKind.i64 (0 : Int))] h14 (fun x74 vs75 h73 => xs x74 (intK IntKind.i64 (nth vs75 1) (fun x77 => k (Value.tuple #[(nth vs75 0), (Value.int IntKind.i64 x77)]) h73)) (fun i76 => cond (Nat.beq i76 0) (
k (Value.tuple #[(nth vs75 0), (Value.int IntKind.i64 (0 : Int))]) h73) (False)) (fun c => kp c h73))))) kp))) kp)))
def Cl23 (D : Orc) : Prop := ∀ a0 h k kp, F23 D a0 h k kp → D 23 [a0] h k kp
theorem tieR23_8 (D : Orc) (I : List Value → H → Prop) (K : Kl) (a0 a1 a2 a3 a4 : Value) (h : H) : round23_8 D I K a0 a1 a2 a3 a4 h = round Tryd.prog D (L23 D) lv23 (nthC (allLoops (bodyOf Tryd.f23)) 0) I K [a0, a1, a2, a3, a4] h := by kernel_rfl
theorem tieR23_12 (D : Orc) (I : List Value → H → Prop) (K : Kl) (a0 a1 a2 a3 a4 a5 a6 : Value) (h : H) : round23_12 D I K a0 a1 a2 a3 a4 a5 a6 h = round Tryd.prog D (L23 D) lv23 (nthC (allLoops (bodyOf Tryd.f23)) 1) I K [a0, a1, a2, a3, a4, a5, a6] h := by kernel_rfl
theorem tieF23 (D : Orc) (a0 : Value) (h : H) (k : Kv) (kp : Kp) : F23 D a0 h k kp = bodyW Tryd.prog D (L23 D) lv23 Tryd.f23 [a0] h k kp := by kernel_rfl
theorem lfp23 : Lfps Tryd.prog (CS Tryd.prog) (L23 (CS Tryd.prog)) lv23 (allLoops (bodyOf Tryd.f23)) := by
  have e : (allLoops (bodyOf Tryd.f23)) = [nthC (allLoops (bodyOf Tryd.f23)) 0, nthC (allLoops (bodyOf Tryd.f23)) 1] := by kernel_rfl
  rw [e]
  exact ⟨(fun vs h K hk I H => hk I (fun a0 a1 a2 a3 a4 h hr => H _ _ ((tieR23_8 (CS Tryd.prog) I K a0 a1 a2 a3 a4 h) ▸ hr))), (fun vs h K hk I H => hk I (fun a0 a1 a2 a3 a4 a5 a6 h hr => H _ _ ((tieR23_12 (CS Tryd.prog) I K a0 a1 a2 a3 a4 a5 a6 h) ▸ hr))), trivial⟩
theorem cl23 : Cl23 (CS Tryd.prog) := fun a0 h k kp hk =>
  fn_sound wide (fn := Tryd.f23) (by kernel_rfl) (by kernel_rfl) (by kernel_rfl) lfp23 (by rw [tieF23] at hk; exact hk)
def lv24 : Lv := Lv.mk 47 [.raw, .raw] (fun i => cond (Nat.beq i 4) ([(0, .raw), (1, .raw), (5, .int IntKind.i64)]) ([])) (fun i => cond (Nat.beq i 4) ([(0, [])]) ([])) [(4, .bool)] (fun i => cond (Nat.beq i 9) (some [(0, .raw), (1, .raw), (5, .int IntKind.i64), (46, .bool)]) (none))
def j24_4_9 (D : Orc) (I : List Value → H → Prop) (K : Kl) (a0 a1 a2 a3 : Value) (h19 : H) : Prop :=
intK IntKind.i64 a2 (fun x20 => boolW a3 (fun t21 => cond t21 (
K X.r [(Value.bool false)] h19) (
I [a0, a1, (Value.int IntKind.i64 (IntKind.wrap IntKind.i64 (x20 + (1 : Int))))] h19)))
def round24_4 (D : Orc) (I : List Value → H → Prop) (K : Kl) (a0 a1 a2 : Value) (h2 : H) : Prop :=
intK IntKind.i64 a2 (fun x3 => lenW a0 (fun n4 => cond (decide (x3 < (n4 : Int))) (
slAtW a0 x3 2 (fun ad5 => ∃ v6 : Value, rd h2 (Addr.add ad5 0) = some v6 ∧ slAtW a1 x3 2 (fun ad7 => ∃ v8 : Value, rd h2 (Addr.add ad7 0) = some v8 ∧ D 25 [v6, v8] h2 (fun v9 h10 => ∃ t11 : Bool, v9 = (Value.bool t11) ∧ slAtW a0 x3 2 (fun ad12 => ∃ v13 : Value, rd h10 (Addr.add ad12 1) = some v13 ∧ slAtW a1 x3 2 (fun ad14 => ∃ v15 : Value, rd h10 (Addr.add ad14 1) = some v15 ∧ D 25 [v13, v15] h10 (fun v16 h17 => ∃ t18 : Bool, v16 = (Value.bool t18) ∧ cond (!(!t11)) (
j24_4_9 D I K a0 a1 (Value.int IntKind.i64 x3) (Value.bool (!t18)) h17) (
j24_4_9 D I K a0 a1 (Value.int IntKind.i64 x3) (Value.bool true) h17)) (fun c h => K (X.p c) [] h)))) (fun c h => K (X.p c) [] h)))) (
K (X.e 0) [] h2)))
def loop24_4 (D : Orc) (vs : List Value) (h : H) (K : Kl) : Prop := ∀ I : List Value → H → Prop, (∀ a0 a1 a2 h, round24_4 D I K a0 a1 a2 h → I [a0, a1, a2] h) → I vs h
def L24 (D : Orc) : Lor := fun b vs h K => match firstId b with | some i => cond (Nat.beq i 4) (loop24_4 D vs h K) (False) | none => False
/-- lodestone/lodestonelaw13.sameRules -/
def F24 (D : Orc) (a0 a1 : Value) (h : H) (k : Kv) (kp : Kp) : Prop :=
lenW a0 (fun n0 => lenW a1 (fun n1 => cond ((n0 : Int) != (n1 : Int)) (
k (Value.bool false) h) (
loop24_4 D [a0, a1, (Value.int IntKind.i64 (0 : Int))] h (fun x23 vs24 h22 => xs x23 (boolW (nth vs24 0) (fun t26 => k (Value.bool t26) h22)) (fun i25 => cond (Nat.beq i25 0) (
k (Value.bool true) h22) (False)) (fun c => kp c h22)))))
def Cl24 (D : Orc) : Prop := ∀ a0 a1 h k kp, F24 D a0 a1 h k kp → D 24 [a0, a1] h k kp
theorem tieR24_4 (D : Orc) (I : List Value → H → Prop) (K : Kl) (a0 a1 a2 : Value) (h : H) : round24_4 D I K a0 a1 a2 h = round Tryd.prog D (L24 D) lv24 (nthC (allLoops (bodyOf Tryd.f24)) 0) I K [a0, a1, a2] h := by kernel_rfl
theorem tieF24 (D : Orc) (a0 a1 : Value) (h : H) (k : Kv) (kp : Kp) : F24 D a0 a1 h k kp = bodyW Tryd.prog D (L24 D) lv24 Tryd.f24 [a0, a1] h k kp := by kernel_rfl
theorem lfp24 : Lfps Tryd.prog (CS Tryd.prog) (L24 (CS Tryd.prog)) lv24 (allLoops (bodyOf Tryd.f24)) := by
  have e : (allLoops (bodyOf Tryd.f24)) = [nthC (allLoops (bodyOf Tryd.f24)) 0] := by kernel_rfl
  rw [e]
  exact ⟨(fun vs h K hk I H => hk I (fun a0 a1 a2 h hr => H _ _ ((tieR24_4 (CS Tryd.prog) I K a0 a1 a2 h) ▸ hr))), trivial⟩
theorem cl24 : Cl24 (CS Tryd.prog) := fun a0 a1 h k kp hk =>
  fn_sound wide (fn := Tryd.f24) (by kernel_rfl) (by kernel_rfl) (by kernel_rfl) lfp24 (by rw [tieF24] at hk; exact hk)
def lv25 : Lv := Lv.mk 26 [.raw, .raw] (fun i => cond (Nat.beq i 4) ([(0, .raw), (1, .raw), (5, .int IntKind.i64)]) ([])) (fun i => cond (Nat.beq i 4) ([(0, [])]) ([])) [(4, .bool)] (fun i => none)
def round25_4 (D : Orc) (I : List Value → H → Prop) (K : Kl) (a0 a1 a2 : Value) (h2 : H) : Prop :=
intK IntKind.i64 a2 (fun x3 => lenW a0 (fun n4 => cond (decide (x3 < (n4 : Int))) (
slAtW a0 x3 1 (fun ad5 => ∃ x6 : Int, rd h2 ad5 = some (Value.int IntKind.i64 x6) ∧ slAtW a1 x3 1 (fun ad7 => ∃ x8 : Int, rd h2 ad7 = some (Value.int IntKind.i64 x8) ∧ cond (x6 != x8) (
K X.r [(Value.bool false)] h2) (
I [a0, a1, (Value.int IntKind.i64 (IntKind.wrap IntKind.i64 (x3 + (1 : Int))))] h2)))) (
K (X.e 0) [] h2)))
def loop25_4 (D : Orc) (vs : List Value) (h : H) (K : Kl) : Prop := ∀ I : List Value → H → Prop, (∀ a0 a1 a2 h, round25_4 D I K a0 a1 a2 h → I [a0, a1, a2] h) → I vs h
def L25 (D : Orc) : Lor := fun b vs h K => match firstId b with | some i => cond (Nat.beq i 4) (loop25_4 D vs h K) (False) | none => False
/-- lodestone/lodestonelaw13.sameRow -/
def F25 (D : Orc) (a0 a1 : Value) (h : H) (k : Kv) (kp : Kp) : Prop :=
lenW a0 (fun n0 => lenW a1 (fun n1 => cond ((n0 : Int) != (n1 : Int)) (
k (Value.bool false) h) (
loop25_4 D [a0, a1, (Value.int IntKind.i64 (0 : Int))] h (fun x10 vs11 h9 => xs x10 (boolW (nth vs11 0) (fun t13 => k (Value.bool t13) h9)) (fun i12 => cond (Nat.beq i12 0) (
k (Value.bool true) h9) (False)) (fun c => kp c h9)))))
def Cl25 (D : Orc) : Prop := ∀ a0 a1 h k kp, F25 D a0 a1 h k kp → D 25 [a0, a1] h k kp
theorem tieR25_4 (D : Orc) (I : List Value → H → Prop) (K : Kl) (a0 a1 a2 : Value) (h : H) : round25_4 D I K a0 a1 a2 h = round Tryd.prog D (L25 D) lv25 (nthC (allLoops (bodyOf Tryd.f25)) 0) I K [a0, a1, a2] h := by kernel_rfl
theorem tieF25 (D : Orc) (a0 a1 : Value) (h : H) (k : Kv) (kp : Kp) : F25 D a0 a1 h k kp = bodyW Tryd.prog D (L25 D) lv25 Tryd.f25 [a0, a1] h k kp := by kernel_rfl
theorem lfp25 : Lfps Tryd.prog (CS Tryd.prog) (L25 (CS Tryd.prog)) lv25 (allLoops (bodyOf Tryd.f25)) := by
  have e : (allLoops (bodyOf Tryd.f25)) = [nthC (allLoops (bodyOf Tryd.f25)) 0] := by kernel_rfl
  rw [e]
  exact ⟨(fun vs h K hk I H => hk I (fun a0 a1 a2 h hr => H _ _ ((tieR25_4 (CS Tryd.prog) I K a0 a1 a2 h) ▸ hr))), trivial⟩
theorem cl25 : Cl25 (CS Tryd.prog) := fun a0 a1 h k kp hk =>
  fn_sound wide (fn := Tryd.f25) (by kernel_rfl) (by kernel_rfl) (by kernel_rfl) lfp25 (by rw [tieF25] at hk; exact hk)
def lv41 : Lv := Lv.mk 13 [] (fun i => []) (fun i => []) [(0, .raw)] (fun i => none)
def L41 (D : Orc) : Lor := fun b vs h K => match firstId b with | some i => False | none => False
/-- lodestone/lodestonelaw13.adds -/
def F41 (D : Orc) (h : H) (k : Kv) (kp : Kp) : Prop :=
newW h [(Value.slice none 0 0), (Value.slice none 0 0)] (fun p0 h1 => one (Value.string (ByteArray.mk #[122, 101, 114, 111])) = true ∧ 0 < 2 ∧ one (Value.string (ByteArray.mk #[115])) = true ∧ 0 < 2 ∧ one (Value.int IntKind.i64 (1 : Int)) = true ∧ 1 < 2 ∧ one (Value.string (ByteArray.mk #[112, 108, 117, 115])) = true ∧ 0 < 2 ∧ one (Value.int IntKind.i64 (2 : Int)) = true ∧ 1 < 2 ∧ 2 = 2 ∧ 0 + 2 ≤ 6 ∧ 2 = 2 ∧ 2 + 2 ≤ 6 ∧ 2 = 2 ∧ 4 + 2 ≤ 6 ∧ newSl h1 3 [(Value.string (ByteArray.mk #[122, 101, 114, 111])), (Value.int IntKind.i64 (0 : Int)), (Value.string (ByteArray.mk #[115])), (Value.int IntKind.i64 (1 : Int)), (Value.string (ByteArray.mk #[112, 108, 117, 115])), (Value.int IntKind.i64 (2 : Int))] (fun s2 h3 => one (Value.int IntKind.i64 (2 : Int)) = true ∧ 0 < 3 ∧ one (Value.int IntKind.i64 (0 : Int)) = true ∧ 1 < 3 ∧ one (Value.int IntKind.i64 (-2 : Int)) = true ∧ 2 < 3 ∧ newSl h3 3 [(Value.int IntKind.i64 (2 : Int)), (Value.int IntKind.i64 (0 : Int)), (Value.int IntKind.i64 (-2 : Int))] (fun s4 h5 => one (Value.int IntKind.i64 (-2 : Int)) = true ∧ 0 < 1 ∧ newSl h5 1 [(Value.int IntKind.i64 (-2 : Int))] (fun s6 h7 => one s4 = true ∧ 0 < 2 ∧ one s6 = true ∧ 1 < 2 ∧ one (Value.int IntKind.i64 (2 : Int)) = true ∧ 0 < 4 ∧ one (Value.int IntKind.i64 (1 : Int)) = true ∧ 1 < 4 ∧ one (Value.int IntKind.i64 (-1 : Int)) = true ∧ 2 < 4 ∧ one (Value.int IntKind.i64 (-2 : Int)) = true ∧ 3 < 4 ∧ newSl h7 4 [(Value.int IntKind.i64 (2 : Int)), (Value.int IntKind.i64 (1 : Int)), (Value.int IntKind.i64 (-1 : Int)), (Value.int IntKind.i64 (-2 : Int))] (fun s8 h9 => one (Value.int IntKind.i64 (1 : Int)) = true ∧ 0 < 4 ∧ one (Value.int IntKind.i64 (2 : Int)) = true ∧ 1 < 4 ∧ one (Value.int IntKind.i64 (-1 : Int)) = true ∧ 2 < 4 ∧ one (Value.int IntKind.i64 (-2 : Int)) = true ∧ 3 < 4 ∧ newSl h9 4 [(Value.int IntKind.i64 (1 : Int)), (Value.int IntKind.i64 (2 : Int)), (Value.int IntKind.i64 (-1 : Int)), (Value.int IntKind.i64 (-2 : Int))] (fun s10 h11 => one s8 = true ∧ 0 < 2 ∧ one s10 = true ∧ 1 < 2 ∧ 2 = 2 ∧ 0 + 2 ≤ 4 ∧ 2 = 2 ∧ 2 + 2 ≤ 4 ∧ newSl h11 2 [s4, s6, s8, s10] (fun s12 h13 => one s2 = true ∧ 0 < 2 ∧ one s12 = true ∧ 1 < 2 ∧ ptrW p0 (fun ad14 => 2 = 2 ∧ List.all [s2, s12] one = true ∧ ∃ h15, wr h13 ad14 [s2, s12] = some h15 ∧ ptrW p0 (fun ad16 => ∃ v17 : Value, ∃ v18 : Value, rdN h15 ad16 2 = some [v17, v18] ∧ k (Value.agg #[v17, v18]) h15)))))))))
def Cl41 (D : Orc) : Prop := ∀  h k kp, F41 D  h k kp → D 41 [] h k kp
theorem tieF41 (D : Orc) (h : H) (k : Kv) (kp : Kp) : F41 D  h k kp = bodyW Tryd.prog D (L41 D) lv41 Tryd.f41 [] h k kp := by kernel_rfl
theorem lfp41 : Lfps Tryd.prog (CS Tryd.prog) (L41 (CS Tryd.prog)) lv41 (allLoops (bodyOf Tryd.f41)) := by
  have e : (allLoops (bodyOf Tryd.f41)) = [] := by kernel_rfl
  rw [e]
  exact trivial
theorem cl41 : Cl41 (CS Tryd.prog) := fun  h k kp hk =>
  fn_sound wide (fn := Tryd.f41) (by kernel_rfl) (by kernel_rfl) (by kernel_rfl) lfp41 (by rw [tieF41] at hk; exact hk)
def lv42 : Lv := Lv.mk 54 [.raw, .raw] (fun i => cond (Nat.beq i 4) ([(1, .raw), (5, .raw), (6, .bool), (7, .raw), (20, .raw), (21, .int IntKind.i64), (22, .int IntKind.i64)]) (cond (Nat.beq i 7) ([(1, .raw), (5, .raw), (6, .bool), (7, .raw), (8, .int IntKind.i64), (9, .raw), (20, .raw), (21, .int IntKind.i64), (22, .int IntKind.i64), (27, .raw), (28, .int IntKind.i64), (29, .int IntKind.i64)]) ([]))) (fun i => cond (Nat.beq i 4) ([(0, [(7, .raw)])]) (cond (Nat.beq i 7) ([(2, [(1, .raw), (5, .raw), (6, .bool), (7, .raw), (20, .raw), (21, .int IntKind.i64), (22, .int IntKind.i64)])]) ([]))) [(4, .raw)] (fun i => cond (Nat.beq i 11) (some [(1, .raw), (5, .raw), (6, .bool), (7, .raw), (8, .int IntKind.i64), (9, .raw), (20, .raw), (21, .int IntKind.i64), (22, .int IntKind.i64), (27, .raw), (28, .int IntKind.i64), (29, .int IntKind.i64)]) (cond (Nat.beq i 10) (some [(1, .raw), (5, .raw), (6, .bool), (7, .raw), (8, .int IntKind.i64), (9, .raw), (10, .int IntKind.i64), (20, .raw), (21, .int IntKind.i64), (22, .int IntKind.i64), (27, .raw), (28, .int IntKind.i64), (29, .int IntKind.i64), (40, .bool)]) (none)))
def j42_7_11 (D : Orc) (I : List Value → H → Prop) (K : Kl) (a0 a1 a2 a3 a4 a5 a6 a7 a8 a9 a10 a11 : Value) (h78 : H) : Prop :=
boolW a2 (fun t79 => intK IntKind.i64 a4 (fun x80 => intK IntKind.i64 a7 (fun x81 => intK IntKind.i64 a8 (fun x82 => intK IntKind.i64 a10 (fun x83 => intK IntKind.i64 a11 (fun x84 => I [a0, a1, (Value.bool t79), a3, (Value.int IntKind.i64 x80), a5, a6, (Value.int IntKind.i64 x81), (Value.int IntKind.i64 x82), a9, (Value.int IntKind.i64 x83), (Value.int IntKind.i64 (IntKind.wrap IntKind.i64 (x84 + (1 : Int))))] h78))))))
def j42_7_10 (D : Orc) (I : List Value → H → Prop) (K : Kl) (a0 a1 a2 a3 a4 a5 a6 a7 a8 a9 a10 a11 a12 a13 : Value) (h59 : H) : Prop :=
boolW a2 (fun t60 => intK IntKind.i64 a4 (fun x61 => intK IntKind.i64 a6 (fun x62 => intK IntKind.i64 a8 (fun x63 => intK IntKind.i64 a9 (fun x64 => intK IntKind.i64 a11 (fun x65 => intK IntKind.i64 a12 (fun x66 => boolW a13 (fun t67 => cond t67 (
slAtW a3 x61 1 (fun ad68 => ∃ v69 : Value, rd h59 ad68 = some v69 ∧ one (Value.int IntKind.i64 x62) = true ∧ 0 < 1 ∧ newSl h59 1 [(Value.int IntKind.i64 x62)] (fun s70 h71 => slenW s70 (fun n72 => srcW h71 1 s70 (n72) (fun w73 => apW h71 1 8 [(Value.int IntKind.i64 (0 : Int))] v69 (n72) w73 (fun s74 h75 => slAtW a3 x61 1 (fun ad76 => one s74 = true ∧ 1 = 1 ∧ ∃ h77, wr1 h75 ad76 s74 = some h77 ∧ j42_7_11 D I K a0 a1 (Value.bool t60) a3 (Value.int IntKind.i64 x61) a5 a7 (Value.int IntKind.i64 x63) (Value.int IntKind.i64 x64) a10 (Value.int IntKind.i64 x65) (Value.int IntKind.i64 x66) h77))))))) (
j42_7_11 D I K a0 a1 (Value.bool t60) a3 (Value.int IntKind.i64 x61) a5 a7 (Value.int IntKind.i64 x63) (Value.int IntKind.i64 x64) a10 (Value.int IntKind.i64 x65) (Value.int IntKind.i64 x66) h59)))))))))
def round42_7 (D : Orc) (I : List Value → H → Prop) (K : Kl) (a0 a1 a2 a3 a4 a5 a6 a7 a8 a9 a10 a11 : Value) (h32 : H) : Prop :=
boolW a2 (fun t33 => intK IntKind.i64 a4 (fun x34 => intK IntKind.i64 a7 (fun x35 => intK IntKind.i64 a8 (fun x36 => intK IntKind.i64 a10 (fun x37 => intK IntKind.i64 a11 (fun x38 => cond (decide (x38 < x37)) (
slAtW a9 x38 2 (fun ad39 => ∃ v40 : Value, ∃ v41 : Value, rdN h32 ad39 2 = some [v40, v41] ∧ newW h32 [(Value.slice none 0 0), (Value.slice none 0 0)] (fun p42 h43 => ptrW p42 (fun ad44 => 2 = 2 ∧ List.all [v40, v41] one = true ∧ ∃ h45, wr h43 ad44 [v40, v41] = some h45 ∧ cond t33 (
ptrW a1 (fun ad46 => ∃ v47 : Value, ∃ x48 : Int, ∃ v49 : Value, rdN h45 ad46 3 = some [v47, (Value.int IntKind.i64 x48), v49] ∧ ptrW a5 (fun ad50 => ∃ v51 : Value, ∃ v52 : Value, rdN h45 ad50 2 = some [v51, v52] ∧ ptrW p42 (fun ad53 => ∃ v54 : Value, ∃ v55 : Value, rdN h45 ad53 2 = some [v54, v55] ∧ D 71 [(Value.agg #[v47, (Value.int IntKind.i64 x48), v49]), (Value.agg #[v51, v52]), (Value.agg #[v54, v55])] h45 (fun v56 h57 => ∃ t58 : Bool, v56 = (Value.bool t58) ∧ j42_7_10 D I K a0 a1 (Value.bool t33) a3 (Value.int IntKind.i64 x34) a5 (Value.int IntKind.i64 x38) a6 (Value.int IntKind.i64 x35) (Value.int IntKind.i64 x36) a9 (Value.int IntKind.i64 x37) (Value.int IntKind.i64 x38) (Value.bool t58) h57) (fun c h => K (X.p c) [] h))))) (
j42_7_10 D I K a0 a1 (Value.bool t33) a3 (Value.int IntKind.i64 x34) a5 (Value.int IntKind.i64 x38) a6 (Value.int IntKind.i64 x35) (Value.int IntKind.i64 x36) a9 (Value.int IntKind.i64 x37) (Value.int IntKind.i64 x38) (Value.bool false) h45))))) (
K (X.e 2) [a0, a1, (Value.bool t33), a3, a6, (Value.int IntKind.i64 x35), (Value.int IntKind.i64 x36)] h32)))))))
def loop42_7 (D : Orc) (vs : List Value) (h : H) (K : Kl) : Prop := ∀ I : List Value → H → Prop, (∀ a0 a1 a2 a3 a4 a5 a6 a7 a8 a9 a10 a11 h, round42_7 D I K a0 a1 a2 a3 a4 a5 a6 a7 a8 a9 a10 a11 h → I [a0, a1, a2, a3, a4, a5, a6, a7, a8, a9, a10, a11] h) → I vs h
def round42_4 (D : Orc) (I : List Value → H → Prop) (K : Kl) (a0 a1 a2 a3 a4 a5 a6 : Value) (h20 : H) : Prop :=
boolW a2 (fun t21 => intK IntKind.i64 a5 (fun x22 => intK IntKind.i64 a6 (fun x23 => cond (decide (x23 < x22)) (
slAtW a4 x23 2 (fun ad24 => ∃ v25 : Value, ∃ v26 : Value, rdN h20 ad24 2 = some [v25, v26] ∧ newW h20 [(Value.slice none 0 0), (Value.slice none 0 0)] (fun p27 h28 => ptrW p27 (fun ad29 => 2 = 2 ∧ List.all [v25, v26] one = true ∧ ∃ h30, wr h28 ad29 [v25, v26] = some h30 ∧ lenW a0 (fun n31 => loop42_7 D [a0, a1, (Value.bool t21), a3, (Value.int IntKind.i64 x23), p27, a4, (Value.int IntKind.i64 x22), (Value.int IntKind.i64 x23), a0, (Value.int IntKind.i64 (n31 : Int)), (Value.int IntKind.i64 (0 : Int))] h30 (fun x86 vs87 h85 => xs x86 (K X.r [(nth vs87 0)] h85) (fun i88 => cond (Nat.beq i88 2) (
boolW (nth vs87 2) (fun t89 => intK IntKind.i64 (nth vs87 5) (fun x90 => intK IntKind.i64 (nth vs87 6) (fun x91 => I [(nth vs87 0), (nth vs87 1), (Value.bool t89), (nth vs87 3), (nth vs87 4), (Value.int IntKind.i64 x90), (Value.int IntKind.i64 (IntKind.wrap IntKind.i64 (x91 + (1 : Int))))] h85)))) (False)) (fun c => (fun c h => K (X.p c) [] h) c h85))))))) (
K (X.e 0) [a3] h20))))
def loop42_4 (D : Orc) (vs : List Value) (h : H) (K : Kl) : Prop := ∀ I : List Value → H → Prop, (∀ a0 a1 a2 a3 a4 a5 a6 h, round42_4 D I K a0 a1 a2 a3 a4 a5 a6 h → I [a0, a1, a2, a3, a4, a5, a6] h) → I vs h
def L42 (D : Orc) : Lor := fun b vs h K => match firstId b with | some i => cond (Nat.beq i 4) (loop42_4 D vs h K) (cond (Nat.beq i 7) (loop42_7 D vs h K) (False)) | none => False
/-- lodestone/pairs.Graph -/
def F42 (D : Orc) (a0 a1 : Value) (h : H) (k : Kv) (kp : Kp) : Prop :=
aggW a0 (fun l0 => newW h l0 (fun p1 h2 => ptrW p1 (fun ad3 => ∃ v4 : Value, ∃ v5 : Value, rdN h2 ad3 2 = some [v4, v5] ∧ D 70 [(Value.agg #[v4, v5])] h2 (fun v6 h7 => ∃ v8 : Value, ∃ x9 : Int, ∃ v10 : Value, ∃ t11 : Bool, v6 = (Value.tuple #[(Value.agg #[v8, (Value.int IntKind.i64 x9), v10]), (Value.bool t11)]) ∧ newW h7 [(Value.slice none 0 0), (Value.int IntKind.i64 (0 : Int)), (Value.slice none 0 0)] (fun p12 h13 => ptrW p12 (fun ad14 => 3 = 3 ∧ List.all [v8, (Value.int IntKind.i64 x9), v10] one = true ∧ ∃ h15, wr h13 ad14 [v8, (Value.int IntKind.i64 x9), v10] = some h15 ∧ lenW a1 (fun n16 => mkSliceW h15 24 [(Value.slice none 0 0)] (n16 : Int) (n16 : Int) (fun s17 h18 => lenW a1 (fun n19 => loop42_4 D [a1, p12, (Value.bool t11), s17, a1, (Value.int IntKind.i64 (n19 : Int)), (Value.int IntKind.i64 (0 : Int))] h18 (fun x93 vs94 h92 => xs x93 (k (nth vs94 0) h92) (fun i95 => cond (Nat.beq i95 0) (
k (nth vs94 0) h92) (False)) (fun c => kp c h92)))))))) kp)))
def Cl42 (D : Orc) : Prop := ∀ a0 a1 h k kp, F42 D a0 a1 h k kp → D 42 [a0, a1] h k kp
theorem tieR42_4 (D : Orc) (I : List Value → H → Prop) (K : Kl) (a0 a1 a2 a3 a4 a5 a6 : Value) (h : H) : round42_4 D I K a0 a1 a2 a3 a4 a5 a6 h = round Tryd.prog D (L42 D) lv42 (nthC (allLoops (bodyOf Tryd.f42)) 0) I K [a0, a1, a2, a3, a4, a5, a6] h := by kernel_rfl
theorem tieR42_7 (D : Orc) (I : List Value → H → Prop) (K : Kl) (a0 a1 a2 a3 a4 a5 a6 a7 a8 a9 a10 a11 : Value) (h : H) : round42_7 D I K a0 a1 a2 a3 a4 a5 a6 a7 a8 a9 a10 a11 h = round Tryd.prog D (L42 D) lv42 (nthC (allLoops (bodyOf Tryd.f42)) 1) I K [a0, a1, a2, a3, a4, a5, a6, a7, a8, a9, a10, a11] h := by kernel_rfl
theorem tieF42 (D : Orc) (a0 a1 : Value) (h : H) (k : Kv) (kp : Kp) : F42 D a0 a1 h k kp = bodyW Tryd.prog D (L42 D) lv42 Tryd.f42 [a0, a1] h k kp := by kernel_rfl
theorem lfp42 : Lfps Tryd.prog (CS Tryd.prog) (L42 (CS Tryd.prog)) lv42 (allLoops (bodyOf Tryd.f42)) := by
  have e : (allLoops (bodyOf Tryd.f42)) = [nthC (allLoops (bodyOf Tryd.f42)) 0, nthC (allLoops (bodyOf Tryd.f42)) 1] := by kernel_rfl
  rw [e]
  exact ⟨(fun vs h K hk I H => hk I (fun a0 a1 a2 a3 a4 a5 a6 h hr => H _ _ ((tieR42_4 (CS Tryd.prog) I K a0 a1 a2 a3 a4 a5 a6 h) ▸ hr))), (fun vs h K hk I H => hk I (fun a0 a1 a2 a3 a4 a5 a6 a7 a8 a9 a10 a11 h hr => H _ _ ((tieR42_7 (CS Tryd.prog) I K a0 a1 a2 a3 a4 a5 a6 a7 a8 a9 a10 a11 h) ▸ hr))), trivial⟩
theorem cl42 : Cl42 (CS Tryd.prog) := fun a0 a1 h k kp hk =>
  fn_sound wide (fn := Tryd.f42) (by kernel_rfl) (by kernel_rfl) (by kernel_rfl) lfp42 (by rw [tieF42] at hk; exact hk)
def lv43 : Lv := Lv.mk 21 [.raw, .raw, .raw] (fun i => []) (fun i => []) [(6, .bool)] (fun i => none)
def L43 (D : Orc) : Lor := fun b vs h K => match firstId b with | some i => False | none => False
/-- lodestone/pairs.Edge -/
def F43 (D : Orc) (a0 a1 a2 : Value) (h : H) (k : Kv) (kp : Kp) : Prop :=
aggW a0 (fun l0 => newW h l0 (fun p1 h2 => aggW a1 (fun l3 => newW h2 l3 (fun p4 h5 => aggW a2 (fun l6 => newW h5 l6 (fun p7 h8 => ptrW p1 (fun ad9 => ∃ v10 : Value, ∃ v11 : Value, rdN h8 ad9 2 = some [v10, v11] ∧ D 70 [(Value.agg #[v10, v11])] h8 (fun v12 h13 => ∃ v14 : Value, ∃ x15 : Int, ∃ v16 : Value, ∃ t17 : Bool, v12 = (Value.tuple #[(Value.agg #[v14, (Value.int IntKind.i64 x15), v16]), (Value.bool t17)]) ∧ newW h13 [(Value.slice none 0 0), (Value.int IntKind.i64 (0 : Int)), (Value.slice none 0 0)] (fun p18 h19 => ptrW p18 (fun ad20 => 3 = 3 ∧ List.all [v14, (Value.int IntKind.i64 x15), v16] one = true ∧ ∃ h21, wr h19 ad20 [v14, (Value.int IntKind.i64 x15), v16] = some h21 ∧ cond t17 (
ptrW p18 (fun ad22 => ∃ v23 : Value, ∃ x24 : Int, ∃ v25 : Value, rdN h21 ad22 3 = some [v23, (Value.int IntKind.i64 x24), v25] ∧ ptrW p4 (fun ad26 => ∃ v27 : Value, ∃ v28 : Value, rdN h21 ad26 2 = some [v27, v28] ∧ ptrW p7 (fun ad29 => ∃ v30 : Value, ∃ v31 : Value, rdN h21 ad29 2 = some [v30, v31] ∧ D 71 [(Value.agg #[v23, (Value.int IntKind.i64 x24), v25]), (Value.agg #[v27, v28]), (Value.agg #[v30, v31])] h21 (fun v32 h33 => ∃ t34 : Bool, v32 = (Value.bool t34) ∧ k (Value.bool t34) h33) kp)))) (
k (Value.bool false) h21)))) kp)))))))
def Cl43 (D : Orc) : Prop := ∀ a0 a1 a2 h k kp, F43 D a0 a1 a2 h k kp → D 43 [a0, a1, a2] h k kp
theorem tieF43 (D : Orc) (a0 a1 a2 : Value) (h : H) (k : Kv) (kp : Kp) : F43 D a0 a1 a2 h k kp = bodyW Tryd.prog D (L43 D) lv43 Tryd.f43 [a0, a1, a2] h k kp := by kernel_rfl
theorem lfp43 : Lfps Tryd.prog (CS Tryd.prog) (L43 (CS Tryd.prog)) lv43 (allLoops (bodyOf Tryd.f43)) := by
  have e : (allLoops (bodyOf Tryd.f43)) = [] := by kernel_rfl
  rw [e]
  exact trivial
theorem cl43 : Cl43 (CS Tryd.prog) := fun a0 a1 a2 h k kp hk =>
  fn_sound wide (fn := Tryd.f43) (by kernel_rfl) (by kernel_rfl) (by kernel_rfl) lfp43 (by rw [tieF43] at hk; exact hk)
def lv45 : Lv := Lv.mk 8 [.raw] (fun i => []) (fun i => []) [(2, .raw)] (fun i => none)
def L45 (D : Orc) : Lor := fun b vs h K => match firstId b with | some i => False | none => False
/-- slices.Clone[[]lodestone/api.Symbol,lodestone/api.Symbol] -/
def F45 (D : Orc) (a0 : Value) (h : H) (k : Kv) (kp : Kp) : Prop :=
eqSl a0 (Value.slice none 0 0) (fun t0 => cond t0 (
k (Value.slice none 0 0) h) (
newSl h 0 [] (fun s1 h2 => slenW a0 (fun n3 => srcW h2 2 a0 (n3) (fun w4 => apW h2 2 24 [(Value.string (ByteArray.mk #[])), (Value.int IntKind.i64 (0 : Int))] s1 (n3) w4 (fun s5 h6 => k s5 h6))))))
def Cl45 (D : Orc) : Prop := ∀ a0 h k kp, F45 D a0 h k kp → D 45 [a0] h k kp
theorem tieF45 (D : Orc) (a0 : Value) (h : H) (k : Kv) (kp : Kp) : F45 D a0 h k kp = bodyW Tryd.prog D (L45 D) lv45 Tryd.f45 [a0] h k kp := by kernel_rfl
theorem lfp45 : Lfps Tryd.prog (CS Tryd.prog) (L45 (CS Tryd.prog)) lv45 (allLoops (bodyOf Tryd.f45)) := by
  have e : (allLoops (bodyOf Tryd.f45)) = [] := by kernel_rfl
  rw [e]
  exact trivial
theorem cl45 : Cl45 (CS Tryd.prog) := fun a0 h k kp hk =>
  fn_sound wide (fn := Tryd.f45) (by kernel_rfl) (by kernel_rfl) (by kernel_rfl) lfp45 (by rw [tieF45] at hk; exact hk)
def lv47 : Lv := Lv.mk 15 [.raw] (fun i => []) (fun i => []) [(3, .raw)] (fun i => none)
def L47 (D : Orc) : Lor := fun b vs h K => match firstId b with | some i => False | none => False
/-- lodestone/pairs.Of$1 -/
def F47 (D : Orc) (a0 a1 : Value) (h : H) (k : Kv) (kp : Kp) : Prop :=
D 48 [a0] h (fun v0 h1 => ∃ v2 : Value, v0 = v2 ∧ slAtW v2 (0 : Int) 1 (fun ad3 => ∃ x4 : Int, rd h1 ad3 = some (Value.int IntKind.i64 x4) ∧ ptrW a1 (fun ad5 => ∃ v6 : Value, rd h1 (Addr.add ad5 0) = some v6 ∧ lenW v6 (fun n7 => slAtW v2 (0 : Int) 1 (fun ad8 => one (Value.int IntKind.i64 (IntKind.wrap IntKind.i64 (x4 + (n7 : Int)))) = true ∧ 1 = 1 ∧ ∃ h9, wr1 h1 ad8 (Value.int IntKind.i64 (IntKind.wrap IntKind.i64 (x4 + (n7 : Int)))) = some h9 ∧ k v2 h9))))) kp
def Cl47 (D : Orc) : Prop := ∀ a0 a1 h k kp, F47 D a0 a1 h k kp → D 47 [a0, a1] h k kp
theorem tieF47 (D : Orc) (a0 a1 : Value) (h : H) (k : Kv) (kp : Kp) : F47 D a0 a1 h k kp = bodyW Tryd.prog D (L47 D) lv47 Tryd.f47 [a0, a1] h k kp := by kernel_rfl
theorem lfp47 : Lfps Tryd.prog (CS Tryd.prog) (L47 (CS Tryd.prog)) lv47 (allLoops (bodyOf Tryd.f47)) := by
  have e : (allLoops (bodyOf Tryd.f47)) = [] := by kernel_rfl
  rw [e]
  exact trivial
theorem cl47 : Cl47 (CS Tryd.prog) := fun a0 a1 h k kp hk =>
  fn_sound wide (fn := Tryd.f47) (by kernel_rfl) (by kernel_rfl) (by kernel_rfl) lfp47 (by rw [tieF47] at hk; exact hk)
def lv50 : Lv := Lv.mk 30 [.raw, .raw, .int IntKind.i64] (fun i => []) (fun i => []) [(6, .raw), (7, .int IntKind.i64)] (fun i => none)
def L50 (D : Orc) : Lor := fun b vs h K => match firstId b with | some i => False | none => False
/-- lodestone/term.Sub -/
def F50 (D : Orc) (a0 a1 a2 : Value) (h : H) (k : Kv) (kp : Kp) : Prop :=
intK IntKind.i64 a2 (fun x0 => D 76 [a0, a1, (Value.int IntKind.i64 x0)] h (fun v1 h2 => ∃ v3 : Value, ∃ v4 : Value, ∃ x5 : Int, v1 = (Value.tuple #[v3, v4, (Value.int IntKind.i64 x5)]) ∧ cond (x5 != (0 : Int)) (
k (Value.tuple #[(Value.slice none 0 0), (Value.int IntKind.i64 x5)]) h2) (
invW Tryd.prog D 3 v3 "lodestone/term.size" [] h2 (fun v6 h7 => intK IntKind.i64 v6 (fun x8 => slCutW a1 (some x0) (some (IntKind.wrap IntKind.i64 (x0 + x8))) none 1 (fun s9 => D 48 [s9] h7 (fun v10 h11 => ∃ v12 : Value, v10 = v12 ∧ k (Value.tuple #[v12, (Value.int IntKind.i64 (0 : Int))]) h11) kp))) kp)) kp)
def Cl50 (D : Orc) : Prop := ∀ a0 a1 a2 h k kp, F50 D a0 a1 a2 h k kp → D 50 [a0, a1, a2] h k kp
theorem tieF50 (D : Orc) (a0 a1 a2 : Value) (h : H) (k : Kv) (kp : Kp) : F50 D a0 a1 a2 h k kp = bodyW Tryd.prog D (L50 D) lv50 Tryd.f50 [a0, a1, a2] h k kp := by kernel_rfl
theorem lfp50 : Lfps Tryd.prog (CS Tryd.prog) (L50 (CS Tryd.prog)) lv50 (allLoops (bodyOf Tryd.f50)) := by
  have e : (allLoops (bodyOf Tryd.f50)) = [] := by kernel_rfl
  rw [e]
  exact trivial
theorem cl50 : Cl50 (CS Tryd.prog) := fun a0 a1 a2 h k kp hk =>
  fn_sound wide (fn := Tryd.f50) (by kernel_rfl) (by kernel_rfl) (by kernel_rfl) lfp50 (by rw [tieF50] at hk; exact hk)
def lv51 : Lv := Lv.mk 18 [.raw, .int IntKind.i64] (fun i => cond (Nat.beq i 2) ([(0, .raw), (1, .int IntKind.i64), (5, .int IntKind.i64)]) ([])) (fun i => cond (Nat.beq i 2) ([(0, [])]) ([])) [(4, .bool)] (fun i => none)
def round51_2 (D : Orc) (I : List Value → H → Prop) (K : Kl) (a0 a1 a2 : Value) (h1 : H) : Prop :=
intK IntKind.i64 a1 (fun x2 => intK IntKind.i64 a2 (fun x3 => lenW a0 (fun n4 => cond (decide (x3 < (n4 : Int))) (
slAtW a0 x3 1 (fun ad5 => ∃ x6 : Int, rd h1 ad5 = some (Value.int IntKind.i64 x6) ∧ cond (x6 == x2) (
K X.r [(Value.bool true)] h1) (
I [a0, (Value.int IntKind.i64 x2), (Value.int IntKind.i64 (IntKind.wrap IntKind.i64 (x3 + (1 : Int))))] h1))) (
K (X.e 0) [] h1))))
def loop51_2 (D : Orc) (vs : List Value) (h : H) (K : Kl) : Prop := ∀ I : List Value → H → Prop, (∀ a0 a1 a2 h, round51_2 D I K a0 a1 a2 h → I [a0, a1, a2] h) → I vs h
def L51 (D : Orc) : Lor := fun b vs h K => match firstId b with | some i => cond (Nat.beq i 2) (loop51_2 D vs h K) (False) | none => False
/-- lodestone/lodestoneref13.has -/
def F51 (D : Orc) (a0 a1 : Value) (h : H) (k : Kv) (kp : Kp) : Prop :=
intK IntKind.i64 a1 (fun x0 => loop51_2 D [a0, (Value.int IntKind.i64 x0), (Value.int IntKind.i64 (0 : Int))] h (fun x8 vs9 h7 => xs x8 (boolW (nth vs9 0) (fun t11 => k (Value.bool t11) h7)) (fun i10 => cond (Nat.beq i10 0) (
k (Value.bool false) h7) (False)) (fun c => kp c h7)))
def Cl51 (D : Orc) : Prop := ∀ a0 a1 h k kp, F51 D a0 a1 h k kp → D 51 [a0, a1] h k kp
theorem tieR51_2 (D : Orc) (I : List Value → H → Prop) (K : Kl) (a0 a1 a2 : Value) (h : H) : round51_2 D I K a0 a1 a2 h = round Tryd.prog D (L51 D) lv51 (nthC (allLoops (bodyOf Tryd.f51)) 0) I K [a0, a1, a2] h := by kernel_rfl
theorem tieF51 (D : Orc) (a0 a1 : Value) (h : H) (k : Kv) (kp : Kp) : F51 D a0 a1 h k kp = bodyW Tryd.prog D (L51 D) lv51 Tryd.f51 [a0, a1] h k kp := by kernel_rfl
theorem lfp51 : Lfps Tryd.prog (CS Tryd.prog) (L51 (CS Tryd.prog)) lv51 (allLoops (bodyOf Tryd.f51)) := by
  have e : (allLoops (bodyOf Tryd.f51)) = [nthC (allLoops (bodyOf Tryd.f51)) 0] := by kernel_rfl
  rw [e]
  exact ⟨(fun vs h K hk I H => hk I (fun a0 a1 a2 h hr => H _ _ ((tieR51_2 (CS Tryd.prog) I K a0 a1 a2 h) ▸ hr))), trivial⟩
theorem cl51 : Cl51 (CS Tryd.prog) := fun a0 a1 h k kp hk =>
  fn_sound wide (fn := Tryd.f51) (by kernel_rfl) (by kernel_rfl) (by kernel_rfl) lfp51 (by rw [tieF51] at hk; exact hk)
def lv52 : Lv := Lv.mk 17 [.raw, .int IntKind.i64] (fun i => []) (fun i => []) [(4, .raw)] (fun i => none)
def L52 (D : Orc) : Lor := fun b vs h K => match firstId b with | some i => False | none => False
/-- lodestone/lodestoneref13.marked -/
def F52 (D : Orc) (a0 a1 : Value) (h : H) (k : Kv) (kp : Kp) : Prop :=
intK IntKind.i64 a1 (fun x0 => newSl h 0 [] (fun s1 h2 => slenW a0 (fun n3 => srcW h2 1 a0 (n3) (fun w4 => apW h2 1 8 [(Value.int IntKind.i64 (0 : Int))] s1 (n3) w4 (fun s5 h6 => slAtW s5 (0 : Int) 1 (fun ad7 => ∃ x8 : Int, rd h6 ad7 = some (Value.int IntKind.i64 x8) ∧ slAtW s5 (0 : Int) 1 (fun ad9 => one (Value.int IntKind.i64 (IntKind.wrap IntKind.i64 (x8 + x0))) = true ∧ 1 = 1 ∧ ∃ h10, wr1 h6 ad9 (Value.int IntKind.i64 (IntKind.wrap IntKind.i64 (x8 + x0))) = some h10 ∧ k s5 h10)))))))
def Cl52 (D : Orc) : Prop := ∀ a0 a1 h k kp, F52 D a0 a1 h k kp → D 52 [a0, a1] h k kp
theorem tieF52 (D : Orc) (a0 a1 : Value) (h : H) (k : Kv) (kp : Kp) : F52 D a0 a1 h k kp = bodyW Tryd.prog D (L52 D) lv52 Tryd.f52 [a0, a1] h k kp := by kernel_rfl
theorem lfp52 : Lfps Tryd.prog (CS Tryd.prog) (L52 (CS Tryd.prog)) lv52 (allLoops (bodyOf Tryd.f52)) := by
  have e : (allLoops (bodyOf Tryd.f52)) = [] := by kernel_rfl
  rw [e]
  exact trivial
theorem cl52 : Cl52 (CS Tryd.prog) := fun a0 a1 h k kp hk =>
  fn_sound wide (fn := Tryd.f52) (by kernel_rfl) (by kernel_rfl) (by kernel_rfl) lfp52 (by rw [tieF52] at hk; exact hk)
def lv53 : Lv := Lv.mk 30 [.raw, .raw, .int IntKind.i64] (fun i => cond (Nat.beq i 2) ([(0, .raw), (1, .raw), (2, .int IntKind.i64), (7, .int IntKind.i64)]) ([])) (fun i => cond (Nat.beq i 2) ([(0, [(2, .int IntKind.i64)])]) ([])) [(6, .int IntKind.i64)] (fun i => cond (Nat.beq i 6) (some [(0, .raw), (1, .raw), (2, .int IntKind.i64), (7, .int IntKind.i64)]) (none))
def j53_2_6 (D : Orc) (I : List Value → H → Prop) (K : Kl) (a0 a1 a2 a3 : Value) (h10 : H) : Prop :=
intK IntKind.i64 a2 (fun x11 => intK IntKind.i64 a3 (fun x12 => I [a0, a1, (Value.int IntKind.i64 (IntKind.wrap IntKind.i64 (x11 + (1 : Int)))), (Value.int IntKind.i64 x12)] h10))
def round53_2 (D : Orc) (I : List Value → H → Prop) (K : Kl) (a0 a1 a2 a3 : Value) (h1 : H) : Prop :=
intK IntKind.i64 a2 (fun x2 => intK IntKind.i64 a3 (fun x3 => cond (decide (x3 > (0 : Int))) (
slAtW a1 x2 1 (fun ad4 => ∃ x5 : Int, rd h1 ad4 = some (Value.int IntKind.i64 x5) ∧ cond (decide (x5 ≥ (0 : Int))) (
slAtW a1 x2 1 (fun ad6 => ∃ x7 : Int, rd h1 ad6 = some (Value.int IntKind.i64 x7) ∧ slAtW a0 x7 2 (fun ad8 => ∃ x9 : Int, rd h1 (Addr.add ad8 1) = some (Value.int IntKind.i64 x9) ∧ j53_2_6 D I K a0 a1 (Value.int IntKind.i64 x2) (Value.int IntKind.i64 (IntKind.wrap IntKind.i64 ((IntKind.wrap IntKind.i64 (x3 - (1 : Int))) + x9))) h1))) (
j53_2_6 D I K a0 a1 (Value.int IntKind.i64 x2) (Value.int IntKind.i64 (IntKind.wrap IntKind.i64 (x3 - (1 : Int)))) h1))) (
K (X.e 0) [(Value.int IntKind.i64 x2)] h1)))
def loop53_2 (D : Orc) (vs : List Value) (h : H) (K : Kl) : Prop := ∀ I : List Value → H → Prop, (∀ a0 a1 a2 a3 h, round53_2 D I K a0 a1 a2 a3 h → I [a0, a1, a2, a3] h) → I vs h
def L53 (D : Orc) : Lor := fun b vs h K => match firstId b with | some i => cond (Nat.beq i 2) (loop53_2 D vs h K) (False) | none => False
/-- lodestone/lodestoneref03.End -/
def F53 (D : Orc) (a0 a1 a2 : Value) (h : H) (k : Kv) (kp : Kp) : Prop :=
intK IntKind.i64 a2 (fun x0 => loop53_2 D [a0, a1, (Value.int IntKind.i64 x0), (Value.int IntKind.i64 (1 : Int))] h (fun x14 vs15 h13 => xs x14 (intK IntKind.i64 (nth vs15 0) (fun x17 => k (Value.int IntKind.i64 x17) h13)) (fun i16 => cond (Nat.beq i16 0) (
intK IntKind.i64 (nth vs15 0) (fun x18 => k (Value.int IntKind.i64 x18) h13)) (False)) (fun c => kp c h13)))
def Cl53 (D : Orc) : Prop := ∀ a0 a1 a2 h k kp, F53 D a0 a1 a2 h k kp → D 53 [a0, a1, a2] h k kp
theorem tieR53_2 (D : Orc) (I : List Value → H → Prop) (K : Kl) (a0 a1 a2 a3 : Value) (h : H) : round53_2 D I K a0 a1 a2 a3 h = round Tryd.prog D (L53 D) lv53 (nthC (allLoops (bodyOf Tryd.f53)) 0) I K [a0, a1, a2, a3] h := by kernel_rfl
theorem tieF53 (D : Orc) (a0 a1 a2 : Value) (h : H) (k : Kv) (kp : Kp) : F53 D a0 a1 a2 h k kp = bodyW Tryd.prog D (L53 D) lv53 Tryd.f53 [a0, a1, a2] h k kp := by kernel_rfl
theorem lfp53 : Lfps Tryd.prog (CS Tryd.prog) (L53 (CS Tryd.prog)) lv53 (allLoops (bodyOf Tryd.f53)) := by
  have e : (allLoops (bodyOf Tryd.f53)) = [nthC (allLoops (bodyOf Tryd.f53)) 0] := by kernel_rfl
  rw [e]
  exact ⟨(fun vs h K hk I H => hk I (fun a0 a1 a2 a3 h hr => H _ _ ((tieR53_2 (CS Tryd.prog) I K a0 a1 a2 a3 h) ▸ hr))), trivial⟩
theorem cl53 : Cl53 (CS Tryd.prog) := fun a0 a1 a2 h k kp hk =>
  fn_sound wide (fn := Tryd.f53) (by kernel_rfl) (by kernel_rfl) (by kernel_rfl) lfp53 (by rw [tieF53] at hk; exact hk)
def lv70 : Lv := Lv.mk 28 [.raw] (fun i => []) (fun i => []) [(2, .raw), (3, .bool)] (fun i => none)
def L70 (D : Orc) : Lor := fun b vs h K => match firstId b with | some i => False | none => False
/-- lodestone/pairs.of -/
def F70 (D : Orc) (a0 : Value) (h : H) (k : Kv) (kp : Kp) : Prop :=
aggW a0 (fun l0 => newW h l0 (fun p1 h2 => newW h2 [(Value.slice none 0 0), (Value.int IntKind.i64 (0 : Int)), (Value.slice none 0 0)] (fun p3 h4 => ptrW p1 (fun ad5 => ∃ v6 : Value, ∃ v7 : Value, rdN h4 ad5 2 = some [v6, v7] ∧ D 10 [(Value.agg #[v6, v7])] h4 (fun v8 h9 => ∃ x10 : Int, ∃ x11 : Int, v8 = (Value.tuple #[(Value.int IntKind.i64 x10), (Value.int IntKind.i64 x11)]) ∧ ptrW p1 (fun ad12 => ∃ v13 : Value, rd h9 (Addr.add ad12 0) = some v13 ∧ D 20 [v13] h9 (fun v14 h15 => ∃ v16 : Value, ∃ x17 : Int, v14 = (Value.tuple #[v16, (Value.int IntKind.i64 x17)]) ∧ ptrW p1 (fun ad18 => ∃ v19 : Value, rd h15 (Addr.add ad18 0) = some v19 ∧ lenW v19 (fun n20 => ptrW p1 (fun ad21 => ∃ v22 : Value, ∃ v23 : Value, rdN h15 ad21 2 = some [v22, v23] ∧ D 12 [(Value.agg #[v22, v23])] h15 (fun v24 h25 => ∃ v26 : Value, v24 = v26 ∧ (rd h25 (Addr.add ad18 0) = some v19) ∧ one v16 = true ∧ 0 < 3 ∧ one (Value.int IntKind.i64 (n20 : Int)) = true ∧ 1 < 3 ∧ one v26 = true ∧ 2 < 3 ∧ ptrW p3 (fun ad27 => 3 = 3 ∧ List.all [v16, (Value.int IntKind.i64 (n20 : Int)), v26] one = true ∧ ∃ h28, wr h25 ad27 [v16, (Value.int IntKind.i64 (n20 : Int)), v26] = some h28 ∧ ptrW p3 (fun ad29 => ∃ v30 : Value, ∃ x31 : Int, ∃ v32 : Value, rdN h28 ad29 3 = some [v30, (Value.int IntKind.i64 x31), v32] ∧ k (Value.tuple #[(Value.agg #[v30, (Value.int IntKind.i64 x31), v32]), (Value.bool (x10 == (0 : Int)))]) h28))) kp)))) kp)) kp))))
def Cl70 (D : Orc) : Prop := ∀ a0 h k kp, F70 D a0 h k kp → D 70 [a0] h k kp
theorem tieF70 (D : Orc) (a0 : Value) (h : H) (k : Kv) (kp : Kp) : F70 D a0 h k kp = bodyW Tryd.prog D (L70 D) lv70 Tryd.f70 [a0] h k kp := by kernel_rfl
theorem lfp70 : Lfps Tryd.prog (CS Tryd.prog) (L70 (CS Tryd.prog)) lv70 (allLoops (bodyOf Tryd.f70)) := by
  have e : (allLoops (bodyOf Tryd.f70)) = [] := by kernel_rfl
  rw [e]
  exact trivial
theorem cl70 : Cl70 (CS Tryd.prog) := fun a0 h k kp hk =>
  fn_sound wide (fn := Tryd.f70) (by kernel_rfl) (by kernel_rfl) (by kernel_rfl) lfp70 (by rw [tieF70] at hk; exact hk)
def lv71 : Lv := Lv.mk 57 [.raw, .raw, .raw] (fun i => []) (fun i => []) [(6, .bool)] (fun i => cond (Nat.beq i 2) (some [(3, .raw), (4, .raw), (5, .raw), (33, .bool)]) (none))
def j71__2 (D : Orc) (k : Kv) (kp : Kp) (a0 a1 a2 a3 : Value) (h35 : H) : Prop :=
boolW a3 (fun t36 => cond t36 (
k (Value.bool false) h35) (
ptrW a0 (fun ad37 => ∃ v38 : Value, ∃ x39 : Int, ∃ v40 : Value, rdN h35 ad37 3 = some [v38, (Value.int IntKind.i64 x39), v40] ∧ ptrW a1 (fun ad41 => ∃ v42 : Value, rd h35 (Addr.add ad41 1) = some v42 ∧ D 85 [(Value.agg #[v38, (Value.int IntKind.i64 x39), v40]), v42] h35 (fun v43 h44 => ∃ v45 : Value, ∃ x46 : Int, v43 = (Value.tuple #[v45, (Value.int IntKind.i64 x46)]) ∧ ptrW a2 (fun ad47 => ∃ v48 : Value, rd h44 (Addr.add ad47 0) = some v48 ∧ one v48 = true ∧ 0 < 1 ∧ newSl h44 1 [v48] (fun s49 h50 => D 67 [s49] h50 (fun v51 h52 => ∃ v53 : Value, v51 = v53 ∧ slAtW v53 (0 : Int) 1 (fun ad54 => ∃ v55 : Value, rd h52 ad54 = some v55 ∧ D 86 [v55, (Value.int IntKind.i64 x46)] h52 (fun v56 h57 => ∃ v58 : Value, ∃ x59 : Int, v56 = (Value.tuple #[v58, (Value.int IntKind.i64 x59)]) ∧ ptrW a0 (fun ad60 => ∃ v61 : Value, rd h57 (Addr.add ad60 0) = some v61 ∧ D 87 [v61, v45, v58] h57 (fun v62 h63 => ∃ t64 : Bool, v62 = (Value.bool t64) ∧ k (Value.bool t64) h63) kp)) kp)) kp))) kp))))
def L71 (D : Orc) : Lor := fun b vs h K => match firstId b with | some i => False | none => False
/-- (lodestone/pairs.estimate).edge -/
def F71 (D : Orc) (a0 a1 a2 : Value) (h : H) (k : Kv) (kp : Kp) : Prop :=
aggW a0 (fun l0 => newW h l0 (fun p1 h2 => aggW a1 (fun l3 => newW h2 l3 (fun p4 h5 => aggW a2 (fun l6 => newW h5 l6 (fun p7 h8 => ptrW p1 (fun ad9 => ∃ v10 : Value, ∃ x11 : Int, ∃ v12 : Value, rdN h8 ad9 3 = some [v10, (Value.int IntKind.i64 x11), v12] ∧ ptrW p4 (fun ad13 => ∃ v14 : Value, rd h8 (Addr.add ad13 1) = some v14 ∧ D 84 [(Value.agg #[v10, (Value.int IntKind.i64 x11), v12]), v14] h8 (fun v15 h16 => ∃ t17 : Bool, v15 = (Value.bool t17) ∧ cond (!(!t17)) (
ptrW p1 (fun ad18 => ∃ v19 : Value, ∃ x20 : Int, ∃ v21 : Value, rdN h16 ad18 3 = some [v19, (Value.int IntKind.i64 x20), v21] ∧ ptrW p7 (fun ad22 => ∃ v23 : Value, rd h16 (Addr.add ad22 0) = some v23 ∧ D 84 [(Value.agg #[v19, (Value.int IntKind.i64 x20), v21]), v23] h16 (fun v24 h25 => ∃ t26 : Bool, v24 = (Value.bool t26) ∧ cond (!(!t26)) (
ptrW p4 (fun ad27 => ∃ v28 : Value, rd h25 (Addr.add ad27 1) = some v28 ∧ slAtW v28 (0 : Int) 1 (fun ad29 => ∃ x30 : Int, rd h25 ad29 = some (Value.int IntKind.i64 x30) ∧ ptrW p7 (fun ad31 => ∃ v32 : Value, rd h25 (Addr.add ad31 0) = some v32 ∧ slAtW v32 (0 : Int) 1 (fun ad33 => ∃ x34 : Int, rd h25 ad33 = some (Value.int IntKind.i64 x34) ∧ j71__2 D k kp p1 p4 p7 (Value.bool (x30 != x34)) h25))))) (
j71__2 D k kp p1 p4 p7 (Value.bool true) h25)) kp))) (
j71__2 D k kp p1 p4 p7 (Value.bool true) h16)) kp))))))))
def Cl71 (D : Orc) : Prop := ∀ a0 a1 a2 h k kp, F71 D a0 a1 a2 h k kp → D 71 [a0, a1, a2] h k kp
theorem tieF71 (D : Orc) (a0 a1 a2 : Value) (h : H) (k : Kv) (kp : Kp) : F71 D a0 a1 a2 h k kp = bodyW Tryd.prog D (L71 D) lv71 Tryd.f71 [a0, a1, a2] h k kp := by kernel_rfl
theorem lfp71 : Lfps Tryd.prog (CS Tryd.prog) (L71 (CS Tryd.prog)) lv71 (allLoops (bodyOf Tryd.f71)) := by
  have e : (allLoops (bodyOf Tryd.f71)) = [] := by kernel_rfl
  rw [e]
  exact trivial
theorem cl71 : Cl71 (CS Tryd.prog) := fun a0 a1 a2 h k kp hk =>
  fn_sound wide (fn := Tryd.f71) (by kernel_rfl) (by kernel_rfl) (by kernel_rfl) lfp71 (by rw [tieF71] at hk; exact hk)
def lv76 : Lv := Lv.mk 69 [.raw, .raw, .int IntKind.i64] (fun i => cond (Nat.beq i 8) ([(2, .int IntKind.i64), (9, .raw), (11, .raw), (12, .int IntKind.i64)]) (cond (Nat.beq i 13) ([(2, .int IntKind.i64), (9, .raw), (11, .raw), (12, .int IntKind.i64), (49, .raw), (50, .int IntKind.i64), (51, .int IntKind.i64)]) ([]))) (fun i => cond (Nat.beq i 8) ([(1, [(9, .raw), (11, .raw)])]) (cond (Nat.beq i 13) ([(3, [(2, .int IntKind.i64), (9, .raw), (11, .raw), (12, .int IntKind.i64)])]) ([]))) [(6, .raw), (7, .raw), (8, .int IntKind.i64)] (fun i => cond (Nat.beq i 5) (some [(2, .int IntKind.i64), (9, .raw), (26, .bool)]) (none))
def round76_13 (D : Orc) (I : List Value → H → Prop) (K : Kl) (a0 a1 a2 a3 a4 a5 a6 : Value) (h22 : H) : Prop :=
intK IntKind.i64 a0 (fun x23 => intK IntKind.i64 a3 (fun x24 => intK IntKind.i64 a5 (fun x25 => intK IntKind.i64 a6 (fun x26 => cond (decide (x26 < x25)) (
slAtW a4 x26 1 (fun ad27 => ∃ v28 : Value, rd h22 ad27 = some v28 ∧ invW Tryd.prog D 3 v28 "lodestone/term.size" [] h22 (fun v29 h30 => intK IntKind.i64 v29 (fun x31 => cond (decide ((IntKind.wrap IntKind.i64 (x24 + x31)) > x23)) (
K (X.e 3) [(Value.int IntKind.i64 x23), v28, a2, (Value.int IntKind.i64 x24)] h30) (
invW Tryd.prog D 3 v28 "lodestone/term.size" [] h30 (fun v32 h33 => intK IntKind.i64 v32 (fun x34 => I [(Value.int IntKind.i64 x23), a1, a2, (Value.int IntKind.i64 (IntKind.wrap IntKind.i64 (x24 + x34))), a4, (Value.int IntKind.i64 x25), (Value.int IntKind.i64 (IntKind.wrap IntKind.i64 (x26 + (1 : Int))))] h33)) (fun c h => K (X.p c) [] h)))) (fun c h => K (X.p c) [] h))) (
K (X.e 3) [(Value.int IntKind.i64 x23), a1, a2, (Value.int IntKind.i64 x24)] h22)))))
def loop76_13 (D : Orc) (vs : List Value) (h : H) (K : Kl) : Prop := ∀ I : List Value → H → Prop, (∀ a0 a1 a2 a3 a4 a5 a6 h, round76_13 D I K a0 a1 a2 a3 a4 a5 a6 h → I [a0, a1, a2, a3, a4, a5, a6] h) → I vs h
def round76_8 (D : Orc) (I : List Value → H → Prop) (K : Kl) (a0 a1 a2 a3 : Value) (h9 : H) : Prop :=
intK IntKind.i64 a0 (fun x10 => intK IntKind.i64 a3 (fun x11 => cond (decide (x11 < x10)) (
assertW Tryd.prog a1 103 false (fun v12 => one (Value.int IntKind.i64 x11) = true ∧ 0 < 1 ∧ newSl h9 1 [(Value.int IntKind.i64 x11)] (fun s13 h14 => slenW s13 (fun n15 => srcW h14 1 s13 (n15) (fun w16 => apW h14 1 8 [(Value.int IntKind.i64 (0 : Int))] a2 (n15) w16 (fun s17 h18 => nonNil v12 = true ∧ ptrW v12 (fun ad19 => ∃ v20 : Value, rd h18 (Addr.add ad19 2) = some v20 ∧ lenW v20 (fun n21 => loop76_13 D [(Value.int IntKind.i64 x10), a1, s17, (Value.int IntKind.i64 (IntKind.wrap IntKind.i64 (x11 + (1 : Int)))), v20, (Value.int IntKind.i64 (n21 : Int)), (Value.int IntKind.i64 (0 : Int))] h18 (fun x36 vs37 h35 => xs x36 (intK IntKind.i64 (nth vs37 2) (fun x39 => K X.r [(nth vs37 0), (nth vs37 1), (Value.int IntKind.i64 x39)] h35)) (fun i38 => cond (Nat.beq i38 3) (
intK IntKind.i64 (nth vs37 0) (fun x40 => intK IntKind.i64 (nth vs37 3) (fun x41 => I [(Value.int IntKind.i64 x40), (nth vs37 1), (nth vs37 2), (Value.int IntKind.i64 x41)] h35))) (False)) (fun c => (fun c h => K (X.p c) [] h) c h35)))))))))) (
K (X.e 1) [a1, a2] h9)))
def loop76_8 (D : Orc) (vs : List Value) (h : H) (K : Kl) : Prop := ∀ I : List Value → H → Prop, (∀ a0 a1 a2 a3 h, round76_8 D I K a0 a1 a2 a3 h → I [a0, a1, a2, a3] h) → I vs h
def j76__5 (D : Orc) (k : Kv) (kp : Kp) (a0 a1 a2 : Value) (h6 : H) : Prop :=
intK IntKind.i64 a0 (fun x7 => boolW a2 (fun t8 => cond t8 (
k (Value.tuple #[Value.nilIface, (Value.slice none 0 0), (Value.int IntKind.i64 (33 : Int))]) h6) (
loop76_8 D [(Value.int IntKind.i64 x7), a1, (Value.slice none 0 0), (Value.int IntKind.i64 (0 : Int))] h6 (fun x43 vs44 h42 => xs x43 (intK IntKind.i64 (nth vs44 2) (fun x46 => k (Value.tuple #[(nth vs44 0), (nth vs44 1), (Value.int IntKind.i64 x46)]) h42)) (fun i45 => cond (Nat.beq i45 1) (
k (Value.tuple #[(nth vs44 0), (nth vs44 1), (Value.int IntKind.i64 (0 : Int))]) h42) (False)) (fun c => kp c h42)))))
def L76 (D : Orc) : Lor := fun b vs h K => match firstId b with | some i => cond (Nat.beq i 8) (loop76_8 D vs h K) (cond (Nat.beq i 13) (loop76_13 D vs h K) (False)) | none => False
/-- lodestone/term.find -/
def F76 (D : Orc) (a0 a1 a2 : Value) (h : H) (k : Kv) (kp : Kp) : Prop :=
intK IntKind.i64 a2 (fun x0 => D 83 [a0, a1] h (fun v1 h2 => ∃ v3 : Value, ∃ x4 : Int, v1 = (Value.tuple #[v3, (Value.int IntKind.i64 x4)]) ∧ cond (x4 != (0 : Int)) (
k (Value.tuple #[Value.nilIface, (Value.slice none 0 0), (Value.int IntKind.i64 x4)]) h2) (
cond (!(decide (x0 < (0 : Int)))) (
lenW a1 (fun n5 => j76__5 D k kp (Value.int IntKind.i64 x0) v3 (Value.bool (decide (x0 ≥ (n5 : Int)))) h2)) (
j76__5 D k kp (Value.int IntKind.i64 x0) v3 (Value.bool true) h2))) kp)
def Cl76 (D : Orc) : Prop := ∀ a0 a1 a2 h k kp, F76 D a0 a1 a2 h k kp → D 76 [a0, a1, a2] h k kp
theorem tieR76_8 (D : Orc) (I : List Value → H → Prop) (K : Kl) (a0 a1 a2 a3 : Value) (h : H) : round76_8 D I K a0 a1 a2 a3 h = round Tryd.prog D (L76 D) lv76 (nthC (allLoops (bodyOf Tryd.f76)) 0) I K [a0, a1, a2, a3] h := by kernel_rfl
theorem tieR76_13 (D : Orc) (I : List Value → H → Prop) (K : Kl) (a0 a1 a2 a3 a4 a5 a6 : Value) (h : H) : round76_13 D I K a0 a1 a2 a3 a4 a5 a6 h = round Tryd.prog D (L76 D) lv76 (nthC (allLoops (bodyOf Tryd.f76)) 1) I K [a0, a1, a2, a3, a4, a5, a6] h := by kernel_rfl
theorem tieF76 (D : Orc) (a0 a1 a2 : Value) (h : H) (k : Kv) (kp : Kp) : F76 D a0 a1 a2 h k kp = bodyW Tryd.prog D (L76 D) lv76 Tryd.f76 [a0, a1, a2] h k kp := by kernel_rfl
theorem lfp76 : Lfps Tryd.prog (CS Tryd.prog) (L76 (CS Tryd.prog)) lv76 (allLoops (bodyOf Tryd.f76)) := by
  have e : (allLoops (bodyOf Tryd.f76)) = [nthC (allLoops (bodyOf Tryd.f76)) 0, nthC (allLoops (bodyOf Tryd.f76)) 1] := by kernel_rfl
  rw [e]
  exact ⟨(fun vs h K hk I H => hk I (fun a0 a1 a2 a3 h hr => H _ _ ((tieR76_8 (CS Tryd.prog) I K a0 a1 a2 a3 h) ▸ hr))), (fun vs h K hk I H => hk I (fun a0 a1 a2 a3 a4 a5 a6 h hr => H _ _ ((tieR76_13 (CS Tryd.prog) I K a0 a1 a2 a3 a4 a5 a6 h) ▸ hr))), trivial⟩
theorem cl76 : Cl76 (CS Tryd.prog) := fun a0 a1 a2 h k kp hk =>
  fn_sound wide (fn := Tryd.f76) (by kernel_rfl) (by kernel_rfl) (by kernel_rfl) lfp76 (by rw [tieF76] at hk; exact hk)
def lv84 : Lv := Lv.mk 23 [.raw, .raw] (fun i => []) (fun i => []) [(4, .bool)] (fun i => none)
def L84 (D : Orc) : Lor := fun b vs h K => match firstId b with | some i => False | none => False
/-- (lodestone/pairs.estimate).may -/
def F84 (D : Orc) (a0 a1 : Value) (h : H) (k : Kv) (kp : Kp) : Prop :=
aggW a0 (fun l0 => newW h l0 (fun p1 h2 => ptrW p1 (fun ad3 => ∃ v4 : Value, rd h2 (Addr.add ad3 0) = some v4 ∧ D 66 [v4, a1] h2 (fun v5 h6 => ∃ x7 : Int, v5 = (Value.int IntKind.i64 x7) ∧ cond (x7 == (0 : Int)) (
lenW a1 (fun n8 => cond (decide ((n8 : Int) ≤ (512 : Int))) (
slAtW a1 (0 : Int) 1 (fun ad9 => ∃ x10 : Int, rd h6 ad9 = some (Value.int IntKind.i64 x10) ∧ ptrW p1 (fun ad11 => ∃ x12 : Int, rd h6 (Addr.add ad11 1) = some (Value.int IntKind.i64 x12) ∧ k (Value.bool (decide (x10 ≥ x12))) h6))) (
k (Value.bool false) h6))) (
k (Value.bool false) h6)) kp)))
def Cl84 (D : Orc) : Prop := ∀ a0 a1 h k kp, F84 D a0 a1 h k kp → D 84 [a0, a1] h k kp
theorem tieF84 (D : Orc) (a0 a1 : Value) (h : H) (k : Kv) (kp : Kp) : F84 D a0 a1 h k kp = bodyW Tryd.prog D (L84 D) lv84 Tryd.f84 [a0, a1] h k kp := by kernel_rfl
theorem lfp84 : Lfps Tryd.prog (CS Tryd.prog) (L84 (CS Tryd.prog)) lv84 (allLoops (bodyOf Tryd.f84)) := by
  have e : (allLoops (bodyOf Tryd.f84)) = [] := by kernel_rfl
  rw [e]
  exact trivial
theorem cl84 : Cl84 (CS Tryd.prog) := fun a0 a1 h k kp hk =>
  fn_sound wide (fn := Tryd.f84) (by kernel_rfl) (by kernel_rfl) (by kernel_rfl) lfp84 (by rw [tieF84] at hk; exact hk)
def lv85 : Lv := Lv.mk 14 [.raw, .raw] (fun i => []) (fun i => []) [(4, .raw), (5, .int IntKind.i64)] (fun i => none)
def L85 (D : Orc) : Lor := fun b vs h K => match firstId b with | some i => False | none => False
/-- (lodestone/pairs.estimate).capped -/
def F85 (D : Orc) (a0 a1 : Value) (h : H) (k : Kv) (kp : Kp) : Prop :=
aggW a0 (fun l0 => newW h l0 (fun p1 h2 => one a1 = true ∧ newW h2 [a1] (fun p3 h4 => newW h4 [(Value.slice none 0 0)] (fun p5 h6 => newW h6 [(Value.int IntKind.i64 (0 : Int))] (fun p7 h8 => ptrW p7 (fun ad9 => one (Value.int IntKind.i64 (0 : Int)) = true ∧ 1 = 1 ∧ ∃ h10, wr1 h8 ad9 (Value.int IntKind.i64 (0 : Int)) = some h10 ∧ newW h10 [Value.nilFunc] (fun p11 h12 => ptrW p11 (fun ad13 => one (Value.func (Fn.func 105) #[] #[p3, p1, p5, p7, p11]) = true ∧ 1 = 1 ∧ ∃ h14, wr1 h12 ad13 (Value.func (Fn.func 105) #[] #[p3, p1, p5, p7, p11]) = some h14 ∧ ptrW p11 (fun ad15 => ∃ v16 : Value, rd h14 ad15 = some v16 ∧ callV Tryd.prog D 3 v16 [(Value.int IntKind.i64 (0 : Int))] h14 (fun v17 h18 => ptrW p5 (fun ad19 => ∃ v20 : Value, rd h18 ad19 = some v20 ∧ ptrW p7 (fun ad21 => ∃ x22 : Int, rd h18 ad21 = some (Value.int IntKind.i64 x22) ∧ k (Value.tuple #[v20, (Value.int IntKind.i64 x22)]) h18))) kp)))))))))
def Cl85 (D : Orc) : Prop := ∀ a0 a1 h k kp, F85 D a0 a1 h k kp → D 85 [a0, a1] h k kp
theorem tieF85 (D : Orc) (a0 a1 : Value) (h : H) (k : Kv) (kp : Kp) : F85 D a0 a1 h k kp = bodyW Tryd.prog D (L85 D) lv85 Tryd.f85 [a0, a1] h k kp := by kernel_rfl
theorem lfp85 : Lfps Tryd.prog (CS Tryd.prog) (L85 (CS Tryd.prog)) lv85 (allLoops (bodyOf Tryd.f85)) := by
  have e : (allLoops (bodyOf Tryd.f85)) = [] := by kernel_rfl
  rw [e]
  exact trivial
theorem cl85 : Cl85 (CS Tryd.prog) := fun a0 a1 h k kp hk =>
  fn_sound wide (fn := Tryd.f85) (by kernel_rfl) (by kernel_rfl) (by kernel_rfl) lfp85 (by rw [tieF85] at hk; exact hk)
def lv86 : Lv := Lv.mk 51 [.raw, .int IntKind.i64] (fun i => cond (Nat.beq i 3) ([(1, .int IntKind.i64), (6, .raw), (12, .raw), (13, .int IntKind.i64), (14, .int IntKind.i64)]) ([])) (fun i => cond (Nat.beq i 3) ([(0, [(6, .raw)])]) ([])) [(4, .raw), (5, .int IntKind.i64)] (fun i => cond (Nat.beq i 13) (some [(1, .int IntKind.i64), (6, .raw), (12, .raw), (13, .int IntKind.i64), (14, .int IntKind.i64)]) (cond (Nat.beq i 8) (some [(1, .int IntKind.i64), (6, .raw), (7, .int IntKind.i64), (9, .int IntKind.i64), (12, .raw), (13, .int IntKind.i64), (14, .int IntKind.i64), (34, .bool)]) (cond (Nat.beq i 11) (some [(1, .int IntKind.i64), (6, .raw), (7, .int IntKind.i64), (9, .int IntKind.i64), (12, .raw), (13, .int IntKind.i64), (14, .int IntKind.i64), (43, .bool)]) (none))))
def j86_3_13 (D : Orc) (I : List Value → H → Prop) (K : Kl) (a0 a1 a2 a3 a4 : Value) (h11 : H) : Prop :=
intK IntKind.i64 a0 (fun x12 => intK IntKind.i64 a3 (fun x13 => intK IntKind.i64 a4 (fun x14 => I [(Value.int IntKind.i64 x12), a1, a2, (Value.int IntKind.i64 x13), (Value.int IntKind.i64 (IntKind.wrap IntKind.i64 (x14 + (1 : Int))))] h11)))
def j86_3_11 (D : Orc) (I : List Value → H → Prop) (K : Kl) (a0 a1 a2 a3 a4 a5 a6 a7 : Value) (h22 : H) : Prop :=
intK IntKind.i64 a0 (fun x23 => intK IntKind.i64 a2 (fun x24 => intK IntKind.i64 a3 (fun x25 => intK IntKind.i64 a5 (fun x26 => intK IntKind.i64 a6 (fun x27 => boolW a7 (fun t28 => cond t28 (
K X.r [(Value.slice none 0 0), (Value.int IntKind.i64 (40 : Int))] h22) (
slAtW a1 x24 1 (fun ad29 => one (Value.int IntKind.i64 (IntKind.wrap IntKind.i64 ((-1 : Int) - x25))) = true ∧ 1 = 1 ∧ ∃ h30, wr1 h22 ad29 (Value.int IntKind.i64 (IntKind.wrap IntKind.i64 ((-1 : Int) - x25))) = some h30 ∧ j86_3_13 D I K (Value.int IntKind.i64 x23) a1 a4 (Value.int IntKind.i64 x26) (Value.int IntKind.i64 x27) h30))))))))
def j86_3_8 (D : Orc) (I : List Value → H → Prop) (K : Kl) (a0 a1 a2 a3 a4 a5 a6 a7 : Value) (h15 : H) : Prop :=
intK IntKind.i64 a0 (fun x16 => intK IntKind.i64 a2 (fun x17 => intK IntKind.i64 a3 (fun x18 => intK IntKind.i64 a5 (fun x19 => intK IntKind.i64 a6 (fun x20 => boolW a7 (fun t21 => cond t21 (
K X.r [(Value.slice none 0 0), (Value.int IntKind.i64 (40 : Int))] h15) (
cond (!(decide ((IntKind.wrap IntKind.i64 (x18 + x16)) < (0 : Int)))) (
j86_3_11 D I K (Value.int IntKind.i64 x16) a1 (Value.int IntKind.i64 x17) (Value.int IntKind.i64 (IntKind.wrap IntKind.i64 (x18 + x16))) a4 (Value.int IntKind.i64 x19) (Value.int IntKind.i64 x20) (Value.bool (decide ((IntKind.wrap IntKind.i64 (x18 + x16)) ≥ (1048576 : Int)))) h15) (
j86_3_11 D I K (Value.int IntKind.i64 x16) a1 (Value.int IntKind.i64 x17) (Value.int IntKind.i64 (IntKind.wrap IntKind.i64 (x18 + x16))) a4 (Value.int IntKind.i64 x19) (Value.int IntKind.i64 x20) (Value.bool true) h15))))))))
def round86_3 (D : Orc) (I : List Value → H → Prop) (K : Kl) (a0 a1 a2 a3 a4 : Value) (h5 : H) : Prop :=
intK IntKind.i64 a0 (fun x6 => intK IntKind.i64 a3 (fun x7 => intK IntKind.i64 a4 (fun x8 => cond (decide (x8 < x7)) (
slAtW a2 x8 1 (fun ad9 => ∃ x10 : Int, rd h5 ad9 = some (Value.int IntKind.i64 x10) ∧ cond (decide (x10 ≥ (0 : Int))) (
j86_3_13 D I K (Value.int IntKind.i64 x6) a1 a2 (Value.int IntKind.i64 x7) (Value.int IntKind.i64 x8) h5) (
cond (decide (x6 ≥ (0 : Int))) (
cond (!(decide (x6 ≥ (1048576 : Int)))) (
j86_3_8 D I K (Value.int IntKind.i64 x6) a1 (Value.int IntKind.i64 x8) (Value.int IntKind.i64 (IntKind.wrap IntKind.i64 ((-1 : Int) - x10))) a2 (Value.int IntKind.i64 x7) (Value.int IntKind.i64 x8) (Value.bool (decide ((IntKind.wrap IntKind.i64 ((-1 : Int) - x10)) ≥ (IntKind.wrap IntKind.i64 ((1048576 : Int) - x6))))) h5) (
j86_3_8 D I K (Value.int IntKind.i64 x6) a1 (Value.int IntKind.i64 x8) (Value.int IntKind.i64 (IntKind.wrap IntKind.i64 ((-1 : Int) - x10))) a2 (Value.int IntKind.i64 x7) (Value.int IntKind.i64 x8) (Value.bool true) h5)) (
j86_3_8 D I K (Value.int IntKind.i64 x6) a1 (Value.int IntKind.i64 x8) (Value.int IntKind.i64 (IntKind.wrap IntKind.i64 ((-1 : Int) - x10))) a2 (Value.int IntKind.i64 x7) (Value.int IntKind.i64 x8) (Value.bool false) h5)))) (
K (X.e 0) [a1] h5))))
def loop86_3 (D : Orc) (vs : List Value) (h : H) (K : Kl) : Prop := ∀ I : List Value → H → Prop, (∀ a0 a1 a2 a3 a4 h, round86_3 D I K a0 a1 a2 a3 a4 h → I [a0, a1, a2, a3, a4] h) → I vs h
def L86 (D : Orc) : Lor := fun b vs h K => match firstId b with | some i => cond (Nat.beq i 3) (loop86_3 D vs h K) (False) | none => False
/-- lodestone/subst.Shift -/
def F86 (D : Orc) (a0 a1 : Value) (h : H) (k : Kv) (kp : Kp) : Prop :=
intK IntKind.i64 a1 (fun x0 => D 48 [a0] h (fun v1 h2 => ∃ v3 : Value, v1 = v3 ∧ lenW a0 (fun n4 => loop86_3 D [(Value.int IntKind.i64 x0), v3, a0, (Value.int IntKind.i64 (n4 : Int)), (Value.int IntKind.i64 (0 : Int))] h2 (fun x32 vs33 h31 => xs x32 (intK IntKind.i64 (nth vs33 1) (fun x35 => k (Value.tuple #[(nth vs33 0), (Value.int IntKind.i64 x35)]) h31)) (fun i34 => cond (Nat.beq i34 0) (
k (Value.tuple #[(nth vs33 0), (Value.int IntKind.i64 (0 : Int))]) h31) (False)) (fun c => kp c h31)))) kp)
def Cl86 (D : Orc) : Prop := ∀ a0 a1 h k kp, F86 D a0 a1 h k kp → D 86 [a0, a1] h k kp
theorem tieR86_3 (D : Orc) (I : List Value → H → Prop) (K : Kl) (a0 a1 a2 a3 a4 : Value) (h : H) : round86_3 D I K a0 a1 a2 a3 a4 h = round Tryd.prog D (L86 D) lv86 (nthC (allLoops (bodyOf Tryd.f86)) 0) I K [a0, a1, a2, a3, a4] h := by kernel_rfl
theorem tieF86 (D : Orc) (a0 a1 : Value) (h : H) (k : Kv) (kp : Kp) : F86 D a0 a1 h k kp = bodyW Tryd.prog D (L86 D) lv86 Tryd.f86 [a0, a1] h k kp := by kernel_rfl
theorem lfp86 : Lfps Tryd.prog (CS Tryd.prog) (L86 (CS Tryd.prog)) lv86 (allLoops (bodyOf Tryd.f86)) := by
  have e : (allLoops (bodyOf Tryd.f86)) = [nthC (allLoops (bodyOf Tryd.f86)) 0] := by kernel_rfl
  rw [e]
  exact ⟨(fun vs h K hk I H => hk I (fun a0 a1 a2 a3 a4 h hr => H _ _ ((tieR86_3 (CS Tryd.prog) I K a0 a1 a2 a3 a4 h) ▸ hr))), trivial⟩
theorem cl86 : Cl86 (CS Tryd.prog) := fun a0 a1 h k kp hk =>
  fn_sound wide (fn := Tryd.f86) (by kernel_rfl) (by kernel_rfl) (by kernel_rfl) lfp86 (by rw [tieF86] at hk; exact hk)
def lv87 : Lv := Lv.mk 22 [.raw, .raw, .raw] (fun i => []) (fun i => []) [(6, .bool)] (fun i => none)
def L87 (D : Orc) : Lor := fun b vs h K => match firstId b with | some i => False | none => False
/-- lodestone/unify.Can -/
def F87 (D : Orc) (a0 a1 a2 : Value) (h : H) (k : Kv) (kp : Kp) : Prop :=
D 106 [a0, a1, a2] h (fun v0 h1 => ∃ x2 : Int, v0 = (Value.int IntKind.i64 x2) ∧ cond (x2 != (0 : Int)) (
k (Value.bool false) h1) (
D 107 [a0, a1, a2] h1 (fun v3 h4 => ∃ v5 : Value, ∃ t6 : Bool, v3 = (Value.tuple #[v5, (Value.bool t6)]) ∧ k (Value.bool t6) h4) kp)) kp
def Cl87 (D : Orc) : Prop := ∀ a0 a1 a2 h k kp, F87 D a0 a1 a2 h k kp → D 87 [a0, a1, a2] h k kp
theorem tieF87 (D : Orc) (a0 a1 a2 : Value) (h : H) (k : Kv) (kp : Kp) : F87 D a0 a1 a2 h k kp = bodyW Tryd.prog D (L87 D) lv87 Tryd.f87 [a0, a1, a2] h k kp := by kernel_rfl
theorem lfp87 : Lfps Tryd.prog (CS Tryd.prog) (L87 (CS Tryd.prog)) lv87 (allLoops (bodyOf Tryd.f87)) := by
  have e : (allLoops (bodyOf Tryd.f87)) = [] := by kernel_rfl
  rw [e]
  exact trivial
theorem cl87 : Cl87 (CS Tryd.prog) := fun a0 a1 a2 h k kp hk =>
  fn_sound wide (fn := Tryd.f87) (by kernel_rfl) (by kernel_rfl) (by kernel_rfl) lfp87 (by rw [tieF87] at hk; exact hk)
def lv105 : Lv := Lv.mk 65 [.int IntKind.i64] (fun i => cond (Nat.beq i 10) ([(0, .int IntKind.i64), (5, .raw), (57, .int IntKind.i64), (58, .int IntKind.i64)]) ([])) (fun i => cond (Nat.beq i 10) ([(0, [(0, .int IntKind.i64)])]) ([])) [(7, .int IntKind.i64)] (fun i => cond (Nat.beq i 3) (some [(0, .int IntKind.i64), (1, .raw), (2, .raw), (3, .raw), (4, .raw), (5, .raw), (8, .int IntKind.i64), (26, .bool)]) (none))
def round105_10 (D : Orc) (I : List Value → H → Prop) (K : Kl) (a0 a1 a2 a3 : Value) (h53 : H) : Prop :=
intK IntKind.i64 a0 (fun x54 => intK IntKind.i64 a2 (fun x55 => intK IntKind.i64 a3 (fun x56 => cond (decide (x56 < x55)) (
ptrW a1 (fun ad57 => ∃ v58 : Value, rd h53 ad57 = some v58 ∧ callV Tryd.prog D 3 v58 [(Value.int IntKind.i64 x54)] h53 (fun v59 h60 => I [v59, a1, (Value.int IntKind.i64 x55), (Value.int IntKind.i64 (IntKind.wrap IntKind.i64 (x56 + (1 : Int))))] h60) (fun c h => K (X.p c) [] h))) (
K (X.e 0) [(Value.int IntKind.i64 x54)] h53))))
def loop105_10 (D : Orc) (vs : List Value) (h : H) (K : Kl) : Prop := ∀ I : List Value → H → Prop, (∀ a0 a1 a2 a3 h, round105_10 D I K a0 a1 a2 a3 h → I [a0, a1, a2, a3] h) → I vs h
def j105__3 (D : Orc) (k : Kv) (kp : Kp) (a0 a1 a2 a3 a4 a5 a6 a7 : Value) (h10 : H) : Prop :=
intK IntKind.i64 a0 (fun x11 => intK IntKind.i64 a6 (fun x12 => boolW a7 (fun t13 => cond t13 (
ptrW a3 (fun ad14 => ∃ v15 : Value, rd h10 ad14 = some v15 ∧ ptrW a4 (fun ad16 => ∃ x17 : Int, rd h10 ad16 = some (Value.int IntKind.i64 x17) ∧ one (Value.int IntKind.i64 (IntKind.wrap IntKind.i64 ((-1 : Int) - x17))) = true ∧ 0 < 1 ∧ newSl h10 1 [(Value.int IntKind.i64 (IntKind.wrap IntKind.i64 ((-1 : Int) - x17)))] (fun s18 h19 => slenW s18 (fun n20 => srcW h19 1 s18 (n20) (fun w21 => apW h19 1 8 [(Value.int IntKind.i64 (0 : Int))] v15 (n20) w21 (fun s22 h23 => ptrW a3 (fun ad24 => one s22 = true ∧ 1 = 1 ∧ ∃ h25, wr1 h23 ad24 s22 = some h25 ∧ ptrW a4 (fun ad26 => ∃ x27 : Int, rd h25 ad26 = some (Value.int IntKind.i64 x27) ∧ ptrW a4 (fun ad28 => one (Value.int IntKind.i64 (IntKind.wrap IntKind.i64 (x27 + (1 : Int)))) = true ∧ 1 = 1 ∧ ∃ h29, wr1 h25 ad28 (Value.int IntKind.i64 (IntKind.wrap IntKind.i64 (x27 + (1 : Int)))) = some h29 ∧ ptrW a2 (fun ad30 => ∃ v31 : Value, rd h29 (Addr.add ad30 0) = some v31 ∧ ptrW a1 (fun ad32 => ∃ v33 : Value, rd h29 ad32 = some v33 ∧ D 50 [v31, v33, (Value.int IntKind.i64 x11)] h29 (fun v34 h35 => ∃ v36 : Value, ∃ x37 : Int, v34 = (Value.tuple #[v36, (Value.int IntKind.i64 x37)]) ∧ lenW v36 (fun n38 => k (Value.int IntKind.i64 (IntKind.wrap IntKind.i64 (x11 + (n38 : Int)))) h35)) kp)))))))))))) (
ptrW a3 (fun ad39 => ∃ v40 : Value, rd h10 ad39 = some v40 ∧ one (Value.int IntKind.i64 x12) = true ∧ 0 < 1 ∧ newSl h10 1 [(Value.int IntKind.i64 x12)] (fun s41 h42 => slenW s41 (fun n43 => srcW h42 1 s41 (n43) (fun w44 => apW h42 1 8 [(Value.int IntKind.i64 (0 : Int))] v40 (n43) w44 (fun s45 h46 => ptrW a3 (fun ad47 => one s45 = true ∧ 1 = 1 ∧ ∃ h48, wr1 h46 ad47 s45 = some h48 ∧ ptrW a2 (fun ad49 => ∃ v50 : Value, rd h48 (Addr.add ad49 0) = some v50 ∧ slAtW v50 x12 2 (fun ad51 => ∃ x52 : Int, rd h48 (Addr.add ad51 1) = some (Value.int IntKind.i64 x52) ∧ loop105_10 D [(Value.int IntKind.i64 (IntKind.wrap IntKind.i64 (x11 + (1 : Int)))), a5, (Value.int IntKind.i64 x52), (Value.int IntKind.i64 (0 : Int))] h48 (fun x62 vs63 h61 => xs x62 (intK IntKind.i64 (nth vs63 0) (fun x65 => k (Value.int IntKind.i64 x65) h61)) (fun i64 => cond (Nat.beq i64 0) (
intK IntKind.i64 (nth vs63 0) (fun x66 => k (Value.int IntKind.i64 x66) h61)) (False)) (fun c => kp c h61))))))))))))))
def L105 (D : Orc) : Lor := fun b vs h K => match firstId b with | some i => cond (Nat.beq i 10) (loop105_10 D vs h K) (False) | none => False
/-- (lodestone/pairs.estimate).capped$1 -/
def F105 (D : Orc) (a0 a1 a2 a3 a4 a5 : Value) (h : H) (k : Kv) (kp : Kp) : Prop :=
intK IntKind.i64 a0 (fun x0 => ptrW a1 (fun ad1 => ∃ v2 : Value, rd h ad1 = some v2 ∧ slAtW v2 x0 1 (fun ad3 => ∃ x4 : Int, rd h ad3 = some (Value.int IntKind.i64 x4) ∧ cond (decide (x0 > (0 : Int))) (
cond (!(decide (x4 < (0 : Int)))) (
ptrW a2 (fun ad5 => ∃ v6 : Value, rd h (Addr.add ad5 2) = some v6 ∧ D 49 [v6, (Value.int IntKind.i64 x4)] h (fun v7 h8 => ∃ t9 : Bool, v7 = (Value.bool t9) ∧ j105__3 D k kp (Value.int IntKind.i64 x0) a1 a2 a3 a4 a5 (Value.int IntKind.i64 x4) (Value.bool t9) h8) kp)) (
j105__3 D k kp (Value.int IntKind.i64 x0) a1 a2 a3 a4 a5 (Value.int IntKind.i64 x4) (Value.bool true) h)) (
j105__3 D k kp (Value.int IntKind.i64 x0) a1 a2 a3 a4 a5 (Value.int IntKind.i64 x4) (Value.bool false) h))))
def Cl105 (D : Orc) : Prop := ∀ a0 a1 a2 a3 a4 a5 h k kp, F105 D a0 a1 a2 a3 a4 a5 h k kp → D 105 [a0, a1, a2, a3, a4, a5] h k kp
theorem tieR105_10 (D : Orc) (I : List Value → H → Prop) (K : Kl) (a0 a1 a2 a3 : Value) (h : H) : round105_10 D I K a0 a1 a2 a3 h = round Tryd.prog D (L105 D) lv105 (nthC (allLoops (bodyOf Tryd.f105)) 0) I K [a0, a1, a2, a3] h := by kernel_rfl
theorem tieF105 (D : Orc) (a0 a1 a2 a3 a4 a5 : Value) (h : H) (k : Kv) (kp : Kp) : F105 D a0 a1 a2 a3 a4 a5 h k kp = bodyW Tryd.prog D (L105 D) lv105 Tryd.f105 [a0, a1, a2, a3, a4, a5] h k kp := by kernel_rfl
theorem lfp105 : Lfps Tryd.prog (CS Tryd.prog) (L105 (CS Tryd.prog)) lv105 (allLoops (bodyOf Tryd.f105)) := by
  have e : (allLoops (bodyOf Tryd.f105)) = [nthC (allLoops (bodyOf Tryd.f105)) 0] := by kernel_rfl
  rw [e]
  exact ⟨(fun vs h K hk I H => hk I (fun a0 a1 a2 a3 h hr => H _ _ ((tieR105_10 (CS Tryd.prog) I K a0 a1 a2 a3 h) ▸ hr))), trivial⟩
theorem cl105 : Cl105 (CS Tryd.prog) := fun a0 a1 a2 a3 a4 a5 h k kp hk =>
  fn_sound wide (fn := Tryd.f105) (by kernel_rfl) (by kernel_rfl) (by kernel_rfl) lfp105 (by rw [tieF105] at hk; exact hk)
def lv106 : Lv := Lv.mk 17 [.raw, .raw, .raw] (fun i => []) (fun i => []) [(6, .int IntKind.i64)] (fun i => none)
def L106 (D : Orc) : Lor := fun b vs h K => match firstId b with | some i => False | none => False
/-- lodestone/unify.right -/
def F106 (D : Orc) (a0 a1 a2 : Value) (h : H) (k : Kv) (kp : Kp) : Prop :=
D 66 [a0, a1] h (fun v0 h1 => ∃ x2 : Int, v0 = (Value.int IntKind.i64 x2) ∧ cond (x2 != (0 : Int)) (
k (Value.int IntKind.i64 x2) h1) (
D 66 [a0, a2] h1 (fun v3 h4 => ∃ x5 : Int, v3 = (Value.int IntKind.i64 x5) ∧ k (Value.int IntKind.i64 x5) h4) kp)) kp
def Cl106 (D : Orc) : Prop := ∀ a0 a1 a2 h k kp, F106 D a0 a1 a2 h k kp → D 106 [a0, a1, a2] h k kp
theorem tieF106 (D : Orc) (a0 a1 a2 : Value) (h : H) (k : Kv) (kp : Kp) : F106 D a0 a1 a2 h k kp = bodyW Tryd.prog D (L106 D) lv106 Tryd.f106 [a0, a1, a2] h k kp := by kernel_rfl
theorem lfp106 : Lfps Tryd.prog (CS Tryd.prog) (L106 (CS Tryd.prog)) lv106 (allLoops (bodyOf Tryd.f106)) := by
  have e : (allLoops (bodyOf Tryd.f106)) = [] := by kernel_rfl
  rw [e]
  exact trivial
theorem cl106 : Cl106 (CS Tryd.prog) := fun a0 a1 a2 h k kp hk =>
  fn_sound wide (fn := Tryd.f106) (by kernel_rfl) (by kernel_rfl) (by kernel_rfl) lfp106 (by rw [tieF106] at hk; exact hk)
def lv107 : Lv := Lv.mk 66 [.raw, .raw, .raw] (fun i => cond (Nat.beq i 8) ([(8, .raw), (14, .bool), (47, .raw), (48, .int IntKind.i64), (49, .int IntKind.i64)]) ([])) (fun i => cond (Nat.beq i 8) ([(0, [(8, .raw), (14, .bool)])]) ([])) [(6, .raw), (7, .bool)] (fun i => cond (Nat.beq i 12) (some [(8, .raw), (14, .bool), (47, .raw), (48, .int IntKind.i64), (49, .int IntKind.i64)]) (none))
def j107_8_12 (D : Orc) (I : List Value → H → Prop) (K : Kl) (a0 a1 a2 a3 a4 : Value) (h32 : H) : Prop :=
boolW a1 (fun t33 => intK IntKind.i64 a3 (fun x34 => intK IntKind.i64 a4 (fun x35 => I [a0, (Value.bool t33), a2, (Value.int IntKind.i64 x34), (Value.int IntKind.i64 (IntKind.wrap IntKind.i64 (x35 + (1 : Int))))] h32)))
def round107_8 (D : Orc) (I : List Value → H → Prop) (K : Kl) (a0 a1 a2 a3 a4 : Value) (h22 : H) : Prop :=
boolW a1 (fun t23 => intK IntKind.i64 a3 (fun x24 => intK IntKind.i64 a4 (fun x25 => cond (decide (x25 < x24)) (
slAtW a2 x25 1 (fun ad26 => ∃ v27 : Value, rd h22 ad26 = some v27 ∧ D 117 [(Value.iface 149 v27)] h22 (fun v28 h29 => ∃ x30 : Int, ∃ t31 : Bool, v28 = (Value.tuple #[(Value.int IntKind.i64 x30), (Value.bool t31)]) ∧ cond t23 (
j107_8_12 D I K a0 (Value.bool t31) a2 (Value.int IntKind.i64 x24) (Value.int IntKind.i64 x25) h29) (
j107_8_12 D I K a0 (Value.bool false) a2 (Value.int IntKind.i64 x24) (Value.int IntKind.i64 x25) h29)) (fun c h => K (X.p c) [] h))) (
K (X.e 0) [a0, (Value.bool t23)] h22))))
def loop107_8 (D : Orc) (vs : List Value) (h : H) (K : Kl) : Prop := ∀ I : List Value → H → Prop, (∀ a0 a1 a2 a3 a4 h, round107_8 D I K a0 a1 a2 a3 a4 h → I [a0, a1, a2, a3, a4] h) → I vs h
def L107 (D : Orc) : Lor := fun b vs h K => match firstId b with | some i => cond (Nat.beq i 8) (loop107_8 D vs h K) (False) | none => False
/-- lodestone/unify.solved -/
def F107 (D : Orc) (a0 a1 a2 : Value) (h : H) (k : Kv) (kp : Kp) : Prop :=
newMap h (fun m0 h1 => one a0 = true ∧ 0 < 3 ∧ one m0 = true ∧ 2 < 3 ∧ newW h1 [a0, (Value.slice none 0 0), m0] (fun p2 h3 => D 115 [p2, a1] h3 (fun v4 h5 => ∃ v6 : Value, ∃ v7 : Value, v4 = (Value.tuple #[v6, v7]) ∧ D 115 [p2, a2] h5 (fun v8 h9 => ∃ v10 : Value, ∃ v11 : Value, v8 = (Value.tuple #[v10, v11]) ∧ D 116 [v6, v10] h9 (fun v12 h13 => ∃ t14 : Bool, v12 = (Value.bool t14) ∧ cond (!t14) (
k (Value.tuple #[(Value.pointer none), (Value.bool false)]) h13) (
D 117 [v6] h13 (fun v15 h16 => ∃ x17 : Int, ∃ t18 : Bool, v15 = (Value.tuple #[(Value.int IntKind.i64 x17), (Value.bool t18)]) ∧ nonNil p2 = true ∧ ptrW p2 (fun ad19 => ∃ v20 : Value, rd h16 (Addr.add ad19 1) = some v20 ∧ lenW v20 (fun n21 => loop107_8 D [p2, (Value.bool t18), v20, (Value.int IntKind.i64 (n21 : Int)), (Value.int IntKind.i64 (0 : Int))] h16 (fun x37 vs38 h36 => xs x37 (boolW (nth vs38 1) (fun t40 => k (Value.tuple #[(nth vs38 0), (Value.bool t40)]) h36)) (fun i39 => cond (Nat.beq i39 0) (
boolW (nth vs38 1) (fun t41 => k (Value.tuple #[(nth vs38 0), (Value.bool t41)]) h36)) (False)) (fun c => kp c h36))))) kp)) kp) kp) kp))
def Cl107 (D : Orc) : Prop := ∀ a0 a1 a2 h k kp, F107 D a0 a1 a2 h k kp → D 107 [a0, a1, a2] h k kp
theorem tieR107_8 (D : Orc) (I : List Value → H → Prop) (K : Kl) (a0 a1 a2 a3 a4 : Value) (h : H) : round107_8 D I K a0 a1 a2 a3 a4 h = round Tryd.prog D (L107 D) lv107 (nthC (allLoops (bodyOf Tryd.f107)) 0) I K [a0, a1, a2, a3, a4] h := by kernel_rfl
theorem tieF107 (D : Orc) (a0 a1 a2 : Value) (h : H) (k : Kv) (kp : Kp) : F107 D a0 a1 a2 h k kp = bodyW Tryd.prog D (L107 D) lv107 Tryd.f107 [a0, a1, a2] h k kp := by kernel_rfl
theorem lfp107 : Lfps Tryd.prog (CS Tryd.prog) (L107 (CS Tryd.prog)) lv107 (allLoops (bodyOf Tryd.f107)) := by
  have e : (allLoops (bodyOf Tryd.f107)) = [nthC (allLoops (bodyOf Tryd.f107)) 0] := by kernel_rfl
  rw [e]
  exact ⟨(fun vs h K hk I H => hk I (fun a0 a1 a2 a3 a4 h hr => H _ _ ((tieR107_8 (CS Tryd.prog) I K a0 a1 a2 a3 a4 h) ▸ hr))), trivial⟩
theorem cl107 : Cl107 (CS Tryd.prog) := fun a0 a1 a2 h k kp hk =>
  fn_sound wide (fn := Tryd.f107) (by kernel_rfl) (by kernel_rfl) (by kernel_rfl) lfp107 (by rw [tieF107] at hk; exact hk)
def lv115 : Lv := Lv.mk 96 [.raw, .raw] (fun i => cond (Nat.beq i 11) ([(0, .raw), (7, .raw), (10, .raw), (73, .int IntKind.i64), (74, .int IntKind.i64)]) ([])) (fun i => cond (Nat.beq i 11) ([(0, [(7, .raw), (10, .raw)])]) ([])) [(4, .raw), (5, .raw)] (fun i => cond (Nat.beq i 8) (some [(0, .raw), (7, .raw), (8, .int IntKind.i64)]) (none))
def j115__8 (D : Orc) (k : Kv) (kp : Kp) (a0 a1 a2 : Value) (h27 : H) : Prop :=
intK IntKind.i64 a2 (fun x28 => nonNil a0 = true ∧ ptrW a0 (fun ad29 => ∃ v30 : Value, rd h27 (Addr.add ad29 1) = some v30 ∧ slAtW v30 x28 1 (fun ad31 => ∃ v32 : Value, rd h27 ad31 = some v32 ∧ k (Value.tuple #[(Value.iface 149 v32), a1]) h27)))
def round115_11 (D : Orc) (I : List Value → H → Prop) (K : Kl) (a0 a1 a2 a3 a4 : Value) (h39 : H) : Prop :=
intK IntKind.i64 a3 (fun x40 => intK IntKind.i64 a4 (fun x41 => cond (decide (x41 < x40)) (
D 115 [a0, a1] h39 (fun v42 h43 => ∃ v44 : Value, ∃ v45 : Value, v42 = (Value.tuple #[v44, v45]) ∧ nonNil a2 = true ∧ ptrW a2 (fun ad46 => ∃ v47 : Value, rd h43 (Addr.add ad46 1) = some v47 ∧ one v44 = true ∧ 0 < 1 ∧ newSl h43 1 [v44] (fun s48 h49 => slenW s48 (fun n50 => srcW h49 1 s48 (n50) (fun w51 => apW h49 1 16 [Value.nilIface] v47 (n50) w51 (fun s52 h53 => nonNil a2 = true ∧ ptrW a2 (fun ad54 => one s52 = true ∧ 1 = 1 ∧ ∃ h55, wr1 h53 (Addr.add ad54 1) s52 = some h55 ∧ I [a0, v45, a2, (Value.int IntKind.i64 x40), (Value.int IntKind.i64 (IntKind.wrap IntKind.i64 (x41 + (1 : Int))))] h55))))))) (fun c h => K (X.p c) [] h)) (
K (X.e 0) [a1, a2] h39)))
def loop115_11 (D : Orc) (vs : List Value) (h : H) (K : Kl) : Prop := ∀ I : List Value → H → Prop, (∀ a0 a1 a2 a3 a4 h, round115_11 D I K a0 a1 a2 a3 a4 h → I [a0, a1, a2, a3, a4] h) → I vs h
def L115 (D : Orc) : Lor := fun b vs h K => match firstId b with | some i => cond (Nat.beq i 11) (loop115_11 D vs h K) (False) | none => False
/-- (*lodestone/unify.board).lay -/
def F115 (D : Orc) (a0 a1 : Value) (h : H) (k : Kv) (kp : Kp) : Prop :=
slAtW a1 (0 : Int) 1 (fun ad0 => ∃ x1 : Int, rd h ad0 = some (Value.int IntKind.i64 x1) ∧ slCutW a1 (some (1 : Int)) none none 1 (fun s2 => cond (decide (x1 < (0 : Int))) (
nonNil a0 = true ∧ ptrW a0 (fun ad3 => ∃ v4 : Value, rd h (Addr.add ad3 2) = some v4 ∧ mapK h v4 (fun es5 => lookW (TypeDesc.int IntKind.i64) (Value.int IntKind.i64 x1) es5 (Value.int IntKind.i64 (0 : Int)) (fun v6 t7 => ∃ x8 : Int, v6 = (Value.int IntKind.i64 x8) ∧ cond (!t7) (
nonNil a0 = true ∧ ptrW a0 (fun ad9 => ∃ v10 : Value, rd h (Addr.add ad9 1) = some v10 ∧ lenW v10 (fun n11 => nonNil a0 = true ∧ ptrW a0 (fun ad12 => ∃ v13 : Value, rd h (Addr.add ad12 2) = some v13 ∧ mapU h v13 (TypeDesc.int IntKind.i64) (Value.int IntKind.i64 x1) (Value.int IntKind.i64 (n11 : Int)) (fun h14 => nonNil a0 = true ∧ ptrW a0 (fun ad15 => ∃ v16 : Value, rd h14 (Addr.add ad15 1) = some v16 ∧ one (Value.int IntKind.i64 (IntKind.wrap IntKind.i64 ((-1 : Int) - x1))) = true ∧ 0 < 2 ∧ newW h14 [(Value.int IntKind.i64 (IntKind.wrap IntKind.i64 ((-1 : Int) - x1))), Value.nilIface] (fun p17 h18 => one p17 = true ∧ 0 < 1 ∧ newSl h18 1 [p17] (fun s19 h20 => slenW s19 (fun n21 => srcW h20 1 s19 (n21) (fun w22 => apW h20 1 8 [(Value.pointer none)] v16 (n21) w22 (fun s23 h24 => nonNil a0 = true ∧ ptrW a0 (fun ad25 => one s23 = true ∧ 1 = 1 ∧ ∃ h26, wr1 h24 (Addr.add ad25 1) s23 = some h26 ∧ j115__8 D k kp a0 s2 (Value.int IntKind.i64 (n11 : Int)) h26)))))))))))) (
j115__8 D k kp a0 s2 (Value.int IntKind.i64 x8) h))))) (
one (Value.int IntKind.i64 x1) = true ∧ 0 < 4 ∧ newW h [(Value.int IntKind.i64 x1), (Value.slice none 0 0), Value.nilIface, (Value.int IntKind.i64 (0 : Int))] (fun p33 h34 => nonNil a0 = true ∧ ptrW a0 (fun ad35 => ∃ v36 : Value, rd h34 (Addr.add ad35 0) = some v36 ∧ slAtW v36 x1 2 (fun ad37 => ∃ x38 : Int, rd h34 (Addr.add ad37 1) = some (Value.int IntKind.i64 x38) ∧ loop115_11 D [a0, s2, p33, (Value.int IntKind.i64 x38), (Value.int IntKind.i64 (0 : Int))] h34 (fun x57 vs58 h56 => xs x57 (k (Value.tuple #[(nth vs58 0), (nth vs58 1)]) h56) (fun i59 => cond (Nat.beq i59 0) (
k (Value.tuple #[(Value.iface 155 (nth vs58 1)), (nth vs58 0)]) h56) (False)) (fun c => kp c h56))))))))
def Cl115 (D : Orc) : Prop := ∀ a0 a1 h k kp, F115 D a0 a1 h k kp → D 115 [a0, a1] h k kp
theorem tieR115_11 (D : Orc) (I : List Value → H → Prop) (K : Kl) (a0 a1 a2 a3 a4 : Value) (h : H) : round115_11 D I K a0 a1 a2 a3 a4 h = round Tryd.prog D (L115 D) lv115 (nthC (allLoops (bodyOf Tryd.f115)) 0) I K [a0, a1, a2, a3, a4] h := by kernel_rfl
theorem tieF115 (D : Orc) (a0 a1 : Value) (h : H) (k : Kv) (kp : Kp) : F115 D a0 a1 h k kp = bodyW Tryd.prog D (L115 D) lv115 Tryd.f115 [a0, a1] h k kp := by kernel_rfl
theorem lfp115 : Lfps Tryd.prog (CS Tryd.prog) (L115 (CS Tryd.prog)) lv115 (allLoops (bodyOf Tryd.f115)) := by
  have e : (allLoops (bodyOf Tryd.f115)) = [nthC (allLoops (bodyOf Tryd.f115)) 0] := by kernel_rfl
  rw [e]
  exact ⟨(fun vs h K hk I H => hk I (fun a0 a1 a2 a3 a4 h hr => H _ _ ((tieR115_11 (CS Tryd.prog) I K a0 a1 a2 a3 a4 h) ▸ hr))), trivial⟩
theorem cl115 : Cl115 (CS Tryd.prog) := fun a0 a1 h k kp hk =>
  fn_sound wide (fn := Tryd.f115) (by kernel_rfl) (by kernel_rfl) (by kernel_rfl) lfp115 (by rw [tieF115] at hk; exact hk)
def lv116 : Lv := Lv.mk 115 [.raw, .raw] (fun i => cond (Nat.beq i 23) ([(9, .raw), (10, .raw), (94, .int IntKind.i64), (95, .int IntKind.i64)]) ([])) (fun i => cond (Nat.beq i 23) ([(1, [])]) ([])) [(4, .bool)] (fun i => cond (Nat.beq i 7) (some [(0, .raw), (1, .raw), (5, .raw), (6, .bool), (7, .raw), (8, .bool), (29, .bool)]) (cond (Nat.beq i 10) (some [(0, .raw), (1, .raw), (5, .raw), (6, .bool), (7, .raw), (8, .bool), (50, .bool)]) (none)))
def round116_23 (D : Orc) (I : List Value → H → Prop) (K : Kl) (a0 a1 a2 a3 : Value) (h46 : H) : Prop :=
intK IntKind.i64 a2 (fun x47 => intK IntKind.i64 a3 (fun x48 => cond (decide (x48 < x47)) (
nonNil a0 = true ∧ ptrW a0 (fun ad49 => ∃ v50 : Value, rd h46 (Addr.add ad49 1) = some v50 ∧ slAtW v50 x48 1 (fun ad51 => ∃ v52 : Value, rd h46 ad51 = some v52 ∧ nonNil a1 = true ∧ ptrW a1 (fun ad53 => ∃ v54 : Value, rd h46 (Addr.add ad53 1) = some v54 ∧ slAtW v54 x48 1 (fun ad55 => ∃ v56 : Value, rd h46 ad55 = some v56 ∧ D 116 [v52, v56] h46 (fun v57 h58 => ∃ t59 : Bool, v57 = (Value.bool t59) ∧ cond (!t59) (
K X.r [(Value.bool false)] h58) (
I [a0, a1, (Value.int IntKind.i64 x47), (Value.int IntKind.i64 (IntKind.wrap IntKind.i64 (x48 + (1 : Int))))] h58)) (fun c h => K (X.p c) [] h)))))) (
K (X.e 1) [] h46)))
def loop116_23 (D : Orc) (vs : List Value) (h : H) (K : Kl) : Prop := ∀ I : List Value → H → Prop, (∀ a0 a1 a2 a3 h, round116_23 D I K a0 a1 a2 a3 h → I [a0, a1, a2, a3] h) → I vs h
def j116__10 (D : Orc) (k : Kv) (kp : Kp) (a0 a1 a2 a3 a4 a5 a6 : Value) (h25 : H) : Prop :=
boolW a3 (fun t26 => boolW a5 (fun t27 => boolW a6 (fun t28 => cond t28 (
nonNil a4 = true ∧ ptrW a4 (fun ad29 => one (Value.iface 149 a2) = true ∧ 1 = 1 ∧ ∃ h30, wr1 h25 (Addr.add ad29 1) (Value.iface 149 a2) = some h30 ∧ k (Value.bool true) h30)) (
cond t26 (
nonNil a2 = true ∧ ptrW a2 (fun ad31 => one a1 = true ∧ 1 = 1 ∧ ∃ h32, wr1 h25 (Addr.add ad31 1) a1 = some h32 ∧ k (Value.bool true) h32)) (
cond t27 (
nonNil a4 = true ∧ ptrW a4 (fun ad33 => one a0 = true ∧ 1 = 1 ∧ ∃ h34, wr1 h25 (Addr.add ad33 1) a0 = some h34 ∧ k (Value.bool true) h34)) (
assertW Tryd.prog a0 155 false (fun v35 => assertW Tryd.prog a1 155 false (fun v36 => nonNil v35 = true ∧ ptrW v35 (fun ad37 => ∃ x38 : Int, rd h25 (Addr.add ad37 0) = some (Value.int IntKind.i64 x38) ∧ nonNil v36 = true ∧ ptrW v36 (fun ad39 => ∃ x40 : Int, rd h25 (Addr.add ad39 0) = some (Value.int IntKind.i64 x40) ∧ cond (x38 != x40) (
k (Value.bool false) h25) (
nonNil v35 = true ∧ ptrW v35 (fun ad41 => one (Value.iface 155 v36) = true ∧ 1 = 1 ∧ ∃ h42, wr1 h25 (Addr.add ad41 2) (Value.iface 155 v36) = some h42 ∧ nonNil v35 = true ∧ ptrW v35 (fun ad43 => ∃ v44 : Value, rd h42 (Addr.add ad43 1) = some v44 ∧ lenW v44 (fun n45 => loop116_23 D [v35, v36, (Value.int IntKind.i64 (n45 : Int)), (Value.int IntKind.i64 (0 : Int))] h42 (fun x61 vs62 h60 => xs x61 (boolW (nth vs62 0) (fun t64 => k (Value.bool t64) h60)) (fun i63 => cond (Nat.beq i63 1) (
k (Value.bool true) h60) (False)) (fun c => kp c h60))))))))))))))))
def j116__7 (D : Orc) (k : Kv) (kp : Kp) (a0 a1 a2 a3 a4 a5 a6 : Value) (h19 : H) : Prop :=
boolW a3 (fun t20 => boolW a5 (fun t21 => boolW a6 (fun t22 => cond t22 (
nonNil a2 = true ∧ ptrW a2 (fun ad23 => one (Value.iface 149 a4) = true ∧ 1 = 1 ∧ ∃ h24, wr1 h19 (Addr.add ad23 1) (Value.iface 149 a4) = some h24 ∧ k (Value.bool true) h24)) (
cond t20 (
j116__10 D k kp a0 a1 a2 (Value.bool t20) a4 (Value.bool t21) (Value.bool t21) h19) (
j116__10 D k kp a0 a1 a2 (Value.bool t20) a4 (Value.bool t21) (Value.bool false) h19)))))
def L116 (D : Orc) : Lor := fun b vs h K => match firstId b with | some i => cond (Nat.beq i 23) (loop116_23 D vs h K) (False) | none => False
/-- lodestone/unify.one -/
def F116 (D : Orc) (a0 a1 : Value) (h : H) (k : Kv) (kp : Kp) : Prop :=
D 119 [a0] h (fun v0 h1 => ∃ v2 : Value, v0 = v2 ∧ D 119 [a1] h1 (fun v3 h4 => ∃ v5 : Value, v3 = v5 ∧ refE Tryd.prog h4 144 v2 v5 (fun t6 => cond t6 (
k (Value.bool true) h4) (
assertW Tryd.prog v2 149 true (fun v7 => extractW v7 0 (fun v8 => extractW v7 1 (fun v9 => assertW Tryd.prog v5 149 true (fun v10 => extractW v10 0 (fun v11 => extractW v10 1 (fun v12 => grdW v9 (fun t13 => cond t13 (
grdW v12 (fun t14 => cond t14 (
nonNil v8 = true ∧ ptrW v8 (fun ad15 => ∃ x16 : Int, rd h4 (Addr.add ad15 0) = some (Value.int IntKind.i64 x16) ∧ nonNil v11 = true ∧ ptrW v11 (fun ad17 => ∃ x18 : Int, rd h4 (Addr.add ad17 0) = some (Value.int IntKind.i64 x18) ∧ j116__7 D k kp v2 v5 v8 v9 v11 v12 (Value.bool (decide (x16 > x18))) h4))) (
j116__7 D k kp v2 v5 v8 v9 v11 v12 (Value.bool false) h4)) (
grdW v12 (fun t65 => cond t65 (
nonNil undef = true ∧ ptrW undef (fun ad66 => ∃ x67 : Int, rd h4 (Addr.add ad66 0) = some (Value.int IntKind.i64 x67) ∧ nonNil v11 = true ∧ ptrW v11 (fun ad68 => ∃ x69 : Int, rd h4 (Addr.add ad68 0) = some (Value.int IntKind.i64 x69) ∧ j116__7 D k kp v2 v5 v8 v9 v11 v12 (Value.bool (decide (x67 > x69))) h4))) (
j116__7 D k kp v2 v5 v8 v9 v11 v12 (Value.bool false) h4)) (
grdW v12 (fun t70 => cond t70 (
ptrW undef (fun ad71 => ∃ x72 : Int, rd h4 (Addr.add ad71 0) = some (Value.int IntKind.i64 x72) ∧ nonNil v11 = true ∧ ptrW v11 (fun ad73 => ∃ x74 : Int, rd h4 (Addr.add ad73 0) = some (Value.int IntKind.i64 x74) ∧ j116__7 D k kp v2 v5 v8 v9 v11 v12 (Value.bool (decide (x72 > x74))) h4))) (
j116__7 D k kp v2 v5 v8 v9 v11 v12 (Value.bool false) h4)) (
grdW v12 (fun t75 => cond t75 (
ptrW undef (fun ad76 => ∃ x77 : Int, rd h4 ad76 = some (Value.int IntKind.i64 x77) ∧ nonNil v11 = true ∧ ptrW v11 (fun ad78 => ∃ x79 : Int, rd h4 (Addr.add ad78 0) = some (Value.int IntKind.i64 x79) ∧ j116__7 D k kp v2 v5 v8 v9 v11 v12 (Value.bool (decide (x77 > x79))) h4))) (
j116__7 D k kp v2 v5 v8 v9 v11 v12 (Value.bool false) h4)) (
grdW v12 (fun t80 => cond t80 (
nonNil v11 = true ∧ ptrW v11 (fun ad81 => ∃ x82 : Int, rd h4 (Addr.add ad81 0) = some (Value.int IntKind.i64 x82) ∧ intK IntKind.i64 undef (fun x83 => j116__7 D k kp v2 v5 v8 v9 v11 v12 (Value.bool (decide (x83 > x82))) h4))) (
j116__7 D k kp v2 v5 v8 v9 v11 v12 (Value.bool false) h4)) (
grdW v12 (fun t84 => cond t84 (
nonNil undef = true ∧ ptrW undef (fun ad85 => ∃ x86 : Int, rd h4 (Addr.add ad85 0) = some (Value.int IntKind.i64 x86) ∧ intK IntKind.i64 undef (fun x87 => j116__7 D k kp v2 v5 v8 v9 v11 v12 (Value.bool (decide (x87 > x86))) h4))) (
j116__7 D k kp v2 v5 v8 v9 v11 v12 (Value.bool false) h4)) (
grdW v12 (fun t88 => cond t88 (
ptrW undef (fun ad89 => ∃ x90 : Int, rd h4 (Addr.add ad89 0) = some (Value.int IntKind.i64 x90) ∧ intK IntKind.i64 undef (fun x91 => j116__7 D k kp v2 v5 v8 v9 v11 v12 (Value.bool (decide (x91 > x90))) h4))) (
j116__7 D k kp v2 v5 v8 v9 v11 v12 (Value.bool false) h4)) (
grdW v12 (fun t92 => cond t92 (
ptrW undef (fun ad93 => ∃ x94 : Int, rd h4 ad93 = some (Value.int IntKind.i64 x94) ∧ intK IntKind.i64 undef (fun x95 => j116__7 D k kp v2 v5 v8 v9 v11 v12 (Value.bool (decide (x95 > x94))) h4))) (
j116__7 D k kp v2 v5 v8 v9 v11 v12 (Value.bool false) h4)) (
grdW v12 (fun t96 => cond t96 (
intK IntKind.i64 undef (fun x97 => intK IntKind.i64 undef (fun x98 => j116__7 D k kp v2 v5 v8 v9 v11 v12 (Value.bool (decide (x97 > x98))) h4))) (
j116__7 D k kp v2 v5 v8 v9 v11 v12 (Value.bool false) h4)) (
boolW v12 (fun t99 => cond t99 (j116__7 D k kp v2 v5 v8 v9 v11 v12 undef h4) (j116__7 D k kp v2 v5 v8 v9 v11 v12 (Value.bool false) h4)))))))))))) (
j116__7 D k kp v2 v5 v8 v9 v11 v12 (Value.bool false) h4)) (
boolW v9 (fun t100 => cond t100 (boolW undef (fun t101 => cond t101 (j116__7 D k kp v2 v5 v8 v9 v11 v12 undef h4) (j116__7 D k kp v2 v5 v8 v9 v11 v12 (Value.bool false) h4))) (j116__7 D k kp v2 v5 v8 v9 v11 v12 (Value.bool false) h4)))))))))))) kp) kp
def Cl116 (D : Orc) : Prop := ∀ a0 a1 h k kp, F116 D a0 a1 h k kp → D 116 [a0, a1] h k kp
theorem tieR116_23 (D : Orc) (I : List Value → H → Prop) (K : Kl) (a0 a1 a2 a3 : Value) (h : H) : round116_23 D I K a0 a1 a2 a3 h = round Tryd.prog D (L116 D) lv116 (nthC (allLoops (bodyOf Tryd.f116)) 0) I K [a0, a1, a2, a3] h := by kernel_rfl
theorem tieF116 (D : Orc) (a0 a1 : Value) (h : H) (k : Kv) (kp : Kp) : F116 D a0 a1 h k kp = bodyW Tryd.prog D (L116 D) lv116 Tryd.f116 [a0, a1] h k kp := by kernel_rfl
theorem lfp116 : Lfps Tryd.prog (CS Tryd.prog) (L116 (CS Tryd.prog)) lv116 (allLoops (bodyOf Tryd.f116)) := by
  have e : (allLoops (bodyOf Tryd.f116)) = [nthC (allLoops (bodyOf Tryd.f116)) 0] := by kernel_rfl
  rw [e]
  exact ⟨(fun vs h K hk I H => hk I (fun a0 a1 a2 a3 h hr => H _ _ ((tieR116_23 (CS Tryd.prog) I K a0 a1 a2 a3 h) ▸ hr))), trivial⟩
theorem cl116 : Cl116 (CS Tryd.prog) := fun a0 a1 h k kp hk =>
  fn_sound wide (fn := Tryd.f116) (by kernel_rfl) (by kernel_rfl) (by kernel_rfl) lfp116 (by rw [tieF116] at hk; exact hk)
def lv117 : Lv := Lv.mk 65 [.raw] (fun i => cond (Nat.beq i 11) ([(6, .raw), (7, .int IntKind.i64), (42, .raw), (43, .int IntKind.i64), (44, .int IntKind.i64)]) ([])) (fun i => cond (Nat.beq i 11) ([(0, [(6, .raw), (7, .int IntKind.i64)])]) ([])) [(2, .int IntKind.i64), (3, .bool)] (fun i => none)
def round117_11 (D : Orc) (I : List Value → H → Prop) (K : Kl) (a0 a1 a2 a3 a4 : Value) (h19 : H) : Prop :=
intK IntKind.i64 a1 (fun x20 => intK IntKind.i64 a3 (fun x21 => intK IntKind.i64 a4 (fun x22 => cond (decide (x22 < x21)) (
slAtW a2 x22 1 (fun ad23 => ∃ v24 : Value, rd h19 ad23 = some v24 ∧ D 117 [v24] h19 (fun v25 h26 => ∃ x27 : Int, ∃ t28 : Bool, v25 = (Value.tuple #[(Value.int IntKind.i64 x27), (Value.bool t28)]) ∧ cond (!t28) (
K X.r [(Value.int IntKind.i64 (0 : Int)), (Value.bool false)] h26) (
minMax false [(Value.int IntKind.i64 (IntKind.wrap IntKind.i64 (x20 + x27))), (Value.int IntKind.i64 (513 : Int))] (fun v29 => I [a0, v29, a2, (Value.int IntKind.i64 x21), (Value.int IntKind.i64 (IntKind.wrap IntKind.i64 (x22 + (1 : Int))))] h26))) (fun c h => K (X.p c) [] h))) (
K (X.e 0) [a0, (Value.int IntKind.i64 x20)] h19))))
def loop117_11 (D : Orc) (vs : List Value) (h : H) (K : Kl) : Prop := ∀ I : List Value → H → Prop, (∀ a0 a1 a2 a3 a4 h, round117_11 D I K a0 a1 a2 a3 a4 h → I [a0, a1, a2, a3, a4] h) → I vs h
def L117 (D : Orc) : Lor := fun b vs h K => match firstId b with | some i => cond (Nat.beq i 11) (loop117_11 D vs h K) (False) | none => False
/-- lodestone/unify.measure -/
def F117 (D : Orc) (a0 : Value) (h : H) (k : Kv) (kp : Kp) : Prop :=
D 119 [a0] h (fun v0 h1 => ∃ v2 : Value, v0 = v2 ∧ assertW Tryd.prog v2 149 true (fun v3 => extractW v3 0 (fun v4 => extractW v3 1 (fun v5 => boolW v5 (fun t6 => cond t6 (
k (Value.tuple #[(Value.int IntKind.i64 (1 : Int)), (Value.bool true)]) h1) (
assertW Tryd.prog v2 155 false (fun v7 => nonNil v7 = true ∧ ptrW v7 (fun ad8 => ∃ x9 : Int, rd h1 (Addr.add ad8 3) = some (Value.int IntKind.i64 x9) ∧ cond (x9 != (0 : Int)) (
nonNil v7 = true ∧ ptrW v7 (fun ad10 => ∃ x11 : Int, rd h1 (Addr.add ad10 3) = some (Value.int IntKind.i64 x11) ∧ nonNil v7 = true ∧ ptrW v7 (fun ad12 => ∃ x13 : Int, rd h1 (Addr.add ad12 3) = some (Value.int IntKind.i64 x13) ∧ k (Value.tuple #[(Value.int IntKind.i64 x11), (Value.bool (decide (x13 > (0 : Int))))]) h1))) (
nonNil v7 = true ∧ ptrW v7 (fun ad14 => one (Value.int IntKind.i64 (-1 : Int)) = true ∧ 1 = 1 ∧ ∃ h15, wr1 h1 (Addr.add ad14 3) (Value.int IntKind.i64 (-1 : Int)) = some h15 ∧ nonNil v7 = true ∧ ptrW v7 (fun ad16 => ∃ v17 : Value, rd h15 (Addr.add ad16 1) = some v17 ∧ lenW v17 (fun n18 => loop117_11 D [v7, (Value.int IntKind.i64 (1 : Int)), v17, (Value.int IntKind.i64 (n18 : Int)), (Value.int IntKind.i64 (0 : Int))] h15 (fun x31 vs32 h30 => xs x31 (intK IntKind.i64 (nth vs32 0) (fun x34 => boolW (nth vs32 1) (fun t35 => k (Value.tuple #[(Value.int IntKind.i64 x34), (Value.bool t35)]) h30))) (fun i33 => cond (Nat.beq i33 0) (
intK IntKind.i64 (nth vs32 1) (fun x36 => nonNil (nth vs32 0) = true ∧ ptrW (nth vs32 0) (fun ad37 => one (Value.int IntKind.i64 x36) = true ∧ 1 = 1 ∧ ∃ h38, wr1 h30 (Addr.add ad37 3) (Value.int IntKind.i64 x36) = some h38 ∧ k (Value.tuple #[(Value.int IntKind.i64 x36), (Value.bool true)]) h38))) (False)) (fun c => kp c h30)))))))))))))) kp
def Cl117 (D : Orc) : Prop := ∀ a0 h k kp, F117 D a0 h k kp → D 117 [a0] h k kp
theorem tieR117_11 (D : Orc) (I : List Value → H → Prop) (K : Kl) (a0 a1 a2 a3 a4 : Value) (h : H) : round117_11 D I K a0 a1 a2 a3 a4 h = round Tryd.prog D (L117 D) lv117 (nthC (allLoops (bodyOf Tryd.f117)) 0) I K [a0, a1, a2, a3, a4] h := by kernel_rfl
theorem tieF117 (D : Orc) (a0 : Value) (h : H) (k : Kv) (kp : Kp) : F117 D a0 h k kp = bodyW Tryd.prog D (L117 D) lv117 Tryd.f117 [a0] h k kp := by kernel_rfl
theorem lfp117 : Lfps Tryd.prog (CS Tryd.prog) (L117 (CS Tryd.prog)) lv117 (allLoops (bodyOf Tryd.f117)) := by
  have e : (allLoops (bodyOf Tryd.f117)) = [nthC (allLoops (bodyOf Tryd.f117)) 0] := by kernel_rfl
  rw [e]
  exact ⟨(fun vs h K hk I H => hk I (fun a0 a1 a2 a3 a4 h hr => H _ _ ((tieR117_11 (CS Tryd.prog) I K a0 a1 a2 a3 a4 h) ▸ hr))), trivial⟩
theorem cl117 : Cl117 (CS Tryd.prog) := fun a0 h k kp hk =>
  fn_sound wide (fn := Tryd.f117) (by kernel_rfl) (by kernel_rfl) (by kernel_rfl) lfp117 (by rw [tieF117] at hk; exact hk)
def lv119 : Lv := Lv.mk 9 [.raw] (fun i => cond (Nat.beq i 1) ([(0, .raw)]) ([])) (fun i => cond (Nat.beq i 1) ([(0, [(0, .raw)])]) ([])) [(2, .raw)] (fun i => none)
def round119_1 (D : Orc) (I : List Value → H → Prop) (K : Kl) (a0 : Value) (h0 : H) : Prop :=
invW Tryd.prog D 144 a0 "lodestone/unify.behind" [] h0 (fun v1 h2 => eqIf true v1 Value.nilIface (fun t3 => cond (!t3) (
invW Tryd.prog D 144 a0 "lodestone/unify.behind" [] h2 (fun v4 h5 => I [v4] h5) (fun c h => K (X.p c) [] h)) (
K (X.e 0) [a0] h2))) (fun c h => K (X.p c) [] h)
def loop119_1 (D : Orc) (vs : List Value) (h : H) (K : Kl) : Prop := ∀ I : List Value → H → Prop, (∀ a0 h, round119_1 D I K a0 h → I [a0] h) → I vs h
def L119 (D : Orc) : Lor := fun b vs h K => match firstId b with | some i => cond (Nat.beq i 1) (loop119_1 D vs h K) (False) | none => False
/-- lodestone/unify.end -/
def F119 (D : Orc) (a0 : Value) (h : H) (k : Kv) (kp : Kp) : Prop :=
loop119_1 D [a0] h (fun x7 vs8 h6 => xs x7 (k (nth vs8 0) h6) (fun i9 => cond (Nat.beq i9 0) (
k (nth vs8 0) h6) (False)) (fun c => kp c h6))
def Cl119 (D : Orc) : Prop := ∀ a0 h k kp, F119 D a0 h k kp → D 119 [a0] h k kp
theorem tieR119_1 (D : Orc) (I : List Value → H → Prop) (K : Kl) (a0 : Value) (h : H) : round119_1 D I K a0 h = round Tryd.prog D (L119 D) lv119 (nthC (allLoops (bodyOf Tryd.f119)) 0) I K [a0] h := by kernel_rfl
theorem tieF119 (D : Orc) (a0 : Value) (h : H) (k : Kv) (kp : Kp) : F119 D a0 h k kp = bodyW Tryd.prog D (L119 D) lv119 Tryd.f119 [a0] h k kp := by kernel_rfl
theorem lfp119 : Lfps Tryd.prog (CS Tryd.prog) (L119 (CS Tryd.prog)) lv119 (allLoops (bodyOf Tryd.f119)) := by
  have e : (allLoops (bodyOf Tryd.f119)) = [nthC (allLoops (bodyOf Tryd.f119)) 0] := by kernel_rfl
  rw [e]
  exact ⟨(fun vs h K hk I H => hk I (fun a0 h hr => H _ _ ((tieR119_1 (CS Tryd.prog) I K a0 h) ▸ hr))), trivial⟩
theorem cl119 : Cl119 (CS Tryd.prog) := fun a0 h k kp hk =>
  fn_sound wide (fn := Tryd.f119) (by kernel_rfl) (by kernel_rfl) (by kernel_rfl) lfp119 (by rw [tieF119] at hk; exact hk)
def lv137 : Lv := Lv.mk 7 [.raw] (fun i => []) (fun i => []) [(2, .raw)] (fun i => none)
def L137 (D : Orc) : Lor := fun b vs h K => match firstId b with | some i => False | none => False
/-- (*lodestone/unify.variable).behind -/
def F137 (D : Orc) (a0 : Value) (h : H) (k : Kv) (kp : Kp) : Prop :=
nonNil a0 = true ∧ ptrW a0 (fun ad0 => ∃ v1 : Value, rd h (Addr.add ad0 1) = some v1 ∧ k v1 h)
def Cl137 (D : Orc) : Prop := ∀ a0 h k kp, F137 D a0 h k kp → D 137 [a0] h k kp
theorem tieF137 (D : Orc) (a0 : Value) (h : H) (k : Kv) (kp : Kp) : F137 D a0 h k kp = bodyW Tryd.prog D (L137 D) lv137 Tryd.f137 [a0] h k kp := by kernel_rfl
theorem lfp137 : Lfps Tryd.prog (CS Tryd.prog) (L137 (CS Tryd.prog)) lv137 (allLoops (bodyOf Tryd.f137)) := by
  have e : (allLoops (bodyOf Tryd.f137)) = [] := by kernel_rfl
  rw [e]
  exact trivial
theorem cl137 : Cl137 (CS Tryd.prog) := fun a0 h k kp hk =>
  fn_sound wide (fn := Tryd.f137) (by kernel_rfl) (by kernel_rfl) (by kernel_rfl) lfp137 (by rw [tieF137] at hk; exact hk)
def lv138 : Lv := Lv.mk 7 [.raw] (fun i => []) (fun i => []) [(2, .raw)] (fun i => none)
def L138 (D : Orc) : Lor := fun b vs h K => match firstId b with | some i => False | none => False
/-- (*lodestone/unify.tree).behind -/
def F138 (D : Orc) (a0 : Value) (h : H) (k : Kv) (kp : Kp) : Prop :=
nonNil a0 = true ∧ ptrW a0 (fun ad0 => ∃ v1 : Value, rd h (Addr.add ad0 2) = some v1 ∧ k v1 h)
def Cl138 (D : Orc) : Prop := ∀ a0 h k kp, F138 D a0 h k kp → D 138 [a0] h k kp
theorem tieF138 (D : Orc) (a0 : Value) (h : H) (k : Kv) (kp : Kp) : F138 D a0 h k kp = bodyW Tryd.prog D (L138 D) lv138 Tryd.f138 [a0] h k kp := by kernel_rfl
theorem lfp138 : Lfps Tryd.prog (CS Tryd.prog) (L138 (CS Tryd.prog)) lv138 (allLoops (bodyOf Tryd.f138)) := by
  have e : (allLoops (bodyOf Tryd.f138)) = [] := by kernel_rfl
  rw [e]
  exact trivial
theorem cl138 : Cl138 (CS Tryd.prog) := fun a0 h k kp hk =>
  fn_sound wide (fn := Tryd.f138) (by kernel_rfl) (by kernel_rfl) (by kernel_rfl) lfp138 (by rw [tieF138] at hk; exact hk)
end Go.Proofs.YtnlhnlmnlfmojaaDoor.Am
