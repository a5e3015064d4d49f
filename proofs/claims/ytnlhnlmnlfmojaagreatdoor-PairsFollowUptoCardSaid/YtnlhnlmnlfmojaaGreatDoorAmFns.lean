/-
  Packed: 
-/
import Derived.Test.YtnlhnlmnlfmojaaGreatDoorPkB
import Derived.Test.YtnlhnlmnlfmojaaGreatDoorProg
set_option linter.unusedVariables false
set_option linter.unusedSimpArgs false
set_option linter.unnecessarySimpa false
namespace Go.Proofs.YtnlhnlmnlfmojaaGreatDoor.Am
open Go Go.Proofs
set_option maxRecDepth 100000
set_option linter.unusedVariables false
theorem wide : Tryz.prog.follows .mixedOrders = true := by kernel_rfl
def lv46 : Lv := Lv.mk 35 [.raw] (fun i => cond (Nat.beq i 7) ([(1, .raw), (19, .raw), (20, .int IntKind.i64), (21, .int IntKind.i64)]) ([])) (fun i => cond (Nat.beq i 7) ([(0, [])]) ([])) [(2, .int IntKind.i64), (3, .int IntKind.i64)] (fun i => none)
def round46_7 (D : Orc) (I : List Value → H → Prop) (K : Kl) (a0 a1 a2 a3 : Value) (h14 : H) : Prop :=
intK IntKind.i64 a2 (fun x15 => intK IntKind.i64 a3 (fun x16 => cond (decide (x16 < x15)) (
slAtW a1 x16 2 (fun ad17 => ∃ v18 : Value, ∃ v19 : Value, rdN h14 ad17 2 = some [v18, v19] ∧ newW h14 [(Value.slice none 0 0), (Value.slice none 0 0)] (fun p20 h21 => ptrW p20 (fun ad22 => 2 = 2 ∧ List.all [v18, v19] one = true ∧ ∃ h23, wr h21 ad22 [v18, v19] = some h23 ∧ ptrW a0 (fun ad24 => ∃ v25 : Value, rd h23 (Addr.add ad24 0) = some v25 ∧ ptrW p20 (fun ad26 => ∃ v27 : Value, ∃ v28 : Value, rdN h23 ad26 2 = some [v27, v28] ∧ D 73 [v25, (Value.agg #[v27, v28])] h23 (fun v29 h30 => ∃ x31 : Int, v29 = (Value.int IntKind.i64 x31) ∧ cond (x31 != (0 : Int)) (
K X.r [(Value.int IntKind.i64 x31), (Value.int IntKind.i64 x16)] h30) (
I [a0, a1, (Value.int IntKind.i64 x15), (Value.int IntKind.i64 (IntKind.wrap IntKind.i64 (x16 + (1 : Int))))] h30)) (fun c h => K (X.p c) [] h))))))) (
K (X.e 0) [] h14)))
def loop46_7 (D : Orc) (vs : List Value) (h : H) (K : Kl) : Prop := ∀ I : List Value → H → Prop, (∀ a0 a1 a2 a3 h, round46_7 D I K a0 a1 a2 a3 h → I [a0, a1, a2, a3] h) → I vs h
def L46 (D : Orc) : Lor := fun b vs h K => match firstId b with | some i => cond (Nat.beq i 7) (loop46_7 D vs h K) (False) | none => False
/-- lodestone/system.Check -/
def F46 (D : Orc) (a0 : Value) (h : H) (k : Kv) (kp : Kp) : Prop :=
aggW a0 (fun l0 => newW h l0 (fun p1 h2 => ptrW p1 (fun ad3 => ∃ v4 : Value, rd h2 (Addr.add ad3 0) = some v4 ∧ D 72 [v4] h2 (fun v5 h6 => ∃ x7 : Int, v5 = (Value.int IntKind.i64 x7) ∧ cond (x7 != (0 : Int)) (
k (Value.tuple #[(Value.int IntKind.i64 x7), (Value.int IntKind.i64 (-1 : Int))]) h6) (
ptrW p1 (fun ad8 => ∃ v9 : Value, rd h6 (Addr.add ad8 1) = some v9 ∧ lenW v9 (fun n10 => cond (decide ((n10 : Int) > (64 : Int))) (
k (Value.tuple #[(Value.int IntKind.i64 (70 : Int)), (Value.int IntKind.i64 (-1 : Int))]) h6) (
ptrW p1 (fun ad11 => ∃ v12 : Value, rd h6 (Addr.add ad11 1) = some v12 ∧ lenW v12 (fun n13 => loop46_7 D [p1, v12, (Value.int IntKind.i64 (n13 : Int)), (Value.int IntKind.i64 (0 : Int))] h6 (fun x33 vs34 h32 => xs x33 (intK IntKind.i64 (nth vs34 0) (fun x36 => intK IntKind.i64 (nth vs34 1) (fun x37 => k (Value.tuple #[(Value.int IntKind.i64 x36), (Value.int IntKind.i64 x37)]) h32))) (fun i35 => cond (Nat.beq i35 0) (
k (Value.tuple #[(Value.int IntKind.i64 (0 : Int)), (Value.int IntKind.i64 (0 : Int))]) h32) (False)) (fun c => kp c h32))))))))) kp)))
def Cl46 (D : Orc) : Prop := ∀ a0 h k kp, F46 D a0 h k kp → D 46 [a0] h k kp
theorem tieR46_7 (D : Orc) (I : List Value → H → Prop) (K : Kl) (a0 a1 a2 a3 : Value) (h : H) : round46_7 D I K a0 a1 a2 a3 h = round Tryz.prog D (L46 D) lv46 (nthC (allLoops (bodyOf Tryz.f46)) 0) I K [a0, a1, a2, a3] h := by kernel_rfl
theorem tieF46 (D : Orc) (a0 : Value) (h : H) (k : Kv) (kp : Kp) : F46 D a0 h k kp = bodyW Tryz.prog D (L46 D) lv46 Tryz.f46 [a0] h k kp := by kernel_rfl
theorem lfp46 : Lfps Tryz.prog (CS Tryz.prog) (L46 (CS Tryz.prog)) lv46 (allLoops (bodyOf Tryz.f46)) := by
  have e : (allLoops (bodyOf Tryz.f46)) = [nthC (allLoops (bodyOf Tryz.f46)) 0] := by kernel_rfl
  rw [e]
  exact ⟨(fun vs h K hk I H => hk I (fun a0 a1 a2 a3 h hr => H _ _ ((tieR46_7 (CS Tryz.prog) I K a0 a1 a2 a3 h) ▸ hr))), trivial⟩
theorem cl46 : Cl46 (CS Tryz.prog) := fun a0 h k kp hk =>
  fn_sound wide (fn := Tryz.f46) (by kernel_rfl) (by kernel_rfl) (by kernel_rfl) lfp46 (by rw [tieF46] at hk; exact hk)
def lv30 : Lv := Lv.mk 36 [.raw] (fun i => cond (Nat.beq i 7) ([(1, .raw), (5, .int IntKind.i64)]) ([])) (fun i => cond (Nat.beq i 7) ([(0, [])]) ([])) [(2, .int IntKind.i64), (3, .int IntKind.i64)] (fun i => none)
def round30_7 (D : Orc) (I : List Value → H → Prop) (K : Kl) (a0 a1 : Value) (h11 : H) : Prop :=
intK IntKind.i64 a1 (fun x12 => ptrW a0 (fun ad13 => ∃ v14 : Value, rd h11 (Addr.add ad13 1) = some v14 ∧ lenW v14 (fun n15 => cond (decide (x12 < (n15 : Int))) (
ptrW a0 (fun ad16 => ∃ v17 : Value, rd h11 (Addr.add ad16 0) = some v17 ∧ ptrW a0 (fun ad18 => ∃ v19 : Value, rd h11 (Addr.add ad18 1) = some v19 ∧ slAtW v19 x12 2 (fun ad20 => ∃ v21 : Value, ∃ v22 : Value, rdN h11 ad20 2 = some [v21, v22] ∧ D 59 [v17, (Value.agg #[v21, v22])] h11 (fun v23 h24 => ∃ x25 : Int, v23 = (Value.int IntKind.i64 x25) ∧ cond (x25 != (0 : Int)) (
K X.r [(Value.int IntKind.i64 x25), (Value.int IntKind.i64 x12)] h24) (
I [a0, (Value.int IntKind.i64 (IntKind.wrap IntKind.i64 (x12 + (1 : Int))))] h24)) (fun c h => K (X.p c) [] h))))) (
K (X.e 0) [] h11))))
def loop30_7 (D : Orc) (vs : List Value) (h : H) (K : Kl) : Prop := ∀ I : List Value → H → Prop, (∀ a0 a1 h, round30_7 D I K a0 a1 h → I [a0, a1] h) → I vs h
def L30 (D : Orc) : Lor := fun b vs h K => match firstId b with | some i => cond (Nat.beq i 7) (loop30_7 D vs h K) (False) | none => False
/-- lodestone/lodestoneref07.Check -/
def F30 (D : Orc) (a0 : Value) (h : H) (k : Kv) (kp : Kp) : Prop :=
aggW a0 (fun l0 => newW h l0 (fun p1 h2 => ptrW p1 (fun ad3 => ∃ v4 : Value, rd h2 (Addr.add ad3 0) = some v4 ∧ D 34 [v4] h2 (fun v5 h6 => ∃ x7 : Int, v5 = (Value.int IntKind.i64 x7) ∧ cond (x7 != (0 : Int)) (
k (Value.tuple #[(Value.int IntKind.i64 x7), (Value.int IntKind.i64 (-1 : Int))]) h6) (
ptrW p1 (fun ad8 => ∃ v9 : Value, rd h6 (Addr.add ad8 1) = some v9 ∧ lenW v9 (fun n10 => cond (decide ((n10 : Int) > (64 : Int))) (
k (Value.tuple #[(Value.int IntKind.i64 (70 : Int)), (Value.int IntKind.i64 (-1 : Int))]) h6) (
loop30_7 D [p1, (Value.int IntKind.i64 (0 : Int))] h6 (fun x27 vs28 h26 => xs x27 (intK IntKind.i64 (nth vs28 0) (fun x30 => intK IntKind.i64 (nth vs28 1) (fun x31 => k (Value.tuple #[(Value.int IntKind.i64 x30), (Value.int IntKind.i64 x31)]) h26))) (fun i29 => cond (Nat.beq i29 0) (
k (Value.tuple #[(Value.int IntKind.i64 (0 : Int)), (Value.int IntKind.i64 (0 : Int))]) h26) (False)) (fun c => kp c h26))))))) kp)))
def Cl30 (D : Orc) : Prop := ∀ a0 h k kp, F30 D a0 h k kp → D 30 [a0] h k kp
theorem tieR30_7 (D : Orc) (I : List Value → H → Prop) (K : Kl) (a0 a1 : Value) (h : H) : round30_7 D I K a0 a1 h = round Tryz.prog D (L30 D) lv30 (nthC (allLoops (bodyOf Tryz.f30)) 0) I K [a0, a1] h := by kernel_rfl
theorem tieF30 (D : Orc) (a0 : Value) (h : H) (k : Kv) (kp : Kp) : F30 D a0 h k kp = bodyW Tryz.prog D (L30 D) lv30 Tryz.f30 [a0] h k kp := by kernel_rfl
theorem lfp30 : Lfps Tryz.prog (CS Tryz.prog) (L30 (CS Tryz.prog)) lv30 (allLoops (bodyOf Tryz.f30)) := by
  have e : (allLoops (bodyOf Tryz.f30)) = [nthC (allLoops (bodyOf Tryz.f30)) 0] := by kernel_rfl
  rw [e]
  exact ⟨(fun vs h K hk I H => hk I (fun a0 a1 h hr => H _ _ ((tieR30_7 (CS Tryz.prog) I K a0 a1 h) ▸ hr))), trivial⟩
theorem cl30 : Cl30 (CS Tryz.prog) := fun a0 h k kp hk =>
  fn_sound wide (fn := Tryz.f30) (by kernel_rfl) (by kernel_rfl) (by kernel_rfl) lfp30 (by rw [tieF30] at hk; exact hk)
def lv47 : Lv := Lv.mk 28 [.raw] (fun i => cond (Nat.beq i 5) ([(3, .raw), (11, .raw), (12, .int IntKind.i64), (13, .int IntKind.i64)]) ([])) (fun i => cond (Nat.beq i 5) ([(0, [(3, .raw)])]) ([])) [(2, .raw)] (fun i => none)
def round47_5 (D : Orc) (I : List Value → H → Prop) (K : Kl) (a0 a1 a2 a3 : Value) (h14 : H) : Prop :=
intK IntKind.i64 a2 (fun x15 => intK IntKind.i64 a3 (fun x16 => cond (decide (x16 < x15)) (
slAtW a1 x16 2 (fun ad17 => ∃ v18 : Value, ∃ v19 : Value, rdN h14 ad17 2 = some [v18, v19] ∧ newW h14 [(Value.slice none 0 0), (Value.slice none 0 0)] (fun p20 h21 => ptrW p20 (fun ad22 => 2 = 2 ∧ List.all [v18, v19] one = true ∧ ∃ h23, wr h21 ad22 [v18, v19] = some h23 ∧ ptrW p20 (fun ad24 => ∃ v25 : Value, rd h23 (Addr.add ad24 0) = some v25 ∧ slAtW v25 (0 : Int) 1 (fun ad26 => ∃ x27 : Int, rd h23 ad26 = some (Value.int IntKind.i64 x27) ∧ mapU h23 a0 (TypeDesc.int IntKind.i64) (Value.int IntKind.i64 x27) (Value.int IntKind.i64 x16) (fun h28 => I [a0, a1, (Value.int IntKind.i64 x15), (Value.int IntKind.i64 (IntKind.wrap IntKind.i64 (x16 + (1 : Int))))] h28))))))) (
K (X.e 0) [a0] h14)))
def loop47_5 (D : Orc) (vs : List Value) (h : H) (K : Kl) : Prop := ∀ I : List Value → H → Prop, (∀ a0 a1 a2 a3 h, round47_5 D I K a0 a1 a2 a3 h → I [a0, a1, a2, a3] h) → I vs h
def L47 (D : Orc) : Lor := fun b vs h K => match firstId b with | some i => cond (Nat.beq i 5) (loop47_5 D vs h K) (False) | none => False
/-- lodestone/system.Defined -/
def F47 (D : Orc) (a0 : Value) (h : H) (k : Kv) (kp : Kp) : Prop :=
aggW a0 (fun l0 => newW h l0 (fun p1 h2 => ptrW p1 (fun ad3 => ∃ v4 : Value, ∃ v5 : Value, rdN h2 ad3 2 = some [v4, v5] ∧ D 74 [(Value.agg #[v4, v5])] h2 (fun v6 h7 => ∃ t8 : Bool, v6 = (Value.bool t8) ∧ cond (!t8) (
k (Value.slice none 0 0) h7) (
newMap h7 (fun m9 h10 => ptrW p1 (fun ad11 => ∃ v12 : Value, rd h10 (Addr.add ad11 1) = some v12 ∧ lenW v12 (fun n13 => loop47_5 D [m9, v12, (Value.int IntKind.i64 (n13 : Int)), (Value.int IntKind.i64 (0 : Int))] h10 (fun x30 vs31 h29 => xs x30 (k (nth vs31 0) h29) (fun i32 => cond (Nat.beq i32 0) (
D 76 [(nth vs31 0)] h29 (fun v33 h34 => ∃ v35 : Value, v33 = v35 ∧ D 75 [v35] h34 (fun v36 h37 => ∃ v38 : Value, v36 = v38 ∧ k v38 h37) kp) kp) (False)) (fun c => kp c h29))))))) kp)))
def Cl47 (D : Orc) : Prop := ∀ a0 h k kp, F47 D a0 h k kp → D 47 [a0] h k kp
theorem tieR47_5 (D : Orc) (I : List Value → H → Prop) (K : Kl) (a0 a1 a2 a3 : Value) (h : H) : round47_5 D I K a0 a1 a2 a3 h = round Tryz.prog D (L47 D) lv47 (nthC (allLoops (bodyOf Tryz.f47)) 0) I K [a0, a1, a2, a3] h := by kernel_rfl
theorem tieF47 (D : Orc) (a0 : Value) (h : H) (k : Kv) (kp : Kp) : F47 D a0 h k kp = bodyW Tryz.prog D (L47 D) lv47 Tryz.f47 [a0] h k kp := by kernel_rfl
theorem lfp47 : Lfps Tryz.prog (CS Tryz.prog) (L47 (CS Tryz.prog)) lv47 (allLoops (bodyOf Tryz.f47)) := by
  have e : (allLoops (bodyOf Tryz.f47)) = [nthC (allLoops (bodyOf Tryz.f47)) 0] := by kernel_rfl
  rw [e]
  exact ⟨(fun vs h K hk I H => hk I (fun a0 a1 a2 a3 h hr => H _ _ ((tieR47_5 (CS Tryz.prog) I K a0 a1 a2 a3 h) ▸ hr))), trivial⟩
theorem cl47 : Cl47 (CS Tryz.prog) := fun a0 h k kp hk =>
  fn_sound wide (fn := Tryz.f47) (by kernel_rfl) (by kernel_rfl) (by kernel_rfl) lfp47 (by rw [tieF47] at hk; exact hk)
def lv26 : Lv := Lv.mk 43 [.raw] (fun i => cond (Nat.beq i 5) ([(1, .raw), (3, .raw), (4, .int IntKind.i64)]) (cond (Nat.beq i 9) ([(1, .raw), (3, .raw), (4, .int IntKind.i64), (5, .bool), (6, .int IntKind.i64)]) ([]))) (fun i => cond (Nat.beq i 5) ([(0, [(3, .raw)])]) (cond (Nat.beq i 9) ([(2, [(1, .raw), (3, .raw), (4, .int IntKind.i64), (5, .bool)])]) ([]))) [(2, .raw)] (fun i => cond (Nat.beq i 6) (some [(1, .raw), (3, .raw), (4, .int IntKind.i64)]) (cond (Nat.beq i 10) (some [(1, .raw), (3, .raw), (4, .int IntKind.i64), (5, .bool), (6, .int IntKind.i64)]) (none)))
def j26_9_10 (D : Orc) (I : List Value → H → Prop) (K : Kl) (a0 a1 a2 a3 a4 : Value) (h27 : H) : Prop :=
intK IntKind.i64 a2 (fun x28 => boolW a3 (fun t29 => intK IntKind.i64 a4 (fun x30 => I [a0, a1, (Value.int IntKind.i64 x28), (Value.bool t29), (Value.int IntKind.i64 (IntKind.wrap IntKind.i64 (x30 + (1 : Int))))] h27)))
def round26_9 (D : Orc) (I : List Value → H → Prop) (K : Kl) (a0 a1 a2 a3 a4 : Value) (h14 : H) : Prop :=
intK IntKind.i64 a2 (fun x15 => boolW a3 (fun t16 => intK IntKind.i64 a4 (fun x17 => ptrW a0 (fun ad18 => ∃ v19 : Value, rd h14 (Addr.add ad18 1) = some v19 ∧ lenW v19 (fun n20 => cond (decide (x17 < (n20 : Int))) (
cond (!t16) (
ptrW a0 (fun ad21 => ∃ v22 : Value, rd h14 (Addr.add ad21 1) = some v22 ∧ slAtW v22 x17 2 (fun ad23 => ∃ v24 : Value, rd h14 (Addr.add ad23 0) = some v24 ∧ slAtW v24 (0 : Int) 1 (fun ad25 => ∃ x26 : Int, rd h14 ad25 = some (Value.int IntKind.i64 x26) ∧ j26_9_10 D I K a0 a1 (Value.int IntKind.i64 x15) (Value.bool (x26 == x15)) (Value.int IntKind.i64 x17) h14)))) (
j26_9_10 D I K a0 a1 (Value.int IntKind.i64 x15) (Value.bool true) (Value.int IntKind.i64 x17) h14)) (
K (X.e 2) [a0, a1, (Value.int IntKind.i64 x15), (Value.bool t16)] h14))))))
def loop26_9 (D : Orc) (vs : List Value) (h : H) (K : Kl) : Prop := ∀ I : List Value → H → Prop, (∀ a0 a1 a2 a3 a4 h, round26_9 D I K a0 a1 a2 a3 a4 h → I [a0, a1, a2, a3, a4] h) → I vs h
def j26_5_6 (D : Orc) (I : List Value → H → Prop) (K : Kl) (a0 a1 a2 : Value) (h43 : H) : Prop :=
intK IntKind.i64 a2 (fun x44 => I [a0, a1, (Value.int IntKind.i64 (IntKind.wrap IntKind.i64 (x44 + (1 : Int))))] h43)
def round26_5 (D : Orc) (I : List Value → H → Prop) (K : Kl) (a0 a1 a2 : Value) (h9 : H) : Prop :=
intK IntKind.i64 a2 (fun x10 => ptrW a0 (fun ad11 => ∃ v12 : Value, rd h9 (Addr.add ad11 0) = some v12 ∧ lenW v12 (fun n13 => cond (decide (x10 < (n13 : Int))) (
loop26_9 D [a0, a1, (Value.int IntKind.i64 x10), (Value.bool false), (Value.int IntKind.i64 (0 : Int))] h9 (fun x32 vs33 h31 => xs x32 (K X.r [(nth vs33 0)] h31) (fun i34 => cond (Nat.beq i34 2) (
intK IntKind.i64 (nth vs33 2) (fun x35 => boolW (nth vs33 3) (fun t36 => cond t36 (
one (Value.int IntKind.i64 x35) = true ∧ 0 < 1 ∧ newSl h31 1 [(Value.int IntKind.i64 x35)] (fun s37 h38 => slenW s37 (fun n39 => srcW h38 1 s37 (n39) (fun w40 => apW h38 1 8 [(Value.int IntKind.i64 (0 : Int))] (nth vs33 1) (n39) w40 (fun s41 h42 => j26_5_6 D I K (nth vs33 0) s41 (Value.int IntKind.i64 x35) h42))))) (
j26_5_6 D I K (nth vs33 0) (nth vs33 1) (Value.int IntKind.i64 x35) h31)))) (False)) (fun c => (fun c h => K (X.p c) [] h) c h31))) (
K (X.e 0) [a1] h9))))
def loop26_5 (D : Orc) (vs : List Value) (h : H) (K : Kl) : Prop := ∀ I : List Value → H → Prop, (∀ a0 a1 a2 h, round26_5 D I K a0 a1 a2 h → I [a0, a1, a2] h) → I vs h
def L26 (D : Orc) : Lor := fun b vs h K => match firstId b with | some i => cond (Nat.beq i 5) (loop26_5 D vs h K) (cond (Nat.beq i 9) (loop26_9 D vs h K) (False)) | none => False
/-- lodestone/lodestoneref07.Defined -/
def F26 (D : Orc) (a0 : Value) (h : H) (k : Kv) (kp : Kp) : Prop :=
aggW a0 (fun l0 => newW h l0 (fun p1 h2 => ptrW p1 (fun ad3 => ∃ v4 : Value, ∃ v5 : Value, rdN h2 ad3 2 = some [v4, v5] ∧ D 23 [(Value.agg #[v4, v5])] h2 (fun v6 h7 => ∃ t8 : Bool, v6 = (Value.bool t8) ∧ cond (!t8) (
k (Value.slice none 0 0) h7) (
loop26_5 D [p1, (Value.slice none 0 0), (Value.int IntKind.i64 (0 : Int))] h7 (fun x46 vs47 h45 => xs x46 (k (nth vs47 0) h45) (fun i48 => cond (Nat.beq i48 0) (
k (nth vs47 0) h45) (False)) (fun c => kp c h45)))) kp)))
def Cl26 (D : Orc) : Prop := ∀ a0 h k kp, F26 D a0 h k kp → D 26 [a0] h k kp
theorem tieR26_5 (D : Orc) (I : List Value → H → Prop) (K : Kl) (a0 a1 a2 : Value) (h : H) : round26_5 D I K a0 a1 a2 h = round Tryz.prog D (L26 D) lv26 (nthC (allLoops (bodyOf Tryz.f26)) 0) I K [a0, a1, a2] h := by kernel_rfl
theorem tieR26_9 (D : Orc) (I : List Value → H → Prop) (K : Kl) (a0 a1 a2 a3 a4 : Value) (h : H) : round26_9 D I K a0 a1 a2 a3 a4 h = round Tryz.prog D (L26 D) lv26 (nthC (allLoops (bodyOf Tryz.f26)) 1) I K [a0, a1, a2, a3, a4] h := by kernel_rfl
theorem tieF26 (D : Orc) (a0 : Value) (h : H) (k : Kv) (kp : Kp) : F26 D a0 h k kp = bodyW Tryz.prog D (L26 D) lv26 Tryz.f26 [a0] h k kp := by kernel_rfl
theorem lfp26 : Lfps Tryz.prog (CS Tryz.prog) (L26 (CS Tryz.prog)) lv26 (allLoops (bodyOf Tryz.f26)) := by
  have e : (allLoops (bodyOf Tryz.f26)) = [nthC (allLoops (bodyOf Tryz.f26)) 0, nthC (allLoops (bodyOf Tryz.f26)) 1] := by kernel_rfl
  rw [e]
  exact ⟨(fun vs h K hk I H => hk I (fun a0 a1 a2 h hr => H _ _ ((tieR26_5 (CS Tryz.prog) I K a0 a1 a2 h) ▸ hr))), (fun vs h K hk I H => hk I (fun a0 a1 a2 a3 a4 h hr => H _ _ ((tieR26_9 (CS Tryz.prog) I K a0 a1 a2 a3 a4 h) ▸ hr))), trivial⟩
theorem cl26 : Cl26 (CS Tryz.prog) := fun a0 h k kp hk =>
  fn_sound wide (fn := Tryz.f26) (by kernel_rfl) (by kernel_rfl) (by kernel_rfl) lfp26 (by rw [tieF26] at hk; exact hk)
def lv23 : Lv := Lv.mk 12 [.raw] (fun i => []) (fun i => []) [(2, .bool)] (fun i => none)
def L23 (D : Orc) : Lor := fun b vs h K => match firstId b with | some i => False | none => False
/-- lodestone/lodestoneref07.Right -/
def F23 (D : Orc) (a0 : Value) (h : H) (k : Kv) (kp : Kp) : Prop :=
aggW a0 (fun l0 => newW h l0 (fun p1 h2 => ptrW p1 (fun ad3 => ∃ v4 : Value, ∃ v5 : Value, rdN h2 ad3 2 = some [v4, v5] ∧ D 30 [(Value.agg #[v4, v5])] h2 (fun v6 h7 => ∃ x8 : Int, ∃ x9 : Int, v6 = (Value.tuple #[(Value.int IntKind.i64 x8), (Value.int IntKind.i64 x9)]) ∧ k (Value.bool (x8 == (0 : Int))) h7) kp)))
def Cl23 (D : Orc) : Prop := ∀ a0 h k kp, F23 D a0 h k kp → D 23 [a0] h k kp
theorem tieF23 (D : Orc) (a0 : Value) (h : H) (k : Kv) (kp : Kp) : F23 D a0 h k kp = bodyW Tryz.prog D (L23 D) lv23 Tryz.f23 [a0] h k kp := by kernel_rfl
theorem lfp23 : Lfps Tryz.prog (CS Tryz.prog) (L23 (CS Tryz.prog)) lv23 (allLoops (bodyOf Tryz.f23)) := by
  have e : (allLoops (bodyOf Tryz.f23)) = [] := by kernel_rfl
  rw [e]
  exact trivial
theorem cl23 : Cl23 (CS Tryz.prog) := fun a0 h k kp hk =>
  fn_sound wide (fn := Tryz.f23) (by kernel_rfl) (by kernel_rfl) (by kernel_rfl) lfp23 (by rw [tieF23] at hk; exact hk)
def lv28 : Lv := Lv.mk 60 [.raw, .int IntKind.i64] (fun i => cond (Nat.beq i 3) ([(0, .raw), (1, .int IntKind.i64), (6, .raw), (7, .int IntKind.i64)]) ([])) (fun i => cond (Nat.beq i 3) ([(0, [(6, .raw)])]) ([])) [(4, .raw), (5, .int IntKind.i64)] (fun i => cond (Nat.beq i 4) (some [(0, .raw), (1, .int IntKind.i64), (6, .raw), (7, .int IntKind.i64)]) (cond (Nat.beq i 9) (some [(0, .raw), (1, .int IntKind.i64), (6, .raw), (7, .int IntKind.i64), (8, .int IntKind.i64), (44, .bool)]) (cond (Nat.beq i 12) (some [(0, .raw), (1, .int IntKind.i64), (6, .raw), (7, .int IntKind.i64), (8, .int IntKind.i64), (53, .bool)]) (none))))
def j28_3_4 (D : Orc) (I : List Value → H → Prop) (K : Kl) (a0 a1 a2 a3 : Value) (h19 : H) : Prop :=
intK IntKind.i64 a1 (fun x20 => intK IntKind.i64 a3 (fun x21 => I [a0, (Value.int IntKind.i64 x20), a2, (Value.int IntKind.i64 (IntKind.wrap IntKind.i64 (x21 + (1 : Int))))] h19))
def j28_3_12 (D : Orc) (I : List Value → H → Prop) (K : Kl) (a0 a1 a2 a3 a4 a5 : Value) (h27 : H) : Prop :=
intK IntKind.i64 a1 (fun x28 => intK IntKind.i64 a3 (fun x29 => intK IntKind.i64 a4 (fun x30 => boolW a5 (fun t31 => cond t31 (
K X.r [(Value.slice none 0 0), (Value.int IntKind.i64 (40 : Int))] h27) (
one (Value.int IntKind.i64 (IntKind.wrap IntKind.i64 ((-1 : Int) - x30))) = true ∧ 0 < 1 ∧ newSl h27 1 [(Value.int IntKind.i64 (IntKind.wrap IntKind.i64 ((-1 : Int) - x30)))] (fun s32 h33 => slenW s32 (fun n34 => srcW h33 1 s32 (n34) (fun w35 => apW h33 1 8 [(Value.int IntKind.i64 (0 : Int))] a2 (n34) w35 (fun s36 h37 => j28_3_4 D I K a0 (Value.int IntKind.i64 x28) s36 (Value.int IntKind.i64 x29) h37)))))))))
def j28_3_9 (D : Orc) (I : List Value → H → Prop) (K : Kl) (a0 a1 a2 a3 a4 a5 : Value) (h22 : H) : Prop :=
intK IntKind.i64 a1 (fun x23 => intK IntKind.i64 a3 (fun x24 => intK IntKind.i64 a4 (fun x25 => boolW a5 (fun t26 => cond t26 (
K X.r [(Value.slice none 0 0), (Value.int IntKind.i64 (40 : Int))] h22) (
cond (!(decide ((IntKind.wrap IntKind.i64 (x25 + x23)) < (0 : Int)))) (
j28_3_12 D I K a0 (Value.int IntKind.i64 x23) a2 (Value.int IntKind.i64 x24) (Value.int IntKind.i64 (IntKind.wrap IntKind.i64 (x25 + x23))) (Value.bool (decide ((IntKind.wrap IntKind.i64 (x25 + x23)) ≥ (1048576 : Int)))) h22) (
j28_3_12 D I K a0 (Value.int IntKind.i64 x23) a2 (Value.int IntKind.i64 x24) (Value.int IntKind.i64 (IntKind.wrap IntKind.i64 (x25 + x23))) (Value.bool true) h22))))))
def round28_3 (D : Orc) (I : List Value → H → Prop) (K : Kl) (a0 a1 a2 a3 : Value) (h3 : H) : Prop :=
intK IntKind.i64 a1 (fun x4 => intK IntKind.i64 a3 (fun x5 => lenW a0 (fun n6 => cond (decide (x5 < (n6 : Int))) (
slAtW a0 x5 1 (fun ad7 => ∃ x8 : Int, rd h3 ad7 = some (Value.int IntKind.i64 x8) ∧ slAtW a0 x5 1 (fun ad9 => ∃ x10 : Int, rd h3 ad9 = some (Value.int IntKind.i64 x10) ∧ cond (decide (x10 ≥ (0 : Int))) (
slAtW a0 x5 1 (fun ad11 => ∃ x12 : Int, rd h3 ad11 = some (Value.int IntKind.i64 x12) ∧ one (Value.int IntKind.i64 x12) = true ∧ 0 < 1 ∧ newSl h3 1 [(Value.int IntKind.i64 x12)] (fun s13 h14 => slenW s13 (fun n15 => srcW h14 1 s13 (n15) (fun w16 => apW h14 1 8 [(Value.int IntKind.i64 (0 : Int))] a2 (n15) w16 (fun s17 h18 => j28_3_4 D I K a0 (Value.int IntKind.i64 x4) s17 (Value.int IntKind.i64 x5) h18)))))) (
cond (!(decide (x4 ≥ (1048576 : Int)))) (
cond (decide (x4 ≥ (0 : Int))) (
j28_3_9 D I K a0 (Value.int IntKind.i64 x4) a2 (Value.int IntKind.i64 x5) (Value.int IntKind.i64 (IntKind.wrap IntKind.i64 ((-1 : Int) - x8))) (Value.bool (decide ((IntKind.wrap IntKind.i64 ((-1 : Int) - x8)) ≥ (IntKind.wrap IntKind.i64 ((1048576 : Int) - x4))))) h3) (
j28_3_9 D I K a0 (Value.int IntKind.i64 x4) a2 (Value.int IntKind.i64 x5) (Value.int IntKind.i64 (IntKind.wrap IntKind.i64 ((-1 : Int) - x8))) (Value.bool false) h3)) (
j28_3_9 D I K a0 (Value.int IntKind.i64 x4) a2 (Value.int IntKind.i64 x5) (Value.int IntKind.i64 (IntKind.wrap IntKind.i64 ((-1 : Int) - x8))) (Value.bool true) h3))))) (
K (X.e 0) [a2] h3))))
def loop28_3 (D : Orc) (vs : List Value) (h : H) (K : Kl) : Prop := ∀ I : List Value → H → Prop, (∀ a0 a1 a2 a3 h, round28_3 D I K a0 a1 a2 a3 h → I [a0, a1, a2, a3] h) → I vs h
def L28 (D : Orc) : Lor := fun b vs h K => match firstId b with | some i => cond (Nat.beq i 3) (loop28_3 D vs h K) (False) | none => False
/-- lodestone/lodestoneref04.Shift -/
def F28 (D : Orc) (a0 a1 : Value) (h : H) (k : Kv) (kp : Kp) : Prop :=
intK IntKind.i64 a1 (fun x0 => newSl h 0 [] (fun s1 h2 => loop28_3 D [a0, (Value.int IntKind.i64 x0), s1, (Value.int IntKind.i64 (0 : Int))] h2 (fun x39 vs40 h38 => xs x39 (intK IntKind.i64 (nth vs40 1) (fun x42 => k (Value.tuple #[(nth vs40 0), (Value.int IntKind.i64 x42)]) h38)) (fun i41 => cond (Nat.beq i41 0) (
k (Value.tuple #[(nth vs40 0), (Value.int IntKind.i64 (0 : Int))]) h38) (False)) (fun c => kp c h38))))
def Cl28 (D : Orc) : Prop := ∀ a0 a1 h k kp, F28 D a0 a1 h k kp → D 28 [a0, a1] h k kp
theorem tieR28_3 (D : Orc) (I : List Value → H → Prop) (K : Kl) (a0 a1 a2 a3 : Value) (h : H) : round28_3 D I K a0 a1 a2 a3 h = round Tryz.prog D (L28 D) lv28 (nthC (allLoops (bodyOf Tryz.f28)) 0) I K [a0, a1, a2, a3] h := by kernel_rfl
theorem tieF28 (D : Orc) (a0 a1 : Value) (h : H) (k : Kv) (kp : Kp) : F28 D a0 a1 h k kp = bodyW Tryz.prog D (L28 D) lv28 Tryz.f28 [a0, a1] h k kp := by kernel_rfl
theorem lfp28 : Lfps Tryz.prog (CS Tryz.prog) (L28 (CS Tryz.prog)) lv28 (allLoops (bodyOf Tryz.f28)) := by
  have e : (allLoops (bodyOf Tryz.f28)) = [nthC (allLoops (bodyOf Tryz.f28)) 0] := by kernel_rfl
  rw [e]
  exact ⟨(fun vs h K hk I H => hk I (fun a0 a1 a2 a3 h hr => H _ _ ((tieR28_3 (CS Tryz.prog) I K a0 a1 a2 a3 h) ▸ hr))), trivial⟩
theorem cl28 : Cl28 (CS Tryz.prog) := fun a0 a1 h k kp hk =>
  fn_sound wide (fn := Tryz.f28) (by kernel_rfl) (by kernel_rfl) (by kernel_rfl) lfp28 (by rw [tieF28] at hk; exact hk)
def lv72 : Lv := Lv.mk 14 [.raw] (fun i => []) (fun i => []) [(2, .int IntKind.i64)] (fun i => none)
def L72 (D : Orc) : Lor := fun b vs h K => match firstId b with | some i => False | none => False
/-- lodestone/system.plain -/
def F72 (D : Orc) (a0 : Value) (h : H) (k : Kv) (kp : Kp) : Prop :=
D 43 [a0] h (fun v0 h1 => ∃ x2 : Int, v0 = (Value.int IntKind.i64 x2) ∧ cond (x2 != (0 : Int)) (
k (Value.int IntKind.i64 x2) h1) (
lenW a0 (fun n3 => cond (decide ((n3 : Int) > (64 : Int))) (
k (Value.int IntKind.i64 (37 : Int)) h1) (
D 69 [a0, (Value.func (Fn.func 94) #[] #[])] h1 (fun v4 h5 => ∃ t6 : Bool, v4 = (Value.bool t6) ∧ cond t6 (
k (Value.int IntKind.i64 (34 : Int)) h5) (
k (Value.int IntKind.i64 (0 : Int)) h5)) kp)))) kp
def Cl72 (D : Orc) : Prop := ∀ a0 h k kp, F72 D a0 h k kp → D 72 [a0] h k kp
theorem tieF72 (D : Orc) (a0 : Value) (h : H) (k : Kv) (kp : Kp) : F72 D a0 h k kp = bodyW Tryz.prog D (L72 D) lv72 Tryz.f72 [a0] h k kp := by kernel_rfl
theorem lfp72 : Lfps Tryz.prog (CS Tryz.prog) (L72 (CS Tryz.prog)) lv72 (allLoops (bodyOf Tryz.f72)) := by
  have e : (allLoops (bodyOf Tryz.f72)) = [] := by kernel_rfl
  rw [e]
  exact trivial
theorem cl72 : Cl72 (CS Tryz.prog) := fun a0 h k kp hk =>
  fn_sound wide (fn := Tryz.f72) (by kernel_rfl) (by kernel_rfl) (by kernel_rfl) lfp72 (by rw [tieF72] at hk; exact hk)
def lv73 : Lv := Lv.mk 55 [.raw, .raw] (fun i => cond (Nat.beq i 13) ([(7, .raw), (44, .raw), (45, .int IntKind.i64), (46, .int IntKind.i64)]) ([])) (fun i => cond (Nat.beq i 13) ([(1, [])]) ([])) [(4, .int IntKind.i64)] (fun i => none)
def round73_13 (D : Orc) (I : List Value → H → Prop) (K : Kl) (a0 a1 a2 a3 : Value) (h36 : H) : Prop :=
intK IntKind.i64 a2 (fun x37 => intK IntKind.i64 a3 (fun x38 => cond (decide (x38 < x37)) (
slAtW a1 x38 1 (fun ad39 => ∃ x40 : Int, rd h36 ad39 = some (Value.int IntKind.i64 x40) ∧ D 50 [a0, (Value.int IntKind.i64 x40)] h36 (fun v41 h42 => ∃ t43 : Bool, v41 = (Value.bool t43) ∧ cond (!t43) (
K X.r [(Value.int IntKind.i64 (72 : Int))] h42) (
I [a0, a1, (Value.int IntKind.i64 x37), (Value.int IntKind.i64 (IntKind.wrap IntKind.i64 (x38 + (1 : Int))))] h42)) (fun c h => K (X.p c) [] h))) (
K (X.e 1) [] h36)))
def loop73_13 (D : Orc) (vs : List Value) (h : H) (K : Kl) : Prop := ∀ I : List Value → H → Prop, (∀ a0 a1 a2 a3 h, round73_13 D I K a0 a1 a2 a3 h → I [a0, a1, a2, a3] h) → I vs h
def L73 (D : Orc) : Lor := fun b vs h K => match firstId b with | some i => cond (Nat.beq i 13) (loop73_13 D vs h K) (False) | none => False
/-- lodestone/system.rule -/
def F73 (D : Orc) (a0 a1 : Value) (h : H) (k : Kv) (kp : Kp) : Prop :=
aggW a1 (fun l0 => newW h l0 (fun p1 h2 => ptrW p1 (fun ad3 => ∃ v4 : Value, rd h2 (Addr.add ad3 0) = some v4 ∧ D 95 [a0, v4] h2 (fun v5 h6 => ∃ x7 : Int, v5 = (Value.int IntKind.i64 x7) ∧ cond (x7 != (0 : Int)) (
k (Value.int IntKind.i64 x7) h6) (
ptrW p1 (fun ad8 => ∃ v9 : Value, rd h6 (Addr.add ad8 1) = some v9 ∧ D 95 [a0, v9] h6 (fun v10 h11 => ∃ x12 : Int, v10 = (Value.int IntKind.i64 x12) ∧ cond (x12 != (0 : Int)) (
k (Value.int IntKind.i64 x12) h11) (
ptrW p1 (fun ad13 => ∃ v14 : Value, rd h11 (Addr.add ad13 0) = some v14 ∧ lenW v14 (fun n15 => ptrW p1 (fun ad16 => ∃ v17 : Value, rd h11 (Addr.add ad16 1) = some v17 ∧ lenW v17 (fun n18 => minMax true [(Value.int IntKind.i64 (n15 : Int)), (Value.int IntKind.i64 (n18 : Int))] (fun v19 => intK IntKind.i64 v19 (fun x20 => cond (decide (x20 > (512 : Int))) (
k (Value.int IntKind.i64 (2 : Int)) h11) (
ptrW p1 (fun ad21 => ∃ v22 : Value, rd h11 (Addr.add ad21 0) = some v22 ∧ slAtW v22 (0 : Int) 1 (fun ad23 => ∃ x24 : Int, rd h11 ad23 = some (Value.int IntKind.i64 x24) ∧ cond (decide (x24 < (0 : Int))) (
k (Value.int IntKind.i64 (71 : Int)) h11) (
ptrW p1 (fun ad25 => ∃ v26 : Value, rd h11 (Addr.add ad25 0) = some v26 ∧ D 96 [v26] h11 (fun v27 h28 => ∃ v29 : Value, v27 = v29 ∧ ptrW p1 (fun ad30 => ∃ v31 : Value, rd h28 (Addr.add ad30 1) = some v31 ∧ D 96 [v31] h28 (fun v32 h33 => ∃ v34 : Value, v32 = v34 ∧ lenW v34 (fun n35 => loop73_13 D [v29, v34, (Value.int IntKind.i64 (n35 : Int)), (Value.int IntKind.i64 (0 : Int))] h33 (fun x45 vs46 h44 => xs x45 (intK IntKind.i64 (nth vs46 0) (fun x48 => k (Value.int IntKind.i64 x48) h44)) (fun i47 => cond (Nat.beq i47 1) (
k (Value.int IntKind.i64 (0 : Int)) h44) (False)) (fun c => kp c h44)))) kp)) kp))))))))))))) kp))) kp)))
def Cl73 (D : Orc) : Prop := ∀ a0 a1 h k kp, F73 D a0 a1 h k kp → D 73 [a0, a1] h k kp
theorem tieR73_13 (D : Orc) (I : List Value → H → Prop) (K : Kl) (a0 a1 a2 a3 : Value) (h : H) : round73_13 D I K a0 a1 a2 a3 h = round Tryz.prog D (L73 D) lv73 (nthC (allLoops (bodyOf Tryz.f73)) 0) I K [a0, a1, a2, a3] h := by kernel_rfl
theorem tieF73 (D : Orc) (a0 a1 : Value) (h : H) (k : Kv) (kp : Kp) : F73 D a0 a1 h k kp = bodyW Tryz.prog D (L73 D) lv73 Tryz.f73 [a0, a1] h k kp := by kernel_rfl
theorem lfp73 : Lfps Tryz.prog (CS Tryz.prog) (L73 (CS Tryz.prog)) lv73 (allLoops (bodyOf Tryz.f73)) := by
  have e : (allLoops (bodyOf Tryz.f73)) = [nthC (allLoops (bodyOf Tryz.f73)) 0] := by kernel_rfl
  rw [e]
  exact ⟨(fun vs h K hk I H => hk I (fun a0 a1 a2 a3 h hr => H _ _ ((tieR73_13 (CS Tryz.prog) I K a0 a1 a2 a3 h) ▸ hr))), trivial⟩
theorem cl73 : Cl73 (CS Tryz.prog) := fun a0 a1 h k kp hk =>
  fn_sound wide (fn := Tryz.f73) (by kernel_rfl) (by kernel_rfl) (by kernel_rfl) lfp73 (by rw [tieF73] at hk; exact hk)
def lv34 : Lv := Lv.mk 25 [.raw] (fun i => cond (Nat.beq i 7) ([(0, .raw), (4, .int IntKind.i64)]) ([])) (fun i => cond (Nat.beq i 7) ([(0, [])]) ([])) [(2, .int IntKind.i64)] (fun i => none)
def round34_7 (D : Orc) (I : List Value → H → Prop) (K : Kl) (a0 a1 : Value) (h4 : H) : Prop :=
intK IntKind.i64 a1 (fun x5 => lenW a0 (fun n6 => cond (decide (x5 < (n6 : Int))) (
slAtW a0 x5 2 (fun ad7 => ∃ s8 : ByteArray, rd h4 (Addr.add ad7 0) = some (Value.string s8) ∧ D 61 [(Value.string s8)] h4 (fun v9 h10 => ∃ t11 : Bool, v9 = (Value.bool t11) ∧ cond t11 (
K X.r [(Value.int IntKind.i64 (34 : Int))] h10) (
I [a0, (Value.int IntKind.i64 (IntKind.wrap IntKind.i64 (x5 + (1 : Int))))] h10)) (fun c h => K (X.p c) [] h))) (
K (X.e 0) [] h4)))
def loop34_7 (D : Orc) (vs : List Value) (h : H) (K : Kl) : Prop := ∀ I : List Value → H → Prop, (∀ a0 a1 h, round34_7 D I K a0 a1 h → I [a0, a1] h) → I vs h
def L34 (D : Orc) : Lor := fun b vs h K => match firstId b with | some i => cond (Nat.beq i 7) (loop34_7 D vs h K) (False) | none => False
/-- lodestone/lodestoneref07.Plain -/
def F34 (D : Orc) (a0 : Value) (h : H) (k : Kv) (kp : Kp) : Prop :=
D 60 [a0] h (fun v0 h1 => ∃ x2 : Int, v0 = (Value.int IntKind.i64 x2) ∧ cond (x2 != (0 : Int)) (
k (Value.int IntKind.i64 x2) h1) (
lenW a0 (fun n3 => cond (decide ((n3 : Int) > (64 : Int))) (
k (Value.int IntKind.i64 (37 : Int)) h1) (
loop34_7 D [a0, (Value.int IntKind.i64 (0 : Int))] h1 (fun x13 vs14 h12 => xs x13 (intK IntKind.i64 (nth vs14 0) (fun x16 => k (Value.int IntKind.i64 x16) h12)) (fun i15 => cond (Nat.beq i15 0) (
k (Value.int IntKind.i64 (0 : Int)) h12) (False)) (fun c => kp c h12)))))) kp
def Cl34 (D : Orc) : Prop := ∀ a0 h k kp, F34 D a0 h k kp → D 34 [a0] h k kp
theorem tieR34_7 (D : Orc) (I : List Value → H → Prop) (K : Kl) (a0 a1 : Value) (h : H) : round34_7 D I K a0 a1 h = round Tryz.prog D (L34 D) lv34 (nthC (allLoops (bodyOf Tryz.f34)) 0) I K [a0, a1] h := by kernel_rfl
theorem tieF34 (D : Orc) (a0 : Value) (h : H) (k : Kv) (kp : Kp) : F34 D a0 h k kp = bodyW Tryz.prog D (L34 D) lv34 Tryz.f34 [a0] h k kp := by kernel_rfl
theorem lfp34 : Lfps Tryz.prog (CS Tryz.prog) (L34 (CS Tryz.prog)) lv34 (allLoops (bodyOf Tryz.f34)) := by
  have e : (allLoops (bodyOf Tryz.f34)) = [nthC (allLoops (bodyOf Tryz.f34)) 0] := by kernel_rfl
  rw [e]
  exact ⟨(fun vs h K hk I H => hk I (fun a0 a1 h hr => H _ _ ((tieR34_7 (CS Tryz.prog) I K a0 a1 h) ▸ hr))), trivial⟩
theorem cl34 : Cl34 (CS Tryz.prog) := fun a0 h k kp hk =>
  fn_sound wide (fn := Tryz.f34) (by kernel_rfl) (by kernel_rfl) (by kernel_rfl) lfp34 (by rw [tieF34] at hk; exact hk)
def lv59 : Lv := Lv.mk 57 [.raw, .raw] (fun i => cond (Nat.beq i 14) ([(6, .raw), (7, .raw), (8, .int IntKind.i64)]) ([])) (fun i => cond (Nat.beq i 14) ([(0, [])]) ([])) [(4, .int IntKind.i64)] (fun i => cond (Nat.beq i 8) (some [(3, .raw), (32, .bool)]) (none))
def round59_14 (D : Orc) (I : List Value → H → Prop) (K : Kl) (a0 a1 a2 : Value) (h35 : H) : Prop :=
intK IntKind.i64 a2 (fun x36 => lenW a1 (fun n37 => cond (decide (x36 < (n37 : Int))) (
slAtW a1 x36 1 (fun ad38 => ∃ x39 : Int, rd h35 ad38 = some (Value.int IntKind.i64 x39) ∧ D 88 [a0, (Value.int IntKind.i64 x39)] h35 (fun v40 h41 => ∃ t42 : Bool, v40 = (Value.bool t42) ∧ cond (!t42) (
K X.r [(Value.int IntKind.i64 (72 : Int))] h41) (
I [a0, a1, (Value.int IntKind.i64 (IntKind.wrap IntKind.i64 (x36 + (1 : Int))))] h41)) (fun c h => K (X.p c) [] h))) (
K (X.e 0) [] h35)))
def loop59_14 (D : Orc) (vs : List Value) (h : H) (K : Kl) : Prop := ∀ I : List Value → H → Prop, (∀ a0 a1 a2 h, round59_14 D I K a0 a1 a2 h → I [a0, a1, a2] h) → I vs h
def j59__8 (D : Orc) (k : Kv) (kp : Kp) (a0 a1 : Value) (h19 : H) : Prop :=
boolW a1 (fun t20 => cond t20 (
k (Value.int IntKind.i64 (2 : Int)) h19) (
ptrW a0 (fun ad21 => ∃ v22 : Value, rd h19 (Addr.add ad21 0) = some v22 ∧ slAtW v22 (0 : Int) 1 (fun ad23 => ∃ x24 : Int, rd h19 ad23 = some (Value.int IntKind.i64 x24) ∧ cond (decide (x24 < (0 : Int))) (
k (Value.int IntKind.i64 (71 : Int)) h19) (
ptrW a0 (fun ad25 => ∃ v26 : Value, rd h19 (Addr.add ad25 0) = some v26 ∧ D 87 [v26] h19 (fun v27 h28 => ∃ v29 : Value, v27 = v29 ∧ ptrW a0 (fun ad30 => ∃ v31 : Value, rd h28 (Addr.add ad30 1) = some v31 ∧ D 87 [v31] h28 (fun v32 h33 => ∃ v34 : Value, v32 = v34 ∧ loop59_14 D [v29, v34, (Value.int IntKind.i64 (0 : Int))] h33 (fun x44 vs45 h43 => xs x44 (intK IntKind.i64 (nth vs45 0) (fun x47 => k (Value.int IntKind.i64 x47) h43)) (fun i46 => cond (Nat.beq i46 0) (
k (Value.int IntKind.i64 (0 : Int)) h43) (False)) (fun c => kp c h43))) kp)) kp))))))
def L59 (D : Orc) : Lor := fun b vs h K => match firstId b with | some i => cond (Nat.beq i 14) (loop59_14 D vs h K) (False) | none => False
/-- lodestone/lodestoneref07.rule -/
def F59 (D : Orc) (a0 a1 : Value) (h : H) (k : Kv) (kp : Kp) : Prop :=
aggW a1 (fun l0 => newW h l0 (fun p1 h2 => ptrW p1 (fun ad3 => ∃ v4 : Value, rd h2 (Addr.add ad3 0) = some v4 ∧ D 62 [a0, v4] h2 (fun v5 h6 => ∃ x7 : Int, v5 = (Value.int IntKind.i64 x7) ∧ cond (x7 != (0 : Int)) (
k (Value.int IntKind.i64 x7) h6) (
ptrW p1 (fun ad8 => ∃ v9 : Value, rd h6 (Addr.add ad8 1) = some v9 ∧ D 62 [a0, v9] h6 (fun v10 h11 => ∃ x12 : Int, v10 = (Value.int IntKind.i64 x12) ∧ cond (x12 != (0 : Int)) (
k (Value.int IntKind.i64 x12) h11) (
ptrW p1 (fun ad13 => ∃ v14 : Value, rd h11 (Addr.add ad13 0) = some v14 ∧ lenW v14 (fun n15 => cond (!(decide ((n15 : Int) > (512 : Int)))) (
ptrW p1 (fun ad16 => ∃ v17 : Value, rd h11 (Addr.add ad16 1) = some v17 ∧ lenW v17 (fun n18 => j59__8 D k kp p1 (Value.bool (decide ((n18 : Int) > (512 : Int)))) h11))) (
j59__8 D k kp p1 (Value.bool true) h11))))) kp))) kp)))
def Cl59 (D : Orc) : Prop := ∀ a0 a1 h k kp, F59 D a0 a1 h k kp → D 59 [a0, a1] h k kp
theorem tieR59_14 (D : Orc) (I : List Value → H → Prop) (K : Kl) (a0 a1 a2 : Value) (h : H) : round59_14 D I K a0 a1 a2 h = round Tryz.prog D (L59 D) lv59 (nthC (allLoops (bodyOf Tryz.f59)) 0) I K [a0, a1, a2] h := by kernel_rfl
theorem tieF59 (D : Orc) (a0 a1 : Value) (h : H) (k : Kv) (kp : Kp) : F59 D a0 a1 h k kp = bodyW Tryz.prog D (L59 D) lv59 Tryz.f59 [a0, a1] h k kp := by kernel_rfl
theorem lfp59 : Lfps Tryz.prog (CS Tryz.prog) (L59 (CS Tryz.prog)) lv59 (allLoops (bodyOf Tryz.f59)) := by
  have e : (allLoops (bodyOf Tryz.f59)) = [nthC (allLoops (bodyOf Tryz.f59)) 0] := by kernel_rfl
  rw [e]
  exact ⟨(fun vs h K hk I H => hk I (fun a0 a1 a2 h hr => H _ _ ((tieR59_14 (CS Tryz.prog) I K a0 a1 a2 h) ▸ hr))), trivial⟩
theorem cl59 : Cl59 (CS Tryz.prog) := fun a0 a1 h k kp hk =>
  fn_sound wide (fn := Tryz.f59) (by kernel_rfl) (by kernel_rfl) (by kernel_rfl) lfp59 (by rw [tieF59] at hk; exact hk)
def lv74 : Lv := Lv.mk 12 [.raw] (fun i => []) (fun i => []) [(2, .bool)] (fun i => none)
def L74 (D : Orc) : Lor := fun b vs h K => match firstId b with | some i => False | none => False
/-- lodestone/system.right -/
def F74 (D : Orc) (a0 : Value) (h : H) (k : Kv) (kp : Kp) : Prop :=
aggW a0 (fun l0 => newW h l0 (fun p1 h2 => ptrW p1 (fun ad3 => ∃ v4 : Value, ∃ v5 : Value, rdN h2 ad3 2 = some [v4, v5] ∧ D 46 [(Value.agg #[v4, v5])] h2 (fun v6 h7 => ∃ x8 : Int, ∃ x9 : Int, v6 = (Value.tuple #[(Value.int IntKind.i64 x8), (Value.int IntKind.i64 x9)]) ∧ k (Value.bool (x8 == (0 : Int))) h7) kp)))
def Cl74 (D : Orc) : Prop := ∀ a0 h k kp, F74 D a0 h k kp → D 74 [a0] h k kp
theorem tieF74 (D : Orc) (a0 : Value) (h : H) (k : Kv) (kp : Kp) : F74 D a0 h k kp = bodyW Tryz.prog D (L74 D) lv74 Tryz.f74 [a0] h k kp := by kernel_rfl
theorem lfp74 : Lfps Tryz.prog (CS Tryz.prog) (L74 (CS Tryz.prog)) lv74 (allLoops (bodyOf Tryz.f74)) := by
  have e : (allLoops (bodyOf Tryz.f74)) = [] := by kernel_rfl
  rw [e]
  exact trivial
theorem cl74 : Cl74 (CS Tryz.prog) := fun a0 h k kp hk =>
  fn_sound wide (fn := Tryz.f74) (by kernel_rfl) (by kernel_rfl) (by kernel_rfl) lfp74 (by rw [tieF74] at hk; exact hk)
def lv43 : Lv := Lv.mk 61 [.raw] (fun i => cond (Nat.beq i 4) ([(0, .raw), (9, .raw), (10, .int IntKind.i64), (11, .int IntKind.i64)]) ([])) (fun i => cond (Nat.beq i 4) ([(0, [])]) ([])) [(2, .int IntKind.i64)] (fun i => cond (Nat.beq i 8) (some [(0, .raw), (3, .int IntKind.i64), (4, .raw), (9, .raw), (10, .int IntKind.i64), (11, .int IntKind.i64), (19, .bool)]) (cond (Nat.beq i 10) (some [(0, .raw), (3, .int IntKind.i64), (4, .raw), (9, .raw), (10, .int IntKind.i64), (11, .int IntKind.i64), (45, .bool)]) (none)))
def j43_4_10 (D : Orc) (I : List Value → H → Prop) (K : Kl) (a0 a1 a2 a3 a4 a5 a6 : Value) (h37 : H) : Prop :=
intK IntKind.i64 a1 (fun x38 => intK IntKind.i64 a4 (fun x39 => intK IntKind.i64 a5 (fun x40 => boolW a6 (fun t41 => cond t41 (
K X.r [(Value.int IntKind.i64 (35 : Int))] h37) (
slCutW a0 none (some x38) none 2 (fun s42 => D 69 [s42, (Value.func (Fn.func 70) #[] #[a2])] h37 (fun v43 h44 => ∃ t45 : Bool, v43 = (Value.bool t45) ∧ cond t45 (
K X.r [(Value.int IntKind.i64 (36 : Int))] h44) (
I [a0, a3, (Value.int IntKind.i64 x39), (Value.int IntKind.i64 (IntKind.wrap IntKind.i64 (x40 + (1 : Int))))] h44)) (fun c h => K (X.p c) [] h)))))))
def j43_4_8 (D : Orc) (I : List Value → H → Prop) (K : Kl) (a0 a1 a2 a3 a4 a5 a6 : Value) (h28 : H) : Prop :=
intK IntKind.i64 a1 (fun x29 => intK IntKind.i64 a4 (fun x30 => intK IntKind.i64 a5 (fun x31 => boolW a6 (fun t32 => cond t32 (
K X.r [(Value.int IntKind.i64 (34 : Int))] h28) (
ptrW a2 (fun ad33 => ∃ x34 : Int, rd h28 (Addr.add ad33 1) = some (Value.int IntKind.i64 x34) ∧ cond (!(decide (x34 < (0 : Int)))) (
ptrW a2 (fun ad35 => ∃ x36 : Int, rd h28 (Addr.add ad35 1) = some (Value.int IntKind.i64 x36) ∧ j43_4_10 D I K a0 (Value.int IntKind.i64 x29) a2 a3 (Value.int IntKind.i64 x30) (Value.int IntKind.i64 x31) (Value.bool (decide (x36 > (8 : Int)))) h28)) (
j43_4_10 D I K a0 (Value.int IntKind.i64 x29) a2 a3 (Value.int IntKind.i64 x30) (Value.int IntKind.i64 x31) (Value.bool true) h28)))))))
def round43_4 (D : Orc) (I : List Value → H → Prop) (K : Kl) (a0 a1 a2 a3 : Value) (h2 : H) : Prop :=
intK IntKind.i64 a2 (fun x3 => intK IntKind.i64 a3 (fun x4 => cond (decide (x4 < x3)) (
slAtW a1 x4 2 (fun ad5 => ∃ s6 : ByteArray, ∃ x7 : Int, rdN h2 ad5 2 = some [(Value.string s6), (Value.int IntKind.i64 x7)] ∧ newW h2 [(Value.string (ByteArray.mk #[])), (Value.int IntKind.i64 (0 : Int))] (fun p8 h9 => ptrW p8 (fun ad10 => 2 = 2 ∧ List.all [(Value.string s6), (Value.int IntKind.i64 x7)] one = true ∧ ∃ h11, wr h9 ad10 [(Value.string s6), (Value.int IntKind.i64 x7)] = some h11 ∧ ptrW p8 (fun ad12 => ∃ s13 : ByteArray, rd h11 (Addr.add ad12 0) = some (Value.string s13) ∧ ptrW p8 (fun ad14 => ∃ s15 : ByteArray, rd h11 (Addr.add ad14 0) = some (Value.string s15) ∧ D 68 [(Value.string s15)] h11 (fun v16 h17 => ∃ t18 : Bool, v16 = (Value.bool t18) ∧ cond (!t18) (
cond (!((s13.size : Int) == (0 : Int))) (
ptrW p8 (fun ad19 => ∃ s20 : ByteArray, rd h17 (Addr.add ad19 0) = some (Value.string s20) ∧ strAtW s20 (IntKind.wrap IntKind.i64 ((s13.size : Int) - (1 : Int))) (fun x21 => cond (!(x21 != (35 : Int))) (
ptrW p8 (fun ad22 => ∃ s23 : ByteArray, rd h17 (Addr.add ad22 0) = some (Value.string s23) ∧ strCutW s23 none (some (IntKind.wrap IntKind.i64 ((s13.size : Int) - (1 : Int)))) (fun s24 => D 68 [(Value.string s24)] h17 (fun v25 h26 => ∃ t27 : Bool, v25 = (Value.bool t27) ∧ j43_4_8 D I K a0 (Value.int IntKind.i64 x4) p8 a1 (Value.int IntKind.i64 x3) (Value.int IntKind.i64 x4) (Value.bool (!t27)) h26) (fun c h => K (X.p c) [] h)))) (
j43_4_8 D I K a0 (Value.int IntKind.i64 x4) p8 a1 (Value.int IntKind.i64 x3) (Value.int IntKind.i64 x4) (Value.bool true) h17)))) (
j43_4_8 D I K a0 (Value.int IntKind.i64 x4) p8 a1 (Value.int IntKind.i64 x3) (Value.int IntKind.i64 x4) (Value.bool true) h17)) (
j43_4_8 D I K a0 (Value.int IntKind.i64 x4) p8 a1 (Value.int IntKind.i64 x3) (Value.int IntKind.i64 x4) (Value.bool false) h17)) (fun c h => K (X.p c) [] h))))))) (
K (X.e 0) [] h2)))
def loop43_4 (D : Orc) (vs : List Value) (h : H) (K : Kl) : Prop := ∀ I : List Value → H → Prop, (∀ a0 a1 a2 a3 h, round43_4 D I K a0 a1 a2 a3 h → I [a0, a1, a2, a3] h) → I vs h
def L43 (D : Orc) : Lor := fun b vs h K => match firstId b with | some i => cond (Nat.beq i 4) (loop43_4 D vs h K) (False) | none => False
/-- lodestone/term.CheckSig -/
def F43 (D : Orc) (a0 : Value) (h : H) (k : Kv) (kp : Kp) : Prop :=
lenW a0 (fun n0 => cond (decide ((n0 : Int) > (128 : Int))) (
k (Value.int IntKind.i64 (37 : Int)) h) (
lenW a0 (fun n1 => loop43_4 D [a0, a0, (Value.int IntKind.i64 (n1 : Int)), (Value.int IntKind.i64 (0 : Int))] h (fun x47 vs48 h46 => xs x47 (intK IntKind.i64 (nth vs48 0) (fun x50 => k (Value.int IntKind.i64 x50) h46)) (fun i49 => cond (Nat.beq i49 0) (
k (Value.int IntKind.i64 (0 : Int)) h46) (False)) (fun c => kp c h46)))))
def Cl43 (D : Orc) : Prop := ∀ a0 h k kp, F43 D a0 h k kp → D 43 [a0] h k kp
theorem tieR43_4 (D : Orc) (I : List Value → H → Prop) (K : Kl) (a0 a1 a2 a3 : Value) (h : H) : round43_4 D I K a0 a1 a2 a3 h = round Tryz.prog D (L43 D) lv43 (nthC (allLoops (bodyOf Tryz.f43)) 0) I K [a0, a1, a2, a3] h := by kernel_rfl
theorem tieF43 (D : Orc) (a0 : Value) (h : H) (k : Kv) (kp : Kp) : F43 D a0 h k kp = bodyW Tryz.prog D (L43 D) lv43 Tryz.f43 [a0] h k kp := by kernel_rfl
theorem lfp43 : Lfps Tryz.prog (CS Tryz.prog) (L43 (CS Tryz.prog)) lv43 (allLoops (bodyOf Tryz.f43)) := by
  have e : (allLoops (bodyOf Tryz.f43)) = [nthC (allLoops (bodyOf Tryz.f43)) 0] := by kernel_rfl
  rw [e]
  exact ⟨(fun vs h K hk I H => hk I (fun a0 a1 a2 a3 h hr => H _ _ ((tieR43_4 (CS Tryz.prog) I K a0 a1 a2 a3 h) ▸ hr))), trivial⟩
theorem cl43 : Cl43 (CS Tryz.prog) := fun a0 h k kp hk =>
  fn_sound wide (fn := Tryz.f43) (by kernel_rfl) (by kernel_rfl) (by kernel_rfl) lfp43 (by rw [tieF43] at hk; exact hk)
def lv45 : Lv := Lv.mk 8 [.str, .str] (fun i => []) (fun i => []) [(4, .bool)] (fun i => none)
def L45 (D : Orc) : Lor := fun b vs h K => match firstId b with | some i => False | none => False
/-- strings.HasSuffix -/
def F45 (D : Orc) (a0 a1 : Value) (h : H) (k : Kv) (kp : Kp) : Prop :=
strW a0 (fun s0 => strW a1 (fun s1 => D 71 [(Value.string s0), (Value.string s1)] h (fun v2 h3 => ∃ t4 : Bool, v2 = (Value.bool t4) ∧ k (Value.bool t4) h3) kp))
def Cl45 (D : Orc) : Prop := ∀ a0 a1 h k kp, F45 D a0 a1 h k kp → D 45 [a0, a1] h k kp
theorem tieF45 (D : Orc) (a0 a1 : Value) (h : H) (k : Kv) (kp : Kp) : F45 D a0 a1 h k kp = bodyW Tryz.prog D (L45 D) lv45 Tryz.f45 [a0, a1] h k kp := by kernel_rfl
theorem lfp45 : Lfps Tryz.prog (CS Tryz.prog) (L45 (CS Tryz.prog)) lv45 (allLoops (bodyOf Tryz.f45)) := by
  have e : (allLoops (bodyOf Tryz.f45)) = [] := by kernel_rfl
  rw [e]
  exact trivial
theorem cl45 : Cl45 (CS Tryz.prog) := fun a0 a1 h k kp hk =>
  fn_sound wide (fn := Tryz.f45) (by kernel_rfl) (by kernel_rfl) (by kernel_rfl) lfp45 (by rw [tieF45] at hk; exact hk)
def lv49 : Lv := Lv.mk 8 [.raw] (fun i => []) (fun i => []) [(2, .raw)] (fun i => none)
def L49 (D : Orc) : Lor := fun b vs h K => match firstId b with | some i => False | none => False
/-- slices.Clone[[]int,int] -/
def F49 (D : Orc) (a0 : Value) (h : H) (k : Kv) (kp : Kp) : Prop :=
eqSl a0 (Value.slice none 0 0) (fun t0 => cond t0 (
k (Value.slice none 0 0) h) (
newSl h 0 [] (fun s1 h2 => slenW a0 (fun n3 => srcW h2 1 a0 (n3) (fun w4 => apW h2 1 8 [(Value.int IntKind.i64 (0 : Int))] s1 (n3) w4 (fun s5 h6 => k s5 h6))))))
def Cl49 (D : Orc) : Prop := ∀ a0 h k kp, F49 D a0 h k kp → D 49 [a0] h k kp
theorem tieF49 (D : Orc) (a0 : Value) (h : H) (k : Kv) (kp : Kp) : F49 D a0 h k kp = bodyW Tryz.prog D (L49 D) lv49 Tryz.f49 [a0] h k kp := by kernel_rfl
theorem lfp49 : Lfps Tryz.prog (CS Tryz.prog) (L49 (CS Tryz.prog)) lv49 (allLoops (bodyOf Tryz.f49)) := by
  have e : (allLoops (bodyOf Tryz.f49)) = [] := by kernel_rfl
  rw [e]
  exact trivial
theorem cl49 : Cl49 (CS Tryz.prog) := fun a0 h k kp hk =>
  fn_sound wide (fn := Tryz.f49) (by kernel_rfl) (by kernel_rfl) (by kernel_rfl) lfp49 (by rw [tieF49] at hk; exact hk)
def lv50 : Lv := Lv.mk 9 [.raw, .int IntKind.i64] (fun i => []) (fun i => []) [(4, .bool)] (fun i => none)
def L50 (D : Orc) : Lor := fun b vs h K => match firstId b with | some i => False | none => False
/-- slices.Contains[[]int,int] -/
def F50 (D : Orc) (a0 a1 : Value) (h : H) (k : Kv) (kp : Kp) : Prop :=
intK IntKind.i64 a1 (fun x0 => D 77 [a0, (Value.int IntKind.i64 x0)] h (fun v1 h2 => ∃ x3 : Int, v1 = (Value.int IntKind.i64 x3) ∧ k (Value.bool (decide (x3 ≥ (0 : Int)))) h2) kp)
def Cl50 (D : Orc) : Prop := ∀ a0 a1 h k kp, F50 D a0 a1 h k kp → D 50 [a0, a1] h k kp
theorem tieF50 (D : Orc) (a0 a1 : Value) (h : H) (k : Kv) (kp : Kp) : F50 D a0 a1 h k kp = bodyW Tryz.prog D (L50 D) lv50 Tryz.f50 [a0, a1] h k kp := by kernel_rfl
theorem lfp50 : Lfps Tryz.prog (CS Tryz.prog) (L50 (CS Tryz.prog)) lv50 (allLoops (bodyOf Tryz.f50)) := by
  have e : (allLoops (bodyOf Tryz.f50)) = [] := by kernel_rfl
  rw [e]
  exact trivial
theorem cl50 : Cl50 (CS Tryz.prog) := fun a0 a1 h k kp hk =>
  fn_sound wide (fn := Tryz.f50) (by kernel_rfl) (by kernel_rfl) (by kernel_rfl) lfp50 (by rw [tieF50] at hk; exact hk)
def lv69 : Lv := Lv.mk 9 [.raw, .raw] (fun i => []) (fun i => []) [(4, .bool)] (fun i => none)
def L69 (D : Orc) : Lor := fun b vs h K => match firstId b with | some i => False | none => False
/-- slices.ContainsFunc[[]lodestone/api.Symbol,lodestone/api.Symbol] -/
def F69 (D : Orc) (a0 a1 : Value) (h : H) (k : Kv) (kp : Kp) : Prop :=
D 93 [a0, a1] h (fun v0 h1 => ∃ x2 : Int, v0 = (Value.int IntKind.i64 x2) ∧ k (Value.bool (decide (x2 ≥ (0 : Int)))) h1) kp
def Cl69 (D : Orc) : Prop := ∀ a0 a1 h k kp, F69 D a0 a1 h k kp → D 69 [a0, a1] h k kp
theorem tieF69 (D : Orc) (a0 a1 : Value) (h : H) (k : Kv) (kp : Kp) : F69 D a0 a1 h k kp = bodyW Tryz.prog D (L69 D) lv69 Tryz.f69 [a0, a1] h k kp := by kernel_rfl
theorem lfp69 : Lfps Tryz.prog (CS Tryz.prog) (L69 (CS Tryz.prog)) lv69 (allLoops (bodyOf Tryz.f69)) := by
  have e : (allLoops (bodyOf Tryz.f69)) = [] := by kernel_rfl
  rw [e]
  exact trivial
theorem cl69 : Cl69 (CS Tryz.prog) := fun a0 a1 h k kp hk =>
  fn_sound wide (fn := Tryz.f69) (by kernel_rfl) (by kernel_rfl) (by kernel_rfl) lfp69 (by rw [tieF69] at hk; exact hk)
def lv94 : Lv := Lv.mk 6 [.raw] (fun i => []) (fun i => []) [(2, .bool)] (fun i => none)
def L94 (D : Orc) : Lor := fun b vs h K => match firstId b with | some i => False | none => False
/-- lodestone/system.plain$1 -/
def F94 (D : Orc) (a0 : Value) (h : H) (k : Kv) (kp : Kp) : Prop :=
aggW a0 (fun l0 => newW h l0 (fun p1 h2 => ptrW p1 (fun ad3 => ∃ s4 : ByteArray, rd h2 (Addr.add ad3 0) = some (Value.string s4) ∧ D 45 [(Value.string s4), (Value.string (ByteArray.mk #[35]))] h2 (fun v5 h6 => ∃ t7 : Bool, v5 = (Value.bool t7) ∧ k (Value.bool t7) h6) kp)))
def Cl94 (D : Orc) : Prop := ∀ a0 h k kp, F94 D a0 h k kp → D 94 [a0] h k kp
theorem tieF94 (D : Orc) (a0 : Value) (h : H) (k : Kv) (kp : Kp) : F94 D a0 h k kp = bodyW Tryz.prog D (L94 D) lv94 Tryz.f94 [a0] h k kp := by kernel_rfl
theorem lfp94 : Lfps Tryz.prog (CS Tryz.prog) (L94 (CS Tryz.prog)) lv94 (allLoops (bodyOf Tryz.f94)) := by
  have e : (allLoops (bodyOf Tryz.f94)) = [] := by kernel_rfl
  rw [e]
  exact trivial
theorem cl94 : Cl94 (CS Tryz.prog) := fun a0 h k kp hk =>
  fn_sound wide (fn := Tryz.f94) (by kernel_rfl) (by kernel_rfl) (by kernel_rfl) lfp94 (by rw [tieF94] at hk; exact hk)
def lv95 : Lv := Lv.mk 14 [.raw, .raw] (fun i => []) (fun i => []) [(4, .int IntKind.i64)] (fun i => none)
def L95 (D : Orc) : Lor := fun b vs h K => match firstId b with | some i => False | none => False
/-- lodestone/term.Right -/
def F95 (D : Orc) (a0 a1 : Value) (h : H) (k : Kv) (kp : Kp) : Prop :=
D 112 [a0, a1] h (fun v0 h1 => ∃ v2 : Value, ∃ x3 : Int, v0 = (Value.tuple #[v2, (Value.int IntKind.i64 x3)]) ∧ k (Value.int IntKind.i64 x3) h1) kp
def Cl95 (D : Orc) : Prop := ∀ a0 a1 h k kp, F95 D a0 a1 h k kp → D 95 [a0, a1] h k kp
theorem tieF95 (D : Orc) (a0 a1 : Value) (h : H) (k : Kv) (kp : Kp) : F95 D a0 a1 h k kp = bodyW Tryz.prog D (L95 D) lv95 Tryz.f95 [a0, a1] h k kp := by kernel_rfl
theorem lfp95 : Lfps Tryz.prog (CS Tryz.prog) (L95 (CS Tryz.prog)) lv95 (allLoops (bodyOf Tryz.f95)) := by
  have e : (allLoops (bodyOf Tryz.f95)) = [] := by kernel_rfl
  rw [e]
  exact trivial
theorem cl95 : Cl95 (CS Tryz.prog) := fun a0 a1 h k kp hk =>
  fn_sound wide (fn := Tryz.f95) (by kernel_rfl) (by kernel_rfl) (by kernel_rfl) lfp95 (by rw [tieF95] at hk; exact hk)
def lv96 : Lv := Lv.mk 39 [.raw] (fun i => cond (Nat.beq i 4) ([(3, .raw), (4, .raw), (10, .raw), (11, .int IntKind.i64), (12, .int IntKind.i64)]) ([])) (fun i => cond (Nat.beq i 4) ([(0, [(4, .raw)])]) ([])) [(2, .raw)] (fun i => cond (Nat.beq i 10) (some [(3, .raw), (4, .raw), (10, .raw), (11, .int IntKind.i64), (12, .int IntKind.i64)]) (cond (Nat.beq i 8) (some [(3, .raw), (4, .raw), (5, .int IntKind.i64), (6, .int IntKind.i64), (10, .raw), (11, .int IntKind.i64), (12, .int IntKind.i64), (28, .bool)]) (none)))
def j96_4_10 (D : Orc) (I : List Value → H → Prop) (K : Kl) (a0 a1 a2 a3 a4 : Value) (h25 : H) : Prop :=
intK IntKind.i64 a3 (fun x26 => intK IntKind.i64 a4 (fun x27 => I [a0, a1, a2, (Value.int IntKind.i64 x26), (Value.int IntKind.i64 (IntKind.wrap IntKind.i64 (x27 + (1 : Int))))] h25))
def j96_4_8 (D : Orc) (I : List Value → H → Prop) (K : Kl) (a0 a1 a2 a3 a4 a5 a6 a7 : Value) (h12 : H) : Prop :=
intK IntKind.i64 a2 (fun x13 => intK IntKind.i64 a3 (fun x14 => intK IntKind.i64 a5 (fun x15 => intK IntKind.i64 a6 (fun x16 => boolW a7 (fun t17 => cond t17 (
mapU h12 a0 (TypeDesc.int IntKind.i64) (Value.int IntKind.i64 x14) (Value.int IntKind.i64 x13) (fun h18 => one (Value.int IntKind.i64 (IntKind.wrap IntKind.i64 ((-1 : Int) - x14))) = true ∧ 0 < 1 ∧ newSl h18 1 [(Value.int IntKind.i64 (IntKind.wrap IntKind.i64 ((-1 : Int) - x14)))] (fun s19 h20 => slenW s19 (fun n21 => srcW h20 1 s19 (n21) (fun w22 => apW h20 1 8 [(Value.int IntKind.i64 (0 : Int))] a1 (n21) w22 (fun s23 h24 => j96_4_10 D I K a0 s23 a4 (Value.int IntKind.i64 x15) (Value.int IntKind.i64 x16) h24)))))) (
j96_4_10 D I K a0 a1 a4 (Value.int IntKind.i64 x15) (Value.int IntKind.i64 x16) h12))))))
def round96_4 (D : Orc) (I : List Value → H → Prop) (K : Kl) (a0 a1 a2 a3 a4 : Value) (h3 : H) : Prop :=
intK IntKind.i64 a3 (fun x4 => intK IntKind.i64 a4 (fun x5 => cond (decide (x5 < x4)) (
slAtW a2 x5 1 (fun ad6 => ∃ x7 : Int, rd h3 ad6 = some (Value.int IntKind.i64 x7) ∧ mapK h3 a0 (fun es8 => lookW (TypeDesc.int IntKind.i64) (Value.int IntKind.i64 x7) es8 (Value.int IntKind.i64 (0 : Int)) (fun v9 t10 => ∃ x11 : Int, v9 = (Value.int IntKind.i64 x11) ∧ cond (decide (x7 < (0 : Int))) (
j96_4_8 D I K a0 a1 (Value.int IntKind.i64 x5) (Value.int IntKind.i64 x7) a2 (Value.int IntKind.i64 x4) (Value.int IntKind.i64 x5) (Value.bool (!t10)) h3) (
j96_4_8 D I K a0 a1 (Value.int IntKind.i64 x5) (Value.int IntKind.i64 x7) a2 (Value.int IntKind.i64 x4) (Value.int IntKind.i64 x5) (Value.bool false) h3))))) (
K (X.e 0) [a1] h3)))
def loop96_4 (D : Orc) (vs : List Value) (h : H) (K : Kl) : Prop := ∀ I : List Value → H → Prop, (∀ a0 a1 a2 a3 a4 h, round96_4 D I K a0 a1 a2 a3 a4 h → I [a0, a1, a2, a3, a4] h) → I vs h
def L96 (D : Orc) : Lor := fun b vs h K => match firstId b with | some i => cond (Nat.beq i 4) (loop96_4 D vs h K) (False) | none => False
/-- lodestone/term.Vars -/
def F96 (D : Orc) (a0 : Value) (h : H) (k : Kv) (kp : Kp) : Prop :=
newMap h (fun m0 h1 => lenW a0 (fun n2 => loop96_4 D [m0, (Value.slice none 0 0), a0, (Value.int IntKind.i64 (n2 : Int)), (Value.int IntKind.i64 (0 : Int))] h1 (fun x29 vs30 h28 => xs x29 (k (nth vs30 0) h28) (fun i31 => cond (Nat.beq i31 0) (
k (nth vs30 0) h28) (False)) (fun c => kp c h28))))
def Cl96 (D : Orc) : Prop := ∀ a0 h k kp, F96 D a0 h k kp → D 96 [a0] h k kp
theorem tieR96_4 (D : Orc) (I : List Value → H → Prop) (K : Kl) (a0 a1 a2 a3 a4 : Value) (h : H) : round96_4 D I K a0 a1 a2 a3 a4 h = round Tryz.prog D (L96 D) lv96 (nthC (allLoops (bodyOf Tryz.f96)) 0) I K [a0, a1, a2, a3, a4] h := by kernel_rfl
theorem tieF96 (D : Orc) (a0 : Value) (h : H) (k : Kv) (kp : Kp) : F96 D a0 h k kp = bodyW Tryz.prog D (L96 D) lv96 Tryz.f96 [a0] h k kp := by kernel_rfl
theorem lfp96 : Lfps Tryz.prog (CS Tryz.prog) (L96 (CS Tryz.prog)) lv96 (allLoops (bodyOf Tryz.f96)) := by
  have e : (allLoops (bodyOf Tryz.f96)) = [nthC (allLoops (bodyOf Tryz.f96)) 0] := by kernel_rfl
  rw [e]
  exact ⟨(fun vs h K hk I H => hk I (fun a0 a1 a2 a3 a4 h hr => H _ _ ((tieR96_4 (CS Tryz.prog) I K a0 a1 a2 a3 a4 h) ▸ hr))), trivial⟩
theorem cl96 : Cl96 (CS Tryz.prog) := fun a0 h k kp hk =>
  fn_sound wide (fn := Tryz.f96) (by kernel_rfl) (by kernel_rfl) (by kernel_rfl) lfp96 (by rw [tieF96] at hk; exact hk)
def lv60 : Lv := Lv.mk 60 [.raw] (fun i => cond (Nat.beq i 4) ([(0, .raw), (3, .int IntKind.i64)]) (cond (Nat.beq i 11) ([(0, .raw), (3, .int IntKind.i64), (4, .int IntKind.i64)]) ([]))) (fun i => cond (Nat.beq i 4) ([(0, [])]) (cond (Nat.beq i 11) ([(2, [(0, .raw), (3, .int IntKind.i64)])]) ([]))) [(2, .int IntKind.i64)] (fun i => cond (Nat.beq i 7) (some [(0, .raw), (3, .int IntKind.i64), (29, .bool)]) (cond (Nat.beq i 9) (some [(0, .raw), (3, .int IntKind.i64), (43, .bool)]) (none)))
def round60_11 (D : Orc) (I : List Value → H → Prop) (K : Kl) (a0 a1 a2 : Value) (h24 : H) : Prop :=
intK IntKind.i64 a1 (fun x25 => intK IntKind.i64 a2 (fun x26 => cond (decide (x26 < x25)) (
slAtW a0 x26 2 (fun ad27 => ∃ s28 : ByteArray, rd h24 (Addr.add ad27 0) = some (Value.string s28) ∧ slAtW a0 x25 2 (fun ad29 => ∃ s30 : ByteArray, rd h24 (Addr.add ad29 0) = some (Value.string s30) ∧ cond (s28.toList == s30.toList) (
K X.r [(Value.int IntKind.i64 (36 : Int))] h24) (
I [a0, (Value.int IntKind.i64 x25), (Value.int IntKind.i64 (IntKind.wrap IntKind.i64 (x26 + (1 : Int))))] h24)))) (
K (X.e 2) [a0, (Value.int IntKind.i64 x25)] h24)))
def loop60_11 (D : Orc) (vs : List Value) (h : H) (K : Kl) : Prop := ∀ I : List Value → H → Prop, (∀ a0 a1 a2 h, round60_11 D I K a0 a1 a2 h → I [a0, a1, a2] h) → I vs h
def j60_4_9 (D : Orc) (I : List Value → H → Prop) (K : Kl) (a0 a1 a2 : Value) (h21 : H) : Prop :=
intK IntKind.i64 a1 (fun x22 => boolW a2 (fun t23 => cond t23 (
K X.r [(Value.int IntKind.i64 (35 : Int))] h21) (
loop60_11 D [a0, (Value.int IntKind.i64 x22), (Value.int IntKind.i64 (0 : Int))] h21 (fun x32 vs33 h31 => xs x32 (intK IntKind.i64 (nth vs33 0) (fun x35 => K X.r [(Value.int IntKind.i64 x35)] h31)) (fun i34 => cond (Nat.beq i34 2) (
intK IntKind.i64 (nth vs33 1) (fun x36 => I [(nth vs33 0), (Value.int IntKind.i64 (IntKind.wrap IntKind.i64 (x36 + (1 : Int))))] h31)) (False)) (fun c => (fun c h => K (X.p c) [] h) c h31)))))
def j60_4_7 (D : Orc) (I : List Value → H → Prop) (K : Kl) (a0 a1 a2 : Value) (h14 : H) : Prop :=
intK IntKind.i64 a1 (fun x15 => boolW a2 (fun t16 => cond t16 (
K X.r [(Value.int IntKind.i64 (34 : Int))] h14) (
slAtW a0 x15 2 (fun ad17 => ∃ x18 : Int, rd h14 (Addr.add ad17 1) = some (Value.int IntKind.i64 x18) ∧ cond (!(decide (x18 < (0 : Int)))) (
slAtW a0 x15 2 (fun ad19 => ∃ x20 : Int, rd h14 (Addr.add ad19 1) = some (Value.int IntKind.i64 x20) ∧ j60_4_9 D I K a0 (Value.int IntKind.i64 x15) (Value.bool (decide (x20 > (8 : Int)))) h14)) (
j60_4_9 D I K a0 (Value.int IntKind.i64 x15) (Value.bool true) h14)))))
def round60_4 (D : Orc) (I : List Value → H → Prop) (K : Kl) (a0 a1 : Value) (h1 : H) : Prop :=
intK IntKind.i64 a1 (fun x2 => lenW a0 (fun n3 => cond (decide (x2 < (n3 : Int))) (
slAtW a0 x2 2 (fun ad4 => ∃ s5 : ByteArray, rd h1 (Addr.add ad4 0) = some (Value.string s5) ∧ D 89 [(Value.string s5)] h1 (fun v6 h7 => ∃ t8 : Bool, v6 = (Value.bool t8) ∧ cond (!t8) (
slAtW a0 x2 2 (fun ad9 => ∃ s10 : ByteArray, rd h7 (Addr.add ad9 0) = some (Value.string s10) ∧ D 61 [(Value.string s10)] h7 (fun v11 h12 => ∃ t13 : Bool, v11 = (Value.bool t13) ∧ j60_4_7 D I K a0 (Value.int IntKind.i64 x2) (Value.bool (!t13)) h12) (fun c h => K (X.p c) [] h))) (
j60_4_7 D I K a0 (Value.int IntKind.i64 x2) (Value.bool false) h7)) (fun c h => K (X.p c) [] h))) (
K (X.e 0) [] h1)))
def loop60_4 (D : Orc) (vs : List Value) (h : H) (K : Kl) : Prop := ∀ I : List Value → H → Prop, (∀ a0 a1 h, round60_4 D I K a0 a1 h → I [a0, a1] h) → I vs h
def L60 (D : Orc) : Lor := fun b vs h K => match firstId b with | some i => cond (Nat.beq i 4) (loop60_4 D vs h K) (cond (Nat.beq i 11) (loop60_11 D vs h K) (False)) | none => False
/-- lodestone/lodestoneref03.CheckSig -/
def F60 (D : Orc) (a0 : Value) (h : H) (k : Kv) (kp : Kp) : Prop :=
lenW a0 (fun n0 => cond (decide ((n0 : Int) > (128 : Int))) (
k (Value.int IntKind.i64 (37 : Int)) h) (
loop60_4 D [a0, (Value.int IntKind.i64 (0 : Int))] h (fun x38 vs39 h37 => xs x38 (intK IntKind.i64 (nth vs39 0) (fun x41 => k (Value.int IntKind.i64 x41) h37)) (fun i40 => cond (Nat.beq i40 0) (
k (Value.int IntKind.i64 (0 : Int)) h37) (False)) (fun c => kp c h37))))
def Cl60 (D : Orc) : Prop := ∀ a0 h k kp, F60 D a0 h k kp → D 60 [a0] h k kp
theorem tieR60_4 (D : Orc) (I : List Value → H → Prop) (K : Kl) (a0 a1 : Value) (h : H) : round60_4 D I K a0 a1 h = round Tryz.prog D (L60 D) lv60 (nthC (allLoops (bodyOf Tryz.f60)) 0) I K [a0, a1] h := by kernel_rfl
theorem tieR60_11 (D : Orc) (I : List Value → H → Prop) (K : Kl) (a0 a1 a2 : Value) (h : H) : round60_11 D I K a0 a1 a2 h = round Tryz.prog D (L60 D) lv60 (nthC (allLoops (bodyOf Tryz.f60)) 1) I K [a0, a1, a2] h := by kernel_rfl
theorem tieF60 (D : Orc) (a0 : Value) (h : H) (k : Kv) (kp : Kp) : F60 D a0 h k kp = bodyW Tryz.prog D (L60 D) lv60 Tryz.f60 [a0] h k kp := by kernel_rfl
theorem lfp60 : Lfps Tryz.prog (CS Tryz.prog) (L60 (CS Tryz.prog)) lv60 (allLoops (bodyOf Tryz.f60)) := by
  have e : (allLoops (bodyOf Tryz.f60)) = [nthC (allLoops (bodyOf Tryz.f60)) 0, nthC (allLoops (bodyOf Tryz.f60)) 1] := by kernel_rfl
  rw [e]
  exact ⟨(fun vs h K hk I H => hk I (fun a0 a1 h hr => H _ _ ((tieR60_4 (CS Tryz.prog) I K a0 a1 h) ▸ hr))), (fun vs h K hk I H => hk I (fun a0 a1 a2 h hr => H _ _ ((tieR60_11 (CS Tryz.prog) I K a0 a1 a2 h) ▸ hr))), trivial⟩
theorem cl60 : Cl60 (CS Tryz.prog) := fun a0 h k kp hk =>
  fn_sound wide (fn := Tryz.f60) (by kernel_rfl) (by kernel_rfl) (by kernel_rfl) lfp60 (by rw [tieF60] at hk; exact hk)
def lv61 : Lv := Lv.mk 22 [.str] (fun i => []) (fun i => []) [(2, .bool)] (fun i => none)
def L61 (D : Orc) : Lor := fun b vs h K => match firstId b with | some i => False | none => False
/-- lodestone/lodestoneref03.Marked -/
def F61 (D : Orc) (a0 : Value) (h : H) (k : Kv) (kp : Kp) : Prop :=
strW a0 (fun s0 => cond (decide ((s0.size : Int) > (0 : Int))) (
strAtW s0 (IntKind.wrap IntKind.i64 ((s0.size : Int) - (1 : Int))) (fun x1 => cond (x1 == (35 : Int)) (
strCutW s0 none (some (IntKind.wrap IntKind.i64 ((s0.size : Int) - (1 : Int)))) (fun s2 => D 89 [(Value.string s2)] h (fun v3 h4 => ∃ t5 : Bool, v3 = (Value.bool t5) ∧ k (Value.bool t5) h4) kp)) (
k (Value.bool false) h))) (
k (Value.bool false) h))
def Cl61 (D : Orc) : Prop := ∀ a0 h k kp, F61 D a0 h k kp → D 61 [a0] h k kp
theorem tieF61 (D : Orc) (a0 : Value) (h : H) (k : Kv) (kp : Kp) : F61 D a0 h k kp = bodyW Tryz.prog D (L61 D) lv61 Tryz.f61 [a0] h k kp := by kernel_rfl
theorem lfp61 : Lfps Tryz.prog (CS Tryz.prog) (L61 (CS Tryz.prog)) lv61 (allLoops (bodyOf Tryz.f61)) := by
  have e : (allLoops (bodyOf Tryz.f61)) = [] := by kernel_rfl
  rw [e]
  exact trivial
theorem cl61 : Cl61 (CS Tryz.prog) := fun a0 h k kp hk =>
  fn_sound wide (fn := Tryz.f61) (by kernel_rfl) (by kernel_rfl) (by kernel_rfl) lfp61 (by rw [tieF61] at hk; exact hk)
def lv62 : Lv := Lv.mk 55 [.raw, .raw] (fun i => cond (Nat.beq i 3) ([(0, .raw), (1, .raw), (5, .int IntKind.i64), (6, .int IntKind.i64)]) ([])) (fun i => cond (Nat.beq i 3) ([(0, [])]) ([])) [(4, .int IntKind.i64)] (fun i => cond (Nat.beq i 8) (some [(0, .raw), (1, .raw), (5, .int IntKind.i64), (6, .int IntKind.i64), (28, .bool)]) (cond (Nat.beq i 12) (some [(0, .raw), (1, .raw), (5, .int IntKind.i64), (6, .int IntKind.i64)]) (cond (Nat.beq i 13) (some [(0, .raw), (1, .raw), (5, .int IntKind.i64), (6, .int IntKind.i64), (54, .bool)]) (none))))
def j62_3_13 (D : Orc) (I : List Value → H → Prop) (K : Kl) (a0 a1 a2 a3 a4 : Value) (h23 : H) : Prop :=
intK IntKind.i64 a2 (fun x24 => intK IntKind.i64 a3 (fun x25 => boolW a4 (fun t26 => cond t26 (
K X.r [(Value.int IntKind.i64 (32 : Int))] h23) (
I [a0, a1, (Value.int IntKind.i64 x24), (Value.int IntKind.i64 (IntKind.wrap IntKind.i64 (x25 + (1 : Int))))] h23))))
def j62_3_12 (D : Orc) (I : List Value → H → Prop) (K : Kl) (a0 a1 a2 a3 : Value) (h19 : H) : Prop :=
intK IntKind.i64 a2 (fun x20 => intK IntKind.i64 a3 (fun x21 => cond (x20 == (0 : Int)) (
lenW a1 (fun n22 => j62_3_13 D I K a0 a1 (Value.int IntKind.i64 x20) (Value.int IntKind.i64 x21) (Value.bool (decide ((IntKind.wrap IntKind.i64 (x21 + (1 : Int))) < (n22 : Int)))) h19)) (
j62_3_13 D I K a0 a1 (Value.int IntKind.i64 x20) (Value.int IntKind.i64 x21) (Value.bool false) h19)))
def j62_3_8 (D : Orc) (I : List Value → H → Prop) (K : Kl) (a0 a1 a2 a3 a4 : Value) (h9 : H) : Prop :=
intK IntKind.i64 a2 (fun x10 => intK IntKind.i64 a3 (fun x11 => boolW a4 (fun t12 => cond t12 (
K X.r [(Value.int IntKind.i64 (30 : Int))] h9) (
slAtW a1 x11 1 (fun ad13 => ∃ x14 : Int, rd h9 ad13 = some (Value.int IntKind.i64 x14) ∧ cond (decide (x14 ≥ (0 : Int))) (
slAtW a1 x11 1 (fun ad15 => ∃ x16 : Int, rd h9 ad15 = some (Value.int IntKind.i64 x16) ∧ slAtW a0 x16 2 (fun ad17 => ∃ x18 : Int, rd h9 (Addr.add ad17 1) = some (Value.int IntKind.i64 x18) ∧ j62_3_12 D I K a0 a1 (Value.int IntKind.i64 (IntKind.wrap IntKind.i64 ((IntKind.wrap IntKind.i64 (x10 - (1 : Int))) + x18))) (Value.int IntKind.i64 x11) h9))) (
j62_3_12 D I K a0 a1 (Value.int IntKind.i64 (IntKind.wrap IntKind.i64 (x10 - (1 : Int)))) (Value.int IntKind.i64 x11) h9))))))
def round62_3 (D : Orc) (I : List Value → H → Prop) (K : Kl) (a0 a1 a2 a3 : Value) (h0 : H) : Prop :=
intK IntKind.i64 a2 (fun x1 => intK IntKind.i64 a3 (fun x2 => cond (decide (x1 > (0 : Int))) (
lenW a1 (fun n3 => cond (x2 == (n3 : Int)) (
K X.r [(Value.int IntKind.i64 (31 : Int))] h0) (
slAtW a1 x2 1 (fun ad4 => ∃ x5 : Int, rd h0 ad4 = some (Value.int IntKind.i64 x5) ∧ lenW a0 (fun n6 => cond (!(decide (x5 ≥ (n6 : Int)))) (
slAtW a1 x2 1 (fun ad7 => ∃ x8 : Int, rd h0 ad7 = some (Value.int IntKind.i64 x8) ∧ j62_3_8 D I K a0 a1 (Value.int IntKind.i64 x1) (Value.int IntKind.i64 x2) (Value.bool (decide (x8 < (-1048576 : Int)))) h0)) (
j62_3_8 D I K a0 a1 (Value.int IntKind.i64 x1) (Value.int IntKind.i64 x2) (Value.bool true) h0)))))) (
K (X.e 0) [] h0)))
def loop62_3 (D : Orc) (vs : List Value) (h : H) (K : Kl) : Prop := ∀ I : List Value → H → Prop, (∀ a0 a1 a2 a3 h, round62_3 D I K a0 a1 a2 a3 h → I [a0, a1, a2, a3] h) → I vs h
def L62 (D : Orc) : Lor := fun b vs h K => match firstId b with | some i => cond (Nat.beq i 3) (loop62_3 D vs h K) (False) | none => False
/-- lodestone/lodestoneref03.Term -/
def F62 (D : Orc) (a0 a1 : Value) (h : H) (k : Kv) (kp : Kp) : Prop :=
loop62_3 D [a0, a1, (Value.int IntKind.i64 (1 : Int)), (Value.int IntKind.i64 (0 : Int))] h (fun x28 vs29 h27 => xs x28 (intK IntKind.i64 (nth vs29 0) (fun x31 => k (Value.int IntKind.i64 x31) h27)) (fun i30 => cond (Nat.beq i30 0) (
k (Value.int IntKind.i64 (0 : Int)) h27) (False)) (fun c => kp c h27))
def Cl62 (D : Orc) : Prop := ∀ a0 a1 h k kp, F62 D a0 a1 h k kp → D 62 [a0, a1] h k kp
theorem tieR62_3 (D : Orc) (I : List Value → H → Prop) (K : Kl) (a0 a1 a2 a3 : Value) (h : H) : round62_3 D I K a0 a1 a2 a3 h = round Tryz.prog D (L62 D) lv62 (nthC (allLoops (bodyOf Tryz.f62)) 0) I K [a0, a1, a2, a3] h := by kernel_rfl
theorem tieF62 (D : Orc) (a0 a1 : Value) (h : H) (k : Kv) (kp : Kp) : F62 D a0 a1 h k kp = bodyW Tryz.prog D (L62 D) lv62 Tryz.f62 [a0, a1] h k kp := by kernel_rfl
theorem lfp62 : Lfps Tryz.prog (CS Tryz.prog) (L62 (CS Tryz.prog)) lv62 (allLoops (bodyOf Tryz.f62)) := by
  have e : (allLoops (bodyOf Tryz.f62)) = [nthC (allLoops (bodyOf Tryz.f62)) 0] := by kernel_rfl
  rw [e]
  exact ⟨(fun vs h K hk I H => hk I (fun a0 a1 a2 a3 h hr => H _ _ ((tieR62_3 (CS Tryz.prog) I K a0 a1 a2 a3 h) ▸ hr))), trivial⟩
theorem cl62 : Cl62 (CS Tryz.prog) := fun a0 a1 h k kp hk =>
  fn_sound wide (fn := Tryz.f62) (by kernel_rfl) (by kernel_rfl) (by kernel_rfl) lfp62 (by rw [tieF62] at hk; exact hk)
def lv87 : Lv := Lv.mk 48 [.raw] (fun i => cond (Nat.beq i 3) ([(0, .raw), (3, .raw), (4, .int IntKind.i64)]) (cond (Nat.beq i 7) ([(0, .raw), (3, .raw), (4, .int IntKind.i64), (5, .bool), (6, .int IntKind.i64)]) ([]))) (fun i => cond (Nat.beq i 3) ([(0, [(3, .raw)])]) (cond (Nat.beq i 7) ([(2, [(0, .raw), (3, .raw), (4, .int IntKind.i64), (5, .bool)])]) ([]))) [(2, .raw)] (fun i => cond (Nat.beq i 4) (some [(0, .raw), (3, .raw), (4, .int IntKind.i64)]) (cond (Nat.beq i 8) (some [(0, .raw), (3, .raw), (4, .int IntKind.i64), (5, .bool), (6, .int IntKind.i64)]) (none)))
def j87_7_8 (D : Orc) (I : List Value → H → Prop) (K : Kl) (a0 a1 a2 a3 a4 : Value) (h14 : H) : Prop :=
intK IntKind.i64 a2 (fun x15 => boolW a3 (fun t16 => intK IntKind.i64 a4 (fun x17 => I [a0, a1, (Value.int IntKind.i64 x15), (Value.bool t16), (Value.int IntKind.i64 (IntKind.wrap IntKind.i64 (x17 + (1 : Int))))] h14)))
def round87_7 (D : Orc) (I : List Value → H → Prop) (K : Kl) (a0 a1 a2 a3 a4 : Value) (h5 : H) : Prop :=
intK IntKind.i64 a2 (fun x6 => boolW a3 (fun t7 => intK IntKind.i64 a4 (fun x8 => lenW a1 (fun n9 => cond (decide (x8 < (n9 : Int))) (
cond (!t7) (
slAtW a1 x8 1 (fun ad10 => ∃ x11 : Int, rd h5 ad10 = some (Value.int IntKind.i64 x11) ∧ slAtW a0 x6 1 (fun ad12 => ∃ x13 : Int, rd h5 ad12 = some (Value.int IntKind.i64 x13) ∧ j87_7_8 D I K a0 a1 (Value.int IntKind.i64 x6) (Value.bool (x11 == (IntKind.wrap IntKind.i64 ((-1 : Int) - x13)))) (Value.int IntKind.i64 x8) h5))) (
j87_7_8 D I K a0 a1 (Value.int IntKind.i64 x6) (Value.bool true) (Value.int IntKind.i64 x8) h5)) (
K (X.e 2) [a0, a1, (Value.int IntKind.i64 x6), (Value.bool t7)] h5)))))
def loop87_7 (D : Orc) (vs : List Value) (h : H) (K : Kl) : Prop := ∀ I : List Value → H → Prop, (∀ a0 a1 a2 a3 a4 h, round87_7 D I K a0 a1 a2 a3 a4 h → I [a0, a1, a2, a3, a4] h) → I vs h
def j87_3_4 (D : Orc) (I : List Value → H → Prop) (K : Kl) (a0 a1 a2 : Value) (h32 : H) : Prop :=
intK IntKind.i64 a2 (fun x33 => I [a0, a1, (Value.int IntKind.i64 (IntKind.wrap IntKind.i64 (x33 + (1 : Int))))] h32)
def round87_3 (D : Orc) (I : List Value → H → Prop) (K : Kl) (a0 a1 a2 : Value) (h0 : H) : Prop :=
intK IntKind.i64 a2 (fun x1 => lenW a0 (fun n2 => cond (decide (x1 < (n2 : Int))) (
slAtW a0 x1 1 (fun ad3 => ∃ x4 : Int, rd h0 ad3 = some (Value.int IntKind.i64 x4) ∧ loop87_7 D [a0, a1, (Value.int IntKind.i64 x1), (Value.bool (decide (x4 ≥ (0 : Int)))), (Value.int IntKind.i64 (0 : Int))] h0 (fun x19 vs20 h18 => xs x19 (K X.r [(nth vs20 0)] h18) (fun i21 => cond (Nat.beq i21 2) (
intK IntKind.i64 (nth vs20 2) (fun x22 => boolW (nth vs20 3) (fun t23 => cond (!t23) (
slAtW (nth vs20 0) x22 1 (fun ad24 => ∃ x25 : Int, rd h18 ad24 = some (Value.int IntKind.i64 x25) ∧ one (Value.int IntKind.i64 (IntKind.wrap IntKind.i64 ((-1 : Int) - x25))) = true ∧ 0 < 1 ∧ newSl h18 1 [(Value.int IntKind.i64 (IntKind.wrap IntKind.i64 ((-1 : Int) - x25)))] (fun s26 h27 => slenW s26 (fun n28 => srcW h27 1 s26 (n28) (fun w29 => apW h27 1 8 [(Value.int IntKind.i64 (0 : Int))] (nth vs20 1) (n28) w29 (fun s30 h31 => j87_3_4 D I K (nth vs20 0) s30 (Value.int IntKind.i64 x22) h31)))))) (
j87_3_4 D I K (nth vs20 0) (nth vs20 1) (Value.int IntKind.i64 x22) h18)))) (False)) (fun c => (fun c h => K (X.p c) [] h) c h18)))) (
K (X.e 0) [a1] h0)))
def loop87_3 (D : Orc) (vs : List Value) (h : H) (K : Kl) : Prop := ∀ I : List Value → H → Prop, (∀ a0 a1 a2 h, round87_3 D I K a0 a1 a2 h → I [a0, a1, a2] h) → I vs h
def L87 (D : Orc) : Lor := fun b vs h K => match firstId b with | some i => cond (Nat.beq i 3) (loop87_3 D vs h K) (cond (Nat.beq i 7) (loop87_7 D vs h K) (False)) | none => False
/-- lodestone/lodestoneref03.Vars -/
def F87 (D : Orc) (a0 : Value) (h : H) (k : Kv) (kp : Kp) : Prop :=
loop87_3 D [a0, (Value.slice none 0 0), (Value.int IntKind.i64 (0 : Int))] h (fun x35 vs36 h34 => xs x35 (k (nth vs36 0) h34) (fun i37 => cond (Nat.beq i37 0) (
k (nth vs36 0) h34) (False)) (fun c => kp c h34))
def Cl87 (D : Orc) : Prop := ∀ a0 h k kp, F87 D a0 h k kp → D 87 [a0] h k kp
theorem tieR87_3 (D : Orc) (I : List Value → H → Prop) (K : Kl) (a0 a1 a2 : Value) (h : H) : round87_3 D I K a0 a1 a2 h = round Tryz.prog D (L87 D) lv87 (nthC (allLoops (bodyOf Tryz.f87)) 0) I K [a0, a1, a2] h := by kernel_rfl
theorem tieR87_7 (D : Orc) (I : List Value → H → Prop) (K : Kl) (a0 a1 a2 a3 a4 : Value) (h : H) : round87_7 D I K a0 a1 a2 a3 a4 h = round Tryz.prog D (L87 D) lv87 (nthC (allLoops (bodyOf Tryz.f87)) 1) I K [a0, a1, a2, a3, a4] h := by kernel_rfl
theorem tieF87 (D : Orc) (a0 : Value) (h : H) (k : Kv) (kp : Kp) : F87 D a0 h k kp = bodyW Tryz.prog D (L87 D) lv87 Tryz.f87 [a0] h k kp := by kernel_rfl
theorem lfp87 : Lfps Tryz.prog (CS Tryz.prog) (L87 (CS Tryz.prog)) lv87 (allLoops (bodyOf Tryz.f87)) := by
  have e : (allLoops (bodyOf Tryz.f87)) = [nthC (allLoops (bodyOf Tryz.f87)) 0, nthC (allLoops (bodyOf Tryz.f87)) 1] := by kernel_rfl
  rw [e]
  exact ⟨(fun vs h K hk I H => hk I (fun a0 a1 a2 h hr => H _ _ ((tieR87_3 (CS Tryz.prog) I K a0 a1 a2 h) ▸ hr))), (fun vs h K hk I H => hk I (fun a0 a1 a2 a3 a4 h hr => H _ _ ((tieR87_7 (CS Tryz.prog) I K a0 a1 a2 a3 a4 h) ▸ hr))), trivial⟩
theorem cl87 : Cl87 (CS Tryz.prog) := fun a0 h k kp hk =>
  fn_sound wide (fn := Tryz.f87) (by kernel_rfl) (by kernel_rfl) (by kernel_rfl) lfp87 (by rw [tieF87] at hk; exact hk)
def lv88 : Lv := Lv.mk 18 [.raw, .int IntKind.i64] (fun i => cond (Nat.beq i 2) ([(0, .raw), (1, .int IntKind.i64), (5, .int IntKind.i64)]) ([])) (fun i => cond (Nat.beq i 2) ([(0, [])]) ([])) [(4, .bool)] (fun i => none)
def round88_2 (D : Orc) (I : List Value → H → Prop) (K : Kl) (a0 a1 a2 : Value) (h1 : H) : Prop :=
intK IntKind.i64 a1 (fun x2 => intK IntKind.i64 a2 (fun x3 => lenW a0 (fun n4 => cond (decide (x3 < (n4 : Int))) (
slAtW a0 x3 1 (fun ad5 => ∃ x6 : Int, rd h1 ad5 = some (Value.int IntKind.i64 x6) ∧ cond (x6 == x2) (
K X.r [(Value.bool true)] h1) (
I [a0, (Value.int IntKind.i64 x2), (Value.int IntKind.i64 (IntKind.wrap IntKind.i64 (x3 + (1 : Int))))] h1))) (
K (X.e 0) [] h1))))
def loop88_2 (D : Orc) (vs : List Value) (h : H) (K : Kl) : Prop := ∀ I : List Value → H → Prop, (∀ a0 a1 a2 h, round88_2 D I K a0 a1 a2 h → I [a0, a1, a2] h) → I vs h
def L88 (D : Orc) : Lor := fun b vs h K => match firstId b with | some i => cond (Nat.beq i 2) (loop88_2 D vs h K) (False) | none => False
/-- lodestone/lodestoneref07.has -/
def F88 (D : Orc) (a0 a1 : Value) (h : H) (k : Kv) (kp : Kp) : Prop :=
intK IntKind.i64 a1 (fun x0 => loop88_2 D [a0, (Value.int IntKind.i64 x0), (Value.int IntKind.i64 (0 : Int))] h (fun x8 vs9 h7 => xs x8 (boolW (nth vs9 0) (fun t11 => k (Value.bool t11) h7)) (fun i10 => cond (Nat.beq i10 0) (
k (Value.bool false) h7) (False)) (fun c => kp c h7)))
def Cl88 (D : Orc) : Prop := ∀ a0 a1 h k kp, F88 D a0 a1 h k kp → D 88 [a0, a1] h k kp
theorem tieR88_2 (D : Orc) (I : List Value → H → Prop) (K : Kl) (a0 a1 a2 : Value) (h : H) : round88_2 D I K a0 a1 a2 h = round Tryz.prog D (L88 D) lv88 (nthC (allLoops (bodyOf Tryz.f88)) 0) I K [a0, a1, a2] h := by kernel_rfl
theorem tieF88 (D : Orc) (a0 a1 : Value) (h : H) (k : Kv) (kp : Kp) : F88 D a0 a1 h k kp = bodyW Tryz.prog D (L88 D) lv88 Tryz.f88 [a0, a1] h k kp := by kernel_rfl
theorem lfp88 : Lfps Tryz.prog (CS Tryz.prog) (L88 (CS Tryz.prog)) lv88 (allLoops (bodyOf Tryz.f88)) := by
  have e : (allLoops (bodyOf Tryz.f88)) = [nthC (allLoops (bodyOf Tryz.f88)) 0] := by kernel_rfl
  rw [e]
  exact ⟨(fun vs h K hk I H => hk I (fun a0 a1 a2 h hr => H _ _ ((tieR88_2 (CS Tryz.prog) I K a0 a1 a2 h) ▸ hr))), trivial⟩
theorem cl88 : Cl88 (CS Tryz.prog) := fun a0 a1 h k kp hk =>
  fn_sound wide (fn := Tryz.f88) (by kernel_rfl) (by kernel_rfl) (by kernel_rfl) lfp88 (by rw [tieF88] at hk; exact hk)
def lv79 : Lv := Lv.mk 14 [.raw, .raw] (fun i => []) (fun i => []) [(4, .int IntKind.i64)] (fun i => none)
def L79 (D : Orc) : Lor := fun b vs h K => match firstId b with | some i => False | none => False
/-- lodestone/term.Check -/
def F79 (D : Orc) (a0 a1 : Value) (h : H) (k : Kv) (kp : Kp) : Prop :=
D 100 [a0, a1] h (fun v0 h1 => ∃ v2 : Value, ∃ x3 : Int, v0 = (Value.tuple #[v2, (Value.int IntKind.i64 x3)]) ∧ k (Value.int IntKind.i64 x3) h1) kp
def Cl79 (D : Orc) : Prop := ∀ a0 a1 h k kp, F79 D a0 a1 h k kp → D 79 [a0, a1] h k kp
theorem tieF79 (D : Orc) (a0 a1 : Value) (h : H) (k : Kv) (kp : Kp) : F79 D a0 a1 h k kp = bodyW Tryz.prog D (L79 D) lv79 Tryz.f79 [a0, a1] h k kp := by kernel_rfl
theorem lfp79 : Lfps Tryz.prog (CS Tryz.prog) (L79 (CS Tryz.prog)) lv79 (allLoops (bodyOf Tryz.f79)) := by
  have e : (allLoops (bodyOf Tryz.f79)) = [] := by kernel_rfl
  rw [e]
  exact trivial
theorem cl79 : Cl79 (CS Tryz.prog) := fun a0 a1 h k kp hk =>
  fn_sound wide (fn := Tryz.f79) (by kernel_rfl) (by kernel_rfl) (by kernel_rfl) lfp79 (by rw [tieF79] at hk; exact hk)
def lv55 : Lv := Lv.mk 61 [.raw] (fun i => cond (Nat.beq i 4) ([(3, .raw), (4, .raw), (15, .raw), (16, .int IntKind.i64), (17, .int IntKind.i64)]) (cond (Nat.beq i 8) ([(3, .raw), (4, .raw), (5, .int IntKind.i64), (15, .raw), (16, .int IntKind.i64), (17, .int IntKind.i64), (27, .raw), (28, .int IntKind.i64), (29, .int IntKind.i64)]) ([]))) (fun i => cond (Nat.beq i 4) ([(0, [(4, .raw)])]) (cond (Nat.beq i 8) ([(2, [(3, .raw), (4, .raw), (15, .raw), (16, .int IntKind.i64), (17, .int IntKind.i64)])]) ([]))) [(2, .raw)] (fun i => cond (Nat.beq i 15) (some [(3, .raw), (4, .raw), (5, .int IntKind.i64), (15, .raw), (16, .int IntKind.i64), (17, .int IntKind.i64), (27, .raw), (28, .int IntKind.i64), (29, .int IntKind.i64)]) (cond (Nat.beq i 14) (some [(3, .raw), (4, .raw), (5, .int IntKind.i64), (7, .int IntKind.i64), (8, .int IntKind.i64), (15, .raw), (16, .int IntKind.i64), (17, .int IntKind.i64), (27, .raw), (28, .int IntKind.i64), (29, .int IntKind.i64)]) (none)))
def j55_8_15 (D : Orc) (I : List Value → H → Prop) (K : Kl) (a0 a1 a2 a3 a4 a5 a6 a7 a8 : Value) (h25 : H) : Prop :=
intK IntKind.i64 a2 (fun x26 => intK IntKind.i64 a4 (fun x27 => intK IntKind.i64 a5 (fun x28 => intK IntKind.i64 a7 (fun x29 => intK IntKind.i64 a8 (fun x30 => I [a0, a1, (Value.int IntKind.i64 x26), a3, (Value.int IntKind.i64 x27), (Value.int IntKind.i64 x28), a6, (Value.int IntKind.i64 x29), (Value.int IntKind.i64 (IntKind.wrap IntKind.i64 (x30 + (1 : Int))))] h25)))))
def j55_8_14 (D : Orc) (I : List Value → H → Prop) (K : Kl) (a0 a1 a2 a3 a4 a5 a6 a7 a8 a9 a10 : Value) (h39 : H) : Prop :=
intK IntKind.i64 a2 (fun x40 => intK IntKind.i64 a3 (fun x41 => intK IntKind.i64 a4 (fun x42 => intK IntKind.i64 a6 (fun x43 => intK IntKind.i64 a7 (fun x44 => intK IntKind.i64 a9 (fun x45 => intK IntKind.i64 a10 (fun x46 => slAtW a1 x40 1 (fun ad47 => ∃ v48 : Value, rd h39 ad47 = some v48 ∧ mapK h39 a0 (fun es49 => lookW (TypeDesc.int IntKind.i64) (Value.int IntKind.i64 x42) es49 (Value.int IntKind.i64 (0 : Int)) (fun v50 t51 => ∃ x52 : Int, v50 = (Value.int IntKind.i64 x52) ∧ (rd h39 ad47 = some v48) ∧ slAtW v48 x41 1 (fun ad53 => one (Value.int IntKind.i64 (IntKind.wrap IntKind.i64 ((-1 : Int) - x52))) = true ∧ 1 = 1 ∧ ∃ h54, wr1 h39 ad53 (Value.int IntKind.i64 (IntKind.wrap IntKind.i64 ((-1 : Int) - x52))) = some h54 ∧ j55_8_15 D I K a0 a1 (Value.int IntKind.i64 x40) a5 (Value.int IntKind.i64 x43) (Value.int IntKind.i64 x44) a8 (Value.int IntKind.i64 x45) (Value.int IntKind.i64 x46) h54)))))))))))
def round55_8 (D : Orc) (I : List Value → H → Prop) (K : Kl) (a0 a1 a2 a3 a4 a5 a6 a7 a8 : Value) (h17 : H) : Prop :=
intK IntKind.i64 a2 (fun x18 => intK IntKind.i64 a4 (fun x19 => intK IntKind.i64 a5 (fun x20 => intK IntKind.i64 a7 (fun x21 => intK IntKind.i64 a8 (fun x22 => cond (decide (x22 < x21)) (
slAtW a6 x22 1 (fun ad23 => ∃ x24 : Int, rd h17 ad23 = some (Value.int IntKind.i64 x24) ∧ cond (decide (x24 ≥ (0 : Int))) (
j55_8_15 D I K a0 a1 (Value.int IntKind.i64 x18) a3 (Value.int IntKind.i64 x19) (Value.int IntKind.i64 x20) a6 (Value.int IntKind.i64 x21) (Value.int IntKind.i64 x22) h17) (
mapK h17 a0 (fun es31 => lookW (TypeDesc.int IntKind.i64) (Value.int IntKind.i64 x24) es31 (Value.int IntKind.i64 (0 : Int)) (fun v32 t33 => ∃ x34 : Int, v32 = (Value.int IntKind.i64 x34) ∧ cond (!t33) (
(match a0 with | Value.map none => mapU h17 a0 (TypeDesc.int IntKind.i64) (Value.int IntKind.i64 x24) (Value.int IntKind.i64 (0 : Int)) (fun h38 => j55_8_14 D I K a0 a1 (Value.int IntKind.i64 x18) (Value.int IntKind.i64 x22) (Value.int IntKind.i64 x24) a3 (Value.int IntKind.i64 x19) (Value.int IntKind.i64 x20) a6 (Value.int IntKind.i64 x21) (Value.int IntKind.i64 x22) h38) | Value.map (some r35) => ∃ es36 c37, h17 r35 = some (VObj.map es36 c37) ∧ mapU h17 a0 (TypeDesc.int IntKind.i64) (Value.int IntKind.i64 x24) (Value.int IntKind.i64 (es36.length : Int)) (fun h55 => j55_8_14 D I K a0 a1 (Value.int IntKind.i64 x18) (Value.int IntKind.i64 x22) (Value.int IntKind.i64 x24) a3 (Value.int IntKind.i64 x19) (Value.int IntKind.i64 x20) a6 (Value.int IntKind.i64 x21) (Value.int IntKind.i64 x22) h55) | _ => False)) (
j55_8_14 D I K a0 a1 (Value.int IntKind.i64 x18) (Value.int IntKind.i64 x22) (Value.int IntKind.i64 x24) a3 (Value.int IntKind.i64 x19) (Value.int IntKind.i64 x20) a6 (Value.int IntKind.i64 x21) (Value.int IntKind.i64 x22) h17)))))) (
K (X.e 2) [a0, a1, a3, (Value.int IntKind.i64 x19), (Value.int IntKind.i64 x20)] h17))))))
def loop55_8 (D : Orc) (vs : List Value) (h : H) (K : Kl) : Prop := ∀ I : List Value → H → Prop, (∀ a0 a1 a2 a3 a4 a5 a6 a7 a8 h, round55_8 D I K a0 a1 a2 a3 a4 a5 a6 a7 a8 h → I [a0, a1, a2, a3, a4, a5, a6, a7, a8] h) → I vs h
def round55_4 (D : Orc) (I : List Value → H → Prop) (K : Kl) (a0 a1 a2 a3 a4 : Value) (h6 : H) : Prop :=
intK IntKind.i64 a3 (fun x7 => intK IntKind.i64 a4 (fun x8 => cond (decide (x8 < x7)) (
slAtW a2 x8 1 (fun ad9 => ∃ v10 : Value, rd h6 ad9 = some v10 ∧ D 49 [v10] h6 (fun v11 h12 => ∃ v13 : Value, v11 = v13 ∧ slAtW a1 x8 1 (fun ad14 => one v13 = true ∧ 1 = 1 ∧ ∃ h15, wr1 h12 ad14 v13 = some h15 ∧ lenW v10 (fun n16 => loop55_8 D [a0, a1, (Value.int IntKind.i64 x8), a2, (Value.int IntKind.i64 x7), (Value.int IntKind.i64 x8), v10, (Value.int IntKind.i64 (n16 : Int)), (Value.int IntKind.i64 (0 : Int))] h15 (fun x57 vs58 h56 => xs x57 (K X.r [(nth vs58 0)] h56) (fun i59 => cond (Nat.beq i59 2) (
intK IntKind.i64 (nth vs58 3) (fun x60 => intK IntKind.i64 (nth vs58 4) (fun x61 => I [(nth vs58 0), (nth vs58 1), (nth vs58 2), (Value.int IntKind.i64 x60), (Value.int IntKind.i64 (IntKind.wrap IntKind.i64 (x61 + (1 : Int))))] h56))) (False)) (fun c => (fun c h => K (X.p c) [] h) c h56))))) (fun c h => K (X.p c) [] h))) (
K (X.e 0) [a1] h6)))
def loop55_4 (D : Orc) (vs : List Value) (h : H) (K : Kl) : Prop := ∀ I : List Value → H → Prop, (∀ a0 a1 a2 a3 a4 h, round55_4 D I K a0 a1 a2 a3 a4 h → I [a0, a1, a2, a3, a4] h) → I vs h
def L55 (D : Orc) : Lor := fun b vs h K => match firstId b with | some i => cond (Nat.beq i 4) (loop55_4 D vs h K) (cond (Nat.beq i 8) (loop55_8 D vs h K) (False)) | none => False
/-- lodestone/subst.Canon -/
def F55 (D : Orc) (a0 : Value) (h : H) (k : Kv) (kp : Kp) : Prop :=
newMap h (fun m0 h1 => lenW a0 (fun n2 => mkSliceW h1 24 [(Value.slice none 0 0)] (n2 : Int) (n2 : Int) (fun s3 h4 => lenW a0 (fun n5 => loop55_4 D [m0, s3, a0, (Value.int IntKind.i64 (n5 : Int)), (Value.int IntKind.i64 (0 : Int))] h4 (fun x63 vs64 h62 => xs x63 (k (nth vs64 0) h62) (fun i65 => cond (Nat.beq i65 0) (
k (nth vs64 0) h62) (False)) (fun c => kp c h62))))))
def Cl55 (D : Orc) : Prop := ∀ a0 h k kp, F55 D a0 h k kp → D 55 [a0] h k kp
theorem tieR55_4 (D : Orc) (I : List Value → H → Prop) (K : Kl) (a0 a1 a2 a3 a4 : Value) (h : H) : round55_4 D I K a0 a1 a2 a3 a4 h = round Tryz.prog D (L55 D) lv55 (nthC (allLoops (bodyOf Tryz.f55)) 0) I K [a0, a1, a2, a3, a4] h := by kernel_rfl
theorem tieR55_8 (D : Orc) (I : List Value → H → Prop) (K : Kl) (a0 a1 a2 a3 a4 a5 a6 a7 a8 : Value) (h : H) : round55_8 D I K a0 a1 a2 a3 a4 a5 a6 a7 a8 h = round Tryz.prog D (L55 D) lv55 (nthC (allLoops (bodyOf Tryz.f55)) 1) I K [a0, a1, a2, a3, a4, a5, a6, a7, a8] h := by kernel_rfl
theorem tieF55 (D : Orc) (a0 : Value) (h : H) (k : Kv) (kp : Kp) : F55 D a0 h k kp = bodyW Tryz.prog D (L55 D) lv55 Tryz.f55 [a0] h k kp := by kernel_rfl
theorem lfp55 : Lfps Tryz.prog (CS Tryz.prog) (L55 (CS Tryz.prog)) lv55 (allLoops (bodyOf Tryz.f55)) := by
  have e : (allLoops (bodyOf Tryz.f55)) = [nthC (allLoops (bodyOf Tryz.f55)) 0, nthC (allLoops (bodyOf Tryz.f55)) 1] := by kernel_rfl
  rw [e]
  exact ⟨(fun vs h K hk I H => hk I (fun a0 a1 a2 a3 a4 h hr => H _ _ ((tieR55_4 (CS Tryz.prog) I K a0 a1 a2 a3 a4 h) ▸ hr))), (fun vs h K hk I H => hk I (fun a0 a1 a2 a3 a4 a5 a6 a7 a8 h hr => H _ _ ((tieR55_8 (CS Tryz.prog) I K a0 a1 a2 a3 a4 a5 a6 a7 a8 h) ▸ hr))), trivial⟩
theorem cl55 : Cl55 (CS Tryz.prog) := fun a0 h k kp hk =>
  fn_sound wide (fn := Tryz.f55) (by kernel_rfl) (by kernel_rfl) (by kernel_rfl) lfp55 (by rw [tieF55] at hk; exact hk)
def lv36 : Lv := Lv.mk 14 [.raw, .raw] (fun i => []) (fun i => []) [(4, .int IntKind.i64)] (fun i => none)
def L36 (D : Orc) : Lor := fun b vs h K => match firstId b with | some i => False | none => False
/-- lodestone/lodestoneref03.Check -/
def F36 (D : Orc) (a0 a1 : Value) (h : H) (k : Kv) (kp : Kp) : Prop :=
D 60 [a0] h (fun v0 h1 => ∃ x2 : Int, v0 = (Value.int IntKind.i64 x2) ∧ cond (x2 != (0 : Int)) (
k (Value.int IntKind.i64 x2) h1) (
D 62 [a0, a1] h1 (fun v3 h4 => ∃ x5 : Int, v3 = (Value.int IntKind.i64 x5) ∧ k (Value.int IntKind.i64 x5) h4) kp)) kp
def Cl36 (D : Orc) : Prop := ∀ a0 a1 h k kp, F36 D a0 a1 h k kp → D 36 [a0, a1] h k kp
theorem tieF36 (D : Orc) (a0 a1 : Value) (h : H) (k : Kv) (kp : Kp) : F36 D a0 a1 h k kp = bodyW Tryz.prog D (L36 D) lv36 Tryz.f36 [a0, a1] h k kp := by kernel_rfl
theorem lfp36 : Lfps Tryz.prog (CS Tryz.prog) (L36 (CS Tryz.prog)) lv36 (allLoops (bodyOf Tryz.f36)) := by
  have e : (allLoops (bodyOf Tryz.f36)) = [] := by kernel_rfl
  rw [e]
  exact trivial
theorem cl36 : Cl36 (CS Tryz.prog) := fun a0 a1 h k kp hk =>
  fn_sound wide (fn := Tryz.f36) (by kernel_rfl) (by kernel_rfl) (by kernel_rfl) lfp36 (by rw [tieF36] at hk; exact hk)
def lv68 : Lv := Lv.mk 45 [.str] (fun i => cond (Nat.beq i 4) ([(18, .raw)]) ([])) (fun i => cond (Nat.beq i 4) ([(0, [])]) ([])) [(2, .bool)] (fun i => cond (Nat.beq i 2) (some [(0, .str), (16, .bool)]) (cond (Nat.beq i 6) (some [(18, .raw), (26, .bool)]) (none)))
def j68_4_6 (D : Orc) (I : List Value → H → Prop) (K : Kl) (a0 a1 : Value) (h25 : H) : Prop :=
boolW a1 (fun t26 => cond t26 (
I [a0] h25) (
K X.r [(Value.bool false)] h25))
def round68_4 (D : Orc) (I : List Value → H → Prop) (K : Kl) (a0 : Value) (h9 : H) : Prop :=
ptrW a0 (fun ad10 => nextW h9 ad10 (fun v11 h12 => extractW v11 0 (fun v13 => boolW v13 (fun t14 => cond t14 (
extractW v11 1 (fun v15 => extractW v11 2 (fun v16 => D 92 [v16] h12 (fun v17 h18 => ∃ t19 : Bool, v17 = (Value.bool t19) ∧ cond t19 (
I [a0] h18) (
intK IntKind.i64 v15 (fun x20 => cond (decide (x20 > (0 : Int))) (
intK IntKind.i32 v16 (fun x21 => cond (decide ((48 : Int) ≤ x21)) (
intK IntKind.i32 v16 (fun x22 => cond (!(decide (x22 ≤ (57 : Int)))) (
intK IntKind.i32 v16 (fun x23 => cond (!(x23 == (95 : Int))) (
intK IntKind.i32 v16 (fun x24 => j68_4_6 D I K a0 (Value.bool (x24 == (39 : Int))) h18)) (
j68_4_6 D I K a0 (Value.bool true) h18))) (
j68_4_6 D I K a0 (Value.bool true) h18))) (
intK IntKind.i32 v16 (fun x27 => cond (!(x27 == (95 : Int))) (
intK IntKind.i32 v16 (fun x28 => j68_4_6 D I K a0 (Value.bool (x28 == (39 : Int))) h18)) (
j68_4_6 D I K a0 (Value.bool true) h18))))) (
j68_4_6 D I K a0 (Value.bool false) h18)))) (fun c h => K (X.p c) [] h)))) (
K (X.e 0) [] h12)))))
def loop68_4 (D : Orc) (vs : List Value) (h : H) (K : Kl) : Prop := ∀ I : List Value → H → Prop, (∀ a0 h, round68_4 D I K a0 h → I [a0] h) → I vs h
def j68__2 (D : Orc) (k : Kv) (kp : Kp) (a0 a1 : Value) (h4 : H) : Prop :=
strW a0 (fun s5 => boolW a1 (fun t6 => cond t6 (
k (Value.bool false) h4) (
newIt h4 s5 (fun p7 h8 => loop68_4 D [p7] h8 (fun x30 vs31 h29 => xs x30 (boolW (nth vs31 0) (fun t33 => k (Value.bool t33) h29)) (fun i32 => cond (Nat.beq i32 0) (
k (Value.bool true) h29) (False)) (fun c => kp c h29))))))
def L68 (D : Orc) : Lor := fun b vs h K => match firstId b with | some i => cond (Nat.beq i 4) (loop68_4 D vs h K) (False) | none => False
/-- lodestone/term.named -/
def F68 (D : Orc) (a0 : Value) (h : H) (k : Kv) (kp : Kp) : Prop :=
strW a0 (fun s0 => cond (!(s0.toList == (ByteArray.mk #[]).toList)) (
cond (!(decide ((s0.size : Int) > (32 : Int)))) (
D 91 [(Value.string s0)] h (fun v1 h2 => ∃ t3 : Bool, v1 = (Value.bool t3) ∧ j68__2 D k kp (Value.string s0) (Value.bool (!t3)) h2) kp) (
j68__2 D k kp (Value.string s0) (Value.bool true) h)) (
j68__2 D k kp (Value.string s0) (Value.bool true) h))
def Cl68 (D : Orc) : Prop := ∀ a0 h k kp, F68 D a0 h k kp → D 68 [a0] h k kp
theorem tieR68_4 (D : Orc) (I : List Value → H → Prop) (K : Kl) (a0 : Value) (h : H) : round68_4 D I K a0 h = round Tryz.prog D (L68 D) lv68 (nthC (allLoops (bodyOf Tryz.f68)) 0) I K [a0] h := by kernel_rfl
theorem tieF68 (D : Orc) (a0 : Value) (h : H) (k : Kv) (kp : Kp) : F68 D a0 h k kp = bodyW Tryz.prog D (L68 D) lv68 Tryz.f68 [a0] h k kp := by kernel_rfl
theorem lfp68 : Lfps Tryz.prog (CS Tryz.prog) (L68 (CS Tryz.prog)) lv68 (allLoops (bodyOf Tryz.f68)) := by
  have e : (allLoops (bodyOf Tryz.f68)) = [nthC (allLoops (bodyOf Tryz.f68)) 0] := by kernel_rfl
  rw [e]
  exact ⟨(fun vs h K hk I H => hk I (fun a0 h hr => H _ _ ((tieR68_4 (CS Tryz.prog) I K a0 h) ▸ hr))), trivial⟩
theorem cl68 : Cl68 (CS Tryz.prog) := fun a0 h k kp hk =>
  fn_sound wide (fn := Tryz.f68) (by kernel_rfl) (by kernel_rfl) (by kernel_rfl) lfp68 (by rw [tieF68] at hk; exact hk)
def lv70 : Lv := Lv.mk 9 [.raw] (fun i => []) (fun i => []) [(3, .bool)] (fun i => none)
def L70 (D : Orc) : Lor := fun b vs h K => match firstId b with | some i => False | none => False
/-- lodestone/term.CheckSig$1 -/
def F70 (D : Orc) (a0 a1 : Value) (h : H) (k : Kv) (kp : Kp) : Prop :=
aggW a0 (fun l0 => newW h l0 (fun p1 h2 => ptrW p1 (fun ad3 => ∃ s4 : ByteArray, rd h2 (Addr.add ad3 0) = some (Value.string s4) ∧ ptrW a1 (fun ad5 => ∃ s6 : ByteArray, rd h2 (Addr.add ad5 0) = some (Value.string s6) ∧ k (Value.bool (s4.toList == s6.toList)) h2))))
def Cl70 (D : Orc) : Prop := ∀ a0 a1 h k kp, F70 D a0 a1 h k kp → D 70 [a0, a1] h k kp
theorem tieF70 (D : Orc) (a0 a1 : Value) (h : H) (k : Kv) (kp : Kp) : F70 D a0 a1 h k kp = bodyW Tryz.prog D (L70 D) lv70 Tryz.f70 [a0, a1] h k kp := by kernel_rfl
theorem lfp70 : Lfps Tryz.prog (CS Tryz.prog) (L70 (CS Tryz.prog)) lv70 (allLoops (bodyOf Tryz.f70)) := by
  have e : (allLoops (bodyOf Tryz.f70)) = [] := by kernel_rfl
  rw [e]
  exact trivial
theorem cl70 : Cl70 (CS Tryz.prog) := fun a0 a1 h k kp hk =>
  fn_sound wide (fn := Tryz.f70) (by kernel_rfl) (by kernel_rfl) (by kernel_rfl) lfp70 (by rw [tieF70] at hk; exact hk)
def lv71 : Lv := Lv.mk 21 [.str, .str] (fun i => []) (fun i => []) [(4, .bool)] (fun i => none)
def L71 (D : Orc) : Lor := fun b vs h K => match firstId b with | some i => False | none => False
/-- internal/stringslite.HasSuffix -/
def F71 (D : Orc) (a0 a1 : Value) (h : H) (k : Kv) (kp : Kp) : Prop :=
strW a0 (fun s0 => strW a1 (fun s1 => cond (decide ((s0.size : Int) ≥ (s1.size : Int))) (
strCutW s0 (some (IntKind.wrap IntKind.i64 ((s0.size : Int) - (s1.size : Int)))) none (fun s2 => k (Value.bool (s2.toList == s1.toList)) h)) (
k (Value.bool false) h)))
def Cl71 (D : Orc) : Prop := ∀ a0 a1 h k kp, F71 D a0 a1 h k kp → D 71 [a0, a1] h k kp
theorem tieF71 (D : Orc) (a0 a1 : Value) (h : H) (k : Kv) (kp : Kp) : F71 D a0 a1 h k kp = bodyW Tryz.prog D (L71 D) lv71 Tryz.f71 [a0, a1] h k kp := by kernel_rfl
theorem lfp71 : Lfps Tryz.prog (CS Tryz.prog) (L71 (CS Tryz.prog)) lv71 (allLoops (bodyOf Tryz.f71)) := by
  have e : (allLoops (bodyOf Tryz.f71)) = [] := by kernel_rfl
  rw [e]
  exact trivial
theorem cl71 : Cl71 (CS Tryz.prog) := fun a0 a1 h k kp hk =>
  fn_sound wide (fn := Tryz.f71) (by kernel_rfl) (by kernel_rfl) (by kernel_rfl) lfp71 (by rw [tieF71] at hk; exact hk)
def lv77 : Lv := Lv.mk 19 [.raw, .int IntKind.i64] (fun i => cond (Nat.beq i 2) ([(0, .raw), (1, .int IntKind.i64), (7, .int IntKind.i64), (8, .int IntKind.i64)]) ([])) (fun i => cond (Nat.beq i 2) ([(0, [])]) ([])) [(4, .int IntKind.i64)] (fun i => none)
def round77_2 (D : Orc) (I : List Value → H → Prop) (K : Kl) (a0 a1 a2 a3 : Value) (h2 : H) : Prop :=
intK IntKind.i64 a1 (fun x3 => intK IntKind.i64 a2 (fun x4 => intK IntKind.i64 a3 (fun x5 => cond (decide (x5 < x4)) (
slAtW a0 x5 1 (fun ad6 => ∃ x7 : Int, rd h2 ad6 = some (Value.int IntKind.i64 x7) ∧ cond (x3 == x7) (
K X.r [(Value.int IntKind.i64 x5)] h2) (
I [a0, (Value.int IntKind.i64 x3), (Value.int IntKind.i64 x4), (Value.int IntKind.i64 (IntKind.wrap IntKind.i64 (x5 + (1 : Int))))] h2))) (
K (X.e 0) [] h2))))
def loop77_2 (D : Orc) (vs : List Value) (h : H) (K : Kl) : Prop := ∀ I : List Value → H → Prop, (∀ a0 a1 a2 a3 h, round77_2 D I K a0 a1 a2 a3 h → I [a0, a1, a2, a3] h) → I vs h
def L77 (D : Orc) : Lor := fun b vs h K => match firstId b with | some i => cond (Nat.beq i 2) (loop77_2 D vs h K) (False) | none => False
/-- slices.Index[[]int,int] -/
def F77 (D : Orc) (a0 a1 : Value) (h : H) (k : Kv) (kp : Kp) : Prop :=
intK IntKind.i64 a1 (fun x0 => lenW a0 (fun n1 => loop77_2 D [a0, (Value.int IntKind.i64 x0), (Value.int IntKind.i64 (n1 : Int)), (Value.int IntKind.i64 (0 : Int))] h (fun x9 vs10 h8 => xs x9 (intK IntKind.i64 (nth vs10 0) (fun x12 => k (Value.int IntKind.i64 x12) h8)) (fun i11 => cond (Nat.beq i11 0) (
k (Value.int IntKind.i64 (-1 : Int)) h8) (False)) (fun c => kp c h8))))
def Cl77 (D : Orc) : Prop := ∀ a0 a1 h k kp, F77 D a0 a1 h k kp → D 77 [a0, a1] h k kp
theorem tieR77_2 (D : Orc) (I : List Value → H → Prop) (K : Kl) (a0 a1 a2 a3 : Value) (h : H) : round77_2 D I K a0 a1 a2 a3 h = round Tryz.prog D (L77 D) lv77 (nthC (allLoops (bodyOf Tryz.f77)) 0) I K [a0, a1, a2, a3] h := by kernel_rfl
theorem tieF77 (D : Orc) (a0 a1 : Value) (h : H) (k : Kv) (kp : Kp) : F77 D a0 a1 h k kp = bodyW Tryz.prog D (L77 D) lv77 Tryz.f77 [a0, a1] h k kp := by kernel_rfl
theorem lfp77 : Lfps Tryz.prog (CS Tryz.prog) (L77 (CS Tryz.prog)) lv77 (allLoops (bodyOf Tryz.f77)) := by
  have e : (allLoops (bodyOf Tryz.f77)) = [nthC (allLoops (bodyOf Tryz.f77)) 0] := by kernel_rfl
  rw [e]
  exact ⟨(fun vs h K hk I H => hk I (fun a0 a1 a2 a3 h hr => H _ _ ((tieR77_2 (CS Tryz.prog) I K a0 a1 a2 a3 h) ▸ hr))), trivial⟩
theorem cl77 : Cl77 (CS Tryz.prog) := fun a0 a1 h k kp hk =>
  fn_sound wide (fn := Tryz.f77) (by kernel_rfl) (by kernel_rfl) (by kernel_rfl) lfp77 (by rw [tieF77] at hk; exact hk)
def lv93 : Lv := Lv.mk 19 [.raw, .raw] (fun i => cond (Nat.beq i 2) ([(0, .raw), (1, .raw), (7, .int IntKind.i64), (8, .int IntKind.i64)]) ([])) (fun i => cond (Nat.beq i 2) ([(0, [])]) ([])) [(4, .int IntKind.i64)] (fun i => none)
def round93_2 (D : Orc) (I : List Value → H → Prop) (K : Kl) (a0 a1 a2 a3 : Value) (h1 : H) : Prop :=
intK IntKind.i64 a2 (fun x2 => intK IntKind.i64 a3 (fun x3 => cond (decide (x3 < x2)) (
slAtW a0 x3 2 (fun ad4 => ∃ s5 : ByteArray, ∃ x6 : Int, rdN h1 ad4 2 = some [(Value.string s5), (Value.int IntKind.i64 x6)] ∧ callV Tryz.prog D 4 a1 [(Value.agg #[(Value.string s5), (Value.int IntKind.i64 x6)])] h1 (fun v7 h8 => boolW v7 (fun t9 => cond t9 (
K X.r [(Value.int IntKind.i64 x3)] h8) (
I [a0, a1, (Value.int IntKind.i64 x2), (Value.int IntKind.i64 (IntKind.wrap IntKind.i64 (x3 + (1 : Int))))] h8))) (fun c h => K (X.p c) [] h))) (
K (X.e 0) [] h1)))
def loop93_2 (D : Orc) (vs : List Value) (h : H) (K : Kl) : Prop := ∀ I : List Value → H → Prop, (∀ a0 a1 a2 a3 h, round93_2 D I K a0 a1 a2 a3 h → I [a0, a1, a2, a3] h) → I vs h
def L93 (D : Orc) : Lor := fun b vs h K => match firstId b with | some i => cond (Nat.beq i 2) (loop93_2 D vs h K) (False) | none => False
/-- slices.IndexFunc[[]lodestone/api.Symbol,lodestone/api.Symbol] -/
def F93 (D : Orc) (a0 a1 : Value) (h : H) (k : Kv) (kp : Kp) : Prop :=
lenW a0 (fun n0 => loop93_2 D [a0, a1, (Value.int IntKind.i64 (n0 : Int)), (Value.int IntKind.i64 (0 : Int))] h (fun x11 vs12 h10 => xs x11 (intK IntKind.i64 (nth vs12 0) (fun x14 => k (Value.int IntKind.i64 x14) h10)) (fun i13 => cond (Nat.beq i13 0) (
k (Value.int IntKind.i64 (-1 : Int)) h10) (False)) (fun c => kp c h10)))
def Cl93 (D : Orc) : Prop := ∀ a0 a1 h k kp, F93 D a0 a1 h k kp → D 93 [a0, a1] h k kp
theorem tieR93_2 (D : Orc) (I : List Value → H → Prop) (K : Kl) (a0 a1 a2 a3 : Value) (h : H) : round93_2 D I K a0 a1 a2 a3 h = round Tryz.prog D (L93 D) lv93 (nthC (allLoops (bodyOf Tryz.f93)) 0) I K [a0, a1, a2, a3] h := by kernel_rfl
theorem tieF93 (D : Orc) (a0 a1 : Value) (h : H) (k : Kv) (kp : Kp) : F93 D a0 a1 h k kp = bodyW Tryz.prog D (L93 D) lv93 Tryz.f93 [a0, a1] h k kp := by kernel_rfl
theorem lfp93 : Lfps Tryz.prog (CS Tryz.prog) (L93 (CS Tryz.prog)) lv93 (allLoops (bodyOf Tryz.f93)) := by
  have e : (allLoops (bodyOf Tryz.f93)) = [nthC (allLoops (bodyOf Tryz.f93)) 0] := by kernel_rfl
  rw [e]
  exact ⟨(fun vs h K hk I H => hk I (fun a0 a1 a2 a3 h hr => H _ _ ((tieR93_2 (CS Tryz.prog) I K a0 a1 a2 a3 h) ▸ hr))), trivial⟩
theorem cl93 : Cl93 (CS Tryz.prog) := fun a0 a1 h k kp hk =>
  fn_sound wide (fn := Tryz.f93) (by kernel_rfl) (by kernel_rfl) (by kernel_rfl) lfp93 (by rw [tieF93] at hk; exact hk)
def lv112 : Lv := Lv.mk 36 [.raw, .raw] (fun i => []) (fun i => []) [(4, .raw), (5, .int IntKind.i64)] (fun i => cond (Nat.beq i 5) (some [(6, .raw), (7, .raw)]) (cond (Nat.beq i 4) (some [(6, .raw), (7, .raw), (27, .bool)]) (none)))
def j112__5 (D : Orc) (k : Kv) (kp : Kp) (a0 a1 : Value) (h14 : H) : Prop :=
nonNil a0 = true ∧ ptrW a0 (fun ad15 => ∃ x16 : Int, rd h14 (Addr.add ad15 3) = some (Value.int IntKind.i64 x16) ∧ k (Value.tuple #[a1, (Value.int IntKind.i64 x16)]) h14)
def j112__4 (D : Orc) (k : Kv) (kp : Kp) (a0 a1 a2 : Value) (h10 : H) : Prop :=
boolW a2 (fun t11 => cond t11 (
nonNil a0 = true ∧ ptrW a0 (fun ad12 => one (Value.int IntKind.i64 (32 : Int)) = true ∧ 1 = 1 ∧ ∃ h13, wr1 h10 (Addr.add ad12 3) (Value.int IntKind.i64 (32 : Int)) = some h13 ∧ j112__5 D k kp a0 a1 h13)) (
j112__5 D k kp a0 a1 h10))
def L112 (D : Orc) : Lor := fun b vs h K => match firstId b with | some i => False | none => False
/-- lodestone/term.grown -/
def F112 (D : Orc) (a0 a1 : Value) (h : H) (k : Kv) (kp : Kp) : Prop :=
one a0 = true ∧ 0 < 4 ∧ one a1 = true ∧ 1 < 4 ∧ newW h [a0, a1, (Value.int IntKind.i64 (0 : Int)), (Value.int IntKind.i64 (0 : Int))] (fun p0 h1 => D 117 [p0] h1 (fun v2 h3 => ∃ v4 : Value, v2 = v4 ∧ nonNil p0 = true ∧ ptrW p0 (fun ad5 => ∃ x6 : Int, rd h3 (Addr.add ad5 3) = some (Value.int IntKind.i64 x6) ∧ cond (x6 == (0 : Int)) (
nonNil p0 = true ∧ ptrW p0 (fun ad7 => ∃ x8 : Int, rd h3 (Addr.add ad7 2) = some (Value.int IntKind.i64 x8) ∧ lenW a1 (fun n9 => j112__4 D k kp p0 v4 (Value.bool (decide (x8 < (n9 : Int)))) h3))) (
j112__4 D k kp p0 v4 (Value.bool false) h3))) kp)
def Cl112 (D : Orc) : Prop := ∀ a0 a1 h k kp, F112 D a0 a1 h k kp → D 112 [a0, a1] h k kp
theorem tieF112 (D : Orc) (a0 a1 : Value) (h : H) (k : Kv) (kp : Kp) : F112 D a0 a1 h k kp = bodyW Tryz.prog D (L112 D) lv112 Tryz.f112 [a0, a1] h k kp := by kernel_rfl
theorem lfp112 : Lfps Tryz.prog (CS Tryz.prog) (L112 (CS Tryz.prog)) lv112 (allLoops (bodyOf Tryz.f112)) := by
  have e : (allLoops (bodyOf Tryz.f112)) = [] := by kernel_rfl
  rw [e]
  exact trivial
theorem cl112 : Cl112 (CS Tryz.prog) := fun a0 a1 h k kp hk =>
  fn_sound wide (fn := Tryz.f112) (by kernel_rfl) (by kernel_rfl) (by kernel_rfl) lfp112 (by rw [tieF112] at hk; exact hk)
def lv89 : Lv := Lv.mk 35 [.str] (fun i => cond (Nat.beq i 4) ([(18, .raw)]) ([])) (fun i => cond (Nat.beq i 4) ([(0, [])]) ([])) [(2, .bool)] (fun i => cond (Nat.beq i 2) (some [(0, .str), (16, .bool)]) (cond (Nat.beq i 7) (some [(18, .raw), (34, .bool)]) (none)))
def j89_4_7 (D : Orc) (I : List Value → H → Prop) (K : Kl) (a0 a1 : Value) (h24 : H) : Prop :=
boolW a1 (fun t25 => cond t25 (
K X.r [(Value.bool false)] h24) (
I [a0] h24))
def round89_4 (D : Orc) (I : List Value → H → Prop) (K : Kl) (a0 : Value) (h9 : H) : Prop :=
ptrW a0 (fun ad10 => nextW h9 ad10 (fun v11 h12 => extractW v11 0 (fun v13 => boolW v13 (fun t14 => cond t14 (
extractW v11 1 (fun v15 => extractW v11 2 (fun v16 => intK IntKind.i64 v15 (fun x17 => cond (x17 == (0 : Int)) (
D 106 [v16] h12 (fun v18 h19 => ∃ t20 : Bool, v18 = (Value.bool t20) ∧ cond (!(!t20)) (
D 107 [v16] h19 (fun v21 h22 => ∃ t23 : Bool, v21 = (Value.bool t23) ∧ j89_4_7 D I K a0 (Value.bool (!t23)) h22) (fun c h => K (X.p c) [] h)) (
j89_4_7 D I K a0 (Value.bool true) h19)) (fun c h => K (X.p c) [] h)) (
D 107 [v16] h12 (fun v26 h27 => ∃ t28 : Bool, v26 = (Value.bool t28) ∧ j89_4_7 D I K a0 (Value.bool (!t28)) h27) (fun c h => K (X.p c) [] h)))))) (
K (X.e 0) [] h12)))))
def loop89_4 (D : Orc) (vs : List Value) (h : H) (K : Kl) : Prop := ∀ I : List Value → H → Prop, (∀ a0 h, round89_4 D I K a0 h → I [a0] h) → I vs h
def j89__2 (D : Orc) (k : Kv) (kp : Kp) (a0 a1 : Value) (h4 : H) : Prop :=
strW a0 (fun s5 => boolW a1 (fun t6 => cond t6 (
k (Value.bool false) h4) (
newIt h4 s5 (fun p7 h8 => loop89_4 D [p7] h8 (fun x30 vs31 h29 => xs x30 (boolW (nth vs31 0) (fun t33 => k (Value.bool t33) h29)) (fun i32 => cond (Nat.beq i32 0) (
k (Value.bool true) h29) (False)) (fun c => kp c h29))))))
def L89 (D : Orc) : Lor := fun b vs h K => match firstId b with | some i => cond (Nat.beq i 4) (loop89_4 D vs h K) (False) | none => False
/-- lodestone/lodestoneref03.Name -/
def F89 (D : Orc) (a0 : Value) (h : H) (k : Kv) (kp : Kp) : Prop :=
strW a0 (fun s0 => cond (!(s0.toList == (ByteArray.mk #[]).toList)) (
cond (!(decide ((s0.size : Int) > (32 : Int)))) (
D 105 [(Value.string s0)] h (fun v1 h2 => ∃ t3 : Bool, v1 = (Value.bool t3) ∧ j89__2 D k kp (Value.string s0) (Value.bool (!t3)) h2) kp) (
j89__2 D k kp (Value.string s0) (Value.bool true) h)) (
j89__2 D k kp (Value.string s0) (Value.bool true) h))
def Cl89 (D : Orc) : Prop := ∀ a0 h k kp, F89 D a0 h k kp → D 89 [a0] h k kp
theorem tieR89_4 (D : Orc) (I : List Value → H → Prop) (K : Kl) (a0 : Value) (h : H) : round89_4 D I K a0 h = round Tryz.prog D (L89 D) lv89 (nthC (allLoops (bodyOf Tryz.f89)) 0) I K [a0] h := by kernel_rfl
theorem tieF89 (D : Orc) (a0 : Value) (h : H) (k : Kv) (kp : Kp) : F89 D a0 h k kp = bodyW Tryz.prog D (L89 D) lv89 Tryz.f89 [a0] h k kp := by kernel_rfl
theorem lfp89 : Lfps Tryz.prog (CS Tryz.prog) (L89 (CS Tryz.prog)) lv89 (allLoops (bodyOf Tryz.f89)) := by
  have e : (allLoops (bodyOf Tryz.f89)) = [nthC (allLoops (bodyOf Tryz.f89)) 0] := by kernel_rfl
  rw [e]
  exact ⟨(fun vs h K hk I H => hk I (fun a0 h hr => H _ _ ((tieR89_4 (CS Tryz.prog) I K a0 h) ▸ hr))), trivial⟩
theorem cl89 : Cl89 (CS Tryz.prog) := fun a0 h k kp hk =>
  fn_sound wide (fn := Tryz.f89) (by kernel_rfl) (by kernel_rfl) (by kernel_rfl) lfp89 (by rw [tieF89] at hk; exact hk)
def lv100 : Lv := Lv.mk 17 [.raw, .raw] (fun i => []) (fun i => []) [(4, .raw), (5, .int IntKind.i64)] (fun i => none)
def L100 (D : Orc) : Lor := fun b vs h K => match firstId b with | some i => False | none => False
/-- lodestone/term.tree -/
def F100 (D : Orc) (a0 a1 : Value) (h : H) (k : Kv) (kp : Kp) : Prop :=
D 43 [a0] h (fun v0 h1 => ∃ x2 : Int, v0 = (Value.int IntKind.i64 x2) ∧ cond (x2 != (0 : Int)) (
k (Value.tuple #[Value.nilIface, (Value.int IntKind.i64 x2)]) h1) (
D 112 [a0, a1] h1 (fun v3 h4 => ∃ v5 : Value, ∃ x6 : Int, v3 = (Value.tuple #[v5, (Value.int IntKind.i64 x6)]) ∧ k (Value.tuple #[v5, (Value.int IntKind.i64 x6)]) h4) kp)) kp
def Cl100 (D : Orc) : Prop := ∀ a0 a1 h k kp, F100 D a0 a1 h k kp → D 100 [a0, a1] h k kp
theorem tieF100 (D : Orc) (a0 a1 : Value) (h : H) (k : Kv) (kp : Kp) : F100 D a0 a1 h k kp = bodyW Tryz.prog D (L100 D) lv100 Tryz.f100 [a0, a1] h k kp := by kernel_rfl
theorem lfp100 : Lfps Tryz.prog (CS Tryz.prog) (L100 (CS Tryz.prog)) lv100 (allLoops (bodyOf Tryz.f100)) := by
  have e : (allLoops (bodyOf Tryz.f100)) = [] := by kernel_rfl
  rw [e]
  exact trivial
theorem cl100 : Cl100 (CS Tryz.prog) := fun a0 a1 h k kp hk =>
  fn_sound wide (fn := Tryz.f100) (by kernel_rfl) (by kernel_rfl) (by kernel_rfl) lfp100 (by rw [tieF100] at hk; exact hk)
def lv92 : Lv := Lv.mk 21 [.int IntKind.i32] (fun i => []) (fun i => []) [(2, .bool)] (fun i => none)
def L92 (D : Orc) : Lor := fun b vs h K => match firstId b with | some i => False | none => False
/-- lodestone/term.letter -/
def F92 (D : Orc) (a0 : Value) (h : H) (k : Kv) (kp : Kp) : Prop :=
intK IntKind.i32 a0 (fun x0 => cond (decide ((97 : Int) ≤ x0)) (
cond (!(decide (x0 ≤ (122 : Int)))) (
cond (decide ((65 : Int) ≤ x0)) (
cond (!(decide (x0 ≤ (90 : Int)))) (
k (Value.bool (decide (x0 ≥ (128 : Int)))) h) (
k (Value.bool true) h)) (
k (Value.bool (decide (x0 ≥ (128 : Int)))) h)) (
k (Value.bool true) h)) (
cond (decide ((65 : Int) ≤ x0)) (
cond (!(decide (x0 ≤ (90 : Int)))) (
k (Value.bool (decide (x0 ≥ (128 : Int)))) h) (
k (Value.bool true) h)) (
k (Value.bool (decide (x0 ≥ (128 : Int)))) h)))
def Cl92 (D : Orc) : Prop := ∀ a0 h k kp, F92 D a0 h k kp → D 92 [a0] h k kp
theorem tieF92 (D : Orc) (a0 : Value) (h : H) (k : Kv) (kp : Kp) : F92 D a0 h k kp = bodyW Tryz.prog D (L92 D) lv92 Tryz.f92 [a0] h k kp := by kernel_rfl
theorem lfp92 : Lfps Tryz.prog (CS Tryz.prog) (L92 (CS Tryz.prog)) lv92 (allLoops (bodyOf Tryz.f92)) := by
  have e : (allLoops (bodyOf Tryz.f92)) = [] := by kernel_rfl
  rw [e]
  exact trivial
theorem cl92 : Cl92 (CS Tryz.prog) := fun a0 h k kp hk =>
  fn_sound wide (fn := Tryz.f92) (by kernel_rfl) (by kernel_rfl) (by kernel_rfl) lfp92 (by rw [tieF92] at hk; exact hk)
def lv117 : Lv := Lv.mk 114 [.raw] (fun i => cond (Nat.beq i 16) ([(0, .raw), (4, .raw), (87, .int IntKind.i64), (88, .int IntKind.i64)]) ([])) (fun i => cond (Nat.beq i 16) ([(2, [(4, .raw)])]) ([])) [(2, .raw)] (fun i => cond (Nat.beq i 8) (some [(0, .raw), (3, .int IntKind.i64), (38, .bool)]) (none))
def round117_16 (D : Orc) (I : List Value → H → Prop) (K : Kl) (a0 a1 a2 a3 : Value) (h39 : H) : Prop :=
intK IntKind.i64 a2 (fun x40 => intK IntKind.i64 a3 (fun x41 => cond (decide (x41 < x40)) (
D 117 [a0] h39 (fun v42 h43 => ∃ v44 : Value, v42 = v44 ∧ nonNil a1 = true ∧ ptrW a1 (fun ad45 => ∃ v46 : Value, rd h43 (Addr.add ad45 2) = some v46 ∧ one v44 = true ∧ 0 < 1 ∧ newSl h43 1 [v44] (fun s47 h48 => slenW s47 (fun n49 => srcW h48 1 s47 (n49) (fun w50 => apW h48 1 16 [Value.nilIface] v46 (n49) w50 (fun s51 h52 => nonNil a1 = true ∧ ptrW a1 (fun ad53 => one s51 = true ∧ 1 = 1 ∧ ∃ h54, wr1 h52 (Addr.add ad53 2) s51 = some h54 ∧ nonNil a1 = true ∧ ptrW a1 (fun ad55 => ∃ x56 : Int, rd h54 (Addr.add ad55 1) = some (Value.int IntKind.i64 x56) ∧ invW Tryz.prog D 3 v44 "lodestone/term.size" [] h54 (fun v57 h58 => (rd h58 (Addr.add ad55 1) = some (Value.int IntKind.i64 x56)) ∧ intK IntKind.i64 v57 (fun x59 => nonNil a1 = true ∧ ptrW a1 (fun ad60 => one (Value.int IntKind.i64 (IntKind.wrap IntKind.i64 (x56 + x59))) = true ∧ 1 = 1 ∧ ∃ h61, wr1 h58 (Addr.add ad60 1) (Value.int IntKind.i64 (IntKind.wrap IntKind.i64 (x56 + x59))) = some h61 ∧ I [a0, a1, (Value.int IntKind.i64 x40), (Value.int IntKind.i64 (IntKind.wrap IntKind.i64 (x41 + (1 : Int))))] h61))) (fun c h => K (X.p c) [] h))))))))) (fun c h => K (X.p c) [] h)) (
K (X.e 2) [a1] h39)))
def loop117_16 (D : Orc) (vs : List Value) (h : H) (K : Kl) : Prop := ∀ I : List Value → H → Prop, (∀ a0 a1 a2 a3 h, round117_16 D I K a0 a1 a2 a3 h → I [a0, a1, a2, a3] h) → I vs h
def j117__8 (D : Orc) (k : Kv) (kp : Kp) (a0 a1 a2 : Value) (h18 : H) : Prop :=
intK IntKind.i64 a1 (fun x19 => boolW a2 (fun t20 => cond t20 (
nonNil a0 = true ∧ ptrW a0 (fun ad21 => one (Value.int IntKind.i64 (30 : Int)) = true ∧ 1 = 1 ∧ ∃ h22, wr1 h18 (Addr.add ad21 3) (Value.int IntKind.i64 (30 : Int)) = some h22 ∧ k (Value.iface 179 (Value.int IntKind.i64 (0 : Int))) h22)) (
cond (decide (x19 < (0 : Int))) (
nonNil a0 = true ∧ ptrW a0 (fun ad23 => ∃ x24 : Int, rd h18 (Addr.add ad23 2) = some (Value.int IntKind.i64 x24) ∧ nonNil a0 = true ∧ ptrW a0 (fun ad25 => one (Value.int IntKind.i64 (IntKind.wrap IntKind.i64 (x24 + (1 : Int)))) = true ∧ 1 = 1 ∧ ∃ h26, wr1 h18 (Addr.add ad25 2) (Value.int IntKind.i64 (IntKind.wrap IntKind.i64 (x24 + (1 : Int)))) = some h26 ∧ k (Value.iface 179 (Value.int IntKind.i64 (IntKind.wrap IntKind.i64 ((-1 : Int) - x19)))) h26))) (
nonNil a0 = true ∧ ptrW a0 (fun ad27 => ∃ x28 : Int, rd h18 (Addr.add ad27 2) = some (Value.int IntKind.i64 x28) ∧ one (Value.int IntKind.i64 x28) = true ∧ 0 < 3 ∧ one (Value.int IntKind.i64 (1 : Int)) = true ∧ 1 < 3 ∧ newW h18 [(Value.int IntKind.i64 x28), (Value.int IntKind.i64 (1 : Int)), (Value.slice none 0 0)] (fun p29 h30 => nonNil a0 = true ∧ ptrW a0 (fun ad31 => ∃ x32 : Int, rd h30 (Addr.add ad31 2) = some (Value.int IntKind.i64 x32) ∧ nonNil a0 = true ∧ ptrW a0 (fun ad33 => one (Value.int IntKind.i64 (IntKind.wrap IntKind.i64 (x32 + (1 : Int)))) = true ∧ 1 = 1 ∧ ∃ h34, wr1 h30 (Addr.add ad33 2) (Value.int IntKind.i64 (IntKind.wrap IntKind.i64 (x32 + (1 : Int)))) = some h34 ∧ nonNil a0 = true ∧ ptrW a0 (fun ad35 => ∃ v36 : Value, rd h34 (Addr.add ad35 0) = some v36 ∧ slAtW v36 x19 2 (fun ad37 => ∃ x38 : Int, rd h34 (Addr.add ad37 1) = some (Value.int IntKind.i64 x38) ∧ loop117_16 D [a0, p29, (Value.int IntKind.i64 x38), (Value.int IntKind.i64 (0 : Int))] h34 (fun x63 vs64 h62 => xs x63 (k (nth vs64 0) h62) (fun i65 => cond (Nat.beq i65 2) (
k (Value.iface 130 (nth vs64 0)) h62) (False)) (fun c => kp c h62))))))))))))
def L117 (D : Orc) : Lor := fun b vs h K => match firstId b with | some i => cond (Nat.beq i 16) (loop117_16 D vs h K) (False) | none => False
/-- (*lodestone/term.reader).read -/
def F117 (D : Orc) (a0 : Value) (h : H) (k : Kv) (kp : Kp) : Prop :=
nonNil a0 = true ∧ ptrW a0 (fun ad0 => ∃ x1 : Int, rd h (Addr.add ad0 3) = some (Value.int IntKind.i64 x1) ∧ cond (x1 != (0 : Int)) (
k (Value.iface 179 (Value.int IntKind.i64 (0 : Int))) h) (
nonNil a0 = true ∧ ptrW a0 (fun ad2 => ∃ x3 : Int, rd h (Addr.add ad2 2) = some (Value.int IntKind.i64 x3) ∧ nonNil a0 = true ∧ ptrW a0 (fun ad4 => ∃ v5 : Value, rd h (Addr.add ad4 1) = some v5 ∧ lenW v5 (fun n6 => cond (x3 == (n6 : Int)) (
nonNil a0 = true ∧ ptrW a0 (fun ad7 => one (Value.int IntKind.i64 (31 : Int)) = true ∧ 1 = 1 ∧ ∃ h8, wr1 h (Addr.add ad7 3) (Value.int IntKind.i64 (31 : Int)) = some h8 ∧ k (Value.iface 179 (Value.int IntKind.i64 (0 : Int))) h8)) (
nonNil a0 = true ∧ ptrW a0 (fun ad9 => ∃ v10 : Value, rd h (Addr.add ad9 1) = some v10 ∧ nonNil a0 = true ∧ ptrW a0 (fun ad11 => ∃ x12 : Int, rd h (Addr.add ad11 2) = some (Value.int IntKind.i64 x12) ∧ slAtW v10 x12 1 (fun ad13 => ∃ x14 : Int, rd h ad13 = some (Value.int IntKind.i64 x14) ∧ nonNil a0 = true ∧ ptrW a0 (fun ad15 => ∃ v16 : Value, rd h (Addr.add ad15 0) = some v16 ∧ lenW v16 (fun n17 => cond (!(decide (x14 ≥ (n17 : Int)))) (
j117__8 D k kp a0 (Value.int IntKind.i64 x14) (Value.bool (decide (x14 < (-1048576 : Int)))) h) (
j117__8 D k kp a0 (Value.int IntKind.i64 x14) (Value.bool true) h))))))))))))
def Cl117 (D : Orc) : Prop := ∀ a0 h k kp, F117 D a0 h k kp → D 117 [a0] h k kp
theorem tieR117_16 (D : Orc) (I : List Value → H → Prop) (K : Kl) (a0 a1 a2 a3 : Value) (h : H) : round117_16 D I K a0 a1 a2 a3 h = round Tryz.prog D (L117 D) lv117 (nthC (allLoops (bodyOf Tryz.f117)) 0) I K [a0, a1, a2, a3] h := by kernel_rfl
theorem tieF117 (D : Orc) (a0 : Value) (h : H) (k : Kv) (kp : Kp) : F117 D a0 h k kp = bodyW Tryz.prog D (L117 D) lv117 Tryz.f117 [a0] h k kp := by kernel_rfl
theorem lfp117 : Lfps Tryz.prog (CS Tryz.prog) (L117 (CS Tryz.prog)) lv117 (allLoops (bodyOf Tryz.f117)) := by
  have e : (allLoops (bodyOf Tryz.f117)) = [nthC (allLoops (bodyOf Tryz.f117)) 0] := by kernel_rfl
  rw [e]
  exact ⟨(fun vs h K hk I H => hk I (fun a0 a1 a2 a3 h hr => H _ _ ((tieR117_16 (CS Tryz.prog) I K a0 a1 a2 a3 h) ▸ hr))), trivial⟩
theorem cl117 : Cl117 (CS Tryz.prog) := fun a0 h k kp hk =>
  fn_sound wide (fn := Tryz.f117) (by kernel_rfl) (by kernel_rfl) (by kernel_rfl) lfp117 (by rw [tieF117] at hk; exact hk)
def lv105 : Lv := Lv.mk 18 [.str] (fun i => cond (Nat.beq i 3) ([(0, .str), (3, .str), (7, .raw)]) ([])) (fun i => cond (Nat.beq i 3) ([(0, [(0, .str), (3, .str)])]) ([])) [(2, .bool)] (fun i => none)
def round105_3 (D : Orc) (I : List Value → H → Prop) (K : Kl) (a0 a1 a2 : Value) (h3 : H) : Prop :=
strW a0 (fun s4 => strW a1 (fun s5 => ptrW a2 (fun ad6 => nextW h3 ad6 (fun v7 h8 => extractW v7 0 (fun v9 => boolW v9 (fun t10 => cond t10 (
extractW v7 2 (fun v11 => intW v11 (fun _ x12 => s5.size + (Utf8.encode x12).size ≤ 9223372036854775807 ∧ I [(Value.string s4), (Value.string (s5 ++ (Utf8.encode x12))), a2] h8))) (
K (X.e 0) [(Value.string s4), (Value.string s5)] h8)))))))
def loop105_3 (D : Orc) (vs : List Value) (h : H) (K : Kl) : Prop := ∀ I : List Value → H → Prop, (∀ a0 a1 a2 h, round105_3 D I K a0 a1 a2 h → I [a0, a1, a2] h) → I vs h
def L105 (D : Orc) : Lor := fun b vs h K => match firstId b with | some i => cond (Nat.beq i 3) (loop105_3 D vs h K) (False) | none => False
/-- lodestone/lodestoneref03.good -/
def F105 (D : Orc) (a0 : Value) (h : H) (k : Kv) (kp : Kp) : Prop :=
strW a0 (fun s0 => newIt h s0 (fun p1 h2 => loop105_3 D [(Value.string s0), (Value.string (ByteArray.mk #[])), p1] h2 (fun x14 vs15 h13 => xs x14 (boolW (nth vs15 0) (fun t17 => k (Value.bool t17) h13)) (fun i16 => cond (Nat.beq i16 0) (
strW (nth vs15 0) (fun s18 => strW (nth vs15 1) (fun s19 => k (Value.bool (s19.toList == s18.toList)) h13))) (False)) (fun c => kp c h13))))
def Cl105 (D : Orc) : Prop := ∀ a0 h k kp, F105 D a0 h k kp → D 105 [a0] h k kp
theorem tieR105_3 (D : Orc) (I : List Value → H → Prop) (K : Kl) (a0 a1 a2 : Value) (h : H) : round105_3 D I K a0 a1 a2 h = round Tryz.prog D (L105 D) lv105 (nthC (allLoops (bodyOf Tryz.f105)) 0) I K [a0, a1, a2] h := by kernel_rfl
theorem tieF105 (D : Orc) (a0 : Value) (h : H) (k : Kv) (kp : Kp) : F105 D a0 h k kp = bodyW Tryz.prog D (L105 D) lv105 Tryz.f105 [a0] h k kp := by kernel_rfl
theorem lfp105 : Lfps Tryz.prog (CS Tryz.prog) (L105 (CS Tryz.prog)) lv105 (allLoops (bodyOf Tryz.f105)) := by
  have e : (allLoops (bodyOf Tryz.f105)) = [nthC (allLoops (bodyOf Tryz.f105)) 0] := by kernel_rfl
  rw [e]
  exact ⟨(fun vs h K hk I H => hk I (fun a0 a1 a2 h hr => H _ _ ((tieR105_3 (CS Tryz.prog) I K a0 a1 a2 h) ▸ hr))), trivial⟩
theorem cl105 : Cl105 (CS Tryz.prog) := fun a0 h k kp hk =>
  fn_sound wide (fn := Tryz.f105) (by kernel_rfl) (by kernel_rfl) (by kernel_rfl) lfp105 (by rw [tieF105] at hk; exact hk)
def lv106 : Lv := Lv.mk 21 [.int IntKind.i32] (fun i => []) (fun i => []) [(2, .bool)] (fun i => none)
def L106 (D : Orc) : Lor := fun b vs h K => match firstId b with | some i => False | none => False
/-- lodestone/lodestoneref03.letter -/
def F106 (D : Orc) (a0 : Value) (h : H) (k : Kv) (kp : Kp) : Prop :=
intK IntKind.i32 a0 (fun x0 => cond (decide (x0 ≥ (97 : Int))) (
cond (!(decide (x0 ≤ (122 : Int)))) (
cond (decide (x0 ≥ (65 : Int))) (
cond (!(decide (x0 ≤ (90 : Int)))) (
k (Value.bool (decide (x0 ≥ (128 : Int)))) h) (
k (Value.bool true) h)) (
k (Value.bool (decide (x0 ≥ (128 : Int)))) h)) (
k (Value.bool true) h)) (
cond (decide (x0 ≥ (65 : Int))) (
cond (!(decide (x0 ≤ (90 : Int)))) (
k (Value.bool (decide (x0 ≥ (128 : Int)))) h) (
k (Value.bool true) h)) (
k (Value.bool (decide (x0 ≥ (128 : Int)))) h)))
def Cl106 (D : Orc) : Prop := ∀ a0 h k kp, F106 D a0 h k kp → D 106 [a0] h k kp
theorem tieF106 (D : Orc) (a0 : Value) (h : H) (k : Kv) (kp : Kp) : F106 D a0 h k kp = bodyW Tryz.prog D (L106 D) lv106 Tryz.f106 [a0] h k kp := by kernel_rfl
theorem lfp106 : Lfps Tryz.prog (CS Tryz.prog) (L106 (CS Tryz.prog)) lv106 (allLoops (bodyOf Tryz.f106)) := by
  have e : (allLoops (bodyOf Tryz.f106)) = [] := by kernel_rfl
  rw [e]
  exact trivial
theorem cl106 : Cl106 (CS Tryz.prog) := fun a0 h k kp hk =>
  fn_sound wide (fn := Tryz.f106) (by kernel_rfl) (by kernel_rfl) (by kernel_rfl) lfp106 (by rw [tieF106] at hk; exact hk)
def lv107 : Lv := Lv.mk 21 [.int IntKind.i32] (fun i => []) (fun i => []) [(2, .bool)] (fun i => none)
def L107 (D : Orc) : Lor := fun b vs h K => match firstId b with | some i => False | none => False
/-- lodestone/lodestoneref03.more -/
def F107 (D : Orc) (a0 : Value) (h : H) (k : Kv) (kp : Kp) : Prop :=
intK IntKind.i32 a0 (fun x0 => D 106 [(Value.int IntKind.i32 x0)] h (fun v1 h2 => ∃ t3 : Bool, v1 = (Value.bool t3) ∧ cond (!t3) (
cond (decide (x0 ≥ (48 : Int))) (
cond (!(decide (x0 ≤ (57 : Int)))) (
cond (!(x0 == (95 : Int))) (
k (Value.bool (x0 == (39 : Int))) h2) (
k (Value.bool true) h2)) (
k (Value.bool true) h2)) (
cond (!(x0 == (95 : Int))) (
k (Value.bool (x0 == (39 : Int))) h2) (
k (Value.bool true) h2))) (
k (Value.bool true) h2)) kp)
def Cl107 (D : Orc) : Prop := ∀ a0 h k kp, F107 D a0 h k kp → D 107 [a0] h k kp
theorem tieF107 (D : Orc) (a0 : Value) (h : H) (k : Kv) (kp : Kp) : F107 D a0 h k kp = bodyW Tryz.prog D (L107 D) lv107 Tryz.f107 [a0] h k kp := by kernel_rfl
theorem lfp107 : Lfps Tryz.prog (CS Tryz.prog) (L107 (CS Tryz.prog)) lv107 (allLoops (bodyOf Tryz.f107)) := by
  have e : (allLoops (bodyOf Tryz.f107)) = [] := by kernel_rfl
  rw [e]
  exact trivial
theorem cl107 : Cl107 (CS Tryz.prog) := fun a0 h k kp hk =>
  fn_sound wide (fn := Tryz.f107) (by kernel_rfl) (by kernel_rfl) (by kernel_rfl) lfp107 (by rw [tieF107] at hk; exact hk)
def lv151 : Lv := Lv.mk 7 [.raw] (fun i => []) (fun i => []) [(2, .int IntKind.i64)] (fun i => none)
def L151 (D : Orc) : Lor := fun b vs h K => match firstId b with | some i => False | none => False
/-- (*lodestone/term.inner).size -/
def F151 (D : Orc) (a0 : Value) (h : H) (k : Kv) (kp : Kp) : Prop :=
nonNil a0 = true ∧ ptrW a0 (fun ad0 => ∃ x1 : Int, rd h (Addr.add ad0 1) = some (Value.int IntKind.i64 x1) ∧ k (Value.int IntKind.i64 x1) h)
def Cl151 (D : Orc) : Prop := ∀ a0 h k kp, F151 D a0 h k kp → D 151 [a0] h k kp
theorem tieF151 (D : Orc) (a0 : Value) (h : H) (k : Kv) (kp : Kp) : F151 D a0 h k kp = bodyW Tryz.prog D (L151 D) lv151 Tryz.f151 [a0] h k kp := by kernel_rfl
theorem lfp151 : Lfps Tryz.prog (CS Tryz.prog) (L151 (CS Tryz.prog)) lv151 (allLoops (bodyOf Tryz.f151)) := by
  have e : (allLoops (bodyOf Tryz.f151)) = [] := by kernel_rfl
  rw [e]
  exact trivial
theorem cl151 : Cl151 (CS Tryz.prog) := fun a0 h k kp hk =>
  fn_sound wide (fn := Tryz.f151) (by kernel_rfl) (by kernel_rfl) (by kernel_rfl) lfp151 (by rw [tieF151] at hk; exact hk)
def lv154 : Lv := Lv.mk 3 [.int IntKind.i64] (fun i => []) (fun i => []) [(2, .int IntKind.i64)] (fun i => none)
def L154 (D : Orc) : Lor := fun b vs h K => match firstId b with | some i => False | none => False
/-- (lodestone/term.leaf).size -/
def F154 (D : Orc) (a0 : Value) (h : H) (k : Kv) (kp : Kp) : Prop :=
intK IntKind.i64 a0 (fun x0 => k (Value.int IntKind.i64 (1 : Int)) h)
def Cl154 (D : Orc) : Prop := ∀ a0 h k kp, F154 D a0 h k kp → D 154 [a0] h k kp
theorem tieF154 (D : Orc) (a0 : Value) (h : H) (k : Kv) (kp : Kp) : F154 D a0 h k kp = bodyW Tryz.prog D (L154 D) lv154 Tryz.f154 [a0] h k kp := by kernel_rfl
theorem lfp154 : Lfps Tryz.prog (CS Tryz.prog) (L154 (CS Tryz.prog)) lv154 (allLoops (bodyOf Tryz.f154)) := by
  have e : (allLoops (bodyOf Tryz.f154)) = [] := by kernel_rfl
  rw [e]
  exact trivial
theorem cl154 : Cl154 (CS Tryz.prog) := fun a0 h k kp hk =>
  fn_sound wide (fn := Tryz.f154) (by kernel_rfl) (by kernel_rfl) (by kernel_rfl) lfp154 (by rw [tieF154] at hk; exact hk)
end Go.Proofs.YtnlhnlmnlfmojaaGreatDoor.Am
