/-
  Packed: 
-/
import Derived.Test.YtnlhnlmnlfmojaaGreatDoorAmFns
set_option linter.unusedVariables false
set_option linter.unusedSimpArgs false
set_option linter.unnecessarySimpa false
namespace Go.Proofs.YtnlhnlmnlfmojaaGreatDoor.Am
open Go Go.Proofs
set_option maxRecDepth 100000
set_option linter.unusedVariables false
def lv6 : Lv := Lv.mk 102 [] (fun i => []) (fun i => []) [(0, .bool)] (fun i => cond (Nat.beq i 5) (some [(1, .raw), (2, .raw), (4, .raw), (37, .bool)]) (cond (Nat.beq i 8) (some [(1, .raw), (2, .raw), (6, .raw), (7, .bool)]) (none)))
def j6__8 (D : Orc) (k : Kv) (kp : Kp) (a0 a1 a2 a3 : Value) (h45 : H) : Prop :=
boolW a3 (fun t46 => ptrW a0 (fun ad47 => ∃ v48 : Value, ∃ v49 : Value, rdN h45 ad47 2 = some [v48, v49] ∧ one (Value.int IntKind.i64 (5 : Int)) = true ∧ 0 < 4 ∧ one (Value.int IntKind.i64 (1 : Int)) = true ∧ 1 < 4 ∧ one (Value.int IntKind.i64 (-1 : Int)) = true ∧ 2 < 4 ∧ one (Value.int IntKind.i64 (0 : Int)) = true ∧ 3 < 4 ∧ newSl h45 4 [(Value.int IntKind.i64 (5 : Int)), (Value.int IntKind.i64 (1 : Int)), (Value.int IntKind.i64 (-1 : Int)), (Value.int IntKind.i64 (0 : Int))] (fun s50 h51 => one s50 = true ∧ 1 < 2 ∧ one (Value.int IntKind.i64 (5 : Int)) = true ∧ 0 < 3 ∧ one (Value.int IntKind.i64 (0 : Int)) = true ∧ 1 < 3 ∧ one (Value.int IntKind.i64 (-1 : Int)) = true ∧ 2 < 3 ∧ newSl h51 3 [(Value.int IntKind.i64 (5 : Int)), (Value.int IntKind.i64 (0 : Int)), (Value.int IntKind.i64 (-1 : Int))] (fun s52 h53 => one s52 = true ∧ 0 < 2 ∧ D 7 [(Value.agg #[v48, v49]), (Value.agg #[(Value.slice none 0 0), s50]), (Value.agg #[s52, (Value.slice none 0 0)])] h53 (fun v54 h55 => ∃ t56 : Bool, v54 = (Value.bool t56) ∧ ptrW a0 (fun ad57 => ∃ v58 : Value, ∃ v59 : Value, rdN h55 ad57 2 = some [v58, v59] ∧ one (Value.int IntKind.i64 (5 : Int)) = true ∧ 0 < 5 ∧ one (Value.int IntKind.i64 (2 : Int)) = true ∧ 1 < 5 ∧ one (Value.int IntKind.i64 (0 : Int)) = true ∧ 2 < 5 ∧ one (Value.int IntKind.i64 (0 : Int)) = true ∧ 3 < 5 ∧ one (Value.int IntKind.i64 (0 : Int)) = true ∧ 4 < 5 ∧ newSl h55 5 [(Value.int IntKind.i64 (5 : Int)), (Value.int IntKind.i64 (2 : Int)), (Value.int IntKind.i64 (0 : Int)), (Value.int IntKind.i64 (0 : Int)), (Value.int IntKind.i64 (0 : Int))] (fun s60 h61 => one s60 = true ∧ 1 < 2 ∧ one (Value.int IntKind.i64 (5 : Int)) = true ∧ 0 < 4 ∧ one (Value.int IntKind.i64 (1 : Int)) = true ∧ 1 < 4 ∧ one (Value.int IntKind.i64 (-1 : Int)) = true ∧ 2 < 4 ∧ one (Value.int IntKind.i64 (-2 : Int)) = true ∧ 3 < 4 ∧ newSl h61 4 [(Value.int IntKind.i64 (5 : Int)), (Value.int IntKind.i64 (1 : Int)), (Value.int IntKind.i64 (-1 : Int)), (Value.int IntKind.i64 (-2 : Int))] (fun s62 h63 => one s62 = true ∧ 0 < 2 ∧ D 7 [(Value.agg #[v58, v59]), (Value.agg #[(Value.slice none 0 0), s60]), (Value.agg #[s62, (Value.slice none 0 0)])] h63 (fun v64 h65 => ∃ t66 : Bool, v64 = (Value.bool t66) ∧ cond t46 (
slAtW a1 (5 : Int) 2 (fun ad67 => ∃ s68 : ByteArray, ∃ x69 : Int, rdN h65 ad67 2 = some [(Value.string s68), (Value.int IntKind.i64 x69)] ∧ one (Value.string (ByteArray.mk #[112, 108, 117, 115, 35])) = true ∧ 0 < 2 ∧ one (Value.int IntKind.i64 (2 : Int)) = true ∧ 1 < 2 ∧ cond ((s68.toList == (ByteArray.mk #[112, 108, 117, 115, 35]).toList) && ((x69 == (2 : Int)) && true)) (
lenW a2 (fun n70 => cond ((n70 : Int) == (1 : Int)) (
slAtW a2 (0 : Int) 1 (fun ad71 => ∃ v72 : Value, rd h65 ad71 = some v72 ∧ lenW v72 (fun n73 => cond ((n73 : Int) == (1 : Int)) (
slAtW a2 (0 : Int) 1 (fun ad74 => ∃ v75 : Value, rd h65 ad74 = some v75 ∧ slAtW v75 (0 : Int) 1 (fun ad76 => ∃ x77 : Int, rd h65 ad76 = some (Value.int IntKind.i64 x77) ∧ cond (x77 == (0 : Int)) (
cond (!t56) (
k (Value.bool t66) h65) (
k (Value.bool false) h65)) (
k (Value.bool false) h65)))) (
k (Value.bool false) h65)))) (
k (Value.bool false) h65))) (
k (Value.bool false) h65))) (
k (Value.bool false) h65)) kp)))) kp))))
def j6__5 (D : Orc) (k : Kv) (kp : Kp) (a0 a1 a2 a3 : Value) (h23 : H) : Prop :=
boolW a3 (fun t24 => cond t24 (
k (Value.bool false) h23) (
ptrW a0 (fun ad25 => ∃ v26 : Value, ∃ v27 : Value, rdN h23 ad25 2 = some [v26, v27] ∧ D 10 [(Value.agg #[v26, v27]), a2] h23 (fun v28 h29 => ∃ v30 : Value, v28 = v30 ∧ slAtW a2 (0 : Int) 2 (fun ad31 => ∃ v32 : Value, rd h29 (Addr.add ad31 0) = some v32 ∧ one (Value.int IntKind.i64 (5 : Int)) = true ∧ 0 < 4 ∧ one (Value.int IntKind.i64 (1 : Int)) = true ∧ 1 < 4 ∧ one (Value.int IntKind.i64 (-1 : Int)) = true ∧ 2 < 4 ∧ one (Value.int IntKind.i64 (-2 : Int)) = true ∧ 3 < 4 ∧ newSl h29 4 [(Value.int IntKind.i64 (5 : Int)), (Value.int IntKind.i64 (1 : Int)), (Value.int IntKind.i64 (-1 : Int)), (Value.int IntKind.i64 (-2 : Int))] (fun s33 h34 => D 12 [v32, s33] h34 (fun v35 h36 => ∃ t37 : Bool, v35 = (Value.bool t37) ∧ cond t37 (
slAtW a2 (0 : Int) 2 (fun ad38 => ∃ v39 : Value, rd h36 (Addr.add ad38 1) = some v39 ∧ one (Value.int IntKind.i64 (5 : Int)) = true ∧ 0 < 3 ∧ one (Value.int IntKind.i64 (-1 : Int)) = true ∧ 1 < 3 ∧ one (Value.int IntKind.i64 (-2 : Int)) = true ∧ 2 < 3 ∧ newSl h36 3 [(Value.int IntKind.i64 (5 : Int)), (Value.int IntKind.i64 (-1 : Int)), (Value.int IntKind.i64 (-2 : Int))] (fun s40 h41 => D 12 [v39, s40] h41 (fun v42 h43 => ∃ t44 : Bool, v42 = (Value.bool t44) ∧ j6__8 D k kp a0 a1 v30 (Value.bool t44) h43) kp))) (
j6__8 D k kp a0 a1 v30 (Value.bool false) h36)) kp))) kp)))
def L6 (D : Orc) : Lor := fun b vs h K => match firstId b with | some i => False | none => False
/-- lodestone/lodestonelaw13.shown -/
def F6 (D : Orc) (h : H) (k : Kv) (kp : Kp) : Prop :=
D 18 [] h (fun v0 h1 => ∃ v2 : Value, ∃ v3 : Value, v0 = (Value.agg #[v2, v3]) ∧ newW h1 [(Value.slice none 0 0), (Value.slice none 0 0)] (fun p4 h5 => ptrW p4 (fun ad6 => 2 = 2 ∧ List.all [v2, v3] one = true ∧ ∃ h7, wr h5 ad6 [v2, v3] = some h7 ∧ ptrW p4 (fun ad8 => ∃ v9 : Value, rd h7 (Addr.add ad8 0) = some v9 ∧ D 19 [v9] h7 (fun v10 h11 => ∃ v12 : Value, ∃ x13 : Int, v10 = (Value.tuple #[v12, (Value.int IntKind.i64 x13)]) ∧ ptrW p4 (fun ad14 => ∃ v15 : Value, ∃ v16 : Value, rdN h11 ad14 2 = some [v15, v16] ∧ D 20 [(Value.agg #[v15, v16])] h11 (fun v17 h18 => ∃ v19 : Value, ∃ x20 : Int, v17 = (Value.tuple #[v19, (Value.int IntKind.i64 x20)]) ∧ lenW v12 (fun n21 => cond (!((n21 : Int) != (6 : Int))) (
lenW v19 (fun n22 => cond (!((n22 : Int) != (1 : Int))) (
cond (!(x13 != (0 : Int))) (
j6__5 D k kp p4 v12 v19 (Value.bool (x20 != (0 : Int))) h18) (
j6__5 D k kp p4 v12 v19 (Value.bool true) h18)) (
j6__5 D k kp p4 v12 v19 (Value.bool true) h18))) (
j6__5 D k kp p4 v12 v19 (Value.bool true) h18))) kp)) kp)))) kp
def Cl6 (D : Orc) : Prop := ∀  h k kp, F6 D  h k kp → D 6 [] h k kp
theorem tieF6 (D : Orc) (h : H) (k : Kv) (kp : Kp) : F6 D  h k kp = bodyW Tryz.prog D (L6 D) lv6 Tryz.f6 [] h k kp := by kernel_rfl
theorem lfp6 : Lfps Tryz.prog (CS Tryz.prog) (L6 (CS Tryz.prog)) lv6 (allLoops (bodyOf Tryz.f6)) := by
  have e : (allLoops (bodyOf Tryz.f6)) = [] := by kernel_rfl
  rw [e]
  exact trivial
theorem cl6 : Cl6 (CS Tryz.prog) := fun  h k kp hk =>
  fn_sound wide (fn := Tryz.f6) (by kernel_rfl) (by kernel_rfl) (by kernel_rfl) lfp6 (by rw [tieF6] at hk; exact hk)
def lv19 : Lv := Lv.mk 38 [.raw] (fun i => cond (Nat.beq i 8) ([(5, .raw), (18, .raw), (19, .int IntKind.i64), (20, .int IntKind.i64)]) ([])) (fun i => cond (Nat.beq i 8) ([(0, [(5, .raw)])]) ([])) [(2, .raw), (3, .int IntKind.i64)] (fun i => none)
def round19_8 (D : Orc) (I : List Value → H → Prop) (K : Kl) (a0 a1 a2 a3 : Value) (h8 : H) : Prop :=
intK IntKind.i64 a2 (fun x9 => intK IntKind.i64 a3 (fun x10 => cond (decide (x10 < x9)) (
slAtW a1 x10 2 (fun ad11 => ∃ s12 : ByteArray, ∃ x13 : Int, rdN h8 ad11 2 = some [(Value.string s12), (Value.int IntKind.i64 x13)] ∧ newW h8 [(Value.string (ByteArray.mk #[])), (Value.int IntKind.i64 (0 : Int))] (fun p14 h15 => ptrW p14 (fun ad16 => 2 = 2 ∧ List.all [(Value.string s12), (Value.int IntKind.i64 x13)] one = true ∧ ∃ h17, wr h15 ad16 [(Value.string s12), (Value.int IntKind.i64 x13)] = some h17 ∧ ptrW p14 (fun ad18 => ∃ s19 : ByteArray, rd h17 (Addr.add ad18 0) = some (Value.string s19) ∧ D 45 [(Value.string s19), (Value.string (ByteArray.mk #[35]))] h17 (fun v20 h21 => ∃ t22 : Bool, v20 = (Value.bool t22) ∧ cond t22 (
K X.r [(Value.slice none 0 0), (Value.int IntKind.i64 (34 : Int))] h21) (
ptrW p14 (fun ad23 => ∃ s24 : ByteArray, rd h21 (Addr.add ad23 0) = some (Value.string s24) ∧ s24.size + (ByteArray.mk #[35]).size ≤ 9223372036854775807 ∧ ptrW p14 (fun ad25 => ∃ x26 : Int, rd h21 (Addr.add ad25 1) = some (Value.int IntKind.i64 x26) ∧ one (Value.string (s24 ++ (ByteArray.mk #[35]))) = true ∧ 0 < 2 ∧ one (Value.int IntKind.i64 x26) = true ∧ 1 < 2 ∧ 2 = 2 ∧ 0 + 2 ≤ 2 ∧ newSl h21 1 [(Value.string (s24 ++ (ByteArray.mk #[35]))), (Value.int IntKind.i64 x26)] (fun s27 h28 => slenW s27 (fun n29 => srcW h28 2 s27 (n29) (fun w30 => apW h28 2 24 [(Value.string (ByteArray.mk #[])), (Value.int IntKind.i64 (0 : Int))] a0 (n29) w30 (fun s31 h32 => I [s31, a1, (Value.int IntKind.i64 x9), (Value.int IntKind.i64 (IntKind.wrap IntKind.i64 (x10 + (1 : Int))))] h32)))))))) (fun c h => K (X.p c) [] h)))))) (
K (X.e 0) [a0] h8)))
def loop19_8 (D : Orc) (vs : List Value) (h : H) (K : Kl) : Prop := ∀ I : List Value → H → Prop, (∀ a0 a1 a2 a3 h, round19_8 D I K a0 a1 a2 a3 h → I [a0, a1, a2, a3] h) → I vs h
def L19 (D : Orc) : Lor := fun b vs h K => match firstId b with | some i => cond (Nat.beq i 8) (loop19_8 D vs h K) (False) | none => False
/-- lodestone/pairs.Extend -/
def F19 (D : Orc) (a0 : Value) (h : H) (k : Kv) (kp : Kp) : Prop :=
D 43 [a0] h (fun v0 h1 => ∃ x2 : Int, v0 = (Value.int IntKind.i64 x2) ∧ cond (x2 != (0 : Int)) (
k (Value.tuple #[(Value.slice none 0 0), (Value.int IntKind.i64 x2)]) h1) (
lenW a0 (fun n3 => cond (decide ((n3 : Int) > (64 : Int))) (
k (Value.tuple #[(Value.slice none 0 0), (Value.int IntKind.i64 (37 : Int))]) h1) (
D 44 [a0] h1 (fun v4 h5 => ∃ v6 : Value, v4 = v6 ∧ lenW a0 (fun n7 => loop19_8 D [v6, a0, (Value.int IntKind.i64 (n7 : Int)), (Value.int IntKind.i64 (0 : Int))] h5 (fun x34 vs35 h33 => xs x34 (intK IntKind.i64 (nth vs35 1) (fun x37 => k (Value.tuple #[(nth vs35 0), (Value.int IntKind.i64 x37)]) h33)) (fun i36 => cond (Nat.beq i36 0) (
k (Value.tuple #[(nth vs35 0), (Value.int IntKind.i64 (0 : Int))]) h33) (False)) (fun c => kp c h33)))) kp)))) kp
def Cl19 (D : Orc) : Prop := ∀ a0 h k kp, F19 D a0 h k kp → D 19 [a0] h k kp
theorem tieR19_8 (D : Orc) (I : List Value → H → Prop) (K : Kl) (a0 a1 a2 a3 : Value) (h : H) : round19_8 D I K a0 a1 a2 a3 h = round Tryz.prog D (L19 D) lv19 (nthC (allLoops (bodyOf Tryz.f19)) 0) I K [a0, a1, a2, a3] h := by kernel_rfl
theorem tieF19 (D : Orc) (a0 : Value) (h : H) (k : Kv) (kp : Kp) : F19 D a0 h k kp = bodyW Tryz.prog D (L19 D) lv19 Tryz.f19 [a0] h k kp := by kernel_rfl
theorem lfp19 : Lfps Tryz.prog (CS Tryz.prog) (L19 (CS Tryz.prog)) lv19 (allLoops (bodyOf Tryz.f19)) := by
  have e : (allLoops (bodyOf Tryz.f19)) = [nthC (allLoops (bodyOf Tryz.f19)) 0] := by kernel_rfl
  rw [e]
  exact ⟨(fun vs h K hk I H => hk I (fun a0 a1 a2 a3 h hr => H _ _ ((tieR19_8 (CS Tryz.prog) I K a0 a1 a2 a3 h) ▸ hr))), trivial⟩
theorem cl19 : Cl19 (CS Tryz.prog) := fun a0 h k kp hk =>
  fn_sound wide (fn := Tryz.f19) (by kernel_rfl) (by kernel_rfl) (by kernel_rfl) lfp19 (by rw [tieF19] at hk; exact hk)
def lv13 : Lv := Lv.mk 37 [.raw] (fun i => cond (Nat.beq i 6) ([(0, .raw), (5, .raw), (6, .int IntKind.i64)]) ([])) (fun i => cond (Nat.beq i 6) ([(0, [(5, .raw)])]) ([])) [(2, .raw), (3, .int IntKind.i64)] (fun i => none)
def round13_6 (D : Orc) (I : List Value → H → Prop) (K : Kl) (a0 a1 a2 : Value) (h9 : H) : Prop :=
intK IntKind.i64 a2 (fun x10 => lenW a0 (fun n11 => cond (decide (x10 < (n11 : Int))) (
slAtW a0 x10 2 (fun ad12 => ∃ s13 : ByteArray, rd h9 (Addr.add ad12 0) = some (Value.string s13) ∧ s13.size + (ByteArray.mk #[35]).size ≤ 9223372036854775807 ∧ slAtW a0 x10 2 (fun ad14 => ∃ x15 : Int, rd h9 (Addr.add ad14 1) = some (Value.int IntKind.i64 x15) ∧ one (Value.string (s13 ++ (ByteArray.mk #[35]))) = true ∧ 0 < 2 ∧ one (Value.int IntKind.i64 x15) = true ∧ 1 < 2 ∧ 2 = 2 ∧ 0 + 2 ≤ 2 ∧ newSl h9 1 [(Value.string (s13 ++ (ByteArray.mk #[35]))), (Value.int IntKind.i64 x15)] (fun s16 h17 => slenW s16 (fun n18 => srcW h17 2 s16 (n18) (fun w19 => apW h17 2 24 [(Value.string (ByteArray.mk #[])), (Value.int IntKind.i64 (0 : Int))] a1 (n18) w19 (fun s20 h21 => I [a0, s20, (Value.int IntKind.i64 (IntKind.wrap IntKind.i64 (x10 + (1 : Int))))] h21))))))) (
K (X.e 0) [a1] h9)))
def loop13_6 (D : Orc) (vs : List Value) (h : H) (K : Kl) : Prop := ∀ I : List Value → H → Prop, (∀ a0 a1 a2 h, round13_6 D I K a0 a1 a2 h → I [a0, a1, a2] h) → I vs h
def L13 (D : Orc) : Lor := fun b vs h K => match firstId b with | some i => cond (Nat.beq i 6) (loop13_6 D vs h K) (False) | none => False
/-- lodestone/lodestoneref13.Extend -/
def F13 (D : Orc) (a0 : Value) (h : H) (k : Kv) (kp : Kp) : Prop :=
D 34 [a0] h (fun v0 h1 => ∃ x2 : Int, v0 = (Value.int IntKind.i64 x2) ∧ cond (x2 != (0 : Int)) (
k (Value.tuple #[(Value.slice none 0 0), (Value.int IntKind.i64 x2)]) h1) (
newSl h1 0 [] (fun s3 h4 => slenW a0 (fun n5 => srcW h4 2 a0 (n5) (fun w6 => apW h4 2 24 [(Value.string (ByteArray.mk #[])), (Value.int IntKind.i64 (0 : Int))] s3 (n5) w6 (fun s7 h8 => loop13_6 D [a0, s7, (Value.int IntKind.i64 (0 : Int))] h8 (fun x23 vs24 h22 => xs x23 (intK IntKind.i64 (nth vs24 1) (fun x26 => k (Value.tuple #[(nth vs24 0), (Value.int IntKind.i64 x26)]) h22)) (fun i25 => cond (Nat.beq i25 0) (
k (Value.tuple #[(nth vs24 0), (Value.int IntKind.i64 (0 : Int))]) h22) (False)) (fun c => kp c h22)))))))) kp
def Cl13 (D : Orc) : Prop := ∀ a0 h k kp, F13 D a0 h k kp → D 13 [a0] h k kp
theorem tieR13_6 (D : Orc) (I : List Value → H → Prop) (K : Kl) (a0 a1 a2 : Value) (h : H) : round13_6 D I K a0 a1 a2 h = round Tryz.prog D (L13 D) lv13 (nthC (allLoops (bodyOf Tryz.f13)) 0) I K [a0, a1, a2] h := by kernel_rfl
theorem tieF13 (D : Orc) (a0 : Value) (h : H) (k : Kv) (kp : Kp) : F13 D a0 h k kp = bodyW Tryz.prog D (L13 D) lv13 Tryz.f13 [a0] h k kp := by kernel_rfl
theorem lfp13 : Lfps Tryz.prog (CS Tryz.prog) (L13 (CS Tryz.prog)) lv13 (allLoops (bodyOf Tryz.f13)) := by
  have e : (allLoops (bodyOf Tryz.f13)) = [nthC (allLoops (bodyOf Tryz.f13)) 0] := by kernel_rfl
  rw [e]
  exact ⟨(fun vs h K hk I H => hk I (fun a0 a1 a2 h hr => H _ _ ((tieR13_6 (CS Tryz.prog) I K a0 a1 a2 h) ▸ hr))), trivial⟩
theorem cl13 : Cl13 (CS Tryz.prog) := fun a0 h k kp hk =>
  fn_sound wide (fn := Tryz.f13) (by kernel_rfl) (by kernel_rfl) (by kernel_rfl) lfp13 (by rw [tieF13] at hk; exact hk)
def lv20 : Lv := Lv.mk 71 [.raw] (fun i => cond (Nat.beq i 8) ([(1, .raw), (6, .raw), (7, .raw), (8, .raw), (27, .raw), (28, .int IntKind.i64), (29, .int IntKind.i64)]) (cond (Nat.beq i 11) ([(1, .raw), (6, .raw), (7, .raw), (8, .raw), (10, .raw), (27, .raw), (28, .int IntKind.i64), (29, .int IntKind.i64), (34, .raw), (35, .int IntKind.i64), (36, .int IntKind.i64)]) ([]))) (fun i => cond (Nat.beq i 8) ([(0, [(8, .raw)])]) (cond (Nat.beq i 11) ([(2, [(1, .raw), (6, .raw), (7, .raw), (8, .raw), (27, .raw), (28, .int IntKind.i64), (29, .int IntKind.i64)])]) ([]))) [(2, .raw), (3, .int IntKind.i64)] (fun i => cond (Nat.beq i 18) (some [(1, .raw), (6, .raw), (7, .raw), (8, .raw), (10, .raw), (27, .raw), (28, .int IntKind.i64), (29, .int IntKind.i64), (34, .raw), (35, .int IntKind.i64), (36, .int IntKind.i64)]) (none))
def j20_11_18 (D : Orc) (I : List Value → H → Prop) (K : Kl) (a0 a1 a2 a3 a4 a5 a6 a7 a8 a9 a10 : Value) (h42 : H) : Prop :=
intK IntKind.i64 a6 (fun x43 => intK IntKind.i64 a7 (fun x44 => intK IntKind.i64 a9 (fun x45 => intK IntKind.i64 a10 (fun x46 => I [a0, a1, a2, a3, a4, a5, (Value.int IntKind.i64 x43), (Value.int IntKind.i64 x44), a8, (Value.int IntKind.i64 x45), (Value.int IntKind.i64 (IntKind.wrap IntKind.i64 (x46 + (1 : Int))))] h42))))
def round20_11 (D : Orc) (I : List Value → H → Prop) (K : Kl) (a0 a1 a2 a3 a4 a5 a6 a7 a8 a9 a10 : Value) (h32 : H) : Prop :=
intK IntKind.i64 a6 (fun x33 => intK IntKind.i64 a7 (fun x34 => intK IntKind.i64 a9 (fun x35 => intK IntKind.i64 a10 (fun x36 => cond (decide (x36 < x35)) (
slAtW a8 x36 1 (fun ad37 => ∃ x38 : Int, rd h32 ad37 = some (Value.int IntKind.i64 x38) ∧ D 50 [a1, (Value.int IntKind.i64 x38)] h32 (fun v39 h40 => ∃ t41 : Bool, v39 = (Value.bool t41) ∧ cond (!t41) (
j20_11_18 D I K a0 a1 a2 a3 a4 a5 (Value.int IntKind.i64 x33) (Value.int IntKind.i64 x34) a8 (Value.int IntKind.i64 x35) (Value.int IntKind.i64 x36) h40) (
lenW a3 (fun n47 => cond ((n47 : Int) == (256 : Int)) (
K X.r [(Value.slice none 0 0), (Value.int IntKind.i64 (2 : Int))] h40) (
ptrW a0 (fun ad48 => ∃ v49 : Value, rd h40 (Addr.add ad48 0) = some v49 ∧ ptrW a4 (fun ad50 => ∃ v51 : Value, rd h40 (Addr.add ad50 1) = some v51 ∧ D 51 [v49, v51, (Value.int IntKind.i64 x36)] h40 (fun v52 h53 => ∃ v54 : Value, ∃ x55 : Int, v52 = (Value.tuple #[v54, (Value.int IntKind.i64 x55)]) ∧ ptrW a4 (fun ad56 => ∃ v57 : Value, rd h53 (Addr.add ad56 0) = some v57 ∧ callV Tryz.prog D 26 a2 [v57] h53 (fun v58 h59 => callV Tryz.prog D 26 a2 [v54] h59 (fun v60 h61 => one v58 = true ∧ 0 < 2 ∧ one v60 = true ∧ 1 < 2 ∧ 2 = 2 ∧ 0 + 2 ≤ 2 ∧ newSl h61 1 [v58, v60] (fun s62 h63 => slenW s62 (fun n64 => srcW h63 2 s62 (n64) (fun w65 => apW h63 2 48 [(Value.slice none 0 0), (Value.slice none 0 0)] a3 (n64) w65 (fun s66 h67 => j20_11_18 D I K a0 a1 a2 s66 a4 a5 (Value.int IntKind.i64 x33) (Value.int IntKind.i64 x34) a8 (Value.int IntKind.i64 x35) (Value.int IntKind.i64 x36) h67))))) (fun c h => K (X.p c) [] h)) (fun c h => K (X.p c) [] h))) (fun c h => K (X.p c) [] h))))))) (fun c h => K (X.p c) [] h))) (
K (X.e 2) [a0, a1, a2, a3, a5, (Value.int IntKind.i64 x33), (Value.int IntKind.i64 x34)] h32)))))
def loop20_11 (D : Orc) (vs : List Value) (h : H) (K : Kl) : Prop := ∀ I : List Value → H → Prop, (∀ a0 a1 a2 a3 a4 a5 a6 a7 a8 a9 a10 h, round20_11 D I K a0 a1 a2 a3 a4 a5 a6 a7 a8 a9 a10 h → I [a0, a1, a2, a3, a4, a5, a6, a7, a8, a9, a10] h) → I vs h
def round20_8 (D : Orc) (I : List Value → H → Prop) (K : Kl) (a0 a1 a2 a3 a4 a5 a6 : Value) (h19 : H) : Prop :=
intK IntKind.i64 a5 (fun x20 => intK IntKind.i64 a6 (fun x21 => cond (decide (x21 < x20)) (
slAtW a4 x21 2 (fun ad22 => ∃ v23 : Value, ∃ v24 : Value, rdN h19 ad22 2 = some [v23, v24] ∧ newW h19 [(Value.slice none 0 0), (Value.slice none 0 0)] (fun p25 h26 => ptrW p25 (fun ad27 => 2 = 2 ∧ List.all [v23, v24] one = true ∧ ∃ h28, wr h26 ad27 [v23, v24] = some h28 ∧ ptrW p25 (fun ad29 => ∃ v30 : Value, rd h28 (Addr.add ad29 1) = some v30 ∧ lenW v30 (fun n31 => loop20_11 D [a0, a1, a2, a3, p25, a4, (Value.int IntKind.i64 x20), (Value.int IntKind.i64 x21), v30, (Value.int IntKind.i64 (n31 : Int)), (Value.int IntKind.i64 (0 : Int))] h28 (fun x69 vs70 h68 => xs x69 (intK IntKind.i64 (nth vs70 1) (fun x72 => K X.r [(nth vs70 0), (Value.int IntKind.i64 x72)] h68)) (fun i71 => cond (Nat.beq i71 2) (
intK IntKind.i64 (nth vs70 5) (fun x73 => intK IntKind.i64 (nth vs70 6) (fun x74 => I [(nth vs70 0), (nth vs70 1), (nth vs70 2), (nth vs70 3), (nth vs70 4), (Value.int IntKind.i64 x73), (Value.int IntKind.i64 (IntKind.wrap IntKind.i64 (x74 + (1 : Int))))] h68))) (False)) (fun c => (fun c h => K (X.p c) [] h) c h68)))))))) (
K (X.e 0) [a3] h19)))
def loop20_8 (D : Orc) (vs : List Value) (h : H) (K : Kl) : Prop := ∀ I : List Value → H → Prop, (∀ a0 a1 a2 a3 a4 a5 a6 h, round20_8 D I K a0 a1 a2 a3 a4 a5 a6 h → I [a0, a1, a2, a3, a4, a5, a6] h) → I vs h
def L20 (D : Orc) : Lor := fun b vs h K => match firstId b with | some i => cond (Nat.beq i 8) (loop20_8 D vs h K) (cond (Nat.beq i 11) (loop20_11 D vs h K) (False)) | none => False
/-- lodestone/pairs.Of -/
def F20 (D : Orc) (a0 : Value) (h : H) (k : Kv) (kp : Kp) : Prop :=
aggW a0 (fun l0 => newW h l0 (fun p1 h2 => ptrW p1 (fun ad3 => ∃ v4 : Value, ∃ v5 : Value, rdN h2 ad3 2 = some [v4, v5] ∧ D 46 [(Value.agg #[v4, v5])] h2 (fun v6 h7 => ∃ x8 : Int, ∃ x9 : Int, v6 = (Value.tuple #[(Value.int IntKind.i64 x8), (Value.int IntKind.i64 x9)]) ∧ cond (x8 != (0 : Int)) (
k (Value.tuple #[(Value.slice none 0 0), (Value.int IntKind.i64 x8)]) h7) (
ptrW p1 (fun ad10 => ∃ v11 : Value, ∃ v12 : Value, rdN h7 ad10 2 = some [v11, v12] ∧ D 47 [(Value.agg #[v11, v12])] h7 (fun v13 h14 => ∃ v15 : Value, v13 = v15 ∧ ptrW p1 (fun ad16 => ∃ v17 : Value, rd h14 (Addr.add ad16 1) = some v17 ∧ lenW v17 (fun n18 => loop20_8 D [p1, v15, (Value.func (Fn.func 48) #[] #[p1]), (Value.slice none 0 0), v17, (Value.int IntKind.i64 (n18 : Int)), (Value.int IntKind.i64 (0 : Int))] h14 (fun x76 vs77 h75 => xs x76 (intK IntKind.i64 (nth vs77 1) (fun x79 => k (Value.tuple #[(nth vs77 0), (Value.int IntKind.i64 x79)]) h75)) (fun i78 => cond (Nat.beq i78 0) (
k (Value.tuple #[(nth vs77 0), (Value.int IntKind.i64 (0 : Int))]) h75) (False)) (fun c => kp c h75))))) kp))) kp)))
def Cl20 (D : Orc) : Prop := ∀ a0 h k kp, F20 D a0 h k kp → D 20 [a0] h k kp
theorem tieR20_8 (D : Orc) (I : List Value → H → Prop) (K : Kl) (a0 a1 a2 a3 a4 a5 a6 : Value) (h : H) : round20_8 D I K a0 a1 a2 a3 a4 a5 a6 h = round Tryz.prog D (L20 D) lv20 (nthC (allLoops (bodyOf Tryz.f20)) 0) I K [a0, a1, a2, a3, a4, a5, a6] h := by kernel_rfl
theorem tieR20_11 (D : Orc) (I : List Value → H → Prop) (K : Kl) (a0 a1 a2 a3 a4 a5 a6 a7 a8 a9 a10 : Value) (h : H) : round20_11 D I K a0 a1 a2 a3 a4 a5 a6 a7 a8 a9 a10 h = round Tryz.prog D (L20 D) lv20 (nthC (allLoops (bodyOf Tryz.f20)) 1) I K [a0, a1, a2, a3, a4, a5, a6, a7, a8, a9, a10] h := by kernel_rfl
theorem tieF20 (D : Orc) (a0 : Value) (h : H) (k : Kv) (kp : Kp) : F20 D a0 h k kp = bodyW Tryz.prog D (L20 D) lv20 Tryz.f20 [a0] h k kp := by kernel_rfl
theorem lfp20 : Lfps Tryz.prog (CS Tryz.prog) (L20 (CS Tryz.prog)) lv20 (allLoops (bodyOf Tryz.f20)) := by
  have e : (allLoops (bodyOf Tryz.f20)) = [nthC (allLoops (bodyOf Tryz.f20)) 0, nthC (allLoops (bodyOf Tryz.f20)) 1] := by kernel_rfl
  rw [e]
  exact ⟨(fun vs h K hk I H => hk I (fun a0 a1 a2 a3 a4 a5 a6 h hr => H _ _ ((tieR20_8 (CS Tryz.prog) I K a0 a1 a2 a3 a4 a5 a6 h) ▸ hr))), (fun vs h K hk I H => hk I (fun a0 a1 a2 a3 a4 a5 a6 a7 a8 a9 a10 h hr => H _ _ ((tieR20_11 (CS Tryz.prog) I K a0 a1 a2 a3 a4 a5 a6 a7 a8 a9 a10 h) ▸ hr))), trivial⟩
theorem cl20 : Cl20 (CS Tryz.prog) := fun a0 h k kp hk =>
  fn_sound wide (fn := Tryz.f20) (by kernel_rfl) (by kernel_rfl) (by kernel_rfl) lfp20 (by rw [tieF20] at hk; exact hk)
def lv9 : Lv := Lv.mk 77 [.raw] (fun i => cond (Nat.beq i 8) ([(1, .raw), (6, .raw), (7, .int IntKind.i64), (8, .raw), (9, .int IntKind.i64)]) (cond (Nat.beq i 12) ([(1, .raw), (6, .raw), (7, .int IntKind.i64), (8, .raw), (9, .int IntKind.i64), (10, .raw), (11, .int IntKind.i64)]) ([]))) (fun i => cond (Nat.beq i 8) ([(0, [(8, .raw)])]) (cond (Nat.beq i 12) ([(2, [(1, .raw), (6, .raw), (7, .int IntKind.i64), (8, .raw), (9, .int IntKind.i64)])]) ([]))) [(2, .raw), (3, .int IntKind.i64)] (fun i => cond (Nat.beq i 13) (some [(1, .raw), (6, .raw), (7, .int IntKind.i64), (8, .raw), (9, .int IntKind.i64), (10, .raw), (11, .int IntKind.i64)]) (none))
def j9_12_13 (D : Orc) (I : List Value → H → Prop) (K : Kl) (a0 a1 a2 a3 a4 a5 a6 : Value) (h39 : H) : Prop :=
intK IntKind.i64 a2 (fun x40 => intK IntKind.i64 a4 (fun x41 => intK IntKind.i64 a6 (fun x42 => I [a0, a1, (Value.int IntKind.i64 x40), a3, (Value.int IntKind.i64 x41), a5, (Value.int IntKind.i64 (IntKind.wrap IntKind.i64 (x42 + (1 : Int))))] h39)))
def round9_12 (D : Orc) (I : List Value → H → Prop) (K : Kl) (a0 a1 a2 a3 a4 a5 a6 : Value) (h29 : H) : Prop :=
intK IntKind.i64 a2 (fun x30 => intK IntKind.i64 a4 (fun x31 => intK IntKind.i64 a6 (fun x32 => lenW a5 (fun n33 => cond (decide (x32 < (n33 : Int))) (
slAtW a5 x32 1 (fun ad34 => ∃ x35 : Int, rd h29 ad34 = some (Value.int IntKind.i64 x35) ∧ D 31 [a1, (Value.int IntKind.i64 x35)] h29 (fun v36 h37 => ∃ t38 : Bool, v36 = (Value.bool t38) ∧ cond (!t38) (
j9_12_13 D I K a0 a1 (Value.int IntKind.i64 x30) a3 (Value.int IntKind.i64 x31) a5 (Value.int IntKind.i64 x32) h37) (
lenW a3 (fun n43 => cond ((n43 : Int) == (256 : Int)) (
K X.r [(Value.slice none 0 0), (Value.int IntKind.i64 (2 : Int))] h37) (
ptrW a0 (fun ad44 => ∃ v45 : Value, rd h37 (Addr.add ad44 1) = some v45 ∧ slAtW v45 x31 2 (fun ad46 => ∃ v47 : Value, rd h37 (Addr.add ad46 0) = some v47 ∧ ptrW a0 (fun ad48 => ∃ v49 : Value, rd h37 (Addr.add ad48 0) = some v49 ∧ D 32 [v47, (Value.int IntKind.i64 x30)] h37 (fun v50 h51 => ∃ v52 : Value, v50 = v52 ∧ (rd h51 (Addr.add ad48 0) = some v49) ∧ D 33 [v49, a5, (Value.int IntKind.i64 x32)] h51 (fun v53 h54 => ∃ x55 : Int, v53 = (Value.int IntKind.i64 x55) ∧ slCutW a5 (some x32) (some x55) none 1 (fun s56 => D 32 [s56, (Value.int IntKind.i64 x30)] h54 (fun v57 h58 => ∃ v59 : Value, v57 = v59 ∧ one v52 = true ∧ 0 < 2 ∧ one v59 = true ∧ 1 < 2 ∧ 2 = 2 ∧ 0 + 2 ≤ 2 ∧ newSl h58 1 [v52, v59] (fun s60 h61 => slenW s60 (fun n62 => srcW h61 2 s60 (n62) (fun w63 => apW h61 2 48 [(Value.slice none 0 0), (Value.slice none 0 0)] a3 (n62) w63 (fun s64 h65 => j9_12_13 D I K a0 a1 (Value.int IntKind.i64 x30) s64 (Value.int IntKind.i64 x31) a5 (Value.int IntKind.i64 x32) h65))))) (fun c h => K (X.p c) [] h))) (fun c h => K (X.p c) [] h)) (fun c h => K (X.p c) [] h)))))))) (fun c h => K (X.p c) [] h))) (
K (X.e 2) [a0, a1, (Value.int IntKind.i64 x30), a3, (Value.int IntKind.i64 x31)] h29)))))
def loop9_12 (D : Orc) (vs : List Value) (h : H) (K : Kl) : Prop := ∀ I : List Value → H → Prop, (∀ a0 a1 a2 a3 a4 a5 a6 h, round9_12 D I K a0 a1 a2 a3 a4 a5 a6 h → I [a0, a1, a2, a3, a4, a5, a6] h) → I vs h
def round9_8 (D : Orc) (I : List Value → H → Prop) (K : Kl) (a0 a1 a2 a3 a4 : Value) (h19 : H) : Prop :=
intK IntKind.i64 a2 (fun x20 => intK IntKind.i64 a4 (fun x21 => ptrW a0 (fun ad22 => ∃ v23 : Value, rd h19 (Addr.add ad22 1) = some v23 ∧ lenW v23 (fun n24 => cond (decide (x21 < (n24 : Int))) (
ptrW a0 (fun ad25 => ∃ v26 : Value, rd h19 (Addr.add ad25 1) = some v26 ∧ slAtW v26 x21 2 (fun ad27 => ∃ v28 : Value, rd h19 (Addr.add ad27 1) = some v28 ∧ loop9_12 D [a0, a1, (Value.int IntKind.i64 x20), a3, (Value.int IntKind.i64 x21), v28, (Value.int IntKind.i64 (0 : Int))] h19 (fun x67 vs68 h66 => xs x67 (intK IntKind.i64 (nth vs68 1) (fun x70 => K X.r [(nth vs68 0), (Value.int IntKind.i64 x70)] h66)) (fun i69 => cond (Nat.beq i69 2) (
intK IntKind.i64 (nth vs68 2) (fun x71 => intK IntKind.i64 (nth vs68 4) (fun x72 => I [(nth vs68 0), (nth vs68 1), (Value.int IntKind.i64 x71), (nth vs68 3), (Value.int IntKind.i64 (IntKind.wrap IntKind.i64 (x72 + (1 : Int))))] h66))) (False)) (fun c => (fun c h => K (X.p c) [] h) c h66))))) (
K (X.e 0) [a3] h19)))))
def loop9_8 (D : Orc) (vs : List Value) (h : H) (K : Kl) : Prop := ∀ I : List Value → H → Prop, (∀ a0 a1 a2 a3 a4 h, round9_8 D I K a0 a1 a2 a3 a4 h → I [a0, a1, a2, a3, a4] h) → I vs h
def L9 (D : Orc) : Lor := fun b vs h K => match firstId b with | some i => cond (Nat.beq i 8) (loop9_8 D vs h K) (cond (Nat.beq i 12) (loop9_12 D vs h K) (False)) | none => False
/-- lodestone/lodestoneref13.Of -/
def F9 (D : Orc) (a0 : Value) (h : H) (k : Kv) (kp : Kp) : Prop :=
aggW a0 (fun l0 => newW h l0 (fun p1 h2 => ptrW p1 (fun ad3 => ∃ v4 : Value, ∃ v5 : Value, rdN h2 ad3 2 = some [v4, v5] ∧ D 30 [(Value.agg #[v4, v5])] h2 (fun v6 h7 => ∃ x8 : Int, ∃ x9 : Int, v6 = (Value.tuple #[(Value.int IntKind.i64 x8), (Value.int IntKind.i64 x9)]) ∧ cond (x8 != (0 : Int)) (
k (Value.tuple #[(Value.slice none 0 0), (Value.int IntKind.i64 x8)]) h7) (
ptrW p1 (fun ad10 => ∃ v11 : Value, ∃ v12 : Value, rdN h7 ad10 2 = some [v11, v12] ∧ D 26 [(Value.agg #[v11, v12])] h7 (fun v13 h14 => ∃ v15 : Value, v13 = v15 ∧ ptrW p1 (fun ad16 => ∃ v17 : Value, rd h14 (Addr.add ad16 0) = some v17 ∧ lenW v17 (fun n18 => loop9_8 D [p1, v15, (Value.int IntKind.i64 (n18 : Int)), (Value.slice none 0 0), (Value.int IntKind.i64 (0 : Int))] h14 (fun x74 vs75 h73 => xs x74 (intK IntKind.i64 (nth vs75 1) (fun x77 => k (Value.tuple #[(nth vs75 0), (Value.int IntKind.i64 x77)]) h73)) (fun i76 => cond (Nat.beq i76 0) (
k (Value.tuple #[(nth vs75 0), (Value.int IntKind.i64 (0 : Int))]) h73) (False)) (fun c => kp c h73))))) kp))) kp)))
def Cl9 (D : Orc) : Prop := ∀ a0 h k kp, F9 D a0 h k kp → D 9 [a0] h k kp
theorem tieR9_8 (D : Orc) (I : List Value → H → Prop) (K : Kl) (a0 a1 a2 a3 a4 : Value) (h : H) : round9_8 D I K a0 a1 a2 a3 a4 h = round Tryz.prog D (L9 D) lv9 (nthC (allLoops (bodyOf Tryz.f9)) 0) I K [a0, a1, a2, a3, a4] h := by kernel_rfl
theorem tieR9_12 (D : Orc) (I : List Value → H → Prop) (K : Kl) (a0 a1 a2 a3 a4 a5 a6 : Value) (h : H) : round9_12 D I K a0 a1 a2 a3 a4 a5 a6 h = round Tryz.prog D (L9 D) lv9 (nthC (allLoops (bodyOf Tryz.f9)) 1) I K [a0, a1, a2, a3, a4, a5, a6] h := by kernel_rfl
theorem tieF9 (D : Orc) (a0 : Value) (h : H) (k : Kv) (kp : Kp) : F9 D a0 h k kp = bodyW Tryz.prog D (L9 D) lv9 Tryz.f9 [a0] h k kp := by kernel_rfl
theorem lfp9 : Lfps Tryz.prog (CS Tryz.prog) (L9 (CS Tryz.prog)) lv9 (allLoops (bodyOf Tryz.f9)) := by
  have e : (allLoops (bodyOf Tryz.f9)) = [nthC (allLoops (bodyOf Tryz.f9)) 0, nthC (allLoops (bodyOf Tryz.f9)) 1] := by kernel_rfl
  rw [e]
  exact ⟨(fun vs h K hk I H => hk I (fun a0 a1 a2 a3 a4 h hr => H _ _ ((tieR9_8 (CS Tryz.prog) I K a0 a1 a2 a3 a4 h) ▸ hr))), (fun vs h K hk I H => hk I (fun a0 a1 a2 a3 a4 a5 a6 h hr => H _ _ ((tieR9_12 (CS Tryz.prog) I K a0 a1 a2 a3 a4 a5 a6 h) ▸ hr))), trivial⟩
theorem cl9 : Cl9 (CS Tryz.prog) := fun a0 h k kp hk =>
  fn_sound wide (fn := Tryz.f9) (by kernel_rfl) (by kernel_rfl) (by kernel_rfl) lfp9 (by rw [tieF9] at hk; exact hk)
def lv12 : Lv := Lv.mk 26 [.raw, .raw] (fun i => cond (Nat.beq i 4) ([(0, .raw), (1, .raw), (5, .int IntKind.i64)]) ([])) (fun i => cond (Nat.beq i 4) ([(0, [])]) ([])) [(4, .bool)] (fun i => none)
def round12_4 (D : Orc) (I : List Value → H → Prop) (K : Kl) (a0 a1 a2 : Value) (h2 : H) : Prop :=
intK IntKind.i64 a2 (fun x3 => lenW a0 (fun n4 => cond (decide (x3 < (n4 : Int))) (
slAtW a0 x3 1 (fun ad5 => ∃ x6 : Int, rd h2 ad5 = some (Value.int IntKind.i64 x6) ∧ slAtW a1 x3 1 (fun ad7 => ∃ x8 : Int, rd h2 ad7 = some (Value.int IntKind.i64 x8) ∧ cond (x6 != x8) (
K X.r [(Value.bool false)] h2) (
I [a0, a1, (Value.int IntKind.i64 (IntKind.wrap IntKind.i64 (x3 + (1 : Int))))] h2)))) (
K (X.e 0) [] h2)))
def loop12_4 (D : Orc) (vs : List Value) (h : H) (K : Kl) : Prop := ∀ I : List Value → H → Prop, (∀ a0 a1 a2 h, round12_4 D I K a0 a1 a2 h → I [a0, a1, a2] h) → I vs h
def L12 (D : Orc) : Lor := fun b vs h K => match firstId b with | some i => cond (Nat.beq i 4) (loop12_4 D vs h K) (False) | none => False
/-- lodestone/lodestonelaw13.sameRow -/
def F12 (D : Orc) (a0 a1 : Value) (h : H) (k : Kv) (kp : Kp) : Prop :=
lenW a0 (fun n0 => lenW a1 (fun n1 => cond ((n0 : Int) != (n1 : Int)) (
k (Value.bool false) h) (
loop12_4 D [a0, a1, (Value.int IntKind.i64 (0 : Int))] h (fun x10 vs11 h9 => xs x10 (boolW (nth vs11 0) (fun t13 => k (Value.bool t13) h9)) (fun i12 => cond (Nat.beq i12 0) (
k (Value.bool true) h9) (False)) (fun c => kp c h9)))))
def Cl12 (D : Orc) : Prop := ∀ a0 a1 h k kp, F12 D a0 a1 h k kp → D 12 [a0, a1] h k kp
theorem tieR12_4 (D : Orc) (I : List Value → H → Prop) (K : Kl) (a0 a1 a2 : Value) (h : H) : round12_4 D I K a0 a1 a2 h = round Tryz.prog D (L12 D) lv12 (nthC (allLoops (bodyOf Tryz.f12)) 0) I K [a0, a1, a2] h := by kernel_rfl
theorem tieF12 (D : Orc) (a0 a1 : Value) (h : H) (k : Kv) (kp : Kp) : F12 D a0 a1 h k kp = bodyW Tryz.prog D (L12 D) lv12 Tryz.f12 [a0, a1] h k kp := by kernel_rfl
theorem lfp12 : Lfps Tryz.prog (CS Tryz.prog) (L12 (CS Tryz.prog)) lv12 (allLoops (bodyOf Tryz.f12)) := by
  have e : (allLoops (bodyOf Tryz.f12)) = [nthC (allLoops (bodyOf Tryz.f12)) 0] := by kernel_rfl
  rw [e]
  exact ⟨(fun vs h K hk I H => hk I (fun a0 a1 a2 h hr => H _ _ ((tieR12_4 (CS Tryz.prog) I K a0 a1 a2 h) ▸ hr))), trivial⟩
theorem cl12 : Cl12 (CS Tryz.prog) := fun a0 a1 h k kp hk =>
  fn_sound wide (fn := Tryz.f12) (by kernel_rfl) (by kernel_rfl) (by kernel_rfl) lfp12 (by rw [tieF12] at hk; exact hk)
def lv18 : Lv := Lv.mk 13 [] (fun i => []) (fun i => []) [(0, .raw)] (fun i => none)
def L18 (D : Orc) : Lor := fun b vs h K => match firstId b with | some i => False | none => False
/-- lodestone/lodestonelaw13.adds -/
def F18 (D : Orc) (h : H) (k : Kv) (kp : Kp) : Prop :=
newW h [(Value.slice none 0 0), (Value.slice none 0 0)] (fun p0 h1 => one (Value.string (ByteArray.mk #[122, 101, 114, 111])) = true ∧ 0 < 2 ∧ one (Value.string (ByteArray.mk #[115])) = true ∧ 0 < 2 ∧ one (Value.int IntKind.i64 (1 : Int)) = true ∧ 1 < 2 ∧ one (Value.string (ByteArray.mk #[112, 108, 117, 115])) = true ∧ 0 < 2 ∧ one (Value.int IntKind.i64 (2 : Int)) = true ∧ 1 < 2 ∧ 2 = 2 ∧ 0 + 2 ≤ 6 ∧ 2 = 2 ∧ 2 + 2 ≤ 6 ∧ 2 = 2 ∧ 4 + 2 ≤ 6 ∧ newSl h1 3 [(Value.string (ByteArray.mk #[122, 101, 114, 111])), (Value.int IntKind.i64 (0 : Int)), (Value.string (ByteArray.mk #[115])), (Value.int IntKind.i64 (1 : Int)), (Value.string (ByteArray.mk #[112, 108, 117, 115])), (Value.int IntKind.i64 (2 : Int))] (fun s2 h3 => one (Value.int IntKind.i64 (2 : Int)) = true ∧ 0 < 3 ∧ one (Value.int IntKind.i64 (0 : Int)) = true ∧ 1 < 3 ∧ one (Value.int IntKind.i64 (-2 : Int)) = true ∧ 2 < 3 ∧ newSl h3 3 [(Value.int IntKind.i64 (2 : Int)), (Value.int IntKind.i64 (0 : Int)), (Value.int IntKind.i64 (-2 : Int))] (fun s4 h5 => one (Value.int IntKind.i64 (-2 : Int)) = true ∧ 0 < 1 ∧ newSl h5 1 [(Value.int IntKind.i64 (-2 : Int))] (fun s6 h7 => one s4 = true ∧ 0 < 2 ∧ one s6 = true ∧ 1 < 2 ∧ one (Value.int IntKind.i64 (2 : Int)) = true ∧ 0 < 4 ∧ one (Value.int IntKind.i64 (1 : Int)) = true ∧ 1 < 4 ∧ one (Value.int IntKind.i64 (-1 : Int)) = true ∧ 2 < 4 ∧ one (Value.int IntKind.i64 (-2 : Int)) = true ∧ 3 < 4 ∧ newSl h7 4 [(Value.int IntKind.i64 (2 : Int)), (Value.int IntKind.i64 (1 : Int)), (Value.int IntKind.i64 (-1 : Int)), (Value.int IntKind.i64 (-2 : Int))] (fun s8 h9 => one (Value.int IntKind.i64 (1 : Int)) = true ∧ 0 < 4 ∧ one (Value.int IntKind.i64 (2 : Int)) = true ∧ 1 < 4 ∧ one (Value.int IntKind.i64 (-1 : Int)) = true ∧ 2 < 4 ∧ one (Value.int IntKind.i64 (-2 : Int)) = true ∧ 3 < 4 ∧ newSl h9 4 [(Value.int IntKind.i64 (1 : Int)), (Value.int IntKind.i64 (2 : Int)), (Value.int IntKind.i64 (-1 : Int)), (Value.int IntKind.i64 (-2 : Int))] (fun s10 h11 => one s8 = true ∧ 0 < 2 ∧ one s10 = true ∧ 1 < 2 ∧ 2 = 2 ∧ 0 + 2 ≤ 4 ∧ 2 = 2 ∧ 2 + 2 ≤ 4 ∧ newSl h11 2 [s4, s6, s8, s10] (fun s12 h13 => one s2 = true ∧ 0 < 2 ∧ one s12 = true ∧ 1 < 2 ∧ ptrW p0 (fun ad14 => 2 = 2 ∧ List.all [s2, s12] one = true ∧ ∃ h15, wr h13 ad14 [s2, s12] = some h15 ∧ ptrW p0 (fun ad16 => ∃ v17 : Value, ∃ v18 : Value, rdN h15 ad16 2 = some [v17, v18] ∧ k (Value.agg #[v17, v18]) h15)))))))))
def Cl18 (D : Orc) : Prop := ∀  h k kp, F18 D  h k kp → D 18 [] h k kp
theorem tieF18 (D : Orc) (h : H) (k : Kv) (kp : Kp) : F18 D  h k kp = bodyW Tryz.prog D (L18 D) lv18 Tryz.f18 [] h k kp := by kernel_rfl
theorem lfp18 : Lfps Tryz.prog (CS Tryz.prog) (L18 (CS Tryz.prog)) lv18 (allLoops (bodyOf Tryz.f18)) := by
  have e : (allLoops (bodyOf Tryz.f18)) = [] := by kernel_rfl
  rw [e]
  exact trivial
theorem cl18 : Cl18 (CS Tryz.prog) := fun  h k kp hk =>
  fn_sound wide (fn := Tryz.f18) (by kernel_rfl) (by kernel_rfl) (by kernel_rfl) lfp18 (by rw [tieF18] at hk; exact hk)
def lv10 : Lv := Lv.mk 54 [.raw, .raw] (fun i => cond (Nat.beq i 4) ([(1, .raw), (5, .raw), (6, .bool), (7, .raw), (20, .raw), (21, .int IntKind.i64), (22, .int IntKind.i64)]) (cond (Nat.beq i 7) ([(1, .raw), (5, .raw), (6, .bool), (7, .raw), (8, .int IntKind.i64), (9, .raw), (20, .raw), (21, .int IntKind.i64), (22, .int IntKind.i64), (27, .raw), (28, .int IntKind.i64), (29, .int IntKind.i64)]) ([]))) (fun i => cond (Nat.beq i 4) ([(0, [(7, .raw)])]) (cond (Nat.beq i 7) ([(2, [(1, .raw), (5, .raw), (6, .bool), (7, .raw), (20, .raw), (21, .int IntKind.i64), (22, .int IntKind.i64)])]) ([]))) [(4, .raw)] (fun i => cond (Nat.beq i 11) (some [(1, .raw), (5, .raw), (6, .bool), (7, .raw), (8, .int IntKind.i64), (9, .raw), (20, .raw), (21, .int IntKind.i64), (22, .int IntKind.i64), (27, .raw), (28, .int IntKind.i64), (29, .int IntKind.i64)]) (cond (Nat.beq i 10) (some [(1, .raw), (5, .raw), (6, .bool), (7, .raw), (8, .int IntKind.i64), (9, .raw), (10, .int IntKind.i64), (20, .raw), (21, .int IntKind.i64), (22, .int IntKind.i64), (27, .raw), (28, .int IntKind.i64), (29, .int IntKind.i64), (40, .bool)]) (none)))
def j10_7_11 (D : Orc) (I : List Value → H → Prop) (K : Kl) (a0 a1 a2 a3 a4 a5 a6 a7 a8 a9 a10 a11 : Value) (h78 : H) : Prop :=
boolW a2 (fun t79 => intK IntKind.i64 a4 (fun x80 => intK IntKind.i64 a7 (fun x81 => intK IntKind.i64 a8 (fun x82 => intK IntKind.i64 a10 (fun x83 => intK IntKind.i64 a11 (fun x84 => I [a0, a1, (Value.bool t79), a3, (Value.int IntKind.i64 x80), a5, a6, (Value.int IntKind.i64 x81), (Value.int IntKind.i64 x82), a9, (Value.int IntKind.i64 x83), (Value.int IntKind.i64 (IntKind.wrap IntKind.i64 (x84 + (1 : Int))))] h78))))))
def j10_7_10 (D : Orc) (I : List Value → H → Prop) (K : Kl) (a0 a1 a2 a3 a4 a5 a6 a7 a8 a9 a10 a11 a12 a13 : Value) (h59 : H) : Prop :=
boolW a2 (fun t60 => intK IntKind.i64 a4 (fun x61 => intK IntKind.i64 a6 (fun x62 => intK IntKind.i64 a8 (fun x63 => intK IntKind.i64 a9 (fun x64 => intK IntKind.i64 a11 (fun x65 => intK IntKind.i64 a12 (fun x66 => boolW a13 (fun t67 => cond t67 (
slAtW a3 x61 1 (fun ad68 => ∃ v69 : Value, rd h59 ad68 = some v69 ∧ one (Value.int IntKind.i64 x62) = true ∧ 0 < 1 ∧ newSl h59 1 [(Value.int IntKind.i64 x62)] (fun s70 h71 => slenW s70 (fun n72 => srcW h71 1 s70 (n72) (fun w73 => apW h71 1 8 [(Value.int IntKind.i64 (0 : Int))] v69 (n72) w73 (fun s74 h75 => slAtW a3 x61 1 (fun ad76 => one s74 = true ∧ 1 = 1 ∧ ∃ h77, wr1 h75 ad76 s74 = some h77 ∧ j10_7_11 D I K a0 a1 (Value.bool t60) a3 (Value.int IntKind.i64 x61) a5 a7 (Value.int IntKind.i64 x63) (Value.int IntKind.i64 x64) a10 (Value.int IntKind.i64 x65) (Value.int IntKind.i64 x66) h77))))))) (
j10_7_11 D I K a0 a1 (Value.bool t60) a3 (Value.int IntKind.i64 x61) a5 a7 (Value.int IntKind.i64 x63) (Value.int IntKind.i64 x64) a10 (Value.int IntKind.i64 x65) (Value.int IntKind.i64 x66) h59)))))))))
def round10_7 (D : Orc) (I : List Value → H → Prop) (K : Kl) (a0 a1 a2 a3 a4 a5 a6 a7 a8 a9 a10 a11 : Value) (h32 : H) : Prop :=
boolW a2 (fun t33 => intK IntKind.i64 a4 (fun x34 => intK IntKind.i64 a7 (fun x35 => intK IntKind.i64 a8 (fun x36 => intK IntKind.i64 a10 (fun x37 => intK IntKind.i64 a11 (fun x38 => cond (decide (x38 < x37)) (
slAtW a9 x38 2 (fun ad39 => ∃ v40 : Value, ∃ v41 : Value, rdN h32 ad39 2 = some [v40, v41] ∧ newW h32 [(Value.slice none 0 0), (Value.slice none 0 0)] (fun p42 h43 => ptrW p42 (fun ad44 => 2 = 2 ∧ List.all [v40, v41] one = true ∧ ∃ h45, wr h43 ad44 [v40, v41] = some h45 ∧ cond t33 (
ptrW a1 (fun ad46 => ∃ v47 : Value, ∃ x48 : Int, ∃ v49 : Value, rdN h45 ad46 3 = some [v47, (Value.int IntKind.i64 x48), v49] ∧ ptrW a5 (fun ad50 => ∃ v51 : Value, ∃ v52 : Value, rdN h45 ad50 2 = some [v51, v52] ∧ ptrW p42 (fun ad53 => ∃ v54 : Value, ∃ v55 : Value, rdN h45 ad53 2 = some [v54, v55] ∧ D 22 [(Value.agg #[v47, (Value.int IntKind.i64 x48), v49]), (Value.agg #[v51, v52]), (Value.agg #[v54, v55])] h45 (fun v56 h57 => ∃ t58 : Bool, v56 = (Value.bool t58) ∧ j10_7_10 D I K a0 a1 (Value.bool t33) a3 (Value.int IntKind.i64 x34) a5 (Value.int IntKind.i64 x38) a6 (Value.int IntKind.i64 x35) (Value.int IntKind.i64 x36) a9 (Value.int IntKind.i64 x37) (Value.int IntKind.i64 x38) (Value.bool t58) h57) (fun c h => K (X.p c) [] h))))) (
j10_7_10 D I K a0 a1 (Value.bool t33) a3 (Value.int IntKind.i64 x34) a5 (Value.int IntKind.i64 x38) a6 (Value.int IntKind.i64 x35) (Value.int IntKind.i64 x36) a9 (Value.int IntKind.i64 x37) (Value.int IntKind.i64 x38) (Value.bool false) h45))))) (
K (X.e 2) [a0, a1, (Value.bool t33), a3, a6, (Value.int IntKind.i64 x35), (Value.int IntKind.i64 x36)] h32)))))))
def loop10_7 (D : Orc) (vs : List Value) (h : H) (K : Kl) : Prop := ∀ I : List Value → H → Prop, (∀ a0 a1 a2 a3 a4 a5 a6 a7 a8 a9 a10 a11 h, round10_7 D I K a0 a1 a2 a3 a4 a5 a6 a7 a8 a9 a10 a11 h → I [a0, a1, a2, a3, a4, a5, a6, a7, a8, a9, a10, a11] h) → I vs h
def round10_4 (D : Orc) (I : List Value → H → Prop) (K : Kl) (a0 a1 a2 a3 a4 a5 a6 : Value) (h20 : H) : Prop :=
boolW a2 (fun t21 => intK IntKind.i64 a5 (fun x22 => intK IntKind.i64 a6 (fun x23 => cond (decide (x23 < x22)) (
slAtW a4 x23 2 (fun ad24 => ∃ v25 : Value, ∃ v26 : Value, rdN h20 ad24 2 = some [v25, v26] ∧ newW h20 [(Value.slice none 0 0), (Value.slice none 0 0)] (fun p27 h28 => ptrW p27 (fun ad29 => 2 = 2 ∧ List.all [v25, v26] one = true ∧ ∃ h30, wr h28 ad29 [v25, v26] = some h30 ∧ lenW a0 (fun n31 => loop10_7 D [a0, a1, (Value.bool t21), a3, (Value.int IntKind.i64 x23), p27, a4, (Value.int IntKind.i64 x22), (Value.int IntKind.i64 x23), a0, (Value.int IntKind.i64 (n31 : Int)), (Value.int IntKind.i64 (0 : Int))] h30 (fun x86 vs87 h85 => xs x86 (K X.r [(nth vs87 0)] h85) (fun i88 => cond (Nat.beq i88 2) (
boolW (nth vs87 2) (fun t89 => intK IntKind.i64 (nth vs87 5) (fun x90 => intK IntKind.i64 (nth vs87 6) (fun x91 => I [(nth vs87 0), (nth vs87 1), (Value.bool t89), (nth vs87 3), (nth vs87 4), (Value.int IntKind.i64 x90), (Value.int IntKind.i64 (IntKind.wrap IntKind.i64 (x91 + (1 : Int))))] h85)))) (False)) (fun c => (fun c h => K (X.p c) [] h) c h85))))))) (
K (X.e 0) [a3] h20))))
def loop10_4 (D : Orc) (vs : List Value) (h : H) (K : Kl) : Prop := ∀ I : List Value → H → Prop, (∀ a0 a1 a2 a3 a4 a5 a6 h, round10_4 D I K a0 a1 a2 a3 a4 a5 a6 h → I [a0, a1, a2, a3, a4, a5, a6] h) → I vs h
def L10 (D : Orc) : Lor := fun b vs h K => match firstId b with | some i => cond (Nat.beq i 4) (loop10_4 D vs h K) (cond (Nat.beq i 7) (loop10_7 D vs h K) (False)) | none => False
/-- lodestone/pairs.Graph -/
def F10 (D : Orc) (a0 a1 : Value) (h : H) (k : Kv) (kp : Kp) : Prop :=
aggW a0 (fun l0 => newW h l0 (fun p1 h2 => ptrW p1 (fun ad3 => ∃ v4 : Value, ∃ v5 : Value, rdN h2 ad3 2 = some [v4, v5] ∧ D 21 [(Value.agg #[v4, v5])] h2 (fun v6 h7 => ∃ v8 : Value, ∃ x9 : Int, ∃ v10 : Value, ∃ t11 : Bool, v6 = (Value.tuple #[(Value.agg #[v8, (Value.int IntKind.i64 x9), v10]), (Value.bool t11)]) ∧ newW h7 [(Value.slice none 0 0), (Value.int IntKind.i64 (0 : Int)), (Value.slice none 0 0)] (fun p12 h13 => ptrW p12 (fun ad14 => 3 = 3 ∧ List.all [v8, (Value.int IntKind.i64 x9), v10] one = true ∧ ∃ h15, wr h13 ad14 [v8, (Value.int IntKind.i64 x9), v10] = some h15 ∧ lenW a1 (fun n16 => mkSliceW h15 24 [(Value.slice none 0 0)] (n16 : Int) (n16 : Int) (fun s17 h18 => lenW a1 (fun n19 => loop10_4 D [a1, p12, (Value.bool t11), s17, a1, (Value.int IntKind.i64 (n19 : Int)), (Value.int IntKind.i64 (0 : Int))] h18 (fun x93 vs94 h92 => xs x93 (k (nth vs94 0) h92) (fun i95 => cond (Nat.beq i95 0) (
k (nth vs94 0) h92) (False)) (fun c => kp c h92)))))))) kp)))
def Cl10 (D : Orc) : Prop := ∀ a0 a1 h k kp, F10 D a0 a1 h k kp → D 10 [a0, a1] h k kp
theorem tieR10_4 (D : Orc) (I : List Value → H → Prop) (K : Kl) (a0 a1 a2 a3 a4 a5 a6 : Value) (h : H) : round10_4 D I K a0 a1 a2 a3 a4 a5 a6 h = round Tryz.prog D (L10 D) lv10 (nthC (allLoops (bodyOf Tryz.f10)) 0) I K [a0, a1, a2, a3, a4, a5, a6] h := by kernel_rfl
theorem tieR10_7 (D : Orc) (I : List Value → H → Prop) (K : Kl) (a0 a1 a2 a3 a4 a5 a6 a7 a8 a9 a10 a11 : Value) (h : H) : round10_7 D I K a0 a1 a2 a3 a4 a5 a6 a7 a8 a9 a10 a11 h = round Tryz.prog D (L10 D) lv10 (nthC (allLoops (bodyOf Tryz.f10)) 1) I K [a0, a1, a2, a3, a4, a5, a6, a7, a8, a9, a10, a11] h := by kernel_rfl
theorem tieF10 (D : Orc) (a0 a1 : Value) (h : H) (k : Kv) (kp : Kp) : F10 D a0 a1 h k kp = bodyW Tryz.prog D (L10 D) lv10 Tryz.f10 [a0, a1] h k kp := by kernel_rfl
theorem lfp10 : Lfps Tryz.prog (CS Tryz.prog) (L10 (CS Tryz.prog)) lv10 (allLoops (bodyOf Tryz.f10)) := by
  have e : (allLoops (bodyOf Tryz.f10)) = [nthC (allLoops (bodyOf Tryz.f10)) 0, nthC (allLoops (bodyOf Tryz.f10)) 1] := by kernel_rfl
  rw [e]
  exact ⟨(fun vs h K hk I H => hk I (fun a0 a1 a2 a3 a4 a5 a6 h hr => H _ _ ((tieR10_4 (CS Tryz.prog) I K a0 a1 a2 a3 a4 a5 a6 h) ▸ hr))), (fun vs h K hk I H => hk I (fun a0 a1 a2 a3 a4 a5 a6 a7 a8 a9 a10 a11 h hr => H _ _ ((tieR10_7 (CS Tryz.prog) I K a0 a1 a2 a3 a4 a5 a6 a7 a8 a9 a10 a11 h) ▸ hr))), trivial⟩
theorem cl10 : Cl10 (CS Tryz.prog) := fun a0 a1 h k kp hk =>
  fn_sound wide (fn := Tryz.f10) (by kernel_rfl) (by kernel_rfl) (by kernel_rfl) lfp10 (by rw [tieF10] at hk; exact hk)
def lv7 : Lv := Lv.mk 21 [.raw, .raw, .raw] (fun i => []) (fun i => []) [(6, .bool)] (fun i => none)
def L7 (D : Orc) : Lor := fun b vs h K => match firstId b with | some i => False | none => False
/-- lodestone/pairs.Edge -/
def F7 (D : Orc) (a0 a1 a2 : Value) (h : H) (k : Kv) (kp : Kp) : Prop :=
aggW a0 (fun l0 => newW h l0 (fun p1 h2 => aggW a1 (fun l3 => newW h2 l3 (fun p4 h5 => aggW a2 (fun l6 => newW h5 l6 (fun p7 h8 => ptrW p1 (fun ad9 => ∃ v10 : Value, ∃ v11 : Value, rdN h8 ad9 2 = some [v10, v11] ∧ D 21 [(Value.agg #[v10, v11])] h8 (fun v12 h13 => ∃ v14 : Value, ∃ x15 : Int, ∃ v16 : Value, ∃ t17 : Bool, v12 = (Value.tuple #[(Value.agg #[v14, (Value.int IntKind.i64 x15), v16]), (Value.bool t17)]) ∧ newW h13 [(Value.slice none 0 0), (Value.int IntKind.i64 (0 : Int)), (Value.slice none 0 0)] (fun p18 h19 => ptrW p18 (fun ad20 => 3 = 3 ∧ List.all [v14, (Value.int IntKind.i64 x15), v16] one = true ∧ ∃ h21, wr h19 ad20 [v14, (Value.int IntKind.i64 x15), v16] = some h21 ∧ cond t17 (
ptrW p18 (fun ad22 => ∃ v23 : Value, ∃ x24 : Int, ∃ v25 : Value, rdN h21 ad22 3 = some [v23, (Value.int IntKind.i64 x24), v25] ∧ ptrW p4 (fun ad26 => ∃ v27 : Value, ∃ v28 : Value, rdN h21 ad26 2 = some [v27, v28] ∧ ptrW p7 (fun ad29 => ∃ v30 : Value, ∃ v31 : Value, rdN h21 ad29 2 = some [v30, v31] ∧ D 22 [(Value.agg #[v23, (Value.int IntKind.i64 x24), v25]), (Value.agg #[v27, v28]), (Value.agg #[v30, v31])] h21 (fun v32 h33 => ∃ t34 : Bool, v32 = (Value.bool t34) ∧ k (Value.bool t34) h33) kp)))) (
k (Value.bool false) h21)))) kp)))))))
def Cl7 (D : Orc) : Prop := ∀ a0 a1 a2 h k kp, F7 D a0 a1 a2 h k kp → D 7 [a0, a1, a2] h k kp
theorem tieF7 (D : Orc) (a0 a1 a2 : Value) (h : H) (k : Kv) (kp : Kp) : F7 D a0 a1 a2 h k kp = bodyW Tryz.prog D (L7 D) lv7 Tryz.f7 [a0, a1, a2] h k kp := by kernel_rfl
theorem lfp7 : Lfps Tryz.prog (CS Tryz.prog) (L7 (CS Tryz.prog)) lv7 (allLoops (bodyOf Tryz.f7)) := by
  have e : (allLoops (bodyOf Tryz.f7)) = [] := by kernel_rfl
  rw [e]
  exact trivial
theorem cl7 : Cl7 (CS Tryz.prog) := fun a0 a1 a2 h k kp hk =>
  fn_sound wide (fn := Tryz.f7) (by kernel_rfl) (by kernel_rfl) (by kernel_rfl) lfp7 (by rw [tieF7] at hk; exact hk)
def lv44 : Lv := Lv.mk 8 [.raw] (fun i => []) (fun i => []) [(2, .raw)] (fun i => none)
def L44 (D : Orc) : Lor := fun b vs h K => match firstId b with | some i => False | none => False
/-- slices.Clone[[]lodestone/api.Symbol,lodestone/api.Symbol] -/
def F44 (D : Orc) (a0 : Value) (h : H) (k : Kv) (kp : Kp) : Prop :=
eqSl a0 (Value.slice none 0 0) (fun t0 => cond t0 (
k (Value.slice none 0 0) h) (
newSl h 0 [] (fun s1 h2 => slenW a0 (fun n3 => srcW h2 2 a0 (n3) (fun w4 => apW h2 2 24 [(Value.string (ByteArray.mk #[])), (Value.int IntKind.i64 (0 : Int))] s1 (n3) w4 (fun s5 h6 => k s5 h6))))))
def Cl44 (D : Orc) : Prop := ∀ a0 h k kp, F44 D a0 h k kp → D 44 [a0] h k kp
theorem tieF44 (D : Orc) (a0 : Value) (h : H) (k : Kv) (kp : Kp) : F44 D a0 h k kp = bodyW Tryz.prog D (L44 D) lv44 Tryz.f44 [a0] h k kp := by kernel_rfl
theorem lfp44 : Lfps Tryz.prog (CS Tryz.prog) (L44 (CS Tryz.prog)) lv44 (allLoops (bodyOf Tryz.f44)) := by
  have e : (allLoops (bodyOf Tryz.f44)) = [] := by kernel_rfl
  rw [e]
  exact trivial
theorem cl44 : Cl44 (CS Tryz.prog) := fun a0 h k kp hk =>
  fn_sound wide (fn := Tryz.f44) (by kernel_rfl) (by kernel_rfl) (by kernel_rfl) lfp44 (by rw [tieF44] at hk; exact hk)
def lv48 : Lv := Lv.mk 15 [.raw] (fun i => []) (fun i => []) [(3, .raw)] (fun i => none)
def L48 (D : Orc) : Lor := fun b vs h K => match firstId b with | some i => False | none => False
/-- lodestone/pairs.Of$1 -/
def F48 (D : Orc) (a0 a1 : Value) (h : H) (k : Kv) (kp : Kp) : Prop :=
D 49 [a0] h (fun v0 h1 => ∃ v2 : Value, v0 = v2 ∧ slAtW v2 (0 : Int) 1 (fun ad3 => ∃ x4 : Int, rd h1 ad3 = some (Value.int IntKind.i64 x4) ∧ ptrW a1 (fun ad5 => ∃ v6 : Value, rd h1 (Addr.add ad5 0) = some v6 ∧ lenW v6 (fun n7 => slAtW v2 (0 : Int) 1 (fun ad8 => one (Value.int IntKind.i64 (IntKind.wrap IntKind.i64 (x4 + (n7 : Int)))) = true ∧ 1 = 1 ∧ ∃ h9, wr1 h1 ad8 (Value.int IntKind.i64 (IntKind.wrap IntKind.i64 (x4 + (n7 : Int)))) = some h9 ∧ k v2 h9))))) kp
def Cl48 (D : Orc) : Prop := ∀ a0 a1 h k kp, F48 D a0 a1 h k kp → D 48 [a0, a1] h k kp
theorem tieF48 (D : Orc) (a0 a1 : Value) (h : H) (k : Kv) (kp : Kp) : F48 D a0 a1 h k kp = bodyW Tryz.prog D (L48 D) lv48 Tryz.f48 [a0, a1] h k kp := by kernel_rfl
theorem lfp48 : Lfps Tryz.prog (CS Tryz.prog) (L48 (CS Tryz.prog)) lv48 (allLoops (bodyOf Tryz.f48)) := by
  have e : (allLoops (bodyOf Tryz.f48)) = [] := by kernel_rfl
  rw [e]
  exact trivial
theorem cl48 : Cl48 (CS Tryz.prog) := fun a0 a1 h k kp hk =>
  fn_sound wide (fn := Tryz.f48) (by kernel_rfl) (by kernel_rfl) (by kernel_rfl) lfp48 (by rw [tieF48] at hk; exact hk)
def lv51 : Lv := Lv.mk 30 [.raw, .raw, .int IntKind.i64] (fun i => []) (fun i => []) [(6, .raw), (7, .int IntKind.i64)] (fun i => none)
def L51 (D : Orc) : Lor := fun b vs h K => match firstId b with | some i => False | none => False
/-- lodestone/term.Sub -/
def F51 (D : Orc) (a0 a1 a2 : Value) (h : H) (k : Kv) (kp : Kp) : Prop :=
intK IntKind.i64 a2 (fun x0 => D 78 [a0, a1, (Value.int IntKind.i64 x0)] h (fun v1 h2 => ∃ v3 : Value, ∃ v4 : Value, ∃ x5 : Int, v1 = (Value.tuple #[v3, v4, (Value.int IntKind.i64 x5)]) ∧ cond (x5 != (0 : Int)) (
k (Value.tuple #[(Value.slice none 0 0), (Value.int IntKind.i64 x5)]) h2) (
invW Tryz.prog D 3 v3 "lodestone/term.size" [] h2 (fun v6 h7 => intK IntKind.i64 v6 (fun x8 => slCutW a1 (some x0) (some (IntKind.wrap IntKind.i64 (x0 + x8))) none 1 (fun s9 => D 49 [s9] h7 (fun v10 h11 => ∃ v12 : Value, v10 = v12 ∧ k (Value.tuple #[v12, (Value.int IntKind.i64 (0 : Int))]) h11) kp))) kp)) kp)
def Cl51 (D : Orc) : Prop := ∀ a0 a1 a2 h k kp, F51 D a0 a1 a2 h k kp → D 51 [a0, a1, a2] h k kp
theorem tieF51 (D : Orc) (a0 a1 a2 : Value) (h : H) (k : Kv) (kp : Kp) : F51 D a0 a1 a2 h k kp = bodyW Tryz.prog D (L51 D) lv51 Tryz.f51 [a0, a1, a2] h k kp := by kernel_rfl
theorem lfp51 : Lfps Tryz.prog (CS Tryz.prog) (L51 (CS Tryz.prog)) lv51 (allLoops (bodyOf Tryz.f51)) := by
  have e : (allLoops (bodyOf Tryz.f51)) = [] := by kernel_rfl
  rw [e]
  exact trivial
theorem cl51 : Cl51 (CS Tryz.prog) := fun a0 a1 a2 h k kp hk =>
  fn_sound wide (fn := Tryz.f51) (by kernel_rfl) (by kernel_rfl) (by kernel_rfl) lfp51 (by rw [tieF51] at hk; exact hk)
def lv31 : Lv := Lv.mk 18 [.raw, .int IntKind.i64] (fun i => cond (Nat.beq i 2) ([(0, .raw), (1, .int IntKind.i64), (5, .int IntKind.i64)]) ([])) (fun i => cond (Nat.beq i 2) ([(0, [])]) ([])) [(4, .bool)] (fun i => none)
def round31_2 (D : Orc) (I : List Value → H → Prop) (K : Kl) (a0 a1 a2 : Value) (h1 : H) : Prop :=
intK IntKind.i64 a1 (fun x2 => intK IntKind.i64 a2 (fun x3 => lenW a0 (fun n4 => cond (decide (x3 < (n4 : Int))) (
slAtW a0 x3 1 (fun ad5 => ∃ x6 : Int, rd h1 ad5 = some (Value.int IntKind.i64 x6) ∧ cond (x6 == x2) (
K X.r [(Value.bool true)] h1) (
I [a0, (Value.int IntKind.i64 x2), (Value.int IntKind.i64 (IntKind.wrap IntKind.i64 (x3 + (1 : Int))))] h1))) (
K (X.e 0) [] h1))))
def loop31_2 (D : Orc) (vs : List Value) (h : H) (K : Kl) : Prop := ∀ I : List Value → H → Prop, (∀ a0 a1 a2 h, round31_2 D I K a0 a1 a2 h → I [a0, a1, a2] h) → I vs h
def L31 (D : Orc) : Lor := fun b vs h K => match firstId b with | some i => cond (Nat.beq i 2) (loop31_2 D vs h K) (False) | none => False
/-- lodestone/lodestoneref13.has -/
def F31 (D : Orc) (a0 a1 : Value) (h : H) (k : Kv) (kp : Kp) : Prop :=
intK IntKind.i64 a1 (fun x0 => loop31_2 D [a0, (Value.int IntKind.i64 x0), (Value.int IntKind.i64 (0 : Int))] h (fun x8 vs9 h7 => xs x8 (boolW (nth vs9 0) (fun t11 => k (Value.bool t11) h7)) (fun i10 => cond (Nat.beq i10 0) (
k (Value.bool false) h7) (False)) (fun c => kp c h7)))
def Cl31 (D : Orc) : Prop := ∀ a0 a1 h k kp, F31 D a0 a1 h k kp → D 31 [a0, a1] h k kp
theorem tieR31_2 (D : Orc) (I : List Value → H → Prop) (K : Kl) (a0 a1 a2 : Value) (h : H) : round31_2 D I K a0 a1 a2 h = round Tryz.prog D (L31 D) lv31 (nthC (allLoops (bodyOf Tryz.f31)) 0) I K [a0, a1, a2] h := by kernel_rfl
theorem tieF31 (D : Orc) (a0 a1 : Value) (h : H) (k : Kv) (kp : Kp) : F31 D a0 a1 h k kp = bodyW Tryz.prog D (L31 D) lv31 Tryz.f31 [a0, a1] h k kp := by kernel_rfl
theorem lfp31 : Lfps Tryz.prog (CS Tryz.prog) (L31 (CS Tryz.prog)) lv31 (allLoops (bodyOf Tryz.f31)) := by
  have e : (allLoops (bodyOf Tryz.f31)) = [nthC (allLoops (bodyOf Tryz.f31)) 0] := by kernel_rfl
  rw [e]
  exact ⟨(fun vs h K hk I H => hk I (fun a0 a1 a2 h hr => H _ _ ((tieR31_2 (CS Tryz.prog) I K a0 a1 a2 h) ▸ hr))), trivial⟩
theorem cl31 : Cl31 (CS Tryz.prog) := fun a0 a1 h k kp hk =>
  fn_sound wide (fn := Tryz.f31) (by kernel_rfl) (by kernel_rfl) (by kernel_rfl) lfp31 (by rw [tieF31] at hk; exact hk)
def lv32 : Lv := Lv.mk 17 [.raw, .int IntKind.i64] (fun i => []) (fun i => []) [(4, .raw)] (fun i => none)
def L32 (D : Orc) : Lor := fun b vs h K => match firstId b with | some i => False | none => False
/-- lodestone/lodestoneref13.marked -/
def F32 (D : Orc) (a0 a1 : Value) (h : H) (k : Kv) (kp : Kp) : Prop :=
intK IntKind.i64 a1 (fun x0 => newSl h 0 [] (fun s1 h2 => slenW a0 (fun n3 => srcW h2 1 a0 (n3) (fun w4 => apW h2 1 8 [(Value.int IntKind.i64 (0 : Int))] s1 (n3) w4 (fun s5 h6 => slAtW s5 (0 : Int) 1 (fun ad7 => ∃ x8 : Int, rd h6 ad7 = some (Value.int IntKind.i64 x8) ∧ slAtW s5 (0 : Int) 1 (fun ad9 => one (Value.int IntKind.i64 (IntKind.wrap IntKind.i64 (x8 + x0))) = true ∧ 1 = 1 ∧ ∃ h10, wr1 h6 ad9 (Value.int IntKind.i64 (IntKind.wrap IntKind.i64 (x8 + x0))) = some h10 ∧ k s5 h10)))))))
def Cl32 (D : Orc) : Prop := ∀ a0 a1 h k kp, F32 D a0 a1 h k kp → D 32 [a0, a1] h k kp
theorem tieF32 (D : Orc) (a0 a1 : Value) (h : H) (k : Kv) (kp : Kp) : F32 D a0 a1 h k kp = bodyW Tryz.prog D (L32 D) lv32 Tryz.f32 [a0, a1] h k kp := by kernel_rfl
theorem lfp32 : Lfps Tryz.prog (CS Tryz.prog) (L32 (CS Tryz.prog)) lv32 (allLoops (bodyOf Tryz.f32)) := by
  have e : (allLoops (bodyOf Tryz.f32)) = [] := by kernel_rfl
  rw [e]
  exact trivial
theorem cl32 : Cl32 (CS Tryz.prog) := fun a0 a1 h k kp hk =>
  fn_sound wide (fn := Tryz.f32) (by kernel_rfl) (by kernel_rfl) (by kernel_rfl) lfp32 (by rw [tieF32] at hk; exact hk)
def lv33 : Lv := Lv.mk 30 [.raw, .raw, .int IntKind.i64] (fun i => cond (Nat.beq i 2) ([(0, .raw), (1, .raw), (2, .int IntKind.i64), (7, .int IntKind.i64)]) ([])) (fun i => cond (Nat.beq i 2) ([(0, [(2, .int IntKind.i64)])]) ([])) [(6, .int IntKind.i64)] (fun i => cond (Nat.beq i 6) (some [(0, .raw), (1, .raw), (2, .int IntKind.i64), (7, .int IntKind.i64)]) (none))
def j33_2_6 (D : Orc) (I : List Value → H → Prop) (K : Kl) (a0 a1 a2 a3 : Value) (h10 : H) : Prop :=
intK IntKind.i64 a2 (fun x11 => intK IntKind.i64 a3 (fun x12 => I [a0, a1, (Value.int IntKind.i64 (IntKind.wrap IntKind.i64 (x11 + (1 : Int)))), (Value.int IntKind.i64 x12)] h10))
def round33_2 (D : Orc) (I : List Value → H → Prop) (K : Kl) (a0 a1 a2 a3 : Value) (h1 : H) : Prop :=
intK IntKind.i64 a2 (fun x2 => intK IntKind.i64 a3 (fun x3 => cond (decide (x3 > (0 : Int))) (
slAtW a1 x2 1 (fun ad4 => ∃ x5 : Int, rd h1 ad4 = some (Value.int IntKind.i64 x5) ∧ cond (decide (x5 ≥ (0 : Int))) (
slAtW a1 x2 1 (fun ad6 => ∃ x7 : Int, rd h1 ad6 = some (Value.int IntKind.i64 x7) ∧ slAtW a0 x7 2 (fun ad8 => ∃ x9 : Int, rd h1 (Addr.add ad8 1) = some (Value.int IntKind.i64 x9) ∧ j33_2_6 D I K a0 a1 (Value.int IntKind.i64 x2) (Value.int IntKind.i64 (IntKind.wrap IntKind.i64 ((IntKind.wrap IntKind.i64 (x3 - (1 : Int))) + x9))) h1))) (
j33_2_6 D I K a0 a1 (Value.int IntKind.i64 x2) (Value.int IntKind.i64 (IntKind.wrap IntKind.i64 (x3 - (1 : Int)))) h1))) (
K (X.e 0) [(Value.int IntKind.i64 x2)] h1)))
def loop33_2 (D : Orc) (vs : List Value) (h : H) (K : Kl) : Prop := ∀ I : List Value → H → Prop, (∀ a0 a1 a2 a3 h, round33_2 D I K a0 a1 a2 a3 h → I [a0, a1, a2, a3] h) → I vs h
def L33 (D : Orc) : Lor := fun b vs h K => match firstId b with | some i => cond (Nat.beq i 2) (loop33_2 D vs h K) (False) | none => False
/-- lodestone/lodestoneref03.End -/
def F33 (D : Orc) (a0 a1 a2 : Value) (h : H) (k : Kv) (kp : Kp) : Prop :=
intK IntKind.i64 a2 (fun x0 => loop33_2 D [a0, a1, (Value.int IntKind.i64 x0), (Value.int IntKind.i64 (1 : Int))] h (fun x14 vs15 h13 => xs x14 (intK IntKind.i64 (nth vs15 0) (fun x17 => k (Value.int IntKind.i64 x17) h13)) (fun i16 => cond (Nat.beq i16 0) (
intK IntKind.i64 (nth vs15 0) (fun x18 => k (Value.int IntKind.i64 x18) h13)) (False)) (fun c => kp c h13)))
def Cl33 (D : Orc) : Prop := ∀ a0 a1 a2 h k kp, F33 D a0 a1 a2 h k kp → D 33 [a0, a1, a2] h k kp
theorem tieR33_2 (D : Orc) (I : List Value → H → Prop) (K : Kl) (a0 a1 a2 a3 : Value) (h : H) : round33_2 D I K a0 a1 a2 a3 h = round Tryz.prog D (L33 D) lv33 (nthC (allLoops (bodyOf Tryz.f33)) 0) I K [a0, a1, a2, a3] h := by kernel_rfl
theorem tieF33 (D : Orc) (a0 a1 a2 : Value) (h : H) (k : Kv) (kp : Kp) : F33 D a0 a1 a2 h k kp = bodyW Tryz.prog D (L33 D) lv33 Tryz.f33 [a0, a1, a2] h k kp := by kernel_rfl
theorem lfp33 : Lfps Tryz.prog (CS Tryz.prog) (L33 (CS Tryz.prog)) lv33 (allLoops (bodyOf Tryz.f33)) := by
  have e : (allLoops (bodyOf Tryz.f33)) = [nthC (allLoops (bodyOf Tryz.f33)) 0] := by kernel_rfl
  rw [e]
  exact ⟨(fun vs h K hk I H => hk I (fun a0 a1 a2 a3 h hr => H _ _ ((tieR33_2 (CS Tryz.prog) I K a0 a1 a2 a3 h) ▸ hr))), trivial⟩
theorem cl33 : Cl33 (CS Tryz.prog) := fun a0 a1 a2 h k kp hk =>
  fn_sound wide (fn := Tryz.f33) (by kernel_rfl) (by kernel_rfl) (by kernel_rfl) lfp33 (by rw [tieF33] at hk; exact hk)
def lv21 : Lv := Lv.mk 28 [.raw] (fun i => []) (fun i => []) [(2, .raw), (3, .bool)] (fun i => none)
def L21 (D : Orc) : Lor := fun b vs h K => match firstId b with | some i => False | none => False
/-- lodestone/pairs.of -/
def F21 (D : Orc) (a0 : Value) (h : H) (k : Kv) (kp : Kp) : Prop :=
aggW a0 (fun l0 => newW h l0 (fun p1 h2 => newW h2 [(Value.slice none 0 0), (Value.int IntKind.i64 (0 : Int)), (Value.slice none 0 0)] (fun p3 h4 => ptrW p1 (fun ad5 => ∃ v6 : Value, ∃ v7 : Value, rdN h4 ad5 2 = some [v6, v7] ∧ D 46 [(Value.agg #[v6, v7])] h4 (fun v8 h9 => ∃ x10 : Int, ∃ x11 : Int, v8 = (Value.tuple #[(Value.int IntKind.i64 x10), (Value.int IntKind.i64 x11)]) ∧ ptrW p1 (fun ad12 => ∃ v13 : Value, rd h9 (Addr.add ad12 0) = some v13 ∧ D 19 [v13] h9 (fun v14 h15 => ∃ v16 : Value, ∃ x17 : Int, v14 = (Value.tuple #[v16, (Value.int IntKind.i64 x17)]) ∧ ptrW p1 (fun ad18 => ∃ v19 : Value, rd h15 (Addr.add ad18 0) = some v19 ∧ lenW v19 (fun n20 => ptrW p1 (fun ad21 => ∃ v22 : Value, ∃ v23 : Value, rdN h15 ad21 2 = some [v22, v23] ∧ D 47 [(Value.agg #[v22, v23])] h15 (fun v24 h25 => ∃ v26 : Value, v24 = v26 ∧ (rd h25 (Addr.add ad18 0) = some v19) ∧ one v16 = true ∧ 0 < 3 ∧ one (Value.int IntKind.i64 (n20 : Int)) = true ∧ 1 < 3 ∧ one v26 = true ∧ 2 < 3 ∧ ptrW p3 (fun ad27 => 3 = 3 ∧ List.all [v16, (Value.int IntKind.i64 (n20 : Int)), v26] one = true ∧ ∃ h28, wr h25 ad27 [v16, (Value.int IntKind.i64 (n20 : Int)), v26] = some h28 ∧ ptrW p3 (fun ad29 => ∃ v30 : Value, ∃ x31 : Int, ∃ v32 : Value, rdN h28 ad29 3 = some [v30, (Value.int IntKind.i64 x31), v32] ∧ k (Value.tuple #[(Value.agg #[v30, (Value.int IntKind.i64 x31), v32]), (Value.bool (x10 == (0 : Int)))]) h28))) kp)))) kp)) kp))))
def Cl21 (D : Orc) : Prop := ∀ a0 h k kp, F21 D a0 h k kp → D 21 [a0] h k kp
theorem tieF21 (D : Orc) (a0 : Value) (h : H) (k : Kv) (kp : Kp) : F21 D a0 h k kp = bodyW Tryz.prog D (L21 D) lv21 Tryz.f21 [a0] h k kp := by kernel_rfl
theorem lfp21 : Lfps Tryz.prog (CS Tryz.prog) (L21 (CS Tryz.prog)) lv21 (allLoops (bodyOf Tryz.f21)) := by
  have e : (allLoops (bodyOf Tryz.f21)) = [] := by kernel_rfl
  rw [e]
  exact trivial
theorem cl21 : Cl21 (CS Tryz.prog) := fun a0 h k kp hk =>
  fn_sound wide (fn := Tryz.f21) (by kernel_rfl) (by kernel_rfl) (by kernel_rfl) lfp21 (by rw [tieF21] at hk; exact hk)
def lv22 : Lv := Lv.mk 57 [.raw, .raw, .raw] (fun i => []) (fun i => []) [(6, .bool)] (fun i => cond (Nat.beq i 2) (some [(3, .raw), (4, .raw), (5, .raw), (33, .bool)]) (none))
def j22__2 (D : Orc) (k : Kv) (kp : Kp) (a0 a1 a2 a3 : Value) (h35 : H) : Prop :=
boolW a3 (fun t36 => cond t36 (
k (Value.bool false) h35) (
ptrW a0 (fun ad37 => ∃ v38 : Value, ∃ x39 : Int, ∃ v40 : Value, rdN h35 ad37 3 = some [v38, (Value.int IntKind.i64 x39), v40] ∧ ptrW a1 (fun ad41 => ∃ v42 : Value, rd h35 (Addr.add ad41 1) = some v42 ∧ D 53 [(Value.agg #[v38, (Value.int IntKind.i64 x39), v40]), v42] h35 (fun v43 h44 => ∃ v45 : Value, ∃ x46 : Int, v43 = (Value.tuple #[v45, (Value.int IntKind.i64 x46)]) ∧ ptrW a2 (fun ad47 => ∃ v48 : Value, rd h44 (Addr.add ad47 0) = some v48 ∧ one v48 = true ∧ 0 < 1 ∧ newSl h44 1 [v48] (fun s49 h50 => D 55 [s49] h50 (fun v51 h52 => ∃ v53 : Value, v51 = v53 ∧ slAtW v53 (0 : Int) 1 (fun ad54 => ∃ v55 : Value, rd h52 ad54 = some v55 ∧ D 54 [v55, (Value.int IntKind.i64 x46)] h52 (fun v56 h57 => ∃ v58 : Value, ∃ x59 : Int, v56 = (Value.tuple #[v58, (Value.int IntKind.i64 x59)]) ∧ ptrW a0 (fun ad60 => ∃ v61 : Value, rd h57 (Addr.add ad60 0) = some v61 ∧ D 56 [v61, v45, v58] h57 (fun v62 h63 => ∃ t64 : Bool, v62 = (Value.bool t64) ∧ k (Value.bool t64) h63) kp)) kp)) kp))) kp))))
def L22 (D : Orc) : Lor := fun b vs h K => match firstId b with | some i => False | none => False
/-- (lodestone/pairs.estimate).edge -/
def F22 (D : Orc) (a0 a1 a2 : Value) (h : H) (k : Kv) (kp : Kp) : Prop :=
aggW a0 (fun l0 => newW h l0 (fun p1 h2 => aggW a1 (fun l3 => newW h2 l3 (fun p4 h5 => aggW a2 (fun l6 => newW h5 l6 (fun p7 h8 => ptrW p1 (fun ad9 => ∃ v10 : Value, ∃ x11 : Int, ∃ v12 : Value, rdN h8 ad9 3 = some [v10, (Value.int IntKind.i64 x11), v12] ∧ ptrW p4 (fun ad13 => ∃ v14 : Value, rd h8 (Addr.add ad13 1) = some v14 ∧ D 52 [(Value.agg #[v10, (Value.int IntKind.i64 x11), v12]), v14] h8 (fun v15 h16 => ∃ t17 : Bool, v15 = (Value.bool t17) ∧ cond (!(!t17)) (
ptrW p1 (fun ad18 => ∃ v19 : Value, ∃ x20 : Int, ∃ v21 : Value, rdN h16 ad18 3 = some [v19, (Value.int IntKind.i64 x20), v21] ∧ ptrW p7 (fun ad22 => ∃ v23 : Value, rd h16 (Addr.add ad22 0) = some v23 ∧ D 52 [(Value.agg #[v19, (Value.int IntKind.i64 x20), v21]), v23] h16 (fun v24 h25 => ∃ t26 : Bool, v24 = (Value.bool t26) ∧ cond (!(!t26)) (
ptrW p4 (fun ad27 => ∃ v28 : Value, rd h25 (Addr.add ad27 1) = some v28 ∧ slAtW v28 (0 : Int) 1 (fun ad29 => ∃ x30 : Int, rd h25 ad29 = some (Value.int IntKind.i64 x30) ∧ ptrW p7 (fun ad31 => ∃ v32 : Value, rd h25 (Addr.add ad31 0) = some v32 ∧ slAtW v32 (0 : Int) 1 (fun ad33 => ∃ x34 : Int, rd h25 ad33 = some (Value.int IntKind.i64 x34) ∧ j22__2 D k kp p1 p4 p7 (Value.bool (x30 != x34)) h25))))) (
j22__2 D k kp p1 p4 p7 (Value.bool true) h25)) kp))) (
j22__2 D k kp p1 p4 p7 (Value.bool true) h16)) kp))))))))
def Cl22 (D : Orc) : Prop := ∀ a0 a1 a2 h k kp, F22 D a0 a1 a2 h k kp → D 22 [a0, a1, a2] h k kp
theorem tieF22 (D : Orc) (a0 a1 a2 : Value) (h : H) (k : Kv) (kp : Kp) : F22 D a0 a1 a2 h k kp = bodyW Tryz.prog D (L22 D) lv22 Tryz.f22 [a0, a1, a2] h k kp := by kernel_rfl
theorem lfp22 : Lfps Tryz.prog (CS Tryz.prog) (L22 (CS Tryz.prog)) lv22 (allLoops (bodyOf Tryz.f22)) := by
  have e : (allLoops (bodyOf Tryz.f22)) = [] := by kernel_rfl
  rw [e]
  exact trivial
theorem cl22 : Cl22 (CS Tryz.prog) := fun a0 a1 a2 h k kp hk =>
  fn_sound wide (fn := Tryz.f22) (by kernel_rfl) (by kernel_rfl) (by kernel_rfl) lfp22 (by rw [tieF22] at hk; exact hk)
def lv78 : Lv := Lv.mk 69 [.raw, .raw, .int IntKind.i64] (fun i => cond (Nat.beq i 8) ([(2, .int IntKind.i64), (9, .raw), (11, .raw), (12, .int IntKind.i64)]) (cond (Nat.beq i 13) ([(2, .int IntKind.i64), (9, .raw), (11, .raw), (12, .int IntKind.i64), (49, .raw), (50, .int IntKind.i64), (51, .int IntKind.i64)]) ([]))) (fun i => cond (Nat.beq i 8) ([(1, [(9, .raw), (11, .raw)])]) (cond (Nat.beq i 13) ([(3, [(2, .int IntKind.i64), (9, .raw), (11, .raw), (12, .int IntKind.i64)])]) ([]))) [(6, .raw), (7, .raw), (8, .int IntKind.i64)] (fun i => cond (Nat.beq i 5) (some [(2, .int IntKind.i64), (9, .raw), (26, .bool)]) (none))
def round78_13 (D : Orc) (I : List Value → H → Prop) (K : Kl) (a0 a1 a2 a3 a4 a5 a6 : Value) (h22 : H) : Prop :=
intK IntKind.i64 a0 (fun x23 => intK IntKind.i64 a3 (fun x24 => intK IntKind.i64 a5 (fun x25 => intK IntKind.i64 a6 (fun x26 => cond (decide (x26 < x25)) (
slAtW a4 x26 1 (fun ad27 => ∃ v28 : Value, rd h22 ad27 = some v28 ∧ invW Tryz.prog D 3 v28 "lodestone/term.size" [] h22 (fun v29 h30 => intK IntKind.i64 v29 (fun x31 => cond (decide ((IntKind.wrap IntKind.i64 (x24 + x31)) > x23)) (
K (X.e 3) [(Value.int IntKind.i64 x23), v28, a2, (Value.int IntKind.i64 x24)] h30) (
invW Tryz.prog D 3 v28 "lodestone/term.size" [] h30 (fun v32 h33 => intK IntKind.i64 v32 (fun x34 => I [(Value.int IntKind.i64 x23), a1, a2, (Value.int IntKind.i64 (IntKind.wrap IntKind.i64 (x24 + x34))), a4, (Value.int IntKind.i64 x25), (Value.int IntKind.i64 (IntKind.wrap IntKind.i64 (x26 + (1 : Int))))] h33)) (fun c h => K (X.p c) [] h)))) (fun c h => K (X.p c) [] h))) (
K (X.e 3) [(Value.int IntKind.i64 x23), a1, a2, (Value.int IntKind.i64 x24)] h22)))))
def loop78_13 (D : Orc) (vs : List Value) (h : H) (K : Kl) : Prop := ∀ I : List Value → H → Prop, (∀ a0 a1 a2 a3 a4 a5 a6 h, round78_13 D I K a0 a1 a2 a3 a4 a5 a6 h → I [a0, a1, a2, a3, a4, a5, a6] h) → I vs h
def round78_8 (D : Orc) (I : List Value → H → Prop) (K : Kl) (a0 a1 a2 a3 : Value) (h9 : H) : Prop :=
intK IntKind.i64 a0 (fun x10 => intK IntKind.i64 a3 (fun x11 => cond (decide (x11 < x10)) (
assertW Tryz.prog a1 130 false (fun v12 => one (Value.int IntKind.i64 x11) = true ∧ 0 < 1 ∧ newSl h9 1 [(Value.int IntKind.i64 x11)] (fun s13 h14 => slenW s13 (fun n15 => srcW h14 1 s13 (n15) (fun w16 => apW h14 1 8 [(Value.int IntKind.i64 (0 : Int))] a2 (n15) w16 (fun s17 h18 => nonNil v12 = true ∧ ptrW v12 (fun ad19 => ∃ v20 : Value, rd h18 (Addr.add ad19 2) = some v20 ∧ lenW v20 (fun n21 => loop78_13 D [(Value.int IntKind.i64 x10), a1, s17, (Value.int IntKind.i64 (IntKind.wrap IntKind.i64 (x11 + (1 : Int)))), v20, (Value.int IntKind.i64 (n21 : Int)), (Value.int IntKind.i64 (0 : Int))] h18 (fun x36 vs37 h35 => xs x36 (intK IntKind.i64 (nth vs37 2) (fun x39 => K X.r [(nth vs37 0), (nth vs37 1), (Value.int IntKind.i64 x39)] h35)) (fun i38 => cond (Nat.beq i38 3) (
intK IntKind.i64 (nth vs37 0) (fun x40 => intK IntKind.i64 (nth vs37 3) (fun x41 => I [(Value.int IntKind.i64 x40), (nth vs37 1), (nth vs37 2), (Value.int IntKind.i64 x41)] h35))) (False)) (fun c => (fun c h => K (X.p c) [] h) c h35)))))))))) (
K (X.e 1) [a1, a2] h9)))
def loop78_8 (D : Orc) (vs : List Value) (h : H) (K : Kl) : Prop := ∀ I : List Value → H → Prop, (∀ a0 a1 a2 a3 h, round78_8 D I K a0 a1 a2 a3 h → I [a0, a1, a2, a3] h) → I vs h
def j78__5 (D : Orc) (k : Kv) (kp : Kp) (a0 a1 a2 : Value) (h6 : H) : Prop :=
intK IntKind.i64 a0 (fun x7 => boolW a2 (fun t8 => cond t8 (
k (Value.tuple #[Value.nilIface, (Value.slice none 0 0), (Value.int IntKind.i64 (33 : Int))]) h6) (
loop78_8 D [(Value.int IntKind.i64 x7), a1, (Value.slice none 0 0), (Value.int IntKind.i64 (0 : Int))] h6 (fun x43 vs44 h42 => xs x43 (intK IntKind.i64 (nth vs44 2) (fun x46 => k (Value.tuple #[(nth vs44 0), (nth vs44 1), (Value.int IntKind.i64 x46)]) h42)) (fun i45 => cond (Nat.beq i45 1) (
k (Value.tuple #[(nth vs44 0), (nth vs44 1), (Value.int IntKind.i64 (0 : Int))]) h42) (False)) (fun c => kp c h42)))))
def L78 (D : Orc) : Lor := fun b vs h K => match firstId b with | some i => cond (Nat.beq i 8) (loop78_8 D vs h K) (cond (Nat.beq i 13) (loop78_13 D vs h K) (False)) | none => False
/-- lodestone/term.find -/
def F78 (D : Orc) (a0 a1 a2 : Value) (h : H) (k : Kv) (kp : Kp) : Prop :=
intK IntKind.i64 a2 (fun x0 => D 100 [a0, a1] h (fun v1 h2 => ∃ v3 : Value, ∃ x4 : Int, v1 = (Value.tuple #[v3, (Value.int IntKind.i64 x4)]) ∧ cond (x4 != (0 : Int)) (
k (Value.tuple #[Value.nilIface, (Value.slice none 0 0), (Value.int IntKind.i64 x4)]) h2) (
cond (!(decide (x0 < (0 : Int)))) (
lenW a1 (fun n5 => j78__5 D k kp (Value.int IntKind.i64 x0) v3 (Value.bool (decide (x0 ≥ (n5 : Int)))) h2)) (
j78__5 D k kp (Value.int IntKind.i64 x0) v3 (Value.bool true) h2))) kp)
def Cl78 (D : Orc) : Prop := ∀ a0 a1 a2 h k kp, F78 D a0 a1 a2 h k kp → D 78 [a0, a1, a2] h k kp
theorem tieR78_8 (D : Orc) (I : List Value → H → Prop) (K : Kl) (a0 a1 a2 a3 : Value) (h : H) : round78_8 D I K a0 a1 a2 a3 h = round Tryz.prog D (L78 D) lv78 (nthC (allLoops (bodyOf Tryz.f78)) 0) I K [a0, a1, a2, a3] h := by kernel_rfl
theorem tieR78_13 (D : Orc) (I : List Value → H → Prop) (K : Kl) (a0 a1 a2 a3 a4 a5 a6 : Value) (h : H) : round78_13 D I K a0 a1 a2 a3 a4 a5 a6 h = round Tryz.prog D (L78 D) lv78 (nthC (allLoops (bodyOf Tryz.f78)) 1) I K [a0, a1, a2, a3, a4, a5, a6] h := by kernel_rfl
theorem tieF78 (D : Orc) (a0 a1 a2 : Value) (h : H) (k : Kv) (kp : Kp) : F78 D a0 a1 a2 h k kp = bodyW Tryz.prog D (L78 D) lv78 Tryz.f78 [a0, a1, a2] h k kp := by kernel_rfl
theorem lfp78 : Lfps Tryz.prog (CS Tryz.prog) (L78 (CS Tryz.prog)) lv78 (allLoops (bodyOf Tryz.f78)) := by
  have e : (allLoops (bodyOf Tryz.f78)) = [nthC (allLoops (bodyOf Tryz.f78)) 0, nthC (allLoops (bodyOf Tryz.f78)) 1] := by kernel_rfl
  rw [e]
  exact ⟨(fun vs h K hk I H => hk I (fun a0 a1 a2 a3 h hr => H _ _ ((tieR78_8 (CS Tryz.prog) I K a0 a1 a2 a3 h) ▸ hr))), (fun vs h K hk I H => hk I (fun a0 a1 a2 a3 a4 a5 a6 h hr => H _ _ ((tieR78_13 (CS Tryz.prog) I K a0 a1 a2 a3 a4 a5 a6 h) ▸ hr))), trivial⟩
theorem cl78 : Cl78 (CS Tryz.prog) := fun a0 a1 a2 h k kp hk =>
  fn_sound wide (fn := Tryz.f78) (by kernel_rfl) (by kernel_rfl) (by kernel_rfl) lfp78 (by rw [tieF78] at hk; exact hk)
def lv52 : Lv := Lv.mk 23 [.raw, .raw] (fun i => []) (fun i => []) [(4, .bool)] (fun i => none)
def L52 (D : Orc) : Lor := fun b vs h K => match firstId b with | some i => False | none => False
/-- (lodestone/pairs.estimate).may -/
def F52 (D : Orc) (a0 a1 : Value) (h : H) (k : Kv) (kp : Kp) : Prop :=
aggW a0 (fun l0 => newW h l0 (fun p1 h2 => ptrW p1 (fun ad3 => ∃ v4 : Value, rd h2 (Addr.add ad3 0) = some v4 ∧ D 79 [v4, a1] h2 (fun v5 h6 => ∃ x7 : Int, v5 = (Value.int IntKind.i64 x7) ∧ cond (x7 == (0 : Int)) (
lenW a1 (fun n8 => cond (decide ((n8 : Int) ≤ (512 : Int))) (
slAtW a1 (0 : Int) 1 (fun ad9 => ∃ x10 : Int, rd h6 ad9 = some (Value.int IntKind.i64 x10) ∧ ptrW p1 (fun ad11 => ∃ x12 : Int, rd h6 (Addr.add ad11 1) = some (Value.int IntKind.i64 x12) ∧ k (Value.bool (decide (x10 ≥ x12))) h6))) (
k (Value.bool false) h6))) (
k (Value.bool false) h6)) kp)))
def Cl52 (D : Orc) : Prop := ∀ a0 a1 h k kp, F52 D a0 a1 h k kp → D 52 [a0, a1] h k kp
theorem tieF52 (D : Orc) (a0 a1 : Value) (h : H) (k : Kv) (kp : Kp) : F52 D a0 a1 h k kp = bodyW Tryz.prog D (L52 D) lv52 Tryz.f52 [a0, a1] h k kp := by kernel_rfl
theorem lfp52 : Lfps Tryz.prog (CS Tryz.prog) (L52 (CS Tryz.prog)) lv52 (allLoops (bodyOf Tryz.f52)) := by
  have e : (allLoops (bodyOf Tryz.f52)) = [] := by kernel_rfl
  rw [e]
  exact trivial
theorem cl52 : Cl52 (CS Tryz.prog) := fun a0 a1 h k kp hk =>
  fn_sound wide (fn := Tryz.f52) (by kernel_rfl) (by kernel_rfl) (by kernel_rfl) lfp52 (by rw [tieF52] at hk; exact hk)
def lv53 : Lv := Lv.mk 14 [.raw, .raw] (fun i => []) (fun i => []) [(4, .raw), (5, .int IntKind.i64)] (fun i => none)
def L53 (D : Orc) : Lor := fun b vs h K => match firstId b with | some i => False | none => False
/-- (lodestone/pairs.estimate).capped -/
def F53 (D : Orc) (a0 a1 : Value) (h : H) (k : Kv) (kp : Kp) : Prop :=
aggW a0 (fun l0 => newW h l0 (fun p1 h2 => one a1 = true ∧ newW h2 [a1] (fun p3 h4 => newW h4 [(Value.slice none 0 0)] (fun p5 h6 => newW h6 [(Value.int IntKind.i64 (0 : Int))] (fun p7 h8 => ptrW p7 (fun ad9 => one (Value.int IntKind.i64 (0 : Int)) = true ∧ 1 = 1 ∧ ∃ h10, wr1 h8 ad9 (Value.int IntKind.i64 (0 : Int)) = some h10 ∧ newW h10 [Value.nilFunc] (fun p11 h12 => ptrW p11 (fun ad13 => one (Value.func (Fn.func 80) #[] #[p3, p1, p5, p7, p11]) = true ∧ 1 = 1 ∧ ∃ h14, wr1 h12 ad13 (Value.func (Fn.func 80) #[] #[p3, p1, p5, p7, p11]) = some h14 ∧ ptrW p11 (fun ad15 => ∃ v16 : Value, rd h14 ad15 = some v16 ∧ callV Tryz.prog D 3 v16 [(Value.int IntKind.i64 (0 : Int))] h14 (fun v17 h18 => ptrW p5 (fun ad19 => ∃ v20 : Value, rd h18 ad19 = some v20 ∧ ptrW p7 (fun ad21 => ∃ x22 : Int, rd h18 ad21 = some (Value.int IntKind.i64 x22) ∧ k (Value.tuple #[v20, (Value.int IntKind.i64 x22)]) h18))) kp)))))))))
def Cl53 (D : Orc) : Prop := ∀ a0 a1 h k kp, F53 D a0 a1 h k kp → D 53 [a0, a1] h k kp
theorem tieF53 (D : Orc) (a0 a1 : Value) (h : H) (k : Kv) (kp : Kp) : F53 D a0 a1 h k kp = bodyW Tryz.prog D (L53 D) lv53 Tryz.f53 [a0, a1] h k kp := by kernel_rfl
theorem lfp53 : Lfps Tryz.prog (CS Tryz.prog) (L53 (CS Tryz.prog)) lv53 (allLoops (bodyOf Tryz.f53)) := by
  have e : (allLoops (bodyOf Tryz.f53)) = [] := by kernel_rfl
  rw [e]
  exact trivial
theorem cl53 : Cl53 (CS Tryz.prog) := fun a0 a1 h k kp hk =>
  fn_sound wide (fn := Tryz.f53) (by kernel_rfl) (by kernel_rfl) (by kernel_rfl) lfp53 (by rw [tieF53] at hk; exact hk)
def lv54 : Lv := Lv.mk 51 [.raw, .int IntKind.i64] (fun i => cond (Nat.beq i 3) ([(1, .int IntKind.i64), (6, .raw), (12, .raw), (13, .int IntKind.i64), (14, .int IntKind.i64)]) ([])) (fun i => cond (Nat.beq i 3) ([(0, [(6, .raw)])]) ([])) [(4, .raw), (5, .int IntKind.i64)] (fun i => cond (Nat.beq i 13) (some [(1, .int IntKind.i64), (6, .raw), (12, .raw), (13, .int IntKind.i64), (14, .int IntKind.i64)]) (cond (Nat.beq i 8) (some [(1, .int IntKind.i64), (6, .raw), (7, .int IntKind.i64), (9, .int IntKind.i64), (12, .raw), (13, .int IntKind.i64), (14, .int IntKind.i64), (34, .bool)]) (cond (Nat.beq i 11) (some [(1, .int IntKind.i64), (6, .raw), (7, .int IntKind.i64), (9, .int IntKind.i64), (12, .raw), (13, .int IntKind.i64), (14, .int IntKind.i64), (43, .bool)]) (none))))
def j54_3_13 (D : Orc) (I : List Value → H → Prop) (K : Kl) (a0 a1 a2 a3 a4 : Value) (h11 : H) : Prop :=
intK IntKind.i64 a0 (fun x12 => intK IntKind.i64 a3 (fun x13 => intK IntKind.i64 a4 (fun x14 => I [(Value.int IntKind.i64 x12), a1, a2, (Value.int IntKind.i64 x13), (Value.int IntKind.i64 (IntKind.wrap IntKind.i64 (x14 + (1 : Int))))] h11)))
def j54_3_11 (D : Orc) (I : List Value → H → Prop) (K : Kl) (a0 a1 a2 a3 a4 a5 a6 a7 : Value) (h22 : H) : Prop :=
intK IntKind.i64 a0 (fun x23 => intK IntKind.i64 a2 (fun x24 => intK IntKind.i64 a3 (fun x25 => intK IntKind.i64 a5 (fun x26 => intK IntKind.i64 a6 (fun x27 => boolW a7 (fun t28 => cond t28 (
K X.r [(Value.slice none 0 0), (Value.int IntKind.i64 (40 : Int))] h22) (
slAtW a1 x24 1 (fun ad29 => one (Value.int IntKind.i64 (IntKind.wrap IntKind.i64 ((-1 : Int) - x25))) = true ∧ 1 = 1 ∧ ∃ h30, wr1 h22 ad29 (Value.int IntKind.i64 (IntKind.wrap IntKind.i64 ((-1 : Int) - x25))) = some h30 ∧ j54_3_13 D I K (Value.int IntKind.i64 x23) a1 a4 (Value.int IntKind.i64 x26) (Value.int IntKind.i64 x27) h30))))))))
def j54_3_8 (D : Orc) (I : List Value → H → Prop) (K : Kl) (a0 a1 a2 a3 a4 a5 a6 a7 : Value) (h15 : H) : Prop :=
intK IntKind.i64 a0 (fun x16 => intK IntKind.i64 a2 (fun x17 => intK IntKind.i64 a3 (fun x18 => intK IntKind.i64 a5 (fun x19 => intK IntKind.i64 a6 (fun x20 => boolW a7 (fun t21 => cond t21 (
K X.r [(Value.slice none 0 0), (Value.int IntKind.i64 (40 : Int))] h15) (
cond (!(decide ((IntKind.wrap IntKind.i64 (x18 + x16)) < (0 : Int)))) (
j54_3_11 D I K (Value.int IntKind.i64 x16) a1 (Value.int IntKind.i64 x17) (Value.int IntKind.i64 (IntKind.wrap IntKind.i64 (x18 + x16))) a4 (Value.int IntKind.i64 x19) (Value.int IntKind.i64 x20) (Value.bool (decide ((IntKind.wrap IntKind.i64 (x18 + x16)) ≥ (1048576 : Int)))) h15) (
j54_3_11 D I K (Value.int IntKind.i64 x16) a1 (Value.int IntKind.i64 x17) (Value.int IntKind.i64 (IntKind.wrap IntKind.i64 (x18 + x16))) a4 (Value.int IntKind.i64 x19) (Value.int IntKind.i64 x20) (Value.bool true) h15))))))))
def round54_3 (D : Orc) (I : List Value → H → Prop) (K : Kl) (a0 a1 a2 a3 a4 : Value) (h5 : H) : Prop :=
intK IntKind.i64 a0 (fun x6 => intK IntKind.i64 a3 (fun x7 => intK IntKind.i64 a4 (fun x8 => cond (decide (x8 < x7)) (
slAtW a2 x8 1 (fun ad9 => ∃ x10 : Int, rd h5 ad9 = some (Value.int IntKind.i64 x10) ∧ cond (decide (x10 ≥ (0 : Int))) (
j54_3_13 D I K (Value.int IntKind.i64 x6) a1 a2 (Value.int IntKind.i64 x7) (Value.int IntKind.i64 x8) h5) (
cond (decide (x6 ≥ (0 : Int))) (
cond (!(decide (x6 ≥ (1048576 : Int)))) (
j54_3_8 D I K (Value.int IntKind.i64 x6) a1 (Value.int IntKind.i64 x8) (Value.int IntKind.i64 (IntKind.wrap IntKind.i64 ((-1 : Int) - x10))) a2 (Value.int IntKind.i64 x7) (Value.int IntKind.i64 x8) (Value.bool (decide ((IntKind.wrap IntKind.i64 ((-1 : Int) - x10)) ≥ (IntKind.wrap IntKind.i64 ((1048576 : Int) - x6))))) h5) (
j54_3_8 D I K (Value.int IntKind.i64 x6) a1 (Value.int IntKind.i64 x8) (Value.int IntKind.i64 (IntKind.wrap IntKind.i64 ((-1 : Int) - x10))) a2 (Value.int IntKind.i64 x7) (Value.int IntKind.i64 x8) (Value.bool true) h5)) (
j54_3_8 D I K (Value.int IntKind.i64 x6) a1 (Value.int IntKind.i64 x8) (Value.int IntKind.i64 (IntKind.wrap IntKind.i64 ((-1 : Int) - x10))) a2 (Value.int IntKind.i64 x7) (Value.int IntKind.i64 x8) (Value.bool false) h5)))) (
K (X.e 0) [a1] h5))))
def loop54_3 (D : Orc) (vs : List Value) (h : H) (K : Kl) : Prop := ∀ I : List Value → H → Prop, (∀ a0 a1 a2 a3 a4 h, round54_3 D I K a0 a1 a2 a3 a4 h → I [a0, a1, a2, a3, a4] h) → I vs h
def L54 (D : Orc) : Lor := fun b vs h K => match firstId b with | some i => cond (Nat.beq i 3) (loop54_3 D vs h K) (False) | none => False
/-- lodestone/subst.Shift -/
def F54 (D : Orc) (a0 a1 : Value) (h : H) (k : Kv) (kp : Kp) : Prop :=
intK IntKind.i64 a1 (fun x0 => D 49 [a0] h (fun v1 h2 => ∃ v3 : Value, v1 = v3 ∧ lenW a0 (fun n4 => loop54_3 D [(Value.int IntKind.i64 x0), v3, a0, (Value.int IntKind.i64 (n4 : Int)), (Value.int IntKind.i64 (0 : Int))] h2 (fun x32 vs33 h31 => xs x32 (intK IntKind.i64 (nth vs33 1) (fun x35 => k (Value.tuple #[(nth vs33 0), (Value.int IntKind.i64 x35)]) h31)) (fun i34 => cond (Nat.beq i34 0) (
k (Value.tuple #[(nth vs33 0), (Value.int IntKind.i64 (0 : Int))]) h31) (False)) (fun c => kp c h31)))) kp)
def Cl54 (D : Orc) : Prop := ∀ a0 a1 h k kp, F54 D a0 a1 h k kp → D 54 [a0, a1] h k kp
theorem tieR54_3 (D : Orc) (I : List Value → H → Prop) (K : Kl) (a0 a1 a2 a3 a4 : Value) (h : H) : round54_3 D I K a0 a1 a2 a3 a4 h = round Tryz.prog D (L54 D) lv54 (nthC (allLoops (bodyOf Tryz.f54)) 0) I K [a0, a1, a2, a3, a4] h := by kernel_rfl
theorem tieF54 (D : Orc) (a0 a1 : Value) (h : H) (k : Kv) (kp : Kp) : F54 D a0 a1 h k kp = bodyW Tryz.prog D (L54 D) lv54 Tryz.f54 [a0, a1] h k kp := by kernel_rfl
theorem lfp54 : Lfps Tryz.prog (CS Tryz.prog) (L54 (CS Tryz.prog)) lv54 (allLoops (bodyOf Tryz.f54)) := by
  have e : (allLoops (bodyOf Tryz.f54)) = [nthC (allLoops (bodyOf Tryz.f54)) 0] := by kernel_rfl
  rw [e]
  exact ⟨(fun vs h K hk I H => hk I (fun a0 a1 a2 a3 a4 h hr => H _ _ ((tieR54_3 (CS Tryz.prog) I K a0 a1 a2 a3 a4 h) ▸ hr))), trivial⟩
theorem cl54 : Cl54 (CS Tryz.prog) := fun a0 a1 h k kp hk =>
  fn_sound wide (fn := Tryz.f54) (by kernel_rfl) (by kernel_rfl) (by kernel_rfl) lfp54 (by rw [tieF54] at hk; exact hk)
def lv56 : Lv := Lv.mk 22 [.raw, .raw, .raw] (fun i => []) (fun i => []) [(6, .bool)] (fun i => none)
def L56 (D : Orc) : Lor := fun b vs h K => match firstId b with | some i => False | none => False
/-- lodestone/unify.Can -/
def F56 (D : Orc) (a0 a1 a2 : Value) (h : H) (k : Kv) (kp : Kp) : Prop :=
D 81 [a0, a1, a2] h (fun v0 h1 => ∃ x2 : Int, v0 = (Value.int IntKind.i64 x2) ∧ cond (x2 != (0 : Int)) (
k (Value.bool false) h1) (
D 82 [a0, a1, a2] h1 (fun v3 h4 => ∃ v5 : Value, ∃ t6 : Bool, v3 = (Value.tuple #[v5, (Value.bool t6)]) ∧ k (Value.bool t6) h4) kp)) kp
def Cl56 (D : Orc) : Prop := ∀ a0 a1 a2 h k kp, F56 D a0 a1 a2 h k kp → D 56 [a0, a1, a2] h k kp
theorem tieF56 (D : Orc) (a0 a1 a2 : Value) (h : H) (k : Kv) (kp : Kp) : F56 D a0 a1 a2 h k kp = bodyW Tryz.prog D (L56 D) lv56 Tryz.f56 [a0, a1, a2] h k kp := by kernel_rfl
theorem lfp56 : Lfps Tryz.prog (CS Tryz.prog) (L56 (CS Tryz.prog)) lv56 (allLoops (bodyOf Tryz.f56)) := by
  have e : (allLoops (bodyOf Tryz.f56)) = [] := by kernel_rfl
  rw [e]
  exact trivial
theorem cl56 : Cl56 (CS Tryz.prog) := fun a0 a1 a2 h k kp hk =>
  fn_sound wide (fn := Tryz.f56) (by kernel_rfl) (by kernel_rfl) (by kernel_rfl) lfp56 (by rw [tieF56] at hk; exact hk)
def lv80 : Lv := Lv.mk 65 [.int IntKind.i64] (fun i => cond (Nat.beq i 10) ([(0, .int IntKind.i64), (5, .raw), (57, .int IntKind.i64), (58, .int IntKind.i64)]) ([])) (fun i => cond (Nat.beq i 10) ([(0, [(0, .int IntKind.i64)])]) ([])) [(7, .int IntKind.i64)] (fun i => cond (Nat.beq i 3) (some [(0, .int IntKind.i64), (1, .raw), (2, .raw), (3, .raw), (4, .raw), (5, .raw), (8, .int IntKind.i64), (26, .bool)]) (none))
def round80_10 (D : Orc) (I : List Value → H → Prop) (K : Kl) (a0 a1 a2 a3 : Value) (h53 : H) : Prop :=
intK IntKind.i64 a0 (fun x54 => intK IntKind.i64 a2 (fun x55 => intK IntKind.i64 a3 (fun x56 => cond (decide (x56 < x55)) (
ptrW a1 (fun ad57 => ∃ v58 : Value, rd h53 ad57 = some v58 ∧ callV Tryz.prog D 3 v58 [(Value.int IntKind.i64 x54)] h53 (fun v59 h60 => I [v59, a1, (Value.int IntKind.i64 x55), (Value.int IntKind.i64 (IntKind.wrap IntKind.i64 (x56 + (1 : Int))))] h60) (fun c h => K (X.p c) [] h))) (
K (X.e 0) [(Value.int IntKind.i64 x54)] h53))))
def loop80_10 (D : Orc) (vs : List Value) (h : H) (K : Kl) : Prop := ∀ I : List Value → H → Prop, (∀ a0 a1 a2 a3 h, round80_10 D I K a0 a1 a2 a3 h → I [a0, a1, a2, a3] h) → I vs h
def j80__3 (D : Orc) (k : Kv) (kp : Kp) (a0 a1 a2 a3 a4 a5 a6 a7 : Value) (h10 : H) : Prop :=
intK IntKind.i64 a0 (fun x11 => intK IntKind.i64 a6 (fun x12 => boolW a7 (fun t13 => cond t13 (
ptrW a3 (fun ad14 => ∃ v15 : Value, rd h10 ad14 = some v15 ∧ ptrW a4 (fun ad16 => ∃ x17 : Int, rd h10 ad16 = some (Value.int IntKind.i64 x17) ∧ one (Value.int IntKind.i64 (IntKind.wrap IntKind.i64 ((-1 : Int) - x17))) = true ∧ 0 < 1 ∧ newSl h10 1 [(Value.int IntKind.i64 (IntKind.wrap IntKind.i64 ((-1 : Int) - x17)))] (fun s18 h19 => slenW s18 (fun n20 => srcW h19 1 s18 (n20) (fun w21 => apW h19 1 8 [(Value.int IntKind.i64 (0 : Int))] v15 (n20) w21 (fun s22 h23 => ptrW a3 (fun ad24 => one s22 = true ∧ 1 = 1 ∧ ∃ h25, wr1 h23 ad24 s22 = some h25 ∧ ptrW a4 (fun ad26 => ∃ x27 : Int, rd h25 ad26 = some (Value.int IntKind.i64 x27) ∧ ptrW a4 (fun ad28 => one (Value.int IntKind.i64 (IntKind.wrap IntKind.i64 (x27 + (1 : Int)))) = true ∧ 1 = 1 ∧ ∃ h29, wr1 h25 ad28 (Value.int IntKind.i64 (IntKind.wrap IntKind.i64 (x27 + (1 : Int)))) = some h29 ∧ ptrW a2 (fun ad30 => ∃ v31 : Value, rd h29 (Addr.add ad30 0) = some v31 ∧ ptrW a1 (fun ad32 => ∃ v33 : Value, rd h29 ad32 = some v33 ∧ D 51 [v31, v33, (Value.int IntKind.i64 x11)] h29 (fun v34 h35 => ∃ v36 : Value, ∃ x37 : Int, v34 = (Value.tuple #[v36, (Value.int IntKind.i64 x37)]) ∧ lenW v36 (fun n38 => k (Value.int IntKind.i64 (IntKind.wrap IntKind.i64 (x11 + (n38 : Int)))) h35)) kp)))))))))))) (
ptrW a3 (fun ad39 => ∃ v40 : Value, rd h10 ad39 = some v40 ∧ one (Value.int IntKind.i64 x12) = true ∧ 0 < 1 ∧ newSl h10 1 [(Value.int IntKind.i64 x12)] (fun s41 h42 => slenW s41 (fun n43 => srcW h42 1 s41 (n43) (fun w44 => apW h42 1 8 [(Value.int IntKind.i64 (0 : Int))] v40 (n43) w44 (fun s45 h46 => ptrW a3 (fun ad47 => one s45 = true ∧ 1 = 1 ∧ ∃ h48, wr1 h46 ad47 s45 = some h48 ∧ ptrW a2 (fun ad49 => ∃ v50 : Value, rd h48 (Addr.add ad49 0) = some v50 ∧ slAtW v50 x12 2 (fun ad51 => ∃ x52 : Int, rd h48 (Addr.add ad51 1) = some (Value.int IntKind.i64 x52) ∧ loop80_10 D [(Value.int IntKind.i64 (IntKind.wrap IntKind.i64 (x11 + (1 : Int)))), a5, (Value.int IntKind.i64 x52), (Value.int IntKind.i64 (0 : Int))] h48 (fun x62 vs63 h61 => xs x62 (intK IntKind.i64 (nth vs63 0) (fun x65 => k (Value.int IntKind.i64 x65) h61)) (fun i64 => cond (Nat.beq i64 0) (
intK IntKind.i64 (nth vs63 0) (fun x66 => k (Value.int IntKind.i64 x66) h61)) (False)) (fun c => kp c h61))))))))))))))
def L80 (D : Orc) : Lor := fun b vs h K => match firstId b with | some i => cond (Nat.beq i 10) (loop80_10 D vs h K) (False) | none => False
/-- (lodestone/pairs.estimate).capped$1 -/
def F80 (D : Orc) (a0 a1 a2 a3 a4 a5 : Value) (h : H) (k : Kv) (kp : Kp) : Prop :=
intK IntKind.i64 a0 (fun x0 => ptrW a1 (fun ad1 => ∃ v2 : Value, rd h ad1 = some v2 ∧ slAtW v2 x0 1 (fun ad3 => ∃ x4 : Int, rd h ad3 = some (Value.int IntKind.i64 x4) ∧ cond (decide (x0 > (0 : Int))) (
cond (!(decide (x4 < (0 : Int)))) (
ptrW a2 (fun ad5 => ∃ v6 : Value, rd h (Addr.add ad5 2) = some v6 ∧ D 50 [v6, (Value.int IntKind.i64 x4)] h (fun v7 h8 => ∃ t9 : Bool, v7 = (Value.bool t9) ∧ j80__3 D k kp (Value.int IntKind.i64 x0) a1 a2 a3 a4 a5 (Value.int IntKind.i64 x4) (Value.bool t9) h8) kp)) (
j80__3 D k kp (Value.int IntKind.i64 x0) a1 a2 a3 a4 a5 (Value.int IntKind.i64 x4) (Value.bool true) h)) (
j80__3 D k kp (Value.int IntKind.i64 x0) a1 a2 a3 a4 a5 (Value.int IntKind.i64 x4) (Value.bool false) h))))
def Cl80 (D : Orc) : Prop := ∀ a0 a1 a2 a3 a4 a5 h k kp, F80 D a0 a1 a2 a3 a4 a5 h k kp → D 80 [a0, a1, a2, a3, a4, a5] h k kp
theorem tieR80_10 (D : Orc) (I : List Value → H → Prop) (K : Kl) (a0 a1 a2 a3 : Value) (h : H) : round80_10 D I K a0 a1 a2 a3 h = round Tryz.prog D (L80 D) lv80 (nthC (allLoops (bodyOf Tryz.f80)) 0) I K [a0, a1, a2, a3] h := by kernel_rfl
theorem tieF80 (D : Orc) (a0 a1 a2 a3 a4 a5 : Value) (h : H) (k : Kv) (kp : Kp) : F80 D a0 a1 a2 a3 a4 a5 h k kp = bodyW Tryz.prog D (L80 D) lv80 Tryz.f80 [a0, a1, a2, a3, a4, a5] h k kp := by kernel_rfl
theorem lfp80 : Lfps Tryz.prog (CS Tryz.prog) (L80 (CS Tryz.prog)) lv80 (allLoops (bodyOf Tryz.f80)) := by
  have e : (allLoops (bodyOf Tryz.f80)) = [nthC (allLoops (bodyOf Tryz.f80)) 0] := by kernel_rfl
  rw [e]
  exact ⟨(fun vs h K hk I H => hk I (fun a0 a1 a2 a3 h hr => H _ _ ((tieR80_10 (CS Tryz.prog) I K a0 a1 a2 a3 h) ▸ hr))), trivial⟩
theorem cl80 : Cl80 (CS Tryz.prog) := fun a0 a1 a2 a3 a4 a5 h k kp hk =>
  fn_sound wide (fn := Tryz.f80) (by kernel_rfl) (by kernel_rfl) (by kernel_rfl) lfp80 (by rw [tieF80] at hk; exact hk)
def lv81 : Lv := Lv.mk 17 [.raw, .raw, .raw] (fun i => []) (fun i => []) [(6, .int IntKind.i64)] (fun i => none)
def L81 (D : Orc) : Lor := fun b vs h K => match firstId b with | some i => False | none => False
/-- lodestone/unify.right -/
def F81 (D : Orc) (a0 a1 a2 : Value) (h : H) (k : Kv) (kp : Kp) : Prop :=
D 79 [a0, a1] h (fun v0 h1 => ∃ x2 : Int, v0 = (Value.int IntKind.i64 x2) ∧ cond (x2 != (0 : Int)) (
k (Value.int IntKind.i64 x2) h1) (
D 79 [a0, a2] h1 (fun v3 h4 => ∃ x5 : Int, v3 = (Value.int IntKind.i64 x5) ∧ k (Value.int IntKind.i64 x5) h4) kp)) kp
def Cl81 (D : Orc) : Prop := ∀ a0 a1 a2 h k kp, F81 D a0 a1 a2 h k kp → D 81 [a0, a1, a2] h k kp
theorem tieF81 (D : Orc) (a0 a1 a2 : Value) (h : H) (k : Kv) (kp : Kp) : F81 D a0 a1 a2 h k kp = bodyW Tryz.prog D (L81 D) lv81 Tryz.f81 [a0, a1, a2] h k kp := by kernel_rfl
theorem lfp81 : Lfps Tryz.prog (CS Tryz.prog) (L81 (CS Tryz.prog)) lv81 (allLoops (bodyOf Tryz.f81)) := by
  have e : (allLoops (bodyOf Tryz.f81)) = [] := by kernel_rfl
  rw [e]
  exact trivial
theorem cl81 : Cl81 (CS Tryz.prog) := fun a0 a1 a2 h k kp hk =>
  fn_sound wide (fn := Tryz.f81) (by kernel_rfl) (by kernel_rfl) (by kernel_rfl) lfp81 (by rw [tieF81] at hk; exact hk)
def lv82 : Lv := Lv.mk 66 [.raw, .raw, .raw] (fun i => cond (Nat.beq i 8) ([(8, .raw), (14, .bool), (47, .raw), (48, .int IntKind.i64), (49, .int IntKind.i64)]) ([])) (fun i => cond (Nat.beq i 8) ([(0, [(8, .raw), (14, .bool)])]) ([])) [(6, .raw), (7, .bool)] (fun i => cond (Nat.beq i 12) (some [(8, .raw), (14, .bool), (47, .raw), (48, .int IntKind.i64), (49, .int IntKind.i64)]) (none))
def j82_8_12 (D : Orc) (I : List Value → H → Prop) (K : Kl) (a0 a1 a2 a3 a4 : Value) (h32 : H) : Prop :=
boolW a1 (fun t33 => intK IntKind.i64 a3 (fun x34 => intK IntKind.i64 a4 (fun x35 => I [a0, (Value.bool t33), a2, (Value.int IntKind.i64 x34), (Value.int IntKind.i64 (IntKind.wrap IntKind.i64 (x35 + (1 : Int))))] h32)))
def round82_8 (D : Orc) (I : List Value → H → Prop) (K : Kl) (a0 a1 a2 a3 a4 : Value) (h22 : H) : Prop :=
boolW a1 (fun t23 => intK IntKind.i64 a3 (fun x24 => intK IntKind.i64 a4 (fun x25 => cond (decide (x25 < x24)) (
slAtW a2 x25 1 (fun ad26 => ∃ v27 : Value, rd h22 ad26 = some v27 ∧ D 103 [(Value.iface 143 v27)] h22 (fun v28 h29 => ∃ x30 : Int, ∃ t31 : Bool, v28 = (Value.tuple #[(Value.int IntKind.i64 x30), (Value.bool t31)]) ∧ cond t23 (
j82_8_12 D I K a0 (Value.bool t31) a2 (Value.int IntKind.i64 x24) (Value.int IntKind.i64 x25) h29) (
j82_8_12 D I K a0 (Value.bool false) a2 (Value.int IntKind.i64 x24) (Value.int IntKind.i64 x25) h29)) (fun c h => K (X.p c) [] h))) (
K (X.e 0) [a0, (Value.bool t23)] h22))))
def loop82_8 (D : Orc) (vs : List Value) (h : H) (K : Kl) : Prop := ∀ I : List Value → H → Prop, (∀ a0 a1 a2 a3 a4 h, round82_8 D I K a0 a1 a2 a3 a4 h → I [a0, a1, a2, a3, a4] h) → I vs h
def L82 (D : Orc) : Lor := fun b vs h K => match firstId b with | some i => cond (Nat.beq i 8) (loop82_8 D vs h K) (False) | none => False
/-- lodestone/unify.solved -/
def F82 (D : Orc) (a0 a1 a2 : Value) (h : H) (k : Kv) (kp : Kp) : Prop :=
newMap h (fun m0 h1 => one a0 = true ∧ 0 < 3 ∧ one m0 = true ∧ 2 < 3 ∧ newW h1 [a0, (Value.slice none 0 0), m0] (fun p2 h3 => D 101 [p2, a1] h3 (fun v4 h5 => ∃ v6 : Value, ∃ v7 : Value, v4 = (Value.tuple #[v6, v7]) ∧ D 101 [p2, a2] h5 (fun v8 h9 => ∃ v10 : Value, ∃ v11 : Value, v8 = (Value.tuple #[v10, v11]) ∧ D 102 [v6, v10] h9 (fun v12 h13 => ∃ t14 : Bool, v12 = (Value.bool t14) ∧ cond (!t14) (
k (Value.tuple #[(Value.pointer none), (Value.bool false)]) h13) (
D 103 [v6] h13 (fun v15 h16 => ∃ x17 : Int, ∃ t18 : Bool, v15 = (Value.tuple #[(Value.int IntKind.i64 x17), (Value.bool t18)]) ∧ nonNil p2 = true ∧ ptrW p2 (fun ad19 => ∃ v20 : Value, rd h16 (Addr.add ad19 1) = some v20 ∧ lenW v20 (fun n21 => loop82_8 D [p2, (Value.bool t18), v20, (Value.int IntKind.i64 (n21 : Int)), (Value.int IntKind.i64 (0 : Int))] h16 (fun x37 vs38 h36 => xs x37 (boolW (nth vs38 1) (fun t40 => k (Value.tuple #[(nth vs38 0), (Value.bool t40)]) h36)) (fun i39 => cond (Nat.beq i39 0) (
boolW (nth vs38 1) (fun t41 => k (Value.tuple #[(nth vs38 0), (Value.bool t41)]) h36)) (False)) (fun c => kp c h36))))) kp)) kp) kp) kp))
def Cl82 (D : Orc) : Prop := ∀ a0 a1 a2 h k kp, F82 D a0 a1 a2 h k kp → D 82 [a0, a1, a2] h k kp
theorem tieR82_8 (D : Orc) (I : List Value → H → Prop) (K : Kl) (a0 a1 a2 a3 a4 : Value) (h : H) : round82_8 D I K a0 a1 a2 a3 a4 h = round Tryz.prog D (L82 D) lv82 (nthC (allLoops (bodyOf Tryz.f82)) 0) I K [a0, a1, a2, a3, a4] h := by kernel_rfl
theorem tieF82 (D : Orc) (a0 a1 a2 : Value) (h : H) (k : Kv) (kp : Kp) : F82 D a0 a1 a2 h k kp = bodyW Tryz.prog D (L82 D) lv82 Tryz.f82 [a0, a1, a2] h k kp := by kernel_rfl
theorem lfp82 : Lfps Tryz.prog (CS Tryz.prog) (L82 (CS Tryz.prog)) lv82 (allLoops (bodyOf Tryz.f82)) := by
  have e : (allLoops (bodyOf Tryz.f82)) = [nthC (allLoops (bodyOf Tryz.f82)) 0] := by kernel_rfl
  rw [e]
  exact ⟨(fun vs h K hk I H => hk I (fun a0 a1 a2 a3 a4 h hr => H _ _ ((tieR82_8 (CS Tryz.prog) I K a0 a1 a2 a3 a4 h) ▸ hr))), trivial⟩
theorem cl82 : Cl82 (CS Tryz.prog) := fun a0 a1 a2 h k kp hk =>
  fn_sound wide (fn := Tryz.f82) (by kernel_rfl) (by kernel_rfl) (by kernel_rfl) lfp82 (by rw [tieF82] at hk; exact hk)
def lv101 : Lv := Lv.mk 96 [.raw, .raw] (fun i => cond (Nat.beq i 11) ([(0, .raw), (7, .raw), (10, .raw), (73, .int IntKind.i64), (74, .int IntKind.i64)]) ([])) (fun i => cond (Nat.beq i 11) ([(0, [(7, .raw), (10, .raw)])]) ([])) [(4, .raw), (5, .raw)] (fun i => cond (Nat.beq i 8) (some [(0, .raw), (7, .raw), (8, .int IntKind.i64)]) (none))
def j101__8 (D : Orc) (k : Kv) (kp : Kp) (a0 a1 a2 : Value) (h27 : H) : Prop :=
intK IntKind.i64 a2 (fun x28 => nonNil a0 = true ∧ ptrW a0 (fun ad29 => ∃ v30 : Value, rd h27 (Addr.add ad29 1) = some v30 ∧ slAtW v30 x28 1 (fun ad31 => ∃ v32 : Value, rd h27 ad31 = some v32 ∧ k (Value.tuple #[(Value.iface 143 v32), a1]) h27)))
def round101_11 (D : Orc) (I : List Value → H → Prop) (K : Kl) (a0 a1 a2 a3 a4 : Value) (h39 : H) : Prop :=
intK IntKind.i64 a3 (fun x40 => intK IntKind.i64 a4 (fun x41 => cond (decide (x41 < x40)) (
D 101 [a0, a1] h39 (fun v42 h43 => ∃ v44 : Value, ∃ v45 : Value, v42 = (Value.tuple #[v44, v45]) ∧ nonNil a2 = true ∧ ptrW a2 (fun ad46 => ∃ v47 : Value, rd h43 (Addr.add ad46 1) = some v47 ∧ one v44 = true ∧ 0 < 1 ∧ newSl h43 1 [v44] (fun s48 h49 => slenW s48 (fun n50 => srcW h49 1 s48 (n50) (fun w51 => apW h49 1 16 [Value.nilIface] v47 (n50) w51 (fun s52 h53 => nonNil a2 = true ∧ ptrW a2 (fun ad54 => one s52 = true ∧ 1 = 1 ∧ ∃ h55, wr1 h53 (Addr.add ad54 1) s52 = some h55 ∧ I [a0, v45, a2, (Value.int IntKind.i64 x40), (Value.int IntKind.i64 (IntKind.wrap IntKind.i64 (x41 + (1 : Int))))] h55))))))) (fun c h => K (X.p c) [] h)) (
K (X.e 0) [a1, a2] h39)))
def loop101_11 (D : Orc) (vs : List Value) (h : H) (K : Kl) : Prop := ∀ I : List Value → H → Prop, (∀ a0 a1 a2 a3 a4 h, round101_11 D I K a0 a1 a2 a3 a4 h → I [a0, a1, a2, a3, a4] h) → I vs h
def L101 (D : Orc) : Lor := fun b vs h K => match firstId b with | some i => cond (Nat.beq i 11) (loop101_11 D vs h K) (False) | none => False
/-- (*lodestone/unify.board).lay -/
def F101 (D : Orc) (a0 a1 : Value) (h : H) (k : Kv) (kp : Kp) : Prop :=
slAtW a1 (0 : Int) 1 (fun ad0 => ∃ x1 : Int, rd h ad0 = some (Value.int IntKind.i64 x1) ∧ slCutW a1 (some (1 : Int)) none none 1 (fun s2 => cond (decide (x1 < (0 : Int))) (
nonNil a0 = true ∧ ptrW a0 (fun ad3 => ∃ v4 : Value, rd h (Addr.add ad3 2) = some v4 ∧ mapK h v4 (fun es5 => lookW (TypeDesc.int IntKind.i64) (Value.int IntKind.i64 x1) es5 (Value.int IntKind.i64 (0 : Int)) (fun v6 t7 => ∃ x8 : Int, v6 = (Value.int IntKind.i64 x8) ∧ cond (!t7) (
nonNil a0 = true ∧ ptrW a0 (fun ad9 => ∃ v10 : Value, rd h (Addr.add ad9 1) = some v10 ∧ lenW v10 (fun n11 => nonNil a0 = true ∧ ptrW a0 (fun ad12 => ∃ v13 : Value, rd h (Addr.add ad12 2) = some v13 ∧ mapU h v13 (TypeDesc.int IntKind.i64) (Value.int IntKind.i64 x1) (Value.int IntKind.i64 (n11 : Int)) (fun h14 => nonNil a0 = true ∧ ptrW a0 (fun ad15 => ∃ v16 : Value, rd h14 (Addr.add ad15 1) = some v16 ∧ one (Value.int IntKind.i64 (IntKind.wrap IntKind.i64 ((-1 : Int) - x1))) = true ∧ 0 < 2 ∧ newW h14 [(Value.int IntKind.i64 (IntKind.wrap IntKind.i64 ((-1 : Int) - x1))), Value.nilIface] (fun p17 h18 => one p17 = true ∧ 0 < 1 ∧ newSl h18 1 [p17] (fun s19 h20 => slenW s19 (fun n21 => srcW h20 1 s19 (n21) (fun w22 => apW h20 1 8 [(Value.pointer none)] v16 (n21) w22 (fun s23 h24 => nonNil a0 = true ∧ ptrW a0 (fun ad25 => one s23 = true ∧ 1 = 1 ∧ ∃ h26, wr1 h24 (Addr.add ad25 1) s23 = some h26 ∧ j101__8 D k kp a0 s2 (Value.int IntKind.i64 (n11 : Int)) h26)))))))))))) (
j101__8 D k kp a0 s2 (Value.int IntKind.i64 x8) h))))) (
one (Value.int IntKind.i64 x1) = true ∧ 0 < 4 ∧ newW h [(Value.int IntKind.i64 x1), (Value.slice none 0 0), Value.nilIface, (Value.int IntKind.i64 (0 : Int))] (fun p33 h34 => nonNil a0 = true ∧ ptrW a0 (fun ad35 => ∃ v36 : Value, rd h34 (Addr.add ad35 0) = some v36 ∧ slAtW v36 x1 2 (fun ad37 => ∃ x38 : Int, rd h34 (Addr.add ad37 1) = some (Value.int IntKind.i64 x38) ∧ loop101_11 D [a0, s2, p33, (Value.int IntKind.i64 x38), (Value.int IntKind.i64 (0 : Int))] h34 (fun x57 vs58 h56 => xs x57 (k (Value.tuple #[(nth vs58 0), (nth vs58 1)]) h56) (fun i59 => cond (Nat.beq i59 0) (
k (Value.tuple #[(Value.iface 157 (nth vs58 1)), (nth vs58 0)]) h56) (False)) (fun c => kp c h56))))))))
def Cl101 (D : Orc) : Prop := ∀ a0 a1 h k kp, F101 D a0 a1 h k kp → D 101 [a0, a1] h k kp
theorem tieR101_11 (D : Orc) (I : List Value → H → Prop) (K : Kl) (a0 a1 a2 a3 a4 : Value) (h : H) : round101_11 D I K a0 a1 a2 a3 a4 h = round Tryz.prog D (L101 D) lv101 (nthC (allLoops (bodyOf Tryz.f101)) 0) I K [a0, a1, a2, a3, a4] h := by kernel_rfl
theorem tieF101 (D : Orc) (a0 a1 : Value) (h : H) (k : Kv) (kp : Kp) : F101 D a0 a1 h k kp = bodyW Tryz.prog D (L101 D) lv101 Tryz.f101 [a0, a1] h k kp := by kernel_rfl
theorem lfp101 : Lfps Tryz.prog (CS Tryz.prog) (L101 (CS Tryz.prog)) lv101 (allLoops (bodyOf Tryz.f101)) := by
  have e : (allLoops (bodyOf Tryz.f101)) = [nthC (allLoops (bodyOf Tryz.f101)) 0] := by kernel_rfl
  rw [e]
  exact ⟨(fun vs h K hk I H => hk I (fun a0 a1 a2 a3 a4 h hr => H _ _ ((tieR101_11 (CS Tryz.prog) I K a0 a1 a2 a3 a4 h) ▸ hr))), trivial⟩
theorem cl101 : Cl101 (CS Tryz.prog) := fun a0 a1 h k kp hk =>
  fn_sound wide (fn := Tryz.f101) (by kernel_rfl) (by kernel_rfl) (by kernel_rfl) lfp101 (by rw [tieF101] at hk; exact hk)
def lv102 : Lv := Lv.mk 115 [.raw, .raw] (fun i => cond (Nat.beq i 23) ([(9, .raw), (10, .raw), (94, .int IntKind.i64), (95, .int IntKind.i64)]) ([])) (fun i => cond (Nat.beq i 23) ([(1, [])]) ([])) [(4, .bool)] (fun i => cond (Nat.beq i 7) (some [(0, .raw), (1, .raw), (5, .raw), (6, .bool), (7, .raw), (8, .bool), (29, .bool)]) (cond (Nat.beq i 10) (some [(0, .raw), (1, .raw), (5, .raw), (6, .bool), (7, .raw), (8, .bool), (50, .bool)]) (none)))
def round102_23 (D : Orc) (I : List Value → H → Prop) (K : Kl) (a0 a1 a2 a3 : Value) (h46 : H) : Prop :=
intK IntKind.i64 a2 (fun x47 => intK IntKind.i64 a3 (fun x48 => cond (decide (x48 < x47)) (
nonNil a0 = true ∧ ptrW a0 (fun ad49 => ∃ v50 : Value, rd h46 (Addr.add ad49 1) = some v50 ∧ slAtW v50 x48 1 (fun ad51 => ∃ v52 : Value, rd h46 ad51 = some v52 ∧ nonNil a1 = true ∧ ptrW a1 (fun ad53 => ∃ v54 : Value, rd h46 (Addr.add ad53 1) = some v54 ∧ slAtW v54 x48 1 (fun ad55 => ∃ v56 : Value, rd h46 ad55 = some v56 ∧ D 102 [v52, v56] h46 (fun v57 h58 => ∃ t59 : Bool, v57 = (Value.bool t59) ∧ cond (!t59) (
K X.r [(Value.bool false)] h58) (
I [a0, a1, (Value.int IntKind.i64 x47), (Value.int IntKind.i64 (IntKind.wrap IntKind.i64 (x48 + (1 : Int))))] h58)) (fun c h => K (X.p c) [] h)))))) (
K (X.e 1) [] h46)))
def loop102_23 (D : Orc) (vs : List Value) (h : H) (K : Kl) : Prop := ∀ I : List Value → H → Prop, (∀ a0 a1 a2 a3 h, round102_23 D I K a0 a1 a2 a3 h → I [a0, a1, a2, a3] h) → I vs h
def j102__10 (D : Orc) (k : Kv) (kp : Kp) (a0 a1 a2 a3 a4 a5 a6 : Value) (h25 : H) : Prop :=
boolW a3 (fun t26 => boolW a5 (fun t27 => boolW a6 (fun t28 => cond t28 (
nonNil a4 = true ∧ ptrW a4 (fun ad29 => one (Value.iface 143 a2) = true ∧ 1 = 1 ∧ ∃ h30, wr1 h25 (Addr.add ad29 1) (Value.iface 143 a2) = some h30 ∧ k (Value.bool true) h30)) (
cond t26 (
nonNil a2 = true ∧ ptrW a2 (fun ad31 => one a1 = true ∧ 1 = 1 ∧ ∃ h32, wr1 h25 (Addr.add ad31 1) a1 = some h32 ∧ k (Value.bool true) h32)) (
cond t27 (
nonNil a4 = true ∧ ptrW a4 (fun ad33 => one a0 = true ∧ 1 = 1 ∧ ∃ h34, wr1 h25 (Addr.add ad33 1) a0 = some h34 ∧ k (Value.bool true) h34)) (
assertW Tryz.prog a0 157 false (fun v35 => assertW Tryz.prog a1 157 false (fun v36 => nonNil v35 = true ∧ ptrW v35 (fun ad37 => ∃ x38 : Int, rd h25 (Addr.add ad37 0) = some (Value.int IntKind.i64 x38) ∧ nonNil v36 = true ∧ ptrW v36 (fun ad39 => ∃ x40 : Int, rd h25 (Addr.add ad39 0) = some (Value.int IntKind.i64 x40) ∧ cond (x38 != x40) (
k (Value.bool false) h25) (
nonNil v35 = true ∧ ptrW v35 (fun ad41 => one (Value.iface 157 v36) = true ∧ 1 = 1 ∧ ∃ h42, wr1 h25 (Addr.add ad41 2) (Value.iface 157 v36) = some h42 ∧ nonNil v35 = true ∧ ptrW v35 (fun ad43 => ∃ v44 : Value, rd h42 (Addr.add ad43 1) = some v44 ∧ lenW v44 (fun n45 => loop102_23 D [v35, v36, (Value.int IntKind.i64 (n45 : Int)), (Value.int IntKind.i64 (0 : Int))] h42 (fun x61 vs62 h60 => xs x61 (boolW (nth vs62 0) (fun t64 => k (Value.bool t64) h60)) (fun i63 => cond (Nat.beq i63 1) (
k (Value.bool true) h60) (False)) (fun c => kp c h60))))))))))))))))
def j102__7 (D : Orc) (k : Kv) (kp : Kp) (a0 a1 a2 a3 a4 a5 a6 : Value) (h19 : H) : Prop :=
boolW a3 (fun t20 => boolW a5 (fun t21 => boolW a6 (fun t22 => cond t22 (
nonNil a2 = true ∧ ptrW a2 (fun ad23 => one (Value.iface 143 a4) = true ∧ 1 = 1 ∧ ∃ h24, wr1 h19 (Addr.add ad23 1) (Value.iface 143 a4) = some h24 ∧ k (Value.bool true) h24)) (
cond t20 (
j102__10 D k kp a0 a1 a2 (Value.bool t20) a4 (Value.bool t21) (Value.bool t21) h19) (
j102__10 D k kp a0 a1 a2 (Value.bool t20) a4 (Value.bool t21) (Value.bool false) h19)))))
def L102 (D : Orc) : Lor := fun b vs h K => match firstId b with | some i => cond (Nat.beq i 23) (loop102_23 D vs h K) (False) | none => False
/-- lodestone/unify.one -/
def F102 (D : Orc) (a0 a1 : Value) (h : H) (k : Kv) (kp : Kp) : Prop :=
D 116 [a0] h (fun v0 h1 => ∃ v2 : Value, v0 = v2 ∧ D 116 [a1] h1 (fun v3 h4 => ∃ v5 : Value, v3 = v5 ∧ refE Tryz.prog h4 138 v2 v5 (fun t6 => cond t6 (
k (Value.bool true) h4) (
assertW Tryz.prog v2 143 true (fun v7 => extractW v7 0 (fun v8 => extractW v7 1 (fun v9 => assertW Tryz.prog v5 143 true (fun v10 => extractW v10 0 (fun v11 => extractW v10 1 (fun v12 => grdW v9 (fun t13 => cond t13 (
grdW v12 (fun t14 => cond t14 (
nonNil v8 = true ∧ ptrW v8 (fun ad15 => ∃ x16 : Int, rd h4 (Addr.add ad15 0) = some (Value.int IntKind.i64 x16) ∧ nonNil v11 = true ∧ ptrW v11 (fun ad17 => ∃ x18 : Int, rd h4 (Addr.add ad17 0) = some (Value.int IntKind.i64 x18) ∧ j102__7 D k kp v2 v5 v8 v9 v11 v12 (Value.bool (decide (x16 > x18))) h4))) (
j102__7 D k kp v2 v5 v8 v9 v11 v12 (Value.bool false) h4)) (
grdW v12 (fun t65 => cond t65 (
nonNil undef = true ∧ ptrW undef (fun ad66 => ∃ x67 : Int, rd h4 (Addr.add ad66 0) = some (Value.int IntKind.i64 x67) ∧ nonNil v11 = true ∧ ptrW v11 (fun ad68 => ∃ x69 : Int, rd h4 (Addr.add ad68 0) = some (Value.int IntKind.i64 x69) ∧ j102__7 D k kp v2 v5 v8 v9 v11 v12 (Value.bool (decide (x67 > x69))) h4))) (
j102__7 D k kp v2 v5 v8 v9 v11 v12 (Value.bool false) h4)) (
grdW v12 (fun t70 => cond t70 (
ptrW undef (fun ad71 => ∃ x72 : Int, rd h4 (Addr.add ad71 0) = some (Value.int IntKind.i64 x72) ∧ nonNil v11 = true ∧ ptrW v11 (fun ad73 => ∃ x74 : Int, rd h4 (Addr.add ad73 0) = some (Value.int IntKind.i64 x74) ∧ j102__7 D k kp v2 v5 v8 v9 v11 v12 (Value.bool (decide (x72 > x74))) h4))) (
j102__7 D k kp v2 v5 v8 v9 v11 v12 (Value.bool false) h4)) (
grdW v12 (fun t75 => cond t75 (
ptrW undef (fun ad76 => ∃ x77 : Int, rd h4 ad76 = some (Value.int IntKind.i64 x77) ∧ nonNil v11 = true ∧ ptrW v11 (fun ad78 => ∃ x79 : Int, rd h4 (Addr.add ad78 0) = some (Value.int IntKind.i64 x79) ∧ j102__7 D k kp v2 v5 v8 v9 v11 v12 (Value.bool (decide (x77 > x79))) h4))) (
j102__7 D k kp v2 v5 v8 v9 v11 v12 (Value.bool false) h4)) (
grdW v12 (fun t80 => cond t80 (
nonNil v11 = true ∧ ptrW v11 (fun ad81 => ∃ x82 : Int, rd h4 (Addr.add ad81 0) = some (Value.int IntKind.i64 x82) ∧ intK IntKind.i64 undef (fun x83 => j102__7 D k kp v2 v5 v8 v9 v11 v12 (Value.bool (decide (x83 > x82))) h4))) (
j102__7 D k kp v2 v5 v8 v9 v11 v12 (Value.bool false) h4)) (
grdW v12 (fun t84 => cond t84 (
nonNil undef = true ∧ ptrW undef (fun ad85 => ∃ x86 : Int, rd h4 (Addr.add ad85 0) = some (Value.int IntKind.i64 x86) ∧ intK IntKind.i64 undef (fun x87 => j102__7 D k kp v2 v5 v8 v9 v11 v12 (Value.bool (decide (x87 > x86))) h4))) (
j102__7 D k kp v2 v5 v8 v9 v11 v12 (Value.bool false) h4)) (
grdW v12 (fun t88 => cond t88 (
ptrW undef (fun ad89 => ∃ x90 : Int, rd h4 (Addr.add ad89 0) = some (Value.int IntKind.i64 x90) ∧ intK IntKind.i64 undef (fun x91 => j102__7 D k kp v2 v5 v8 v9 v11 v12 (Value.bool (decide (x91 > x90))) h4))) (
j102__7 D k kp v2 v5 v8 v9 v11 v12 (Value.bool false) h4)) (
grdW v12 (fun t92 => cond t92 (
ptrW undef (fun ad93 => ∃ x94 : Int, rd h4 ad93 = some (Value.int IntKind.i64 x94) ∧ intK IntKind.i64 undef (fun x95 => j102__7 D k kp v2 v5 v8 v9 v11 v12 (Value.bool (decide (x95 > x94))) h4))) (
j102__7 D k kp v2 v5 v8 v9 v11 v12 (Value.bool false) h4)) (
grdW v12 (fun t96 => cond t96 (
intK IntKind.i64 undef (fun x97 => intK IntKind.i64 undef (fun x98 => j102__7 D k kp v2 v5 v8 v9 v11 v12 (Value.bool (decide (x97 > x98))) h4))) (
j102__7 D k kp v2 v5 v8 v9 v11 v12 (Value.bool false) h4)) (
boolW v12 (fun t99 => cond t99 (j102__7 D k kp v2 v5 v8 v9 v11 v12 undef h4) (j102__7 D k kp v2 v5 v8 v9 v11 v12 (Value.bool false) h4)))))))))))) (
j102__7 D k kp v2 v5 v8 v9 v11 v12 (Value.bool false) h4)) (
boolW v9 (fun t100 => cond t100 (boolW undef (fun t101 => cond t101 (j102__7 D k kp v2 v5 v8 v9 v11 v12 undef h4) (j102__7 D k kp v2 v5 v8 v9 v11 v12 (Value.bool false) h4))) (j102__7 D k kp v2 v5 v8 v9 v11 v12 (Value.bool false) h4)))))))))))) kp) kp
def Cl102 (D : Orc) : Prop := ∀ a0 a1 h k kp, F102 D a0 a1 h k kp → D 102 [a0, a1] h k kp
theorem tieR102_23 (D : Orc) (I : List Value → H → Prop) (K : Kl) (a0 a1 a2 a3 : Value) (h : H) : round102_23 D I K a0 a1 a2 a3 h = round Tryz.prog D (L102 D) lv102 (nthC (allLoops (bodyOf Tryz.f102)) 0) I K [a0, a1, a2, a3] h := by kernel_rfl
theorem tieF102 (D : Orc) (a0 a1 : Value) (h : H) (k : Kv) (kp : Kp) : F102 D a0 a1 h k kp = bodyW Tryz.prog D (L102 D) lv102 Tryz.f102 [a0, a1] h k kp := by kernel_rfl
theorem lfp102 : Lfps Tryz.prog (CS Tryz.prog) (L102 (CS Tryz.prog)) lv102 (allLoops (bodyOf Tryz.f102)) := by
  have e : (allLoops (bodyOf Tryz.f102)) = [nthC (allLoops (bodyOf Tryz.f102)) 0] := by kernel_rfl
  rw [e]
  exact ⟨(fun vs h K hk I H => hk I (fun a0 a1 a2 a3 h hr => H _ _ ((tieR102_23 (CS Tryz.prog) I K a0 a1 a2 a3 h) ▸ hr))), trivial⟩
theorem cl102 : Cl102 (CS Tryz.prog) := fun a0 a1 h k kp hk =>
  fn_sound wide (fn := Tryz.f102) (by kernel_rfl) (by kernel_rfl) (by kernel_rfl) lfp102 (by rw [tieF102] at hk; exact hk)
def lv103 : Lv := Lv.mk 65 [.raw] (fun i => cond (Nat.beq i 11) ([(6, .raw), (7, .int IntKind.i64), (42, .raw), (43, .int IntKind.i64), (44, .int IntKind.i64)]) ([])) (fun i => cond (Nat.beq i 11) ([(0, [(6, .raw), (7, .int IntKind.i64)])]) ([])) [(2, .int IntKind.i64), (3, .bool)] (fun i => none)
def round103_11 (D : Orc) (I : List Value → H → Prop) (K : Kl) (a0 a1 a2 a3 a4 : Value) (h19 : H) : Prop :=
intK IntKind.i64 a1 (fun x20 => intK IntKind.i64 a3 (fun x21 => intK IntKind.i64 a4 (fun x22 => cond (decide (x22 < x21)) (
slAtW a2 x22 1 (fun ad23 => ∃ v24 : Value, rd h19 ad23 = some v24 ∧ D 103 [v24] h19 (fun v25 h26 => ∃ x27 : Int, ∃ t28 : Bool, v25 = (Value.tuple #[(Value.int IntKind.i64 x27), (Value.bool t28)]) ∧ cond (!t28) (
K X.r [(Value.int IntKind.i64 (0 : Int)), (Value.bool false)] h26) (
minMax false [(Value.int IntKind.i64 (IntKind.wrap IntKind.i64 (x20 + x27))), (Value.int IntKind.i64 (513 : Int))] (fun v29 => I [a0, v29, a2, (Value.int IntKind.i64 x21), (Value.int IntKind.i64 (IntKind.wrap IntKind.i64 (x22 + (1 : Int))))] h26))) (fun c h => K (X.p c) [] h))) (
K (X.e 0) [a0, (Value.int IntKind.i64 x20)] h19))))
def loop103_11 (D : Orc) (vs : List Value) (h : H) (K : Kl) : Prop := ∀ I : List Value → H → Prop, (∀ a0 a1 a2 a3 a4 h, round103_11 D I K a0 a1 a2 a3 a4 h → I [a0, a1, a2, a3, a4] h) → I vs h
def L103 (D : Orc) : Lor := fun b vs h K => match firstId b with | some i => cond (Nat.beq i 11) (loop103_11 D vs h K) (False) | none => False
/-- lodestone/unify.measure -/
def F103 (D : Orc) (a0 : Value) (h : H) (k : Kv) (kp : Kp) : Prop :=
D 116 [a0] h (fun v0 h1 => ∃ v2 : Value, v0 = v2 ∧ assertW Tryz.prog v2 143 true (fun v3 => extractW v3 0 (fun v4 => extractW v3 1 (fun v5 => boolW v5 (fun t6 => cond t6 (
k (Value.tuple #[(Value.int IntKind.i64 (1 : Int)), (Value.bool true)]) h1) (
assertW Tryz.prog v2 157 false (fun v7 => nonNil v7 = true ∧ ptrW v7 (fun ad8 => ∃ x9 : Int, rd h1 (Addr.add ad8 3) = some (Value.int IntKind.i64 x9) ∧ cond (x9 != (0 : Int)) (
nonNil v7 = true ∧ ptrW v7 (fun ad10 => ∃ x11 : Int, rd h1 (Addr.add ad10 3) = some (Value.int IntKind.i64 x11) ∧ nonNil v7 = true ∧ ptrW v7 (fun ad12 => ∃ x13 : Int, rd h1 (Addr.add ad12 3) = some (Value.int IntKind.i64 x13) ∧ k (Value.tuple #[(Value.int IntKind.i64 x11), (Value.bool (decide (x13 > (0 : Int))))]) h1))) (
nonNil v7 = true ∧ ptrW v7 (fun ad14 => one (Value.int IntKind.i64 (-1 : Int)) = true ∧ 1 = 1 ∧ ∃ h15, wr1 h1 (Addr.add ad14 3) (Value.int IntKind.i64 (-1 : Int)) = some h15 ∧ nonNil v7 = true ∧ ptrW v7 (fun ad16 => ∃ v17 : Value, rd h15 (Addr.add ad16 1) = some v17 ∧ lenW v17 (fun n18 => loop103_11 D [v7, (Value.int IntKind.i64 (1 : Int)), v17, (Value.int IntKind.i64 (n18 : Int)), (Value.int IntKind.i64 (0 : Int))] h15 (fun x31 vs32 h30 => xs x31 (intK IntKind.i64 (nth vs32 0) (fun x34 => boolW (nth vs32 1) (fun t35 => k (Value.tuple #[(Value.int IntKind.i64 x34), (Value.bool t35)]) h30))) (fun i33 => cond (Nat.beq i33 0) (
intK IntKind.i64 (nth vs32 1) (fun x36 => nonNil (nth vs32 0) = true ∧ ptrW (nth vs32 0) (fun ad37 => one (Value.int IntKind.i64 x36) = true ∧ 1 = 1 ∧ ∃ h38, wr1 h30 (Addr.add ad37 3) (Value.int IntKind.i64 x36) = some h38 ∧ k (Value.tuple #[(Value.int IntKind.i64 x36), (Value.bool true)]) h38))) (False)) (fun c => kp c h30)))))))))))))) kp
def Cl103 (D : Orc) : Prop := ∀ a0 h k kp, F103 D a0 h k kp → D 103 [a0] h k kp
theorem tieR103_11 (D : Orc) (I : List Value → H → Prop) (K : Kl) (a0 a1 a2 a3 a4 : Value) (h : H) : round103_11 D I K a0 a1 a2 a3 a4 h = round Tryz.prog D (L103 D) lv103 (nthC (allLoops (bodyOf Tryz.f103)) 0) I K [a0, a1, a2, a3, a4] h := by kernel_rfl
theorem tieF103 (D : Orc) (a0 : Value) (h : H) (k : Kv) (kp : Kp) : F103 D a0 h k kp = bodyW Tryz.prog D (L103 D) lv103 Tryz.f103 [a0] h k kp := by kernel_rfl
theorem lfp103 : Lfps Tryz.prog (CS Tryz.prog) (L103 (CS Tryz.prog)) lv103 (allLoops (bodyOf Tryz.f103)) := by
  have e : (allLoops (bodyOf Tryz.f103)) = [nthC (allLoops (bodyOf Tryz.f103)) 0] := by kernel_rfl
  rw [e]
  exact ⟨(fun vs h K hk I H => hk I (fun a0 a1 a2 a3 a4 h hr => H _ _ ((tieR103_11 (CS Tryz.prog) I K a0 a1 a2 a3 a4 h) ▸ hr))), trivial⟩
theorem cl103 : Cl103 (CS Tryz.prog) := fun a0 h k kp hk =>
  fn_sound wide (fn := Tryz.f103) (by kernel_rfl) (by kernel_rfl) (by kernel_rfl) lfp103 (by rw [tieF103] at hk; exact hk)
def lv116 : Lv := Lv.mk 9 [.raw] (fun i => cond (Nat.beq i 1) ([(0, .raw)]) ([])) (fun i => cond (Nat.beq i 1) ([(0, [(0, .raw)])]) ([])) [(2, .raw)] (fun i => none)
def round116_1 (D : Orc) (I : List Value → H → Prop) (K : Kl) (a0 : Value) (h0 : H) : Prop :=
invW Tryz.prog D 138 a0 "lodestone/unify.behind" [] h0 (fun v1 h2 => eqIf true v1 Value.nilIface (fun t3 => cond (!t3) (
invW Tryz.prog D 138 a0 "lodestone/unify.behind" [] h2 (fun v4 h5 => I [v4] h5) (fun c h => K (X.p c) [] h)) (
K (X.e 0) [a0] h2))) (fun c h => K (X.p c) [] h)
def loop116_1 (D : Orc) (vs : List Value) (h : H) (K : Kl) : Prop := ∀ I : List Value → H → Prop, (∀ a0 h, round116_1 D I K a0 h → I [a0] h) → I vs h
def L116 (D : Orc) : Lor := fun b vs h K => match firstId b with | some i => cond (Nat.beq i 1) (loop116_1 D vs h K) (False) | none => False
/-- lodestone/unify.end -/
def F116 (D : Orc) (a0 : Value) (h : H) (k : Kv) (kp : Kp) : Prop :=
loop116_1 D [a0] h (fun x7 vs8 h6 => xs x7 (k (nth vs8 0) h6) (fun i9 => cond (Nat.beq i9 0) (
k (nth vs8 0) h6) (False)) (fun c => kp c h6))
def Cl116 (D : Orc) : Prop := ∀ a0 h k kp, F116 D a0 h k kp → D 116 [a0] h k kp
theorem tieR116_1 (D : Orc) (I : List Value → H → Prop) (K : Kl) (a0 : Value) (h : H) : round116_1 D I K a0 h = round Tryz.prog D (L116 D) lv116 (nthC (allLoops (bodyOf Tryz.f116)) 0) I K [a0] h := by kernel_rfl
theorem tieF116 (D : Orc) (a0 : Value) (h : H) (k : Kv) (kp : Kp) : F116 D a0 h k kp = bodyW Tryz.prog D (L116 D) lv116 Tryz.f116 [a0] h k kp := by kernel_rfl
theorem lfp116 : Lfps Tryz.prog (CS Tryz.prog) (L116 (CS Tryz.prog)) lv116 (allLoops (bodyOf Tryz.f116)) := by
  have e : (allLoops (bodyOf Tryz.f116)) = [nthC (allLoops (bodyOf Tryz.f116)) 0] := by kernel_rfl
  rw [e]
  exact ⟨(fun vs h K hk I H => hk I (fun a0 h hr => H _ _ ((tieR116_1 (CS Tryz.prog) I K a0 h) ▸ hr))), trivial⟩
theorem cl116 : Cl116 (CS Tryz.prog) := fun a0 h k kp hk =>
  fn_sound wide (fn := Tryz.f116) (by kernel_rfl) (by kernel_rfl) (by kernel_rfl) lfp116 (by rw [tieF116] at hk; exact hk)
def lv152 : Lv := Lv.mk 7 [.raw] (fun i => []) (fun i => []) [(2, .raw)] (fun i => none)
def L152 (D : Orc) : Lor := fun b vs h K => match firstId b with | some i => False | none => False
/-- (*lodestone/unify.variable).behind -/
def F152 (D : Orc) (a0 : Value) (h : H) (k : Kv) (kp : Kp) : Prop :=
nonNil a0 = true ∧ ptrW a0 (fun ad0 => ∃ v1 : Value, rd h (Addr.add ad0 1) = some v1 ∧ k v1 h)
def Cl152 (D : Orc) : Prop := ∀ a0 h k kp, F152 D a0 h k kp → D 152 [a0] h k kp
theorem tieF152 (D : Orc) (a0 : Value) (h : H) (k : Kv) (kp : Kp) : F152 D a0 h k kp = bodyW Tryz.prog D (L152 D) lv152 Tryz.f152 [a0] h k kp := by kernel_rfl
theorem lfp152 : Lfps Tryz.prog (CS Tryz.prog) (L152 (CS Tryz.prog)) lv152 (allLoops (bodyOf Tryz.f152)) := by
  have e : (allLoops (bodyOf Tryz.f152)) = [] := by kernel_rfl
  rw [e]
  exact trivial
theorem cl152 : Cl152 (CS Tryz.prog) := fun a0 h k kp hk =>
  fn_sound wide (fn := Tryz.f152) (by kernel_rfl) (by kernel_rfl) (by kernel_rfl) lfp152 (by rw [tieF152] at hk; exact hk)
def lv153 : Lv := Lv.mk 7 [.raw] (fun i => []) (fun i => []) [(2, .raw)] (fun i => none)
def L153 (D : Orc) : Lor := fun b vs h K => match firstId b with | some i => False | none => False
/-- (*lodestone/unify.tree).behind -/
def F153 (D : Orc) (a0 : Value) (h : H) (k : Kv) (kp : Kp) : Prop :=
nonNil a0 = true ∧ ptrW a0 (fun ad0 => ∃ v1 : Value, rd h (Addr.add ad0 2) = some v1 ∧ k v1 h)
def Cl153 (D : Orc) : Prop := ∀ a0 h k kp, F153 D a0 h k kp → D 153 [a0] h k kp
theorem tieF153 (D : Orc) (a0 : Value) (h : H) (k : Kv) (kp : Kp) : F153 D a0 h k kp = bodyW Tryz.prog D (L153 D) lv153 Tryz.f153 [a0] h k kp := by kernel_rfl
theorem lfp153 : Lfps Tryz.prog (CS Tryz.prog) (L153 (CS Tryz.prog)) lv153 (allLoops (bodyOf Tryz.f153)) := by
  have e : (allLoops (bodyOf Tryz.f153)) = [] := by kernel_rfl
  rw [e]
  exact trivial
theorem cl153 : Cl153 (CS Tryz.prog) := fun a0 h k kp hk =>
  fn_sound wide (fn := Tryz.f153) (by kernel_rfl) (by kernel_rfl) (by kernel_rfl) lfp153 (by rw [tieF153] at hk; exact hk)
def lv85 : Lv := Lv.mk 88 [.raw] (fun i => cond (Nat.beq i 2) ([(0, .raw), (3, .bool)]) (cond (Nat.beq i 5) ([(0, .raw), (3, .bool), (4, .int IntKind.i64)]) (cond (Nat.beq i 12) ([(0, .raw), (3, .bool), (4, .int IntKind.i64), (5, .int IntKind.i64), (6, .int IntKind.i64)]) ([])))) (fun i => cond (Nat.beq i 2) ([(0, [])]) (cond (Nat.beq i 5) ([(2, [(0, .raw), (3, .bool)])]) (cond (Nat.beq i 12) ([(4, [(0, .raw), (3, .bool), (4, .int IntKind.i64)])]) ([])))) [(2, .bool)] (fun i => cond (Nat.beq i 6) (some [(0, .raw), (3, .bool), (4, .int IntKind.i64)]) (cond (Nat.beq i 13) (some [(0, .raw), (3, .bool), (4, .int IntKind.i64), (5, .int IntKind.i64), (6, .int IntKind.i64)]) (none)))
def j85_5_6 (D : Orc) (I : List Value → H → Prop) (K : Kl) (a0 a1 a2 : Value) (h19 : H) : Prop :=
boolW a1 (fun t20 => intK IntKind.i64 a2 (fun x21 => I [a0, (Value.bool t20), (Value.int IntKind.i64 (IntKind.wrap IntKind.i64 (x21 + (1 : Int))))] h19))
def j85_12_13 (D : Orc) (I : List Value → H → Prop) (K : Kl) (a0 a1 a2 a3 a4 : Value) (h55 : H) : Prop :=
boolW a1 (fun t56 => intK IntKind.i64 a2 (fun x57 => intK IntKind.i64 a3 (fun x58 => intK IntKind.i64 a4 (fun x59 => I [a0, (Value.bool t56), (Value.int IntKind.i64 x57), (Value.int IntKind.i64 x58), (Value.int IntKind.i64 (IntKind.wrap IntKind.i64 (x59 + (1 : Int))))] h55))))
def round85_12 (D : Orc) (I : List Value → H → Prop) (K : Kl) (a0 a1 a2 a3 a4 : Value) (h30 : H) : Prop :=
boolW a1 (fun t31 => intK IntKind.i64 a2 (fun x32 => intK IntKind.i64 a3 (fun x33 => intK IntKind.i64 a4 (fun x34 => nonNil a0 = true ∧ ptrW a0 (fun ad35 => ∃ v36 : Value, rd h30 (Addr.add ad35 1) = some v36 ∧ slAtW v36 x32 1 (fun ad37 => ∃ v38 : Value, rd h30 ad37 = some v38 ∧ lenW v38 (fun n39 => cond (decide (x34 < (n39 : Int))) (
nonNil a0 = true ∧ ptrW a0 (fun ad40 => ∃ v41 : Value, rd h30 (Addr.add ad40 1) = some v41 ∧ slAtW v41 x32 1 (fun ad42 => ∃ v43 : Value, rd h30 ad42 = some v43 ∧ slAtW v43 x34 1 (fun ad44 => ∃ x45 : Int, rd h30 ad44 = some (Value.int IntKind.i64 x45) ∧ nonNil a0 = true ∧ ptrW a0 (fun ad46 => ∃ v47 : Value, rd h30 (Addr.add ad46 1) = some v47 ∧ slAtW v47 x33 1 (fun ad48 => ∃ v49 : Value, rd h30 ad48 = some v49 ∧ slAtW v49 x34 1 (fun ad50 => ∃ x51 : Int, rd h30 ad50 = some (Value.int IntKind.i64 x51) ∧ D 84 [a0, (Value.int IntKind.i64 x45), (Value.int IntKind.i64 x51)] h30 (fun v52 h53 => ∃ t54 : Bool, v52 = (Value.bool t54) ∧ cond t54 (
j85_12_13 D I K a0 (Value.bool true) (Value.int IntKind.i64 x32) (Value.int IntKind.i64 x33) (Value.int IntKind.i64 x34) h53) (
j85_12_13 D I K a0 (Value.bool t31) (Value.int IntKind.i64 x32) (Value.int IntKind.i64 x33) (Value.int IntKind.i64 x34) h53)) (fun c h => K (X.p c) [] h)))))))) (
K (X.e 4) [a0, (Value.bool t31), (Value.int IntKind.i64 x32)] h30))))))))
def loop85_12 (D : Orc) (vs : List Value) (h : H) (K : Kl) : Prop := ∀ I : List Value → H → Prop, (∀ a0 a1 a2 a3 a4 h, round85_12 D I K a0 a1 a2 a3 a4 h → I [a0, a1, a2, a3, a4] h) → I vs h
def round85_5 (D : Orc) (I : List Value → H → Prop) (K : Kl) (a0 a1 a2 : Value) (h2 : H) : Prop :=
boolW a1 (fun t3 => intK IntKind.i64 a2 (fun x4 => nonNil a0 = true ∧ ptrW a0 (fun ad5 => ∃ v6 : Value, rd h2 (Addr.add ad5 0) = some v6 ∧ lenW v6 (fun n7 => cond (decide (x4 < (n7 : Int))) (
nonNil a0 = true ∧ ptrW a0 (fun ad8 => ∃ v9 : Value, rd h2 (Addr.add ad8 2) = some v9 ∧ slAtW v9 x4 1 (fun ad10 => ∃ x11 : Int, rd h2 ad10 = some (Value.int IntKind.i64 x11) ∧ D 104 [a0, (Value.int IntKind.i64 x11)] h2 (fun v12 h13 => ∃ x14 : Int, v12 = (Value.int IntKind.i64 x14) ∧ nonNil a0 = true ∧ ptrW a0 (fun ad15 => ∃ v16 : Value, rd h13 (Addr.add ad15 0) = some v16 ∧ slAtW v16 x4 1 (fun ad17 => ∃ x18 : Int, rd h13 ad17 = some (Value.int IntKind.i64 x18) ∧ cond (!(decide (x18 < (0 : Int)))) (
cond (x14 == x4) (
j85_5_6 D I K a0 (Value.bool t3) (Value.int IntKind.i64 x4) h13) (
nonNil a0 = true ∧ ptrW a0 (fun ad22 => ∃ v23 : Value, rd h13 (Addr.add ad22 0) = some v23 ∧ slAtW v23 x14 1 (fun ad24 => ∃ x25 : Int, rd h13 ad24 = some (Value.int IntKind.i64 x25) ∧ nonNil a0 = true ∧ ptrW a0 (fun ad26 => ∃ v27 : Value, rd h13 (Addr.add ad26 0) = some v27 ∧ slAtW v27 x4 1 (fun ad28 => ∃ x29 : Int, rd h13 ad28 = some (Value.int IntKind.i64 x29) ∧ cond (x25 != x29) (
K X.r [(Value.bool false)] h13) (
loop85_12 D [a0, (Value.bool t3), (Value.int IntKind.i64 x4), (Value.int IntKind.i64 x14), (Value.int IntKind.i64 (0 : Int))] h13 (fun x61 vs62 h60 => xs x61 (boolW (nth vs62 0) (fun t64 => K X.r [(Value.bool t64)] h60)) (fun i63 => cond (Nat.beq i63 4) (
boolW (nth vs62 1) (fun t65 => intK IntKind.i64 (nth vs62 2) (fun x66 => j85_5_6 D I K (nth vs62 0) (Value.bool t65) (Value.int IntKind.i64 x66) h60))) (False)) (fun c => (fun c h => K (X.p c) [] h) c h60))))))))) (
j85_5_6 D I K a0 (Value.bool t3) (Value.int IntKind.i64 x4) h13)))) (fun c h => K (X.p c) [] h)))) (
K (X.e 2) [a0, (Value.bool t3)] h2)))))
def loop85_5 (D : Orc) (vs : List Value) (h : H) (K : Kl) : Prop := ∀ I : List Value → H → Prop, (∀ a0 a1 a2 h, round85_5 D I K a0 a1 a2 h → I [a0, a1, a2] h) → I vs h
def round85_2 (D : Orc) (I : List Value → H → Prop) (K : Kl) (a0 a1 : Value) (h0 : H) : Prop :=
boolW a1 (fun t1 => cond t1 (
loop85_5 D [a0, (Value.bool false), (Value.int IntKind.i64 (0 : Int))] h0 (fun x68 vs69 h67 => xs x68 (boolW (nth vs69 0) (fun t71 => K X.r [(Value.bool t71)] h67)) (fun i70 => cond (Nat.beq i70 2) (
boolW (nth vs69 1) (fun t72 => I [(nth vs69 0), (Value.bool t72)] h67)) (False)) (fun c => (fun c h => K (X.p c) [] h) c h67))) (
K (X.e 0) [] h0))
def loop85_2 (D : Orc) (vs : List Value) (h : H) (K : Kl) : Prop := ∀ I : List Value → H → Prop, (∀ a0 a1 h, round85_2 D I K a0 a1 h → I [a0, a1] h) → I vs h
def L85 (D : Orc) : Lor := fun b vs h K => match firstId b with | some i => cond (Nat.beq i 2) (loop85_2 D vs h K) (cond (Nat.beq i 5) (loop85_5 D vs h K) (cond (Nat.beq i 12) (loop85_12 D vs h K) (False))) | none => False
/-- (*lodestone/lodestoneref06.board).close -/
def F85 (D : Orc) (a0 : Value) (h : H) (k : Kv) (kp : Kp) : Prop :=
loop85_2 D [a0, (Value.bool true)] h (fun x74 vs75 h73 => xs x74 (boolW (nth vs75 0) (fun t77 => k (Value.bool t77) h73)) (fun i76 => cond (Nat.beq i76 0) (
k (Value.bool true) h73) (False)) (fun c => kp c h73))
def Cl85 (D : Orc) : Prop := ∀ a0 h k kp, F85 D a0 h k kp → D 85 [a0] h k kp
theorem tieR85_2 (D : Orc) (I : List Value → H → Prop) (K : Kl) (a0 a1 : Value) (h : H) : round85_2 D I K a0 a1 h = round Tryz.prog D (L85 D) lv85 (nthC (allLoops (bodyOf Tryz.f85)) 0) I K [a0, a1] h := by kernel_rfl
theorem tieR85_5 (D : Orc) (I : List Value → H → Prop) (K : Kl) (a0 a1 a2 : Value) (h : H) : round85_5 D I K a0 a1 a2 h = round Tryz.prog D (L85 D) lv85 (nthC (allLoops (bodyOf Tryz.f85)) 1) I K [a0, a1, a2] h := by kernel_rfl
theorem tieR85_12 (D : Orc) (I : List Value → H → Prop) (K : Kl) (a0 a1 a2 a3 a4 : Value) (h : H) : round85_12 D I K a0 a1 a2 a3 a4 h = round Tryz.prog D (L85 D) lv85 (nthC (allLoops (bodyOf Tryz.f85)) 2) I K [a0, a1, a2, a3, a4] h := by kernel_rfl
theorem tieF85 (D : Orc) (a0 : Value) (h : H) (k : Kv) (kp : Kp) : F85 D a0 h k kp = bodyW Tryz.prog D (L85 D) lv85 Tryz.f85 [a0] h k kp := by kernel_rfl
theorem lfp85 : Lfps Tryz.prog (CS Tryz.prog) (L85 (CS Tryz.prog)) lv85 (allLoops (bodyOf Tryz.f85)) := by
  have e : (allLoops (bodyOf Tryz.f85)) = [nthC (allLoops (bodyOf Tryz.f85)) 0, nthC (allLoops (bodyOf Tryz.f85)) 1, nthC (allLoops (bodyOf Tryz.f85)) 2] := by kernel_rfl
  rw [e]
  exact ⟨(fun vs h K hk I H => hk I (fun a0 a1 h hr => H _ _ ((tieR85_2 (CS Tryz.prog) I K a0 a1 h) ▸ hr))), (fun vs h K hk I H => hk I (fun a0 a1 a2 h hr => H _ _ ((tieR85_5 (CS Tryz.prog) I K a0 a1 a2 h) ▸ hr))), (fun vs h K hk I H => hk I (fun a0 a1 a2 a3 a4 h hr => H _ _ ((tieR85_12 (CS Tryz.prog) I K a0 a1 a2 a3 a4 h) ▸ hr))), trivial⟩
theorem cl85 : Cl85 (CS Tryz.prog) := fun a0 h k kp hk =>
  fn_sound wide (fn := Tryz.f85) (by kernel_rfl) (by kernel_rfl) (by kernel_rfl) lfp85 (by rw [tieF85] at hk; exact hk)
def lv104 : Lv := Lv.mk 35 [.raw, .int IntKind.i64] (fun i => cond (Nat.beq i 2) ([(0, .raw), (1, .int IntKind.i64), (5, .int IntKind.i64)]) ([])) (fun i => cond (Nat.beq i 2) ([(0, [])]) ([])) [(4, .int IntKind.i64)] (fun i => cond (Nat.beq i 5) (some [(0, .raw), (1, .int IntKind.i64), (5, .int IntKind.i64), (33, .bool)]) (none))
def j104_2_5 (D : Orc) (I : List Value → H → Prop) (K : Kl) (a0 a1 a2 a3 : Value) (h15 : H) : Prop :=
intK IntKind.i64 a1 (fun x16 => intK IntKind.i64 a2 (fun x17 => boolW a3 (fun t18 => cond t18 (
K X.r [(Value.int IntKind.i64 x17)] h15) (
I [a0, (Value.int IntKind.i64 x16), (Value.int IntKind.i64 (IntKind.wrap IntKind.i64 (x17 + (1 : Int))))] h15))))
def round104_2 (D : Orc) (I : List Value → H → Prop) (K : Kl) (a0 a1 a2 : Value) (h1 : H) : Prop :=
intK IntKind.i64 a1 (fun x2 => intK IntKind.i64 a2 (fun x3 => nonNil a0 = true ∧ ptrW a0 (fun ad4 => ∃ v5 : Value, rd h1 (Addr.add ad4 0) = some v5 ∧ lenW v5 (fun n6 => cond (decide (x3 < (n6 : Int))) (
nonNil a0 = true ∧ ptrW a0 (fun ad7 => ∃ v8 : Value, rd h1 (Addr.add ad7 2) = some v8 ∧ slAtW v8 x3 1 (fun ad9 => ∃ x10 : Int, rd h1 ad9 = some (Value.int IntKind.i64 x10) ∧ cond (x10 == x2) (
nonNil a0 = true ∧ ptrW a0 (fun ad11 => ∃ v12 : Value, rd h1 (Addr.add ad11 0) = some v12 ∧ slAtW v12 x3 1 (fun ad13 => ∃ x14 : Int, rd h1 ad13 = some (Value.int IntKind.i64 x14) ∧ j104_2_5 D I K a0 (Value.int IntKind.i64 x2) (Value.int IntKind.i64 x3) (Value.bool (decide (x14 ≥ (0 : Int)))) h1))) (
j104_2_5 D I K a0 (Value.int IntKind.i64 x2) (Value.int IntKind.i64 x3) (Value.bool false) h1)))) (
K (X.e 0) [] h1)))))
def loop104_2 (D : Orc) (vs : List Value) (h : H) (K : Kl) : Prop := ∀ I : List Value → H → Prop, (∀ a0 a1 a2 h, round104_2 D I K a0 a1 a2 h → I [a0, a1, a2] h) → I vs h
def L104 (D : Orc) : Lor := fun b vs h K => match firstId b with | some i => cond (Nat.beq i 2) (loop104_2 D vs h K) (False) | none => False
/-- (*lodestone/lodestoneref06.board).head -/
def F104 (D : Orc) (a0 a1 : Value) (h : H) (k : Kv) (kp : Kp) : Prop :=
intK IntKind.i64 a1 (fun x0 => loop104_2 D [a0, (Value.int IntKind.i64 x0), (Value.int IntKind.i64 (0 : Int))] h (fun x20 vs21 h19 => xs x20 (intK IntKind.i64 (nth vs21 0) (fun x23 => k (Value.int IntKind.i64 x23) h19)) (fun i22 => cond (Nat.beq i22 0) (
k (Value.int IntKind.i64 (-1 : Int)) h19) (False)) (fun c => kp c h19)))
def Cl104 (D : Orc) : Prop := ∀ a0 a1 h k kp, F104 D a0 a1 h k kp → D 104 [a0, a1] h k kp
theorem tieR104_2 (D : Orc) (I : List Value → H → Prop) (K : Kl) (a0 a1 a2 : Value) (h : H) : round104_2 D I K a0 a1 a2 h = round Tryz.prog D (L104 D) lv104 (nthC (allLoops (bodyOf Tryz.f104)) 0) I K [a0, a1, a2] h := by kernel_rfl
theorem tieF104 (D : Orc) (a0 a1 : Value) (h : H) (k : Kv) (kp : Kp) : F104 D a0 a1 h k kp = bodyW Tryz.prog D (L104 D) lv104 Tryz.f104 [a0, a1] h k kp := by kernel_rfl
theorem lfp104 : Lfps Tryz.prog (CS Tryz.prog) (L104 (CS Tryz.prog)) lv104 (allLoops (bodyOf Tryz.f104)) := by
  have e : (allLoops (bodyOf Tryz.f104)) = [nthC (allLoops (bodyOf Tryz.f104)) 0] := by kernel_rfl
  rw [e]
  exact ⟨(fun vs h K hk I H => hk I (fun a0 a1 a2 h hr => H _ _ ((tieR104_2 (CS Tryz.prog) I K a0 a1 a2 h) ▸ hr))), trivial⟩
theorem cl104 : Cl104 (CS Tryz.prog) := fun a0 a1 h k kp hk =>
  fn_sound wide (fn := Tryz.f104) (by kernel_rfl) (by kernel_rfl) (by kernel_rfl) lfp104 (by rw [tieF104] at hk; exact hk)
def lv84 : Lv := Lv.mk 68 [.raw, .int IntKind.i64, .int IntKind.i64] (fun i => cond (Nat.beq i 6) ([(0, .raw), (7, .int IntKind.i64), (8, .int IntKind.i64), (9, .int IntKind.i64)]) ([])) (fun i => cond (Nat.beq i 6) ([(0, [])]) ([])) [(6, .bool)] (fun i => cond (Nat.beq i 7) (some [(0, .raw), (7, .int IntKind.i64), (8, .int IntKind.i64), (9, .int IntKind.i64)]) (none))
def j84_6_7 (D : Orc) (I : List Value → H → Prop) (K : Kl) (a0 a1 a2 a3 : Value) (h37 : H) : Prop :=
intK IntKind.i64 a1 (fun x38 => intK IntKind.i64 a2 (fun x39 => intK IntKind.i64 a3 (fun x40 => I [a0, (Value.int IntKind.i64 x38), (Value.int IntKind.i64 x39), (Value.int IntKind.i64 (IntKind.wrap IntKind.i64 (x40 + (1 : Int))))] h37)))
def round84_6 (D : Orc) (I : List Value → H → Prop) (K : Kl) (a0 a1 a2 a3 : Value) (h22 : H) : Prop :=
intK IntKind.i64 a1 (fun x23 => intK IntKind.i64 a2 (fun x24 => intK IntKind.i64 a3 (fun x25 => nonNil a0 = true ∧ ptrW a0 (fun ad26 => ∃ v27 : Value, rd h22 (Addr.add ad26 2) = some v27 ∧ lenW v27 (fun n28 => cond (decide (x25 < (n28 : Int))) (
nonNil a0 = true ∧ ptrW a0 (fun ad29 => ∃ v30 : Value, rd h22 (Addr.add ad29 2) = some v30 ∧ slAtW v30 x25 1 (fun ad31 => ∃ x32 : Int, rd h22 ad31 = some (Value.int IntKind.i64 x32) ∧ cond (x32 == x24) (
nonNil a0 = true ∧ ptrW a0 (fun ad33 => ∃ v34 : Value, rd h22 (Addr.add ad33 2) = some v34 ∧ slAtW v34 x25 1 (fun ad35 => one (Value.int IntKind.i64 x23) = true ∧ 1 = 1 ∧ ∃ h36, wr1 h22 ad35 (Value.int IntKind.i64 x23) = some h36 ∧ j84_6_7 D I K a0 (Value.int IntKind.i64 x23) (Value.int IntKind.i64 x24) (Value.int IntKind.i64 x25) h36))) (
j84_6_7 D I K a0 (Value.int IntKind.i64 x23) (Value.int IntKind.i64 x24) (Value.int IntKind.i64 x25) h22)))) (
K (X.e 0) [] h22))))))
def loop84_6 (D : Orc) (vs : List Value) (h : H) (K : Kl) : Prop := ∀ I : List Value → H → Prop, (∀ a0 a1 a2 a3 h, round84_6 D I K a0 a1 a2 a3 h → I [a0, a1, a2, a3] h) → I vs h
def L84 (D : Orc) : Lor := fun b vs h K => match firstId b with | some i => cond (Nat.beq i 6) (loop84_6 D vs h K) (False) | none => False
/-- (*lodestone/lodestoneref06.board).join -/
def F84 (D : Orc) (a0 a1 a2 : Value) (h : H) (k : Kv) (kp : Kp) : Prop :=
intK IntKind.i64 a1 (fun x0 => intK IntKind.i64 a2 (fun x1 => nonNil a0 = true ∧ ptrW a0 (fun ad2 => ∃ v3 : Value, rd h (Addr.add ad2 2) = some v3 ∧ slAtW v3 x0 1 (fun ad4 => ∃ x5 : Int, rd h ad4 = some (Value.int IntKind.i64 x5) ∧ nonNil a0 = true ∧ ptrW a0 (fun ad6 => ∃ v7 : Value, rd h (Addr.add ad6 2) = some v7 ∧ slAtW v7 x1 1 (fun ad8 => ∃ x9 : Int, rd h ad8 = some (Value.int IntKind.i64 x9) ∧ minMax false [(Value.int IntKind.i64 x5), (Value.int IntKind.i64 x9)] (fun v10 => nonNil a0 = true ∧ ptrW a0 (fun ad11 => ∃ v12 : Value, rd h (Addr.add ad11 2) = some v12 ∧ slAtW v12 x0 1 (fun ad13 => ∃ x14 : Int, rd h ad13 = some (Value.int IntKind.i64 x14) ∧ nonNil a0 = true ∧ ptrW a0 (fun ad15 => ∃ v16 : Value, rd h (Addr.add ad15 2) = some v16 ∧ slAtW v16 x1 1 (fun ad17 => ∃ x18 : Int, rd h ad17 = some (Value.int IntKind.i64 x18) ∧ minMax true [(Value.int IntKind.i64 x14), (Value.int IntKind.i64 x18)] (fun v19 => intK IntKind.i64 v10 (fun x20 => intK IntKind.i64 v19 (fun x21 => cond (x20 == x21) (
k (Value.bool false) h) (
loop84_6 D [a0, v10, v19, (Value.int IntKind.i64 (0 : Int))] h (fun x42 vs43 h41 => xs x42 (boolW (nth vs43 0) (fun t45 => k (Value.bool t45) h41)) (fun i44 => cond (Nat.beq i44 0) (
k (Value.bool true) h41) (False)) (fun c => kp c h41)))))))))))))))))
def Cl84 (D : Orc) : Prop := ∀ a0 a1 a2 h k kp, F84 D a0 a1 a2 h k kp → D 84 [a0, a1, a2] h k kp
theorem tieR84_6 (D : Orc) (I : List Value → H → Prop) (K : Kl) (a0 a1 a2 a3 : Value) (h : H) : round84_6 D I K a0 a1 a2 a3 h = round Tryz.prog D (L84 D) lv84 (nthC (allLoops (bodyOf Tryz.f84)) 0) I K [a0, a1, a2, a3] h := by kernel_rfl
theorem tieF84 (D : Orc) (a0 a1 a2 : Value) (h : H) (k : Kv) (kp : Kp) : F84 D a0 a1 a2 h k kp = bodyW Tryz.prog D (L84 D) lv84 Tryz.f84 [a0, a1, a2] h k kp := by kernel_rfl
theorem lfp84 : Lfps Tryz.prog (CS Tryz.prog) (L84 (CS Tryz.prog)) lv84 (allLoops (bodyOf Tryz.f84)) := by
  have e : (allLoops (bodyOf Tryz.f84)) = [nthC (allLoops (bodyOf Tryz.f84)) 0] := by kernel_rfl
  rw [e]
  exact ⟨(fun vs h K hk I H => hk I (fun a0 a1 a2 a3 h hr => H _ _ ((tieR84_6 (CS Tryz.prog) I K a0 a1 a2 a3 h) ▸ hr))), trivial⟩
theorem cl84 : Cl84 (CS Tryz.prog) := fun a0 a1 a2 h k kp hk =>
  fn_sound wide (fn := Tryz.f84) (by kernel_rfl) (by kernel_rfl) (by kernel_rfl) lfp84 (by rw [tieF84] at hk; exact hk)
def lv86 : Lv := Lv.mk 96 [.raw] (fun i => cond (Nat.beq i 3) ([(0, .raw), (3, .raw), (4, .bool)]) (cond (Nat.beq i 6) ([(0, .raw), (3, .raw), (4, .bool), (5, .int IntKind.i64)]) (cond (Nat.beq i 13) ([(0, .raw), (3, .raw), (4, .bool), (5, .int IntKind.i64), (6, .int IntKind.i64), (7, .bool), (8, .int IntKind.i64), (9, .int IntKind.i64)]) ([])))) (fun i => cond (Nat.beq i 3) ([(0, [(3, .raw)])]) (cond (Nat.beq i 6) ([(2, [(0, .raw), (3, .raw), (4, .bool)])]) (cond (Nat.beq i 13) ([(4, [(0, .raw), (3, .raw), (4, .bool), (5, .int IntKind.i64), (6, .int IntKind.i64), (7, .bool)])]) ([])))) [(2, .raw)] (fun i => cond (Nat.beq i 7) (some [(0, .raw), (3, .raw), (4, .bool), (5, .int IntKind.i64)]) (cond (Nat.beq i 17) (some [(0, .raw), (3, .raw), (4, .bool), (5, .int IntKind.i64), (6, .int IntKind.i64), (7, .bool), (8, .int IntKind.i64), (9, .int IntKind.i64), (10, .int IntKind.i64)]) (none)))
def j86_6_7 (D : Orc) (I : List Value → H → Prop) (K : Kl) (a0 a1 a2 a3 : Value) (h19 : H) : Prop :=
boolW a2 (fun t20 => intK IntKind.i64 a3 (fun x21 => I [a0, a1, (Value.bool t20), (Value.int IntKind.i64 (IntKind.wrap IntKind.i64 (x21 + (1 : Int))))] h19))
def j86_13_17 (D : Orc) (I : List Value → H → Prop) (K : Kl) (a0 a1 a2 a3 a4 a5 a6 a7 a8 : Value) (h49 : H) : Prop :=
boolW a2 (fun t50 => intK IntKind.i64 a3 (fun x51 => intK IntKind.i64 a4 (fun x52 => boolW a5 (fun t53 => intK IntKind.i64 a6 (fun x54 => intK IntKind.i64 a7 (fun x55 => intK IntKind.i64 a8 (fun x56 => minMax false [(Value.int IntKind.i64 (IntKind.wrap IntKind.i64 (x52 + x56))), (Value.int IntKind.i64 (513 : Int))] (fun v57 => I [a0, a1, (Value.bool t50), (Value.int IntKind.i64 x51), v57, (Value.bool t53), (Value.int IntKind.i64 x54), (Value.int IntKind.i64 (IntKind.wrap IntKind.i64 (x55 + (1 : Int))))] h49))))))))
def round86_13 (D : Orc) (I : List Value → H → Prop) (K : Kl) (a0 a1 a2 a3 a4 a5 a6 a7 : Value) (h25 : H) : Prop :=
boolW a2 (fun t26 => intK IntKind.i64 a3 (fun x27 => intK IntKind.i64 a4 (fun x28 => boolW a5 (fun t29 => intK IntKind.i64 a6 (fun x30 => intK IntKind.i64 a7 (fun x31 => cond (decide (x30 ≥ (0 : Int))) (
nonNil a0 = true ∧ ptrW a0 (fun ad32 => ∃ v33 : Value, rd h25 (Addr.add ad32 1) = some v33 ∧ slAtW v33 x30 1 (fun ad34 => ∃ v35 : Value, rd h25 ad34 = some v35 ∧ lenW v35 (fun n36 => cond (decide (x31 < (n36 : Int))) (
nonNil a0 = true ∧ ptrW a0 (fun ad37 => ∃ v38 : Value, rd h25 (Addr.add ad37 2) = some v38 ∧ nonNil a0 = true ∧ ptrW a0 (fun ad39 => ∃ v40 : Value, rd h25 (Addr.add ad39 1) = some v40 ∧ slAtW v40 x30 1 (fun ad41 => ∃ v42 : Value, rd h25 ad41 = some v42 ∧ slAtW v42 x31 1 (fun ad43 => ∃ x44 : Int, rd h25 ad43 = some (Value.int IntKind.i64 x44) ∧ slAtW v38 x44 1 (fun ad45 => ∃ x46 : Int, rd h25 ad45 = some (Value.int IntKind.i64 x46) ∧ slAtW a1 x46 1 (fun ad47 => ∃ x48 : Int, rd h25 ad47 = some (Value.int IntKind.i64 x48) ∧ cond t29 (
j86_13_17 D I K a0 a1 (Value.bool t26) (Value.int IntKind.i64 x27) (Value.int IntKind.i64 x28) (Value.bool (decide (x48 > (0 : Int)))) (Value.int IntKind.i64 x30) (Value.int IntKind.i64 x31) (Value.int IntKind.i64 x48) h25) (
j86_13_17 D I K a0 a1 (Value.bool t26) (Value.int IntKind.i64 x27) (Value.int IntKind.i64 x28) (Value.bool false) (Value.int IntKind.i64 x30) (Value.int IntKind.i64 x31) (Value.int IntKind.i64 x48) h25)))))))) (
K (X.e 4) [a0, a1, (Value.bool t26), (Value.int IntKind.i64 x27), (Value.int IntKind.i64 x28), (Value.bool t29)] h25))))) (
K (X.e 4) [a0, a1, (Value.bool t26), (Value.int IntKind.i64 x27), (Value.int IntKind.i64 x28), (Value.bool t29)] h25)))))))
def loop86_13 (D : Orc) (vs : List Value) (h : H) (K : Kl) : Prop := ∀ I : List Value → H → Prop, (∀ a0 a1 a2 a3 a4 a5 a6 a7 h, round86_13 D I K a0 a1 a2 a3 a4 a5 a6 a7 h → I [a0, a1, a2, a3, a4, a5, a6, a7] h) → I vs h
def round86_6 (D : Orc) (I : List Value → H → Prop) (K : Kl) (a0 a1 a2 a3 : Value) (h7 : H) : Prop :=
boolW a2 (fun t8 => intK IntKind.i64 a3 (fun x9 => nonNil a0 = true ∧ ptrW a0 (fun ad10 => ∃ v11 : Value, rd h7 (Addr.add ad10 0) = some v11 ∧ lenW v11 (fun n12 => cond (decide (x9 < (n12 : Int))) (
nonNil a0 = true ∧ ptrW a0 (fun ad13 => ∃ v14 : Value, rd h7 (Addr.add ad13 2) = some v14 ∧ slAtW v14 x9 1 (fun ad15 => ∃ x16 : Int, rd h7 ad15 = some (Value.int IntKind.i64 x16) ∧ cond (!(x16 != x9)) (
slAtW a1 x9 1 (fun ad17 => ∃ x18 : Int, rd h7 ad17 = some (Value.int IntKind.i64 x18) ∧ cond (decide (x18 > (0 : Int))) (
j86_6_7 D I K a0 a1 (Value.bool t8) (Value.int IntKind.i64 x9) h7) (
D 104 [a0, (Value.int IntKind.i64 x9)] h7 (fun v22 h23 => ∃ x24 : Int, v22 = (Value.int IntKind.i64 x24) ∧ loop86_13 D [a0, a1, (Value.bool t8), (Value.int IntKind.i64 x9), (Value.int IntKind.i64 (1 : Int)), (Value.bool true), (Value.int IntKind.i64 x24), (Value.int IntKind.i64 (0 : Int))] h23 (fun x59 vs60 h58 => xs x59 (K X.r [(nth vs60 0)] h58) (fun i61 => cond (Nat.beq i61 4) (
boolW (nth vs60 2) (fun t62 => intK IntKind.i64 (nth vs60 3) (fun x63 => intK IntKind.i64 (nth vs60 4) (fun x64 => boolW (nth vs60 5) (fun t65 => cond t65 (
slAtW (nth vs60 1) x63 1 (fun ad66 => one (Value.int IntKind.i64 x64) = true ∧ 1 = 1 ∧ ∃ h67, wr1 h58 ad66 (Value.int IntKind.i64 x64) = some h67 ∧ j86_6_7 D I K (nth vs60 0) (nth vs60 1) (Value.bool true) (Value.int IntKind.i64 x63) h67)) (
j86_6_7 D I K (nth vs60 0) (nth vs60 1) (Value.bool t62) (Value.int IntKind.i64 x63) h58)))))) (False)) (fun c => (fun c h => K (X.p c) [] h) c h58))) (fun c h => K (X.p c) [] h)))) (
j86_6_7 D I K a0 a1 (Value.bool t8) (Value.int IntKind.i64 x9) h7)))) (
K (X.e 2) [a0, a1, (Value.bool t8)] h7)))))
def loop86_6 (D : Orc) (vs : List Value) (h : H) (K : Kl) : Prop := ∀ I : List Value → H → Prop, (∀ a0 a1 a2 a3 h, round86_6 D I K a0 a1 a2 a3 h → I [a0, a1, a2, a3] h) → I vs h
def round86_3 (D : Orc) (I : List Value → H → Prop) (K : Kl) (a0 a1 a2 : Value) (h5 : H) : Prop :=
boolW a2 (fun t6 => cond t6 (
loop86_6 D [a0, a1, (Value.bool false), (Value.int IntKind.i64 (0 : Int))] h5 (fun x69 vs70 h68 => xs x69 (K X.r [(nth vs70 0)] h68) (fun i71 => cond (Nat.beq i71 2) (
boolW (nth vs70 2) (fun t72 => I [(nth vs70 0), (nth vs70 1), (Value.bool t72)] h68)) (False)) (fun c => (fun c h => K (X.p c) [] h) c h68))) (
K (X.e 0) [a1] h5))
def loop86_3 (D : Orc) (vs : List Value) (h : H) (K : Kl) : Prop := ∀ I : List Value → H → Prop, (∀ a0 a1 a2 h, round86_3 D I K a0 a1 a2 h → I [a0, a1, a2] h) → I vs h
def L86 (D : Orc) : Lor := fun b vs h K => match firstId b with | some i => cond (Nat.beq i 3) (loop86_3 D vs h K) (cond (Nat.beq i 6) (loop86_6 D vs h K) (cond (Nat.beq i 13) (loop86_13 D vs h K) (False))) | none => False
/-- (*lodestone/lodestoneref06.board).sizes -/
def F86 (D : Orc) (a0 : Value) (h : H) (k : Kv) (kp : Kp) : Prop :=
nonNil a0 = true ∧ ptrW a0 (fun ad0 => ∃ v1 : Value, rd h (Addr.add ad0 0) = some v1 ∧ lenW v1 (fun n2 => mkSliceW h 8 [(Value.int IntKind.i64 (0 : Int))] (n2 : Int) (n2 : Int) (fun s3 h4 => loop86_3 D [a0, s3, (Value.bool true)] h4 (fun x74 vs75 h73 => xs x74 (k (nth vs75 0) h73) (fun i76 => cond (Nat.beq i76 0) (
k (nth vs75 0) h73) (False)) (fun c => kp c h73)))))
def Cl86 (D : Orc) : Prop := ∀ a0 h k kp, F86 D a0 h k kp → D 86 [a0] h k kp
theorem tieR86_3 (D : Orc) (I : List Value → H → Prop) (K : Kl) (a0 a1 a2 : Value) (h : H) : round86_3 D I K a0 a1 a2 h = round Tryz.prog D (L86 D) lv86 (nthC (allLoops (bodyOf Tryz.f86)) 0) I K [a0, a1, a2] h := by kernel_rfl
theorem tieR86_6 (D : Orc) (I : List Value → H → Prop) (K : Kl) (a0 a1 a2 a3 : Value) (h : H) : round86_6 D I K a0 a1 a2 a3 h = round Tryz.prog D (L86 D) lv86 (nthC (allLoops (bodyOf Tryz.f86)) 1) I K [a0, a1, a2, a3] h := by kernel_rfl
theorem tieR86_13 (D : Orc) (I : List Value → H → Prop) (K : Kl) (a0 a1 a2 a3 a4 a5 a6 a7 : Value) (h : H) : round86_13 D I K a0 a1 a2 a3 a4 a5 a6 a7 h = round Tryz.prog D (L86 D) lv86 (nthC (allLoops (bodyOf Tryz.f86)) 2) I K [a0, a1, a2, a3, a4, a5, a6, a7] h := by kernel_rfl
theorem tieF86 (D : Orc) (a0 : Value) (h : H) (k : Kv) (kp : Kp) : F86 D a0 h k kp = bodyW Tryz.prog D (L86 D) lv86 Tryz.f86 [a0] h k kp := by kernel_rfl
theorem lfp86 : Lfps Tryz.prog (CS Tryz.prog) (L86 (CS Tryz.prog)) lv86 (allLoops (bodyOf Tryz.f86)) := by
  have e : (allLoops (bodyOf Tryz.f86)) = [nthC (allLoops (bodyOf Tryz.f86)) 0, nthC (allLoops (bodyOf Tryz.f86)) 1, nthC (allLoops (bodyOf Tryz.f86)) 2] := by kernel_rfl
  rw [e]
  exact ⟨(fun vs h K hk I H => hk I (fun a0 a1 a2 h hr => H _ _ ((tieR86_3 (CS Tryz.prog) I K a0 a1 a2 h) ▸ hr))), (fun vs h K hk I H => hk I (fun a0 a1 a2 a3 h hr => H _ _ ((tieR86_6 (CS Tryz.prog) I K a0 a1 a2 a3 h) ▸ hr))), (fun vs h K hk I H => hk I (fun a0 a1 a2 a3 a4 a5 a6 a7 h hr => H _ _ ((tieR86_13 (CS Tryz.prog) I K a0 a1 a2 a3 a4 a5 a6 a7 h) ▸ hr))), trivial⟩
theorem cl86 : Cl86 (CS Tryz.prog) := fun a0 h k kp hk =>
  fn_sound wide (fn := Tryz.f86) (by kernel_rfl) (by kernel_rfl) (by kernel_rfl) lfp86 (by rw [tieF86] at hk; exact hk)
def lv3 : Lv := Lv.mk 25 [.raw, .raw, .raw] (fun i => []) (fun i => []) [(6, .bool)] (fun i => none)
def L3 (D : Orc) : Lor := fun b vs h K => match firstId b with | some i => False | none => False
/-- lodestone/lodestonelaw13.PairsEdges -/
def F3 (D : Orc) (a0 a1 a2 : Value) (h : H) (k : Kv) (kp : Kp) : Prop :=
aggW a0 (fun l0 => newW h l0 (fun p1 h2 => aggW a1 (fun l3 => newW h2 l3 (fun p4 h5 => aggW a2 (fun l6 => newW h5 l6 (fun p7 h8 => D 6 [] h8 (fun v9 h10 => ∃ t11 : Bool, v9 = (Value.bool t11) ∧ ptrW p1 (fun ad12 => ∃ v13 : Value, ∃ v14 : Value, rdN h10 ad12 2 = some [v13, v14] ∧ ptrW p4 (fun ad15 => ∃ v16 : Value, ∃ v17 : Value, rdN h10 ad15 2 = some [v16, v17] ∧ ptrW p7 (fun ad18 => ∃ v19 : Value, ∃ v20 : Value, rdN h10 ad18 2 = some [v19, v20] ∧ D 7 [(Value.agg #[v13, v14]), (Value.agg #[v16, v17]), (Value.agg #[v19, v20])] h10 (fun v21 h22 => ∃ t23 : Bool, v21 = (Value.bool t23) ∧ ptrW p1 (fun ad24 => ∃ v25 : Value, ∃ v26 : Value, rdN h22 ad24 2 = some [v25, v26] ∧ ptrW p4 (fun ad27 => ∃ v28 : Value, ∃ v29 : Value, rdN h22 ad27 2 = some [v28, v29] ∧ ptrW p7 (fun ad30 => ∃ v31 : Value, ∃ v32 : Value, rdN h22 ad30 2 = some [v31, v32] ∧ D 8 [(Value.agg #[v25, v26]), (Value.agg #[v28, v29]), (Value.agg #[v31, v32])] h22 (fun v33 h34 => ∃ t35 : Bool, v33 = (Value.bool t35) ∧ cond t11 (
k (Value.bool (t23 == t35)) h34) (
k (Value.bool false) h34)) kp)))) kp)))) kp))))))
def Cl3 (D : Orc) : Prop := ∀ a0 a1 a2 h k kp, F3 D a0 a1 a2 h k kp → D 3 [a0, a1, a2] h k kp
theorem tieF3 (D : Orc) (a0 a1 a2 : Value) (h : H) (k : Kv) (kp : Kp) : F3 D a0 a1 a2 h k kp = bodyW Tryz.prog D (L3 D) lv3 Tryz.f3 [a0, a1, a2] h k kp := by kernel_rfl
theorem lfp3 : Lfps Tryz.prog (CS Tryz.prog) (L3 (CS Tryz.prog)) lv3 (allLoops (bodyOf Tryz.f3)) := by
  have e : (allLoops (bodyOf Tryz.f3)) = [] := by kernel_rfl
  rw [e]
  exact trivial
theorem cl3 : Cl3 (CS Tryz.prog) := fun a0 a1 a2 h k kp hk =>
  fn_sound wide (fn := Tryz.f3) (by kernel_rfl) (by kernel_rfl) (by kernel_rfl) lfp3 (by rw [tieF3] at hk; exact hk)
def lv4 : Lv := Lv.mk 58 [.raw, .raw] (fun i => cond (Nat.beq i 11) ([(8, .raw), (9, .raw), (10, .int IntKind.i64)]) ([])) (fun i => cond (Nat.beq i 11) ([(0, [])]) ([])) [(4, .bool)] (fun i => cond (Nat.beq i 5) (some [(1, .raw), (2, .raw), (5, .bool), (6, .raw)]) (cond (Nat.beq i 9) (some [(8, .raw), (9, .raw), (40, .bool)]) (none)))
def round4_11 (D : Orc) (I : List Value → H → Prop) (K : Kl) (a0 a1 a2 : Value) (h37 : H) : Prop :=
intK IntKind.i64 a2 (fun x38 => lenW a0 (fun n39 => cond (decide (x38 < (n39 : Int))) (
slAtW a0 x38 1 (fun ad40 => ∃ v41 : Value, rd h37 ad40 = some v41 ∧ slAtW a1 x38 1 (fun ad42 => ∃ v43 : Value, rd h37 ad42 = some v43 ∧ D 12 [v41, v43] h37 (fun v44 h45 => ∃ t46 : Bool, v44 = (Value.bool t46) ∧ cond (!t46) (
K X.r [(Value.bool false)] h45) (
I [a0, a1, (Value.int IntKind.i64 (IntKind.wrap IntKind.i64 (x38 + (1 : Int))))] h45)) (fun c h => K (X.p c) [] h)))) (
K (X.e 0) [] h37)))
def loop4_11 (D : Orc) (vs : List Value) (h : H) (K : Kl) : Prop := ∀ I : List Value → H → Prop, (∀ a0 a1 a2 h, round4_11 D I K a0 a1 a2 h → I [a0, a1, a2] h) → I vs h
def j4__9 (D : Orc) (k : Kv) (kp : Kp) (a0 a1 a2 : Value) (h35 : H) : Prop :=
boolW a2 (fun t36 => cond t36 (
k (Value.bool false) h35) (
loop4_11 D [a0, a1, (Value.int IntKind.i64 (0 : Int))] h35 (fun x48 vs49 h47 => xs x48 (boolW (nth vs49 0) (fun t51 => k (Value.bool t51) h47)) (fun i50 => cond (Nat.beq i50 0) (
k (Value.bool true) h47) (False)) (fun c => kp c h47))))
def j4__5 (D : Orc) (k : Kv) (kp : Kp) (a0 a1 a2 a3 : Value) (h15 : H) : Prop :=
boolW a2 (fun t16 => slenW a0 (fun n17 => srcW h15 2 a0 (n17) (fun w18 => apW h15 2 48 [(Value.slice none 0 0), (Value.slice none 0 0)] a3 (n17) w18 (fun s19 h20 => ptrW a1 (fun ad21 => ∃ v22 : Value, ∃ v23 : Value, rdN h20 ad21 2 = some [v22, v23] ∧ D 10 [(Value.agg #[v22, v23]), s19] h20 (fun v24 h25 => ∃ v26 : Value, v24 = v26 ∧ ptrW a1 (fun ad27 => ∃ v28 : Value, ∃ v29 : Value, rdN h25 ad27 2 = some [v28, v29] ∧ D 11 [(Value.agg #[v28, v29]), s19] h25 (fun v30 h31 => ∃ v32 : Value, v30 = v32 ∧ cond (!(!t16)) (
lenW v26 (fun n33 => lenW v32 (fun n34 => j4__9 D k kp v26 v32 (Value.bool ((n33 : Int) != (n34 : Int))) h31))) (
j4__9 D k kp v26 v32 (Value.bool true) h31)) kp)) kp)))))
def L4 (D : Orc) : Lor := fun b vs h K => match firstId b with | some i => cond (Nat.beq i 11) (loop4_11 D vs h K) (False) | none => False
/-- lodestone/lodestonelaw13.PairsGraph -/
def F4 (D : Orc) (a0 a1 : Value) (h : H) (k : Kv) (kp : Kp) : Prop :=
aggW a0 (fun l0 => newW h l0 (fun p1 h2 => D 6 [] h2 (fun v3 h4 => ∃ t5 : Bool, v3 = (Value.bool t5) ∧ ptrW p1 (fun ad6 => ∃ v7 : Value, ∃ v8 : Value, rdN h4 ad6 2 = some [v7, v8] ∧ D 9 [(Value.agg #[v7, v8])] h4 (fun v9 h10 => ∃ v11 : Value, ∃ x12 : Int, v9 = (Value.tuple #[v11, (Value.int IntKind.i64 x12)]) ∧ lenW v11 (fun n13 => cond (decide ((n13 : Int) > (30 : Int))) (
slCutW v11 none (some (30 : Int)) none 2 (fun s14 => j4__5 D k kp a1 p1 (Value.bool t5) s14 h10)) (
j4__5 D k kp a1 p1 (Value.bool t5) v11 h10))) kp)) kp))
def Cl4 (D : Orc) : Prop := ∀ a0 a1 h k kp, F4 D a0 a1 h k kp → D 4 [a0, a1] h k kp
theorem tieR4_11 (D : Orc) (I : List Value → H → Prop) (K : Kl) (a0 a1 a2 : Value) (h : H) : round4_11 D I K a0 a1 a2 h = round Tryz.prog D (L4 D) lv4 (nthC (allLoops (bodyOf Tryz.f4)) 0) I K [a0, a1, a2] h := by kernel_rfl
theorem tieF4 (D : Orc) (a0 a1 : Value) (h : H) (k : Kv) (kp : Kp) : F4 D a0 a1 h k kp = bodyW Tryz.prog D (L4 D) lv4 Tryz.f4 [a0, a1] h k kp := by kernel_rfl
theorem lfp4 : Lfps Tryz.prog (CS Tryz.prog) (L4 (CS Tryz.prog)) lv4 (allLoops (bodyOf Tryz.f4)) := by
  have e : (allLoops (bodyOf Tryz.f4)) = [nthC (allLoops (bodyOf Tryz.f4)) 0] := by kernel_rfl
  rw [e]
  exact ⟨(fun vs h K hk I H => hk I (fun a0 a1 a2 h hr => H _ _ ((tieR4_11 (CS Tryz.prog) I K a0 a1 a2 h) ▸ hr))), trivial⟩
theorem cl4 : Cl4 (CS Tryz.prog) := fun a0 a1 h k kp hk =>
  fn_sound wide (fn := Tryz.f4) (by kernel_rfl) (by kernel_rfl) (by kernel_rfl) lfp4 (by rw [tieF4] at hk; exact hk)
def lv27 : Lv := Lv.mk 89 [.raw] (fun i => cond (Nat.beq i 4) ([(0, .raw), (3, .raw), (4, .raw), (5, .int IntKind.i64)]) (cond (Nat.beq i 8) ([(0, .raw), (3, .raw), (4, .raw), (5, .int IntKind.i64), (6, .raw), (7, .int IntKind.i64)]) (cond (Nat.beq i 13) ([(0, .raw), (3, .raw), (4, .raw), (5, .int IntKind.i64), (6, .raw), (7, .int IntKind.i64), (8, .int IntKind.i64)]) ([])))) (fun i => cond (Nat.beq i 4) ([(0, [(4, .raw)])]) (cond (Nat.beq i 8) ([(2, [(0, .raw), (3, .raw), (4, .raw), (5, .int IntKind.i64), (6, .raw)])]) (cond (Nat.beq i 13) ([(4, [(0, .raw), (3, .raw), (4, .raw), (5, .int IntKind.i64), (6, .raw), (7, .int IntKind.i64), (8, .int IntKind.i64)])]) ([])))) [(2, .raw)] (fun i => cond (Nat.beq i 9) (some [(0, .raw), (3, .raw), (4, .raw), (5, .int IntKind.i64), (6, .raw), (7, .int IntKind.i64)]) (cond (Nat.beq i 17) (some [(0, .raw), (3, .raw), (4, .raw), (5, .int IntKind.i64), (6, .raw), (7, .int IntKind.i64), (8, .int IntKind.i64)]) (none)))
def j27_8_9 (D : Orc) (I : List Value → H → Prop) (K : Kl) (a0 a1 a2 a3 a4 a5 : Value) (h29 : H) : Prop :=
intK IntKind.i64 a3 (fun x30 => intK IntKind.i64 a5 (fun x31 => I [a0, a1, a2, (Value.int IntKind.i64 x30), a4, (Value.int IntKind.i64 (IntKind.wrap IntKind.i64 (x31 + (1 : Int))))] h29))
def round27_13 (D : Orc) (I : List Value → H → Prop) (K : Kl) (a0 a1 a2 a3 a4 a5 a6 : Value) (h32 : H) : Prop :=
intK IntKind.i64 a3 (fun x33 => intK IntKind.i64 a5 (fun x34 => intK IntKind.i64 a6 (fun x35 => lenW a1 (fun n36 => cond (decide (x35 < (n36 : Int))) (
slAtW a1 x35 1 (fun ad37 => ∃ x38 : Int, rd h32 ad37 = some (Value.int IntKind.i64 x38) ∧ slAtW a0 x33 1 (fun ad39 => ∃ v40 : Value, rd h32 ad39 = some v40 ∧ slAtW v40 x34 1 (fun ad41 => ∃ x42 : Int, rd h32 ad41 = some (Value.int IntKind.i64 x42) ∧ cond (x38 != x42) (
I [a0, a1, a2, (Value.int IntKind.i64 x33), a4, (Value.int IntKind.i64 x34), (Value.int IntKind.i64 (IntKind.wrap IntKind.i64 (x35 + (1 : Int))))] h32) (
K (X.e 4) [a0, a1, a2, (Value.int IntKind.i64 x33), a4, (Value.int IntKind.i64 x34), (Value.int IntKind.i64 x35)] h32))))) (
K (X.e 4) [a0, a1, a2, (Value.int IntKind.i64 x33), a4, (Value.int IntKind.i64 x34), (Value.int IntKind.i64 x35)] h32)))))
def loop27_13 (D : Orc) (vs : List Value) (h : H) (K : Kl) : Prop := ∀ I : List Value → H → Prop, (∀ a0 a1 a2 a3 a4 a5 a6 h, round27_13 D I K a0 a1 a2 a3 a4 a5 a6 h → I [a0, a1, a2, a3, a4, a5, a6] h) → I vs h
def j27_8_17 (D : Orc) (I : List Value → H → Prop) (K : Kl) (a0 a1 a2 a3 a4 a5 a6 : Value) (h61 : H) : Prop :=
intK IntKind.i64 a3 (fun x62 => intK IntKind.i64 a5 (fun x63 => intK IntKind.i64 a6 (fun x64 => one (Value.int IntKind.i64 (IntKind.wrap IntKind.i64 ((-1 : Int) - x64))) = true ∧ 0 < 1 ∧ newSl h61 1 [(Value.int IntKind.i64 (IntKind.wrap IntKind.i64 ((-1 : Int) - x64)))] (fun s65 h66 => slenW s65 (fun n67 => srcW h66 1 s65 (n67) (fun w68 => apW h66 1 8 [(Value.int IntKind.i64 (0 : Int))] a4 (n67) w68 (fun s69 h70 => j27_8_9 D I K a0 a1 a2 (Value.int IntKind.i64 x62) s69 (Value.int IntKind.i64 x63) h70)))))))
def round27_8 (D : Orc) (I : List Value → H → Prop) (K : Kl) (a0 a1 a2 a3 a4 a5 : Value) (h9 : H) : Prop :=
intK IntKind.i64 a3 (fun x10 => intK IntKind.i64 a5 (fun x11 => slAtW a0 x10 1 (fun ad12 => ∃ v13 : Value, rd h9 ad12 = some v13 ∧ lenW v13 (fun n14 => cond (decide (x11 < (n14 : Int))) (
slAtW a0 x10 1 (fun ad15 => ∃ v16 : Value, rd h9 ad15 = some v16 ∧ slAtW v16 x11 1 (fun ad17 => ∃ x18 : Int, rd h9 ad17 = some (Value.int IntKind.i64 x18) ∧ cond (decide (x18 ≥ (0 : Int))) (
slAtW a0 x10 1 (fun ad19 => ∃ v20 : Value, rd h9 ad19 = some v20 ∧ slAtW v20 x11 1 (fun ad21 => ∃ x22 : Int, rd h9 ad21 = some (Value.int IntKind.i64 x22) ∧ one (Value.int IntKind.i64 x22) = true ∧ 0 < 1 ∧ newSl h9 1 [(Value.int IntKind.i64 x22)] (fun s23 h24 => slenW s23 (fun n25 => srcW h24 1 s23 (n25) (fun w26 => apW h24 1 8 [(Value.int IntKind.i64 (0 : Int))] a4 (n25) w26 (fun s27 h28 => j27_8_9 D I K a0 a1 a2 (Value.int IntKind.i64 x10) s27 (Value.int IntKind.i64 x11) h28))))))) (
loop27_13 D [a0, a1, a2, (Value.int IntKind.i64 x10), a4, (Value.int IntKind.i64 x11), (Value.int IntKind.i64 (0 : Int))] h9 (fun x44 vs45 h43 => xs x44 (K X.r [(nth vs45 0)] h43) (fun i46 => cond (Nat.beq i46 4) (
intK IntKind.i64 (nth vs45 3) (fun x47 => intK IntKind.i64 (nth vs45 5) (fun x48 => intK IntKind.i64 (nth vs45 6) (fun x49 => lenW (nth vs45 1) (fun n50 => cond (x49 == (n50 : Int)) (
slAtW (nth vs45 0) x47 1 (fun ad51 => ∃ v52 : Value, rd h43 ad51 = some v52 ∧ slAtW v52 x48 1 (fun ad53 => ∃ x54 : Int, rd h43 ad53 = some (Value.int IntKind.i64 x54) ∧ one (Value.int IntKind.i64 x54) = true ∧ 0 < 1 ∧ newSl h43 1 [(Value.int IntKind.i64 x54)] (fun s55 h56 => slenW s55 (fun n57 => srcW h56 1 s55 (n57) (fun w58 => apW h56 1 8 [(Value.int IntKind.i64 (0 : Int))] (nth vs45 1) (n57) w58 (fun s59 h60 => j27_8_17 D I K (nth vs45 0) s59 (nth vs45 2) (Value.int IntKind.i64 x47) (nth vs45 4) (Value.int IntKind.i64 x48) (Value.int IntKind.i64 x49) h60))))))) (
j27_8_17 D I K (nth vs45 0) (nth vs45 1) (nth vs45 2) (Value.int IntKind.i64 x47) (nth vs45 4) (Value.int IntKind.i64 x48) (Value.int IntKind.i64 x49) h43)))))) (False)) (fun c => (fun c h => K (X.p c) [] h) c h43)))))) (
K (X.e 2) [a0, a1, a2, (Value.int IntKind.i64 x10), a4] h9)))))
def loop27_8 (D : Orc) (vs : List Value) (h : H) (K : Kl) : Prop := ∀ I : List Value → H → Prop, (∀ a0 a1 a2 a3 a4 a5 h, round27_8 D I K a0 a1 a2 a3 a4 a5 h → I [a0, a1, a2, a3, a4, a5] h) → I vs h
def round27_4 (D : Orc) (I : List Value → H → Prop) (K : Kl) (a0 a1 a2 a3 : Value) (h4 : H) : Prop :=
intK IntKind.i64 a3 (fun x5 => lenW a0 (fun n6 => cond (decide (x5 < (n6 : Int))) (
newSl h4 0 [] (fun s7 h8 => loop27_8 D [a0, a1, a2, (Value.int IntKind.i64 x5), s7, (Value.int IntKind.i64 (0 : Int))] h8 (fun x72 vs73 h71 => xs x72 (K X.r [(nth vs73 0)] h71) (fun i74 => cond (Nat.beq i74 2) (
intK IntKind.i64 (nth vs73 3) (fun x75 => one (nth vs73 4) = true ∧ 0 < 1 ∧ newSl h71 1 [(nth vs73 4)] (fun s76 h77 => slenW s76 (fun n78 => srcW h77 1 s76 (n78) (fun w79 => apW h77 1 24 [(Value.slice none 0 0)] (nth vs73 2) (n78) w79 (fun s80 h81 => I [(nth vs73 0), (nth vs73 1), s80, (Value.int IntKind.i64 (IntKind.wrap IntKind.i64 (x75 + (1 : Int))))] h81)))))) (False)) (fun c => (fun c h => K (X.p c) [] h) c h71)))) (
K (X.e 0) [a2] h4)))
def loop27_4 (D : Orc) (vs : List Value) (h : H) (K : Kl) : Prop := ∀ I : List Value → H → Prop, (∀ a0 a1 a2 a3 h, round27_4 D I K a0 a1 a2 a3 h → I [a0, a1, a2, a3] h) → I vs h
def L27 (D : Orc) : Lor := fun b vs h K => match firstId b with | some i => cond (Nat.beq i 4) (loop27_4 D vs h K) (cond (Nat.beq i 8) (loop27_8 D vs h K) (cond (Nat.beq i 13) (loop27_13 D vs h K) (False))) | none => False
/-- lodestone/lodestoneref04.Canon -/
def F27 (D : Orc) (a0 : Value) (h : H) (k : Kv) (kp : Kp) : Prop :=
newSl h 0 [] (fun s0 h1 => newSl h1 0 [] (fun s2 h3 => loop27_4 D [a0, s0, s2, (Value.int IntKind.i64 (0 : Int))] h3 (fun x83 vs84 h82 => xs x83 (k (nth vs84 0) h82) (fun i85 => cond (Nat.beq i85 0) (
k (nth vs84 0) h82) (False)) (fun c => kp c h82))))
def Cl27 (D : Orc) : Prop := ∀ a0 h k kp, F27 D a0 h k kp → D 27 [a0] h k kp
theorem tieR27_4 (D : Orc) (I : List Value → H → Prop) (K : Kl) (a0 a1 a2 a3 : Value) (h : H) : round27_4 D I K a0 a1 a2 a3 h = round Tryz.prog D (L27 D) lv27 (nthC (allLoops (bodyOf Tryz.f27)) 0) I K [a0, a1, a2, a3] h := by kernel_rfl
theorem tieR27_8 (D : Orc) (I : List Value → H → Prop) (K : Kl) (a0 a1 a2 a3 a4 a5 : Value) (h : H) : round27_8 D I K a0 a1 a2 a3 a4 a5 h = round Tryz.prog D (L27 D) lv27 (nthC (allLoops (bodyOf Tryz.f27)) 1) I K [a0, a1, a2, a3, a4, a5] h := by kernel_rfl
theorem tieR27_13 (D : Orc) (I : List Value → H → Prop) (K : Kl) (a0 a1 a2 a3 a4 a5 a6 : Value) (h : H) : round27_13 D I K a0 a1 a2 a3 a4 a5 a6 h = round Tryz.prog D (L27 D) lv27 (nthC (allLoops (bodyOf Tryz.f27)) 2) I K [a0, a1, a2, a3, a4, a5, a6] h := by kernel_rfl
theorem tieF27 (D : Orc) (a0 : Value) (h : H) (k : Kv) (kp : Kp) : F27 D a0 h k kp = bodyW Tryz.prog D (L27 D) lv27 Tryz.f27 [a0] h k kp := by kernel_rfl
theorem lfp27 : Lfps Tryz.prog (CS Tryz.prog) (L27 (CS Tryz.prog)) lv27 (allLoops (bodyOf Tryz.f27)) := by
  have e : (allLoops (bodyOf Tryz.f27)) = [nthC (allLoops (bodyOf Tryz.f27)) 0, nthC (allLoops (bodyOf Tryz.f27)) 1, nthC (allLoops (bodyOf Tryz.f27)) 2] := by kernel_rfl
  rw [e]
  exact ⟨(fun vs h K hk I H => hk I (fun a0 a1 a2 a3 h hr => H _ _ ((tieR27_4 (CS Tryz.prog) I K a0 a1 a2 a3 h) ▸ hr))), (fun vs h K hk I H => hk I (fun a0 a1 a2 a3 a4 a5 h hr => H _ _ ((tieR27_8 (CS Tryz.prog) I K a0 a1 a2 a3 a4 a5 h) ▸ hr))), (fun vs h K hk I H => hk I (fun a0 a1 a2 a3 a4 a5 a6 h hr => H _ _ ((tieR27_13 (CS Tryz.prog) I K a0 a1 a2 a3 a4 a5 a6 h) ▸ hr))), trivial⟩
theorem cl27 : Cl27 (CS Tryz.prog) := fun a0 h k kp hk =>
  fn_sound wide (fn := Tryz.f27) (by kernel_rfl) (by kernel_rfl) (by kernel_rfl) lfp27 (by rw [tieF27] at hk; exact hk)
def lv29 : Lv := Lv.mk 24 [.raw, .raw, .raw] (fun i => []) (fun i => []) [(6, .bool)] (fun i => none)
def L29 (D : Orc) : Lor := fun b vs h K => match firstId b with | some i => False | none => False
/-- lodestone/lodestoneref06.Can -/
def F29 (D : Orc) (a0 a1 a2 : Value) (h : H) (k : Kv) (kp : Kp) : Prop :=
D 57 [a0, a1, a2] h (fun v0 h1 => ∃ x2 : Int, v0 = (Value.int IntKind.i64 x2) ∧ cond (x2 != (0 : Int)) (
k (Value.bool false) h1) (
D 58 [a0, a1, a2] h1 (fun v3 h4 => ∃ v5 : Value, ∃ v6 : Value, ∃ t7 : Bool, v3 = (Value.tuple #[v5, v6, (Value.bool t7)]) ∧ k (Value.bool t7) h4) kp)) kp
def Cl29 (D : Orc) : Prop := ∀ a0 a1 a2 h k kp, F29 D a0 a1 a2 h k kp → D 29 [a0, a1, a2] h k kp
theorem tieF29 (D : Orc) (a0 a1 a2 : Value) (h : H) (k : Kv) (kp : Kp) : F29 D a0 a1 a2 h k kp = bodyW Tryz.prog D (L29 D) lv29 Tryz.f29 [a0, a1, a2] h k kp := by kernel_rfl
theorem lfp29 : Lfps Tryz.prog (CS Tryz.prog) (L29 (CS Tryz.prog)) lv29 (allLoops (bodyOf Tryz.f29)) := by
  have e : (allLoops (bodyOf Tryz.f29)) = [] := by kernel_rfl
  rw [e]
  exact trivial
theorem cl29 : Cl29 (CS Tryz.prog) := fun a0 a1 a2 h k kp hk =>
  fn_sound wide (fn := Tryz.f29) (by kernel_rfl) (by kernel_rfl) (by kernel_rfl) lfp29 (by rw [tieF29] at hk; exact hk)
def lv83 : Lv := Lv.mk 165 [.raw, .raw, .raw] (fun i => cond (Nat.beq i 4) ([(0, .raw), (7, .raw), (8, .raw), (9, .int IntKind.i64)]) (cond (Nat.beq i 12) ([(0, .raw), (7, .raw), (8, .raw), (9, .int IntKind.i64), (10, .raw), (11, .int IntKind.i64), (12, .raw), (13, .raw), (14, .int IntKind.i64)]) (cond (Nat.beq i 18) ([(0, .raw), (7, .raw), (8, .raw), (9, .int IntKind.i64), (10, .raw), (11, .int IntKind.i64), (12, .raw), (13, .raw), (14, .int IntKind.i64), (15, .int IntKind.i64), (16, .int IntKind.i64)]) (cond (Nat.beq i 24) ([(7, .raw), (17, .int IntKind.i64)]) (cond (Nat.beq i 28) ([(7, .raw), (17, .int IntKind.i64), (18, .int IntKind.i64), (19, .int IntKind.i64)]) ([])))))) (fun i => cond (Nat.beq i 4) ([(0, [(7, .raw)])]) (cond (Nat.beq i 12) ([(2, [(0, .raw), (7, .raw), (8, .raw), (9, .int IntKind.i64), (12, .raw)])]) (cond (Nat.beq i 18) ([(4, [(0, .raw), (7, .raw), (8, .raw), (9, .int IntKind.i64), (10, .raw), (11, .int IntKind.i64), (12, .raw), (13, .raw), (14, .int IntKind.i64), (15, .int IntKind.i64)])]) (cond (Nat.beq i 24) ([(6, [(7, .raw)])]) (cond (Nat.beq i 28) ([(8, [(7, .raw), (17, .int IntKind.i64), (18, .int IntKind.i64)])]) ([])))))) [(6, .raw)] (fun i => cond (Nat.beq i 17) (some [(0, .raw), (7, .raw), (8, .raw), (9, .int IntKind.i64), (10, .raw), (11, .int IntKind.i64), (12, .raw), (13, .raw), (14, .int IntKind.i64), (15, .int IntKind.i64)]) (none))
def round83_18 (D : Orc) (I : List Value → H → Prop) (K : Kl) (a0 a1 a2 a3 a4 a5 a6 a7 a8 a9 a10 : Value) (h40 : H) : Prop :=
intK IntKind.i64 a3 (fun x41 => intK IntKind.i64 a5 (fun x42 => intK IntKind.i64 a8 (fun x43 => intK IntKind.i64 a9 (fun x44 => intK IntKind.i64 a10 (fun x45 => cond (decide (x45 < x44)) (
slAtW a6 x43 1 (fun ad46 => ∃ v47 : Value, rd h40 ad46 = some v47 ∧ lenW a7 (fun n48 => slAtW a7 (IntKind.wrap IntKind.i64 ((IntKind.wrap IntKind.i64 ((n48 : Int) - (1 : Int))) - x45)) 1 (fun ad49 => ∃ x50 : Int, rd h40 ad49 = some (Value.int IntKind.i64 x50) ∧ one (Value.int IntKind.i64 (IntKind.wrap IntKind.i64 (x42 + x50))) = true ∧ 0 < 1 ∧ newSl h40 1 [(Value.int IntKind.i64 (IntKind.wrap IntKind.i64 (x42 + x50)))] (fun s51 h52 => slenW s51 (fun n53 => srcW h52 1 s51 (n53) (fun w54 => apW h52 1 8 [(Value.int IntKind.i64 (0 : Int))] v47 (n53) w54 (fun s55 h56 => slAtW a6 x43 1 (fun ad57 => one s55 = true ∧ 1 = 1 ∧ ∃ h58, wr1 h56 ad57 s55 = some h58 ∧ I [a0, a1, a2, (Value.int IntKind.i64 x41), a4, (Value.int IntKind.i64 x42), a6, a7, (Value.int IntKind.i64 x43), (Value.int IntKind.i64 x44), (Value.int IntKind.i64 (IntKind.wrap IntKind.i64 (x45 + (1 : Int))))] h58))))))))) (
K (X.e 4) [a0, a1, a2, (Value.int IntKind.i64 x41), a4, (Value.int IntKind.i64 x42), a6, a7, (Value.int IntKind.i64 x43), (Value.int IntKind.i64 x44)] h40))))))
def loop83_18 (D : Orc) (vs : List Value) (h : H) (K : Kl) : Prop := ∀ I : List Value → H → Prop, (∀ a0 a1 a2 a3 a4 a5 a6 a7 a8 a9 a10 h, round83_18 D I K a0 a1 a2 a3 a4 a5 a6 a7 a8 a9 a10 h → I [a0, a1, a2, a3, a4, a5, a6, a7, a8, a9, a10] h) → I vs h
def j83_12_17 (D : Orc) (I : List Value → H → Prop) (K : Kl) (a0 a1 a2 a3 a4 a5 a6 a7 a8 a9 : Value) (h35 : H) : Prop :=
intK IntKind.i64 a3 (fun x36 => intK IntKind.i64 a5 (fun x37 => intK IntKind.i64 a8 (fun x38 => intK IntKind.i64 a9 (fun x39 => loop83_18 D [a0, a1, a2, (Value.int IntKind.i64 x36), a4, (Value.int IntKind.i64 x37), a6, a7, (Value.int IntKind.i64 x38), (Value.int IntKind.i64 x39), (Value.int IntKind.i64 (0 : Int))] h35 (fun x60 vs61 h59 => xs x60 (K X.r [(nth vs61 0)] h59) (fun i62 => cond (Nat.beq i62 4) (
intK IntKind.i64 (nth vs61 3) (fun x63 => intK IntKind.i64 (nth vs61 5) (fun x64 => intK IntKind.i64 (nth vs61 8) (fun x65 => intK IntKind.i64 (nth vs61 9) (fun x66 => lenW (nth vs61 7) (fun n67 => slCutW (nth vs61 7) none (some (IntKind.wrap IntKind.i64 ((n67 : Int) - x66))) none 1 (fun s68 => one (Value.int IntKind.i64 x65) = true ∧ 0 < 1 ∧ newSl h59 1 [(Value.int IntKind.i64 x65)] (fun s69 h70 => slenW s69 (fun n71 => srcW h70 1 s69 (n71) (fun w72 => apW h70 1 8 [(Value.int IntKind.i64 (0 : Int))] s68 (n71) w72 (fun s73 h74 => I [(nth vs61 0), (nth vs61 1), (nth vs61 2), (Value.int IntKind.i64 x63), (nth vs61 4), (Value.int IntKind.i64 x64), (nth vs61 6), s73, (Value.int IntKind.i64 (IntKind.wrap IntKind.i64 (x65 - (1 : Int))))] h74))))))))))) (False)) (fun c => (fun c h => K (X.p c) [] h) c h59))))))
def round83_12 (D : Orc) (I : List Value → H → Prop) (K : Kl) (a0 a1 a2 a3 a4 a5 a6 a7 a8 : Value) (h25 : H) : Prop :=
intK IntKind.i64 a3 (fun x26 => intK IntKind.i64 a5 (fun x27 => intK IntKind.i64 a8 (fun x28 => cond (decide (x28 ≥ (0 : Int))) (
slAtW a4 x28 1 (fun ad29 => ∃ x30 : Int, rd h25 ad29 = some (Value.int IntKind.i64 x30) ∧ cond (decide (x30 ≥ (0 : Int))) (
slAtW a4 x28 1 (fun ad31 => ∃ x32 : Int, rd h25 ad31 = some (Value.int IntKind.i64 x32) ∧ slAtW a0 x32 2 (fun ad33 => ∃ x34 : Int, rd h25 (Addr.add ad33 1) = some (Value.int IntKind.i64 x34) ∧ j83_12_17 D I K a0 a1 a2 (Value.int IntKind.i64 x26) a4 (Value.int IntKind.i64 x27) a6 a7 (Value.int IntKind.i64 x28) (Value.int IntKind.i64 x34) h25))) (
j83_12_17 D I K a0 a1 a2 (Value.int IntKind.i64 x26) a4 (Value.int IntKind.i64 x27) a6 a7 (Value.int IntKind.i64 x28) (Value.int IntKind.i64 (0 : Int)) h25))) (
K (X.e 2) [a0, a1, a2, (Value.int IntKind.i64 x26), a6] h25))))
def loop83_12 (D : Orc) (vs : List Value) (h : H) (K : Kl) : Prop := ∀ I : List Value → H → Prop, (∀ a0 a1 a2 a3 a4 a5 a6 a7 a8 h, round83_12 D I K a0 a1 a2 a3 a4 a5 a6 a7 a8 h → I [a0, a1, a2, a3, a4, a5, a6, a7, a8] h) → I vs h
def round83_4 (D : Orc) (I : List Value → H → Prop) (K : Kl) (a0 a1 a2 a3 : Value) (h4 : H) : Prop :=
intK IntKind.i64 a3 (fun x5 => cond (decide (x5 < (2 : Int))) (
slAtW a2 x5 1 (fun ad6 => ∃ v7 : Value, rd h4 ad6 = some v7 ∧ nonNil a1 = true ∧ ptrW a1 (fun ad8 => ∃ v9 : Value, rd h4 (Addr.add ad8 0) = some v9 ∧ lenW v9 (fun n10 => nonNil a1 = true ∧ ptrW a1 (fun ad11 => ∃ v12 : Value, rd h4 (Addr.add ad11 0) = some v12 ∧ slenW v7 (fun n13 => srcW h4 1 v7 (n13) (fun w14 => apW h4 1 8 [(Value.int IntKind.i64 (0 : Int))] v12 (n13) w14 (fun s15 h16 => nonNil a1 = true ∧ ptrW a1 (fun ad17 => one s15 = true ∧ 1 = 1 ∧ ∃ h18, wr1 h16 (Addr.add ad17 0) s15 = some h18 ∧ lenW v7 (fun n19 => mkSliceW h18 24 [(Value.slice none 0 0)] (n19 : Int) (n19 : Int) (fun s20 h21 => newSl h21 0 [] (fun s22 h23 => lenW v7 (fun n24 => loop83_12 D [a0, a1, a2, (Value.int IntKind.i64 x5), v7, (Value.int IntKind.i64 (n10 : Int)), s20, s22, (Value.int IntKind.i64 (IntKind.wrap IntKind.i64 ((n24 : Int) - (1 : Int))))] h23 (fun x76 vs77 h75 => xs x76 (K X.r [(nth vs77 0)] h75) (fun i78 => cond (Nat.beq i78 2) (
intK IntKind.i64 (nth vs77 3) (fun x79 => nonNil (nth vs77 1) = true ∧ ptrW (nth vs77 1) (fun ad80 => ∃ v81 : Value, rd h75 (Addr.add ad80 1) = some v81 ∧ slenW (nth vs77 4) (fun n82 => srcW h75 1 (nth vs77 4) (n82) (fun w83 => apW h75 1 24 [(Value.slice none 0 0)] v81 (n82) w83 (fun s84 h85 => nonNil (nth vs77 1) = true ∧ ptrW (nth vs77 1) (fun ad86 => one s84 = true ∧ 1 = 1 ∧ ∃ h87, wr1 h85 (Addr.add ad86 1) s84 = some h87 ∧ I [(nth vs77 0), (nth vs77 1), (nth vs77 2), (Value.int IntKind.i64 (IntKind.wrap IntKind.i64 (x79 + (1 : Int))))] h87))))))) (False)) (fun c => (fun c h => K (X.p c) [] h) c h75))))))))))))))) (
K (X.e 0) [a1] h4))
def loop83_4 (D : Orc) (vs : List Value) (h : H) (K : Kl) : Prop := ∀ I : List Value → H → Prop, (∀ a0 a1 a2 a3 h, round83_4 D I K a0 a1 a2 a3 h → I [a0, a1, a2, a3] h) → I vs h
def round83_28 (D : Orc) (I : List Value → H → Prop) (K : Kl) (a0 a1 a2 a3 : Value) (h97 : H) : Prop :=
intK IntKind.i64 a1 (fun x98 => intK IntKind.i64 a2 (fun x99 => intK IntKind.i64 a3 (fun x100 => cond (decide (x100 < x98)) (
nonNil a0 = true ∧ ptrW a0 (fun ad101 => ∃ v102 : Value, rd h97 (Addr.add ad101 0) = some v102 ∧ slAtW v102 x98 1 (fun ad103 => ∃ x104 : Int, rd h97 ad103 = some (Value.int IntKind.i64 x104) ∧ cond (decide (x104 < (0 : Int))) (
nonNil a0 = true ∧ ptrW a0 (fun ad105 => ∃ v106 : Value, rd h97 (Addr.add ad105 0) = some v106 ∧ slAtW v106 x100 1 (fun ad107 => ∃ x108 : Int, rd h97 ad107 = some (Value.int IntKind.i64 x108) ∧ nonNil a0 = true ∧ ptrW a0 (fun ad109 => ∃ v110 : Value, rd h97 (Addr.add ad109 0) = some v110 ∧ slAtW v110 x98 1 (fun ad111 => ∃ x112 : Int, rd h97 ad111 = some (Value.int IntKind.i64 x112) ∧ cond (x108 == x112) (
K (X.e 8) [a0, (Value.int IntKind.i64 x98), (Value.int IntKind.i64 x100)] h97) (
I [a0, (Value.int IntKind.i64 x98), (Value.int IntKind.i64 x99), (Value.int IntKind.i64 (IntKind.wrap IntKind.i64 (x100 + (1 : Int))))] h97)))))) (
K (X.e 8) [a0, (Value.int IntKind.i64 x98), (Value.int IntKind.i64 x99)] h97)))) (
K (X.e 8) [a0, (Value.int IntKind.i64 x98), (Value.int IntKind.i64 x99)] h97))))
def loop83_28 (D : Orc) (vs : List Value) (h : H) (K : Kl) : Prop := ∀ I : List Value → H → Prop, (∀ a0 a1 a2 a3 h, round83_28 D I K a0 a1 a2 a3 h → I [a0, a1, a2, a3] h) → I vs h
def round83_24 (D : Orc) (I : List Value → H → Prop) (K : Kl) (a0 a1 : Value) (h92 : H) : Prop :=
intK IntKind.i64 a1 (fun x93 => nonNil a0 = true ∧ ptrW a0 (fun ad94 => ∃ v95 : Value, rd h92 (Addr.add ad94 0) = some v95 ∧ lenW v95 (fun n96 => cond (decide (x93 < (n96 : Int))) (
loop83_28 D [a0, (Value.int IntKind.i64 x93), (Value.int IntKind.i64 x93), (Value.int IntKind.i64 (0 : Int))] h92 (fun x114 vs115 h113 => xs x114 (K X.r [(nth vs115 0)] h113) (fun i116 => cond (Nat.beq i116 8) (
intK IntKind.i64 (nth vs115 1) (fun x117 => intK IntKind.i64 (nth vs115 2) (fun x118 => nonNil (nth vs115 0) = true ∧ ptrW (nth vs115 0) (fun ad119 => ∃ v120 : Value, rd h113 (Addr.add ad119 2) = some v120 ∧ one (Value.int IntKind.i64 x118) = true ∧ 0 < 1 ∧ newSl h113 1 [(Value.int IntKind.i64 x118)] (fun s121 h122 => slenW s121 (fun n123 => srcW h122 1 s121 (n123) (fun w124 => apW h122 1 8 [(Value.int IntKind.i64 (0 : Int))] v120 (n123) w124 (fun s125 h126 => nonNil (nth vs115 0) = true ∧ ptrW (nth vs115 0) (fun ad127 => one s125 = true ∧ 1 = 1 ∧ ∃ h128, wr1 h126 (Addr.add ad127 2) s125 = some h128 ∧ I [(nth vs115 0), (Value.int IntKind.i64 (IntKind.wrap IntKind.i64 (x117 + (1 : Int))))] h128))))))))) (False)) (fun c => (fun c h => K (X.p c) [] h) c h113))) (
K (X.e 6) [a0] h92))))
def loop83_24 (D : Orc) (vs : List Value) (h : H) (K : Kl) : Prop := ∀ I : List Value → H → Prop, (∀ a0 a1 h, round83_24 D I K a0 a1 h → I [a0, a1] h) → I vs h
def L83 (D : Orc) : Lor := fun b vs h K => match firstId b with | some i => cond (Nat.beq i 4) (loop83_4 D vs h K) (cond (Nat.beq i 12) (loop83_12 D vs h K) (cond (Nat.beq i 18) (loop83_18 D vs h K) (cond (Nat.beq i 24) (loop83_24 D vs h K) (cond (Nat.beq i 28) (loop83_28 D vs h K) (False))))) | none => False
/-- lodestone/lodestoneref06.laid -/
def F83 (D : Orc) (a0 a1 a2 : Value) (h : H) (k : Kv) (kp : Kp) : Prop :=
newW h [(Value.slice none 0 0), (Value.slice none 0 0), (Value.slice none 0 0)] (fun p0 h1 => one a1 = true ∧ 0 < 2 ∧ one a2 = true ∧ 1 < 2 ∧ newSl h1 2 [a1, a2] (fun s2 h3 => loop83_4 D [a0, p0, s2, (Value.int IntKind.i64 (0 : Int))] h3 (fun x89 vs90 h88 => xs x89 (k (nth vs90 0) h88) (fun i91 => cond (Nat.beq i91 0) (
loop83_24 D [(nth vs90 0), (Value.int IntKind.i64 (0 : Int))] h88 (fun x130 vs131 h129 => xs x130 (k (nth vs131 0) h129) (fun i132 => cond (Nat.beq i132 6) (
k (nth vs131 0) h129) (False)) (fun c => kp c h129))) (False)) (fun c => kp c h88))))
def Cl83 (D : Orc) : Prop := ∀ a0 a1 a2 h k kp, F83 D a0 a1 a2 h k kp → D 83 [a0, a1, a2] h k kp
theorem tieR83_4 (D : Orc) (I : List Value → H → Prop) (K : Kl) (a0 a1 a2 a3 : Value) (h : H) : round83_4 D I K a0 a1 a2 a3 h = round Tryz.prog D (L83 D) lv83 (nthC (allLoops (bodyOf Tryz.f83)) 0) I K [a0, a1, a2, a3] h := by kernel_rfl
theorem tieR83_12 (D : Orc) (I : List Value → H → Prop) (K : Kl) (a0 a1 a2 a3 a4 a5 a6 a7 a8 : Value) (h : H) : round83_12 D I K a0 a1 a2 a3 a4 a5 a6 a7 a8 h = round Tryz.prog D (L83 D) lv83 (nthC (allLoops (bodyOf Tryz.f83)) 1) I K [a0, a1, a2, a3, a4, a5, a6, a7, a8] h := by kernel_rfl
theorem tieR83_18 (D : Orc) (I : List Value → H → Prop) (K : Kl) (a0 a1 a2 a3 a4 a5 a6 a7 a8 a9 a10 : Value) (h : H) : round83_18 D I K a0 a1 a2 a3 a4 a5 a6 a7 a8 a9 a10 h = round Tryz.prog D (L83 D) lv83 (nthC (allLoops (bodyOf Tryz.f83)) 2) I K [a0, a1, a2, a3, a4, a5, a6, a7, a8, a9, a10] h := by kernel_rfl
theorem tieR83_24 (D : Orc) (I : List Value → H → Prop) (K : Kl) (a0 a1 : Value) (h : H) : round83_24 D I K a0 a1 h = round Tryz.prog D (L83 D) lv83 (nthC (allLoops (bodyOf Tryz.f83)) 3) I K [a0, a1] h := by kernel_rfl
theorem tieR83_28 (D : Orc) (I : List Value → H → Prop) (K : Kl) (a0 a1 a2 a3 : Value) (h : H) : round83_28 D I K a0 a1 a2 a3 h = round Tryz.prog D (L83 D) lv83 (nthC (allLoops (bodyOf Tryz.f83)) 4) I K [a0, a1, a2, a3] h := by kernel_rfl
theorem tieF83 (D : Orc) (a0 a1 a2 : Value) (h : H) (k : Kv) (kp : Kp) : F83 D a0 a1 a2 h k kp = bodyW Tryz.prog D (L83 D) lv83 Tryz.f83 [a0, a1, a2] h k kp := by kernel_rfl
theorem lfp83 : Lfps Tryz.prog (CS Tryz.prog) (L83 (CS Tryz.prog)) lv83 (allLoops (bodyOf Tryz.f83)) := by
  have e : (allLoops (bodyOf Tryz.f83)) = [nthC (allLoops (bodyOf Tryz.f83)) 0, nthC (allLoops (bodyOf Tryz.f83)) 1, nthC (allLoops (bodyOf Tryz.f83)) 2, nthC (allLoops (bodyOf Tryz.f83)) 3, nthC (allLoops (bodyOf Tryz.f83)) 4] := by kernel_rfl
  rw [e]
  exact ⟨(fun vs h K hk I H => hk I (fun a0 a1 a2 a3 h hr => H _ _ ((tieR83_4 (CS Tryz.prog) I K a0 a1 a2 a3 h) ▸ hr))), (fun vs h K hk I H => hk I (fun a0 a1 a2 a3 a4 a5 a6 a7 a8 h hr => H _ _ ((tieR83_12 (CS Tryz.prog) I K a0 a1 a2 a3 a4 a5 a6 a7 a8 h) ▸ hr))), (fun vs h K hk I H => hk I (fun a0 a1 a2 a3 a4 a5 a6 a7 a8 a9 a10 h hr => H _ _ ((tieR83_18 (CS Tryz.prog) I K a0 a1 a2 a3 a4 a5 a6 a7 a8 a9 a10 h) ▸ hr))), (fun vs h K hk I H => hk I (fun a0 a1 h hr => H _ _ ((tieR83_24 (CS Tryz.prog) I K a0 a1 h) ▸ hr))), (fun vs h K hk I H => hk I (fun a0 a1 a2 a3 h hr => H _ _ ((tieR83_28 (CS Tryz.prog) I K a0 a1 a2 a3 h) ▸ hr))), trivial⟩
theorem cl83 : Cl83 (CS Tryz.prog) := fun a0 a1 a2 h k kp hk =>
  fn_sound wide (fn := Tryz.f83) (by kernel_rfl) (by kernel_rfl) (by kernel_rfl) lfp83 (by rw [tieF83] at hk; exact hk)
def lv57 : Lv := Lv.mk 17 [.raw, .raw, .raw] (fun i => []) (fun i => []) [(6, .int IntKind.i64)] (fun i => none)
def L57 (D : Orc) : Lor := fun b vs h K => match firstId b with | some i => False | none => False
/-- lodestone/lodestoneref06.right -/
def F57 (D : Orc) (a0 a1 a2 : Value) (h : H) (k : Kv) (kp : Kp) : Prop :=
D 36 [a0, a1] h (fun v0 h1 => ∃ x2 : Int, v0 = (Value.int IntKind.i64 x2) ∧ cond (x2 != (0 : Int)) (
k (Value.int IntKind.i64 x2) h1) (
D 36 [a0, a2] h1 (fun v3 h4 => ∃ x5 : Int, v3 = (Value.int IntKind.i64 x5) ∧ k (Value.int IntKind.i64 x5) h4) kp)) kp
def Cl57 (D : Orc) : Prop := ∀ a0 a1 a2 h k kp, F57 D a0 a1 a2 h k kp → D 57 [a0, a1, a2] h k kp
theorem tieF57 (D : Orc) (a0 a1 a2 : Value) (h : H) (k : Kv) (kp : Kp) : F57 D a0 a1 a2 h k kp = bodyW Tryz.prog D (L57 D) lv57 Tryz.f57 [a0, a1, a2] h k kp := by kernel_rfl
theorem lfp57 : Lfps Tryz.prog (CS Tryz.prog) (L57 (CS Tryz.prog)) lv57 (allLoops (bodyOf Tryz.f57)) := by
  have e : (allLoops (bodyOf Tryz.f57)) = [] := by kernel_rfl
  rw [e]
  exact trivial
theorem cl57 : Cl57 (CS Tryz.prog) := fun a0 a1 a2 h k kp hk =>
  fn_sound wide (fn := Tryz.f57) (by kernel_rfl) (by kernel_rfl) (by kernel_rfl) lfp57 (by rw [tieF57] at hk; exact hk)
def lv58 : Lv := Lv.mk 47 [.raw, .raw, .raw] (fun i => cond (Nat.beq i 7) ([(9, .raw), (10, .raw), (11, .int IntKind.i64)]) ([])) (fun i => cond (Nat.beq i 7) ([(0, [(9, .raw), (10, .raw)])]) ([])) [(6, .raw), (7, .raw), (8, .bool)] (fun i => none)
def round58_7 (D : Orc) (I : List Value → H → Prop) (K : Kl) (a0 a1 a2 : Value) (h13 : H) : Prop :=
intK IntKind.i64 a2 (fun x14 => nonNil a0 = true ∧ ptrW a0 (fun ad15 => ∃ v16 : Value, rd h13 (Addr.add ad15 0) = some v16 ∧ lenW v16 (fun n17 => cond (decide (x14 < (n17 : Int))) (
nonNil a0 = true ∧ ptrW a0 (fun ad18 => ∃ v19 : Value, rd h13 (Addr.add ad18 2) = some v19 ∧ slAtW v19 x14 1 (fun ad20 => ∃ x21 : Int, rd h13 ad20 = some (Value.int IntKind.i64 x21) ∧ slAtW a1 x21 1 (fun ad22 => ∃ x23 : Int, rd h13 ad22 = some (Value.int IntKind.i64 x23) ∧ cond (x23 == (0 : Int)) (
K X.r [(Value.pointer none), (Value.slice none 0 0), (Value.bool false)] h13) (
I [a0, a1, (Value.int IntKind.i64 (IntKind.wrap IntKind.i64 (x14 + (1 : Int))))] h13))))) (
K (X.e 0) [a0, a1] h13))))
def loop58_7 (D : Orc) (vs : List Value) (h : H) (K : Kl) : Prop := ∀ I : List Value → H → Prop, (∀ a0 a1 a2 h, round58_7 D I K a0 a1 a2 h → I [a0, a1, a2] h) → I vs h
def L58 (D : Orc) : Lor := fun b vs h K => match firstId b with | some i => cond (Nat.beq i 7) (loop58_7 D vs h K) (False) | none => False
/-- lodestone/lodestoneref06.solved -/
def F58 (D : Orc) (a0 a1 a2 : Value) (h : H) (k : Kv) (kp : Kp) : Prop :=
D 83 [a0, a1, a2] h (fun v0 h1 => ∃ v2 : Value, v0 = v2 ∧ lenW a1 (fun n3 => D 84 [v2, (Value.int IntKind.i64 (0 : Int)), (Value.int IntKind.i64 (n3 : Int))] h1 (fun v4 h5 => ∃ t6 : Bool, v4 = (Value.bool t6) ∧ D 85 [v2] h5 (fun v7 h8 => ∃ t9 : Bool, v7 = (Value.bool t9) ∧ cond (!t9) (
k (Value.tuple #[(Value.pointer none), (Value.slice none 0 0), (Value.bool false)]) h8) (
D 86 [v2] h8 (fun v10 h11 => ∃ v12 : Value, v10 = v12 ∧ loop58_7 D [v2, v12, (Value.int IntKind.i64 (0 : Int))] h11 (fun x25 vs26 h24 => xs x25 (boolW (nth vs26 2) (fun t28 => k (Value.tuple #[(nth vs26 0), (nth vs26 1), (Value.bool t28)]) h24)) (fun i27 => cond (Nat.beq i27 0) (
k (Value.tuple #[(nth vs26 0), (nth vs26 1), (Value.bool true)]) h24) (False)) (fun c => kp c h24))) kp)) kp) kp)) kp
def Cl58 (D : Orc) : Prop := ∀ a0 a1 a2 h k kp, F58 D a0 a1 a2 h k kp → D 58 [a0, a1, a2] h k kp
theorem tieR58_7 (D : Orc) (I : List Value → H → Prop) (K : Kl) (a0 a1 a2 : Value) (h : H) : round58_7 D I K a0 a1 a2 h = round Tryz.prog D (L58 D) lv58 (nthC (allLoops (bodyOf Tryz.f58)) 0) I K [a0, a1, a2] h := by kernel_rfl
theorem tieF58 (D : Orc) (a0 a1 a2 : Value) (h : H) (k : Kv) (kp : Kp) : F58 D a0 a1 a2 h k kp = bodyW Tryz.prog D (L58 D) lv58 Tryz.f58 [a0, a1, a2] h k kp := by kernel_rfl
theorem lfp58 : Lfps Tryz.prog (CS Tryz.prog) (L58 (CS Tryz.prog)) lv58 (allLoops (bodyOf Tryz.f58)) := by
  have e : (allLoops (bodyOf Tryz.f58)) = [nthC (allLoops (bodyOf Tryz.f58)) 0] := by kernel_rfl
  rw [e]
  exact ⟨(fun vs h K hk I H => hk I (fun a0 a1 a2 h hr => H _ _ ((tieR58_7 (CS Tryz.prog) I K a0 a1 a2 h) ▸ hr))), trivial⟩
theorem cl58 : Cl58 (CS Tryz.prog) := fun a0 a1 a2 h k kp hk =>
  fn_sound wide (fn := Tryz.f58) (by kernel_rfl) (by kernel_rfl) (by kernel_rfl) lfp58 (by rw [tieF58] at hk; exact hk)
def lv25 : Lv := Lv.mk 54 [.raw, .raw, .raw] (fun i => cond (Nat.beq i 4) ([(0, .raw), (1, .raw), (2, .raw), (8, .raw), (9, .int IntKind.i64), (10, .int IntKind.i64)]) ([])) (fun i => cond (Nat.beq i 4) ([(0, [(8, .raw), (9, .int IntKind.i64)])]) ([])) [(6, .raw), (7, .int IntKind.i64)] (fun i => cond (Nat.beq i 6) (some [(0, .raw), (1, .raw), (2, .raw), (8, .raw), (9, .int IntKind.i64), (10, .int IntKind.i64), (31, .bool)]) (none))
def j25_4_6 (D : Orc) (I : List Value → H → Prop) (K : Kl) (a0 a1 a2 a3 a4 a5 a6 : Value) (h15 : H) : Prop :=
intK IntKind.i64 a4 (fun x16 => intK IntKind.i64 a5 (fun x17 => boolW a6 (fun t18 => cond t18 (
one (Value.int IntKind.i64 (IntKind.wrap IntKind.i64 ((-1 : Int) - x16))) = true ∧ 0 < 1 ∧ newSl h15 1 [(Value.int IntKind.i64 (IntKind.wrap IntKind.i64 ((-1 : Int) - x16)))] (fun s19 h20 => slenW s19 (fun n21 => srcW h20 1 s19 (n21) (fun w22 => apW h20 1 8 [(Value.int IntKind.i64 (0 : Int))] a3 (n21) w22 (fun s23 h24 => D 33 [a0, a2, (Value.int IntKind.i64 x17)] h24 (fun v25 h26 => ∃ x27 : Int, v25 = (Value.int IntKind.i64 x27) ∧ I [a0, a1, a2, s23, (Value.int IntKind.i64 (IntKind.wrap IntKind.i64 (x16 + (1 : Int)))), (Value.int IntKind.i64 x27)] h26) (fun c h => K (X.p c) [] h)))))) (
slAtW a2 x17 1 (fun ad28 => ∃ x29 : Int, rd h15 ad28 = some (Value.int IntKind.i64 x29) ∧ one (Value.int IntKind.i64 x29) = true ∧ 0 < 1 ∧ newSl h15 1 [(Value.int IntKind.i64 x29)] (fun s30 h31 => slenW s30 (fun n32 => srcW h31 1 s30 (n32) (fun w33 => apW h31 1 8 [(Value.int IntKind.i64 (0 : Int))] a3 (n32) w33 (fun s34 h35 => I [a0, a1, a2, s34, (Value.int IntKind.i64 x16), (Value.int IntKind.i64 (IntKind.wrap IntKind.i64 (x17 + (1 : Int))))] h35)))))))))
def round25_4 (D : Orc) (I : List Value → H → Prop) (K : Kl) (a0 a1 a2 a3 a4 a5 : Value) (h4 : H) : Prop :=
intK IntKind.i64 a4 (fun x5 => intK IntKind.i64 a5 (fun x6 => lenW a2 (fun n7 => cond (decide (x6 < (n7 : Int))) (
slAtW a2 x6 1 (fun ad8 => ∃ x9 : Int, rd h4 ad8 = some (Value.int IntKind.i64 x9) ∧ cond (!(decide (x9 < (0 : Int)))) (
slAtW a2 x6 1 (fun ad10 => ∃ x11 : Int, rd h4 ad10 = some (Value.int IntKind.i64 x11) ∧ D 31 [a1, (Value.int IntKind.i64 x11)] h4 (fun v12 h13 => ∃ t14 : Bool, v12 = (Value.bool t14) ∧ j25_4_6 D I K a0 a1 a2 a3 (Value.int IntKind.i64 x5) (Value.int IntKind.i64 x6) (Value.bool t14) h13) (fun c h => K (X.p c) [] h))) (
j25_4_6 D I K a0 a1 a2 a3 (Value.int IntKind.i64 x5) (Value.int IntKind.i64 x6) (Value.bool true) h4))) (
K (X.e 0) [a3, (Value.int IntKind.i64 x5)] h4))))
def loop25_4 (D : Orc) (vs : List Value) (h : H) (K : Kl) : Prop := ∀ I : List Value → H → Prop, (∀ a0 a1 a2 a3 a4 a5 h, round25_4 D I K a0 a1 a2 a3 a4 a5 h → I [a0, a1, a2, a3, a4, a5] h) → I vs h
def L25 (D : Orc) : Lor := fun b vs h K => match firstId b with | some i => cond (Nat.beq i 4) (loop25_4 D vs h K) (False) | none => False
/-- lodestone/lodestoneref13.Cap -/
def F25 (D : Orc) (a0 a1 a2 : Value) (h : H) (k : Kv) (kp : Kp) : Prop :=
slAtW a2 (0 : Int) 1 (fun ad0 => ∃ x1 : Int, rd h ad0 = some (Value.int IntKind.i64 x1) ∧ one (Value.int IntKind.i64 x1) = true ∧ 0 < 1 ∧ newSl h 1 [(Value.int IntKind.i64 x1)] (fun s2 h3 => loop25_4 D [a0, a1, a2, s2, (Value.int IntKind.i64 (0 : Int)), (Value.int IntKind.i64 (1 : Int))] h3 (fun x37 vs38 h36 => xs x37 (intK IntKind.i64 (nth vs38 1) (fun x40 => k (Value.tuple #[(nth vs38 0), (Value.int IntKind.i64 x40)]) h36)) (fun i39 => cond (Nat.beq i39 0) (
intK IntKind.i64 (nth vs38 1) (fun x41 => k (Value.tuple #[(nth vs38 0), (Value.int IntKind.i64 x41)]) h36)) (False)) (fun c => kp c h36))))
def Cl25 (D : Orc) : Prop := ∀ a0 a1 a2 h k kp, F25 D a0 a1 a2 h k kp → D 25 [a0, a1, a2] h k kp
theorem tieR25_4 (D : Orc) (I : List Value → H → Prop) (K : Kl) (a0 a1 a2 a3 a4 a5 : Value) (h : H) : round25_4 D I K a0 a1 a2 a3 a4 a5 h = round Tryz.prog D (L25 D) lv25 (nthC (allLoops (bodyOf Tryz.f25)) 0) I K [a0, a1, a2, a3, a4, a5] h := by kernel_rfl
theorem tieF25 (D : Orc) (a0 a1 a2 : Value) (h : H) (k : Kv) (kp : Kp) : F25 D a0 a1 a2 h k kp = bodyW Tryz.prog D (L25 D) lv25 Tryz.f25 [a0, a1, a2] h k kp := by kernel_rfl
theorem lfp25 : Lfps Tryz.prog (CS Tryz.prog) (L25 (CS Tryz.prog)) lv25 (allLoops (bodyOf Tryz.f25)) := by
  have e : (allLoops (bodyOf Tryz.f25)) = [nthC (allLoops (bodyOf Tryz.f25)) 0] := by kernel_rfl
  rw [e]
  exact ⟨(fun vs h K hk I H => hk I (fun a0 a1 a2 a3 a4 a5 h hr => H _ _ ((tieR25_4 (CS Tryz.prog) I K a0 a1 a2 a3 a4 a5 h) ▸ hr))), trivial⟩
theorem cl25 : Cl25 (CS Tryz.prog) := fun a0 a1 a2 h k kp hk =>
  fn_sound wide (fn := Tryz.f25) (by kernel_rfl) (by kernel_rfl) (by kernel_rfl) lfp25 (by rw [tieF25] at hk; exact hk)
def lv8 : Lv := Lv.mk 66 [.raw, .raw, .raw] (fun i => []) (fun i => []) [(6, .bool)] (fun i => cond (Nat.beq i 6) (some [(3, .raw), (4, .raw), (5, .raw), (7, .raw), (40, .bool)]) (none))
def j8__6 (D : Orc) (k : Kv) (kp : Kp) (a0 a1 a2 a3 a4 : Value) (h34 : H) : Prop :=
boolW a4 (fun t35 => cond t35 (
k (Value.bool false) h34) (
ptrW a0 (fun ad36 => ∃ v37 : Value, ∃ v38 : Value, rdN h34 ad36 2 = some [v37, v38] ∧ ptrW a1 (fun ad39 => ∃ v40 : Value, rd h34 (Addr.add ad39 1) = some v40 ∧ D 26 [(Value.agg #[v37, v38])] h34 (fun v41 h42 => ∃ v43 : Value, v41 = v43 ∧ (rd h42 (Addr.add ad39 1) = some v40) ∧ D 25 [a3, v43, v40] h42 (fun v44 h45 => ∃ v46 : Value, ∃ x47 : Int, v44 = (Value.tuple #[v46, (Value.int IntKind.i64 x47)]) ∧ ptrW a2 (fun ad48 => ∃ v49 : Value, rd h45 (Addr.add ad48 0) = some v49 ∧ one v49 = true ∧ 0 < 1 ∧ newSl h45 1 [v49] (fun s50 h51 => D 27 [s50] h51 (fun v52 h53 => ∃ v54 : Value, v52 = v54 ∧ slAtW v54 (0 : Int) 1 (fun ad55 => ∃ v56 : Value, rd h53 ad55 = some v56 ∧ D 28 [v56, (Value.int IntKind.i64 x47)] h53 (fun v57 h58 => ∃ v59 : Value, ∃ x60 : Int, v57 = (Value.tuple #[v59, (Value.int IntKind.i64 x60)]) ∧ D 29 [a3, v46, v59] h58 (fun v61 h62 => ∃ t63 : Bool, v61 = (Value.bool t63) ∧ k (Value.bool t63) h62) kp) kp)) kp))) kp) kp))))
def L8 (D : Orc) : Lor := fun b vs h K => match firstId b with | some i => False | none => False
/-- lodestone/lodestoneref13.Edge -/
def F8 (D : Orc) (a0 a1 a2 : Value) (h : H) (k : Kv) (kp : Kp) : Prop :=
aggW a0 (fun l0 => newW h l0 (fun p1 h2 => aggW a1 (fun l3 => newW h2 l3 (fun p4 h5 => aggW a2 (fun l6 => newW h5 l6 (fun p7 h8 => ptrW p1 (fun ad9 => ∃ v10 : Value, ∃ v11 : Value, rdN h8 ad9 2 = some [v10, v11] ∧ D 23 [(Value.agg #[v10, v11])] h8 (fun v12 h13 => ∃ t14 : Bool, v12 = (Value.bool t14) ∧ cond (!t14) (
k (Value.bool false) h13) (
ptrW p1 (fun ad15 => ∃ v16 : Value, rd h13 (Addr.add ad15 0) = some v16 ∧ D 13 [v16] h13 (fun v17 h18 => ∃ v19 : Value, ∃ x20 : Int, v17 = (Value.tuple #[v19, (Value.int IntKind.i64 x20)]) ∧ ptrW p1 (fun ad21 => ∃ v22 : Value, rd h18 (Addr.add ad21 0) = some v22 ∧ lenW v22 (fun n23 => ptrW p4 (fun ad24 => ∃ v25 : Value, rd h18 (Addr.add ad24 1) = some v25 ∧ D 24 [v19, v25, (Value.int IntKind.i64 (n23 : Int))] h18 (fun v26 h27 => ∃ t28 : Bool, v26 = (Value.bool t28) ∧ cond (!(!t28)) (
ptrW p7 (fun ad29 => ∃ v30 : Value, rd h27 (Addr.add ad29 0) = some v30 ∧ D 24 [v19, v30, (Value.int IntKind.i64 (n23 : Int))] h27 (fun v31 h32 => ∃ t33 : Bool, v31 = (Value.bool t33) ∧ j8__6 D k kp p1 p4 p7 v19 (Value.bool (!t33)) h32) kp)) (
j8__6 D k kp p1 p4 p7 v19 (Value.bool true) h27)) kp)))) kp))) kp)))))))
def Cl8 (D : Orc) : Prop := ∀ a0 a1 a2 h k kp, F8 D a0 a1 a2 h k kp → D 8 [a0, a1, a2] h k kp
theorem tieF8 (D : Orc) (a0 a1 a2 : Value) (h : H) (k : Kv) (kp : Kp) : F8 D a0 a1 a2 h k kp = bodyW Tryz.prog D (L8 D) lv8 Tryz.f8 [a0, a1, a2] h k kp := by kernel_rfl
theorem lfp8 : Lfps Tryz.prog (CS Tryz.prog) (L8 (CS Tryz.prog)) lv8 (allLoops (bodyOf Tryz.f8)) := by
  have e : (allLoops (bodyOf Tryz.f8)) = [] := by kernel_rfl
  rw [e]
  exact trivial
theorem cl8 : Cl8 (CS Tryz.prog) := fun a0 a1 a2 h k kp hk =>
  fn_sound wide (fn := Tryz.f8) (by kernel_rfl) (by kernel_rfl) (by kernel_rfl) lfp8 (by rw [tieF8] at hk; exact hk)
def lv11 : Lv := Lv.mk 41 [.raw, .raw] (fun i => cond (Nat.beq i 3) ([(1, .raw), (2, .raw), (5, .raw), (6, .int IntKind.i64)]) (cond (Nat.beq i 7) ([(1, .raw), (2, .raw), (5, .raw), (6, .int IntKind.i64), (7, .raw), (8, .int IntKind.i64)]) ([]))) (fun i => cond (Nat.beq i 3) ([(0, [(5, .raw)])]) (cond (Nat.beq i 7) ([(2, [(1, .raw), (2, .raw), (5, .raw), (6, .int IntKind.i64), (7, .raw)])]) ([]))) [(4, .raw)] (fun i => cond (Nat.beq i 8) (some [(1, .raw), (2, .raw), (5, .raw), (6, .int IntKind.i64), (7, .raw), (8, .int IntKind.i64)]) (none))
def j11_7_8 (D : Orc) (I : List Value → H → Prop) (K : Kl) (a0 a1 a2 a3 a4 a5 : Value) (h30 : H) : Prop :=
intK IntKind.i64 a3 (fun x31 => intK IntKind.i64 a5 (fun x32 => I [a0, a1, a2, (Value.int IntKind.i64 x31), a4, (Value.int IntKind.i64 (IntKind.wrap IntKind.i64 (x32 + (1 : Int))))] h30))
def round11_7 (D : Orc) (I : List Value → H → Prop) (K : Kl) (a0 a1 a2 a3 a4 a5 : Value) (h8 : H) : Prop :=
intK IntKind.i64 a3 (fun x9 => intK IntKind.i64 a5 (fun x10 => lenW a0 (fun n11 => cond (decide (x10 < (n11 : Int))) (
ptrW a1 (fun ad12 => ∃ v13 : Value, ∃ v14 : Value, rdN h8 ad12 2 = some [v13, v14] ∧ slAtW a0 x9 2 (fun ad15 => ∃ v16 : Value, ∃ v17 : Value, rdN h8 ad15 2 = some [v16, v17] ∧ slAtW a0 x10 2 (fun ad18 => ∃ v19 : Value, ∃ v20 : Value, rdN h8 ad18 2 = some [v19, v20] ∧ D 8 [(Value.agg #[v13, v14]), (Value.agg #[v16, v17]), (Value.agg #[v19, v20])] h8 (fun v21 h22 => ∃ t23 : Bool, v21 = (Value.bool t23) ∧ cond t23 (
one (Value.int IntKind.i64 x10) = true ∧ 0 < 1 ∧ newSl h22 1 [(Value.int IntKind.i64 x10)] (fun s24 h25 => slenW s24 (fun n26 => srcW h25 1 s24 (n26) (fun w27 => apW h25 1 8 [(Value.int IntKind.i64 (0 : Int))] a4 (n26) w27 (fun s28 h29 => j11_7_8 D I K a0 a1 a2 (Value.int IntKind.i64 x9) s28 (Value.int IntKind.i64 x10) h29))))) (
j11_7_8 D I K a0 a1 a2 (Value.int IntKind.i64 x9) a4 (Value.int IntKind.i64 x10) h22)) (fun c h => K (X.p c) [] h))))) (
K (X.e 2) [a0, a1, a2, (Value.int IntKind.i64 x9), a4] h8))))
def loop11_7 (D : Orc) (vs : List Value) (h : H) (K : Kl) : Prop := ∀ I : List Value → H → Prop, (∀ a0 a1 a2 a3 a4 a5 h, round11_7 D I K a0 a1 a2 a3 a4 a5 h → I [a0, a1, a2, a3, a4, a5] h) → I vs h
def round11_3 (D : Orc) (I : List Value → H → Prop) (K : Kl) (a0 a1 a2 a3 : Value) (h3 : H) : Prop :=
intK IntKind.i64 a3 (fun x4 => lenW a0 (fun n5 => cond (decide (x4 < (n5 : Int))) (
newSl h3 0 [] (fun s6 h7 => loop11_7 D [a0, a1, a2, (Value.int IntKind.i64 x4), s6, (Value.int IntKind.i64 (0 : Int))] h7 (fun x34 vs35 h33 => xs x34 (K X.r [(nth vs35 0)] h33) (fun i36 => cond (Nat.beq i36 2) (
intK IntKind.i64 (nth vs35 3) (fun x37 => one (nth vs35 4) = true ∧ 0 < 1 ∧ newSl h33 1 [(nth vs35 4)] (fun s38 h39 => slenW s38 (fun n40 => srcW h39 1 s38 (n40) (fun w41 => apW h39 1 24 [(Value.slice none 0 0)] (nth vs35 2) (n40) w41 (fun s42 h43 => I [(nth vs35 0), (nth vs35 1), s42, (Value.int IntKind.i64 (IntKind.wrap IntKind.i64 (x37 + (1 : Int))))] h43)))))) (False)) (fun c => (fun c h => K (X.p c) [] h) c h33)))) (
K (X.e 0) [a2] h3)))
def loop11_3 (D : Orc) (vs : List Value) (h : H) (K : Kl) : Prop := ∀ I : List Value → H → Prop, (∀ a0 a1 a2 a3 h, round11_3 D I K a0 a1 a2 a3 h → I [a0, a1, a2, a3] h) → I vs h
def L11 (D : Orc) : Lor := fun b vs h K => match firstId b with | some i => cond (Nat.beq i 3) (loop11_3 D vs h K) (cond (Nat.beq i 7) (loop11_7 D vs h K) (False)) | none => False
/-- lodestone/lodestoneref13.Graph -/
def F11 (D : Orc) (a0 a1 : Value) (h : H) (k : Kv) (kp : Kp) : Prop :=
aggW a0 (fun l0 => newW h l0 (fun p1 h2 => loop11_3 D [a1, p1, (Value.slice none 0 0), (Value.int IntKind.i64 (0 : Int))] h2 (fun x45 vs46 h44 => xs x45 (k (nth vs46 0) h44) (fun i47 => cond (Nat.beq i47 0) (
k (nth vs46 0) h44) (False)) (fun c => kp c h44))))
def Cl11 (D : Orc) : Prop := ∀ a0 a1 h k kp, F11 D a0 a1 h k kp → D 11 [a0, a1] h k kp
theorem tieR11_3 (D : Orc) (I : List Value → H → Prop) (K : Kl) (a0 a1 a2 a3 : Value) (h : H) : round11_3 D I K a0 a1 a2 a3 h = round Tryz.prog D (L11 D) lv11 (nthC (allLoops (bodyOf Tryz.f11)) 0) I K [a0, a1, a2, a3] h := by kernel_rfl
theorem tieR11_7 (D : Orc) (I : List Value → H → Prop) (K : Kl) (a0 a1 a2 a3 a4 a5 : Value) (h : H) : round11_7 D I K a0 a1 a2 a3 a4 a5 h = round Tryz.prog D (L11 D) lv11 (nthC (allLoops (bodyOf Tryz.f11)) 1) I K [a0, a1, a2, a3, a4, a5] h := by kernel_rfl
theorem tieF11 (D : Orc) (a0 a1 : Value) (h : H) (k : Kv) (kp : Kp) : F11 D a0 a1 h k kp = bodyW Tryz.prog D (L11 D) lv11 Tryz.f11 [a0, a1] h k kp := by kernel_rfl
theorem lfp11 : Lfps Tryz.prog (CS Tryz.prog) (L11 (CS Tryz.prog)) lv11 (allLoops (bodyOf Tryz.f11)) := by
  have e : (allLoops (bodyOf Tryz.f11)) = [nthC (allLoops (bodyOf Tryz.f11)) 0, nthC (allLoops (bodyOf Tryz.f11)) 1] := by kernel_rfl
  rw [e]
  exact ⟨(fun vs h K hk I H => hk I (fun a0 a1 a2 a3 h hr => H _ _ ((tieR11_3 (CS Tryz.prog) I K a0 a1 a2 a3 h) ▸ hr))), (fun vs h K hk I H => hk I (fun a0 a1 a2 a3 a4 a5 h hr => H _ _ ((tieR11_7 (CS Tryz.prog) I K a0 a1 a2 a3 a4 a5 h) ▸ hr))), trivial⟩
theorem cl11 : Cl11 (CS Tryz.prog) := fun a0 a1 h k kp hk =>
  fn_sound wide (fn := Tryz.f11) (by kernel_rfl) (by kernel_rfl) (by kernel_rfl) lfp11 (by rw [tieF11] at hk; exact hk)
def lv24 : Lv := Lv.mk 23 [.raw, .raw, .int IntKind.i64] (fun i => []) (fun i => []) [(6, .bool)] (fun i => none)
def L24 (D : Orc) : Lor := fun b vs h K => match firstId b with | some i => False | none => False
/-- lodestone/lodestoneref13.begins -/
def F24 (D : Orc) (a0 a1 a2 : Value) (h : H) (k : Kv) (kp : Kp) : Prop :=
intK IntKind.i64 a2 (fun x0 => D 36 [a0, a1] h (fun v1 h2 => ∃ x3 : Int, v1 = (Value.int IntKind.i64 x3) ∧ cond (x3 == (0 : Int)) (
lenW a1 (fun n4 => cond (decide ((n4 : Int) ≤ (512 : Int))) (
slAtW a1 (0 : Int) 1 (fun ad5 => ∃ x6 : Int, rd h2 ad5 = some (Value.int IntKind.i64 x6) ∧ k (Value.bool (decide (x6 ≥ x0))) h2)) (
k (Value.bool false) h2))) (
k (Value.bool false) h2)) kp)
def Cl24 (D : Orc) : Prop := ∀ a0 a1 a2 h k kp, F24 D a0 a1 a2 h k kp → D 24 [a0, a1, a2] h k kp
theorem tieF24 (D : Orc) (a0 a1 a2 : Value) (h : H) (k : Kv) (kp : Kp) : F24 D a0 a1 a2 h k kp = bodyW Tryz.prog D (L24 D) lv24 Tryz.f24 [a0, a1, a2] h k kp := by kernel_rfl
theorem lfp24 : Lfps Tryz.prog (CS Tryz.prog) (L24 (CS Tryz.prog)) lv24 (allLoops (bodyOf Tryz.f24)) := by
  have e : (allLoops (bodyOf Tryz.f24)) = [] := by kernel_rfl
  rw [e]
  exact trivial
theorem cl24 : Cl24 (CS Tryz.prog) := fun a0 a1 a2 h k kp hk =>
  fn_sound wide (fn := Tryz.f24) (by kernel_rfl) (by kernel_rfl) (by kernel_rfl) lfp24 (by rw [tieF24] at hk; exact hk)
end Go.Proofs.YtnlhnlmnlfmojaaGreatDoor.Am
