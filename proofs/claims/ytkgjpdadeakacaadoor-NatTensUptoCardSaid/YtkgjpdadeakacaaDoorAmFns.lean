/-
  Packed: 
-/
import Derived.Test.YtkgjpdadeakacaaDoorPkB
import Derived.Test.YtkgjpdadeakacaaDoorProg
namespace Go.Proofs.YtkgjpdadeakacaaDoor.Am
open Go Go.Proofs
set_option maxRecDepth 100000
set_option linter.unusedVariables false
theorem wide : Tryd.prog.follows .mixedOrders = true := by kernel_rfl
def lv3 : Lv := Lv.mk 43 [.raw, .int IntKind.u64] (fun i => []) (fun i => []) [(4, .bool)] (fun i => none)
def L3 (D : Orc) : Lor := fun b vs h K => match firstId b with | some i => False | none => False
/-- lodestone/lodestonelaw01.NatRights -/
def F3 (D : Orc) (a0 a1 : Value) (h : H) (k : Kv) (kp : Kp) : Prop :=
intK IntKind.u64 a1 (fun x0 => D 10 [] h (fun v1 h2 => ∃ t3 : Bool, v1 = (Value.bool t3) ∧ D 11 [a0] h2 (fun v4 h5 => ∃ t6 : Bool, v4 = (Value.bool t6) ∧ D 12 [a0] h5 (fun v7 h8 => ∃ t9 : Bool, v7 = (Value.bool t9) ∧ D 13 [(Value.int IntKind.u64 x0)] h8 (fun v10 h11 => ∃ v12 : Value, v10 = v12 ∧ D 15 [(Value.int IntKind.u64 x0)] h11 (fun v13 h14 => ∃ v15 : Value, v13 = v15 ∧ D 14 [v12, v15] h14 (fun v16 h17 => ∃ t18 : Bool, v16 = (Value.bool t18) ∧ D 16 [v12] h17 (fun v19 h20 => v19 = (Value.tuple #[]) ∧ D 13 [(Value.int IntKind.u64 x0)] h20 (fun v21 h22 => ∃ v23 : Value, v21 = v23 ∧ D 15 [(Value.int IntKind.u64 x0)] h22 (fun v24 h25 => ∃ v26 : Value, v24 = v26 ∧ D 14 [v23, v26] h25 (fun v27 h28 => ∃ t29 : Bool, v27 = (Value.bool t29) ∧ cond t3 (
cond (t6 == t9) (
cond t18 (
k (Value.bool t29) h28) (
k (Value.bool false) h28)) (
k (Value.bool false) h28)) (
k (Value.bool false) h28)) kp) kp) kp) kp) kp) kp) kp) kp) kp) kp)
def Cl3 (D : Orc) : Prop := ∀ a0 a1 h k kp, F3 D a0 a1 h k kp → D 3 [a0, a1] h k kp
theorem tieF3 (D : Orc) (a0 a1 : Value) (h : H) (k : Kv) (kp : Kp) : F3 D a0 a1 h k kp = bodyW Tryd.prog D (L3 D) lv3 Tryd.f3 [a0, a1] h k kp := by kernel_rfl
theorem lfp3 : Lfps Tryd.prog (CS Tryd.prog) (L3 (CS Tryd.prog)) lv3 (allLoops (bodyOf Tryd.f3)) := by
  have e : (allLoops (bodyOf Tryd.f3)) = [] := by kernel_rfl
  rw [e]
  exact trivial
theorem cl3 : Cl3 (CS Tryd.prog) := fun a0 a1 h k kp hk =>
  fn_sound wide (fn := Tryd.f3) (by kernel_rfl) (by kernel_rfl) (by kernel_rfl) lfp3 (by rw [tieF3] at hk; exact hk)
def lv4 : Lv := Lv.mk 144 [.raw, .raw] (fun i => []) (fun i => []) [(4, .bool)] (fun i => none)
def L4 (D : Orc) : Lor := fun b vs h K => match firstId b with | some i => False | none => False
/-- lodestone/lodestonelaw01.NatReckons -/
def F4 (D : Orc) (a0 a1 : Value) (h : H) (k : Kv) (kp : Kp) : Prop :=
D 10 [] h (fun v0 h1 => ∃ t2 : Bool, v0 = (Value.bool t2) ∧ D 17 [a0] h1 (fun v3 h4 => ∃ v5 : Value, v3 = v5 ∧ D 17 [a1] h4 (fun v6 h7 => ∃ v8 : Value, v6 = v8 ∧ D 18 [v5, v8] h7 (fun v9 h10 => ∃ v11 : Value, ∃ x12 : Int, v9 = (Value.tuple #[v11, (Value.int IntKind.i64 x12)]) ∧ D 19 [a0, a1] h10 (fun v13 h14 => ∃ v15 : Value, ∃ x16 : Int, v13 = (Value.tuple #[v15, (Value.int IntKind.i64 x16)]) ∧ D 20 [v5, v8] h14 (fun v17 h18 => ∃ v19 : Value, ∃ x20 : Int, v17 = (Value.tuple #[v19, (Value.int IntKind.i64 x20)]) ∧ D 21 [a0, a1] h18 (fun v21 h22 => ∃ v23 : Value, ∃ x24 : Int, v21 = (Value.tuple #[v23, (Value.int IntKind.i64 x24)]) ∧ D 22 [v5, v8] h22 (fun v25 h26 => ∃ x27 : Int, ∃ x28 : Int, v25 = (Value.tuple #[(Value.int IntKind.i64 x27), (Value.int IntKind.i64 x28)]) ∧ D 23 [a0, a1] h26 (fun v29 h30 => ∃ x31 : Int, ∃ x32 : Int, v29 = (Value.tuple #[(Value.int IntKind.i64 x31), (Value.int IntKind.i64 x32)]) ∧ D 14 [v11, v15] h30 (fun v33 h34 => ∃ t35 : Bool, v33 = (Value.bool t35) ∧ D 14 [v19, v23] h34 (fun v36 h37 => ∃ t38 : Bool, v36 = (Value.bool t38) ∧ D 16 [v11] h37 (fun v39 h40 => v39 = (Value.tuple #[]) ∧ D 16 [v19] h40 (fun v41 h42 => v41 = (Value.tuple #[]) ∧ D 18 [v5, v8] h42 (fun v43 h44 => ∃ v45 : Value, ∃ x46 : Int, v43 = (Value.tuple #[v45, (Value.int IntKind.i64 x46)]) ∧ D 20 [v5, v8] h44 (fun v47 h48 => ∃ v49 : Value, ∃ x50 : Int, v47 = (Value.tuple #[v49, (Value.int IntKind.i64 x50)]) ∧ D 14 [v45, v15] h48 (fun v51 h52 => ∃ t53 : Bool, v51 = (Value.bool t53) ∧ D 14 [v49, v23] h52 (fun v54 h55 => ∃ t56 : Bool, v54 = (Value.bool t56) ∧ D 24 [v5, a0] h55 (fun v57 h58 => ∃ t59 : Bool, v57 = (Value.bool t59) ∧ D 24 [v8, a1] h58 (fun v60 h61 => ∃ t62 : Bool, v60 = (Value.bool t62) ∧ cond t2 (
cond t35 (
cond t38 (
cond t53 (
cond t56 (
cond t59 (
cond t62 (
cond (x12 == x16) (
cond (x20 == x24) (
cond (x27 == x31) (
k (Value.bool (x28 == x32)) h61) (
k (Value.bool false) h61)) (
k (Value.bool false) h61)) (
k (Value.bool false) h61)) (
k (Value.bool false) h61)) (
k (Value.bool false) h61)) (
k (Value.bool false) h61)) (
k (Value.bool false) h61)) (
k (Value.bool false) h61)) (
k (Value.bool false) h61)) (
k (Value.bool false) h61)) kp) kp) kp) kp) kp) kp) kp) kp) kp) kp) kp) kp) kp) kp) kp) kp) kp) kp) kp
def Cl4 (D : Orc) : Prop := ∀ a0 a1 h k kp, F4 D a0 a1 h k kp → D 4 [a0, a1] h k kp
theorem tieF4 (D : Orc) (a0 a1 : Value) (h : H) (k : Kv) (kp : Kp) : F4 D a0 a1 h k kp = bodyW Tryd.prog D (L4 D) lv4 Tryd.f4 [a0, a1] h k kp := by kernel_rfl
theorem lfp4 : Lfps Tryd.prog (CS Tryd.prog) (L4 (CS Tryd.prog)) lv4 (allLoops (bodyOf Tryd.f4)) := by
  have e : (allLoops (bodyOf Tryd.f4)) = [] := by kernel_rfl
  rw [e]
  exact trivial
theorem cl4 : Cl4 (CS Tryd.prog) := fun a0 a1 h k kp hk =>
  fn_sound wide (fn := Tryd.f4) (by kernel_rfl) (by kernel_rfl) (by kernel_rfl) lfp4 (by rw [tieF4] at hk; exact hk)
def lv5 : Lv := Lv.mk 30 [.raw] (fun i => []) (fun i => []) [(2, .bool)] (fun i => none)
def L5 (D : Orc) : Lor := fun b vs h K => match firstId b with | some i => False | none => False
/-- lodestone/lodestonelaw01.NatTexts -/
def F5 (D : Orc) (a0 : Value) (h : H) (k : Kv) (kp : Kp) : Prop :=
D 10 [] h (fun v0 h1 => ∃ t2 : Bool, v0 = (Value.bool t2) ∧ D 25 [a0] h1 (fun v3 h4 => ∃ s5 : ByteArray, ∃ x6 : Int, v3 = (Value.tuple #[(Value.string s5), (Value.int IntKind.i64 x6)]) ∧ D 26 [a0] h4 (fun v7 h8 => ∃ s9 : ByteArray, ∃ x10 : Int, v7 = (Value.tuple #[(Value.string s9), (Value.int IntKind.i64 x10)]) ∧ cond t2 (
cond (s5.toList == s9.toList) (
k (Value.bool (x6 == x10)) h8) (
k (Value.bool false) h8)) (
k (Value.bool false) h8)) kp) kp) kp
def Cl5 (D : Orc) : Prop := ∀ a0 h k kp, F5 D a0 h k kp → D 5 [a0] h k kp
theorem tieF5 (D : Orc) (a0 : Value) (h : H) (k : Kv) (kp : Kp) : F5 D a0 h k kp = bodyW Tryd.prog D (L5 D) lv5 Tryd.f5 [a0] h k kp := by kernel_rfl
theorem lfp5 : Lfps Tryd.prog (CS Tryd.prog) (L5 (CS Tryd.prog)) lv5 (allLoops (bodyOf Tryd.f5)) := by
  have e : (allLoops (bodyOf Tryd.f5)) = [] := by kernel_rfl
  rw [e]
  exact trivial
theorem cl5 : Cl5 (CS Tryd.prog) := fun a0 h k kp hk =>
  fn_sound wide (fn := Tryd.f5) (by kernel_rfl) (by kernel_rfl) (by kernel_rfl) lfp5 (by rw [tieF5] at hk; exact hk)
def lv6 : Lv := Lv.mk 32 [.str] (fun i => []) (fun i => []) [(2, .bool)] (fun i => none)
def L6 (D : Orc) : Lor := fun b vs h K => match firstId b with | some i => False | none => False
/-- lodestone/lodestonelaw01.NatParses -/
def F6 (D : Orc) (a0 : Value) (h : H) (k : Kv) (kp : Kp) : Prop :=
strW a0 (fun s0 => D 10 [] h (fun v1 h2 => ∃ t3 : Bool, v1 = (Value.bool t3) ∧ D 27 [(Value.string s0)] h2 (fun v4 h5 => ∃ v6 : Value, ∃ x7 : Int, v4 = (Value.tuple #[v6, (Value.int IntKind.i64 x7)]) ∧ D 28 [(Value.string s0)] h5 (fun v8 h9 => ∃ v10 : Value, ∃ x11 : Int, v8 = (Value.tuple #[v10, (Value.int IntKind.i64 x11)]) ∧ D 14 [v6, v10] h9 (fun v12 h13 => ∃ t14 : Bool, v12 = (Value.bool t14) ∧ cond t3 (
cond t14 (
k (Value.bool (x7 == x11)) h13) (
k (Value.bool false) h13)) (
k (Value.bool false) h13)) kp) kp) kp) kp)
def Cl6 (D : Orc) : Prop := ∀ a0 h k kp, F6 D a0 h k kp → D 6 [a0] h k kp
theorem tieF6 (D : Orc) (a0 : Value) (h : H) (k : Kv) (kp : Kp) : F6 D a0 h k kp = bodyW Tryd.prog D (L6 D) lv6 Tryd.f6 [a0] h k kp := by kernel_rfl
theorem lfp6 : Lfps Tryd.prog (CS Tryd.prog) (L6 (CS Tryd.prog)) lv6 (allLoops (bodyOf Tryd.f6)) := by
  have e : (allLoops (bodyOf Tryd.f6)) = [] := by kernel_rfl
  rw [e]
  exact trivial
theorem cl6 : Cl6 (CS Tryd.prog) := fun a0 h k kp hk =>
  fn_sound wide (fn := Tryd.f6) (by kernel_rfl) (by kernel_rfl) (by kernel_rfl) lfp6 (by rw [tieF6] at hk; exact hk)
def lv7 : Lv := Lv.mk 84 [.raw, .str] (fun i => []) (fun i => []) [(4, .bool)] (fun i => cond (Nat.beq i 5) (some [(0, .raw), (1, .str), (6, .str), (7, .int IntKind.i64), (33, .bool)]) (cond (Nat.beq i 11) (some [(1, .str)]) (cond (Nat.beq i 10) (some [(1, .str), (49, .bool)]) (none))))
def j7__11 (D : Orc) (k : Kv) (kp : Kp) (a0 : Value) (h26 : H) : Prop :=
strW a0 (fun s27 => D 27 [(Value.string s27)] h26 (fun v28 h29 => ∃ v30 : Value, ∃ x31 : Int, v28 = (Value.tuple #[v30, (Value.int IntKind.i64 x31)]) ∧ D 28 [(Value.string s27)] h29 (fun v32 h33 => ∃ v34 : Value, ∃ x35 : Int, v32 = (Value.tuple #[v34, (Value.int IntKind.i64 x35)]) ∧ cond (x31 != x35) (
k (Value.bool false) h33) (
cond (x31 != (0 : Int)) (
lenW v30 (fun n36 => k (Value.bool ((n36 : Int) == (0 : Int))) h33)) (
D 25 [v30] h33 (fun v37 h38 => ∃ s39 : ByteArray, ∃ x40 : Int, v37 = (Value.tuple #[(Value.string s39), (Value.int IntKind.i64 x40)]) ∧ cond (x40 == (0 : Int)) (
cond (s39.toList == s27.toList) (
D 11 [v30] h38 (fun v41 h42 => ∃ t43 : Bool, v41 = (Value.bool t43) ∧ k (Value.bool t43) h42) kp) (
k (Value.bool false) h38)) (
k (Value.bool false) h38)) kp))) kp) kp)
def j7__10 (D : Orc) (k : Kv) (kp : Kp) (a0 a1 : Value) (h23 : H) : Prop :=
strW a0 (fun s24 => boolW a1 (fun t25 => cond t25 (
k (Value.bool false) h23) (
j7__11 D k kp (Value.string s24) h23)))
def j7__5 (D : Orc) (k : Kv) (kp : Kp) (a0 a1 a2 a3 a4 : Value) (h11 : H) : Prop :=
strW a1 (fun s12 => strW a2 (fun s13 => intK IntKind.i64 a3 (fun x14 => boolW a4 (fun t15 => cond t15 (
k (Value.bool false) h11) (
cond (x14 == (0 : Int)) (
D 27 [(Value.string s13)] h11 (fun v16 h17 => ∃ v18 : Value, ∃ x19 : Int, v16 = (Value.tuple #[v18, (Value.int IntKind.i64 x19)]) ∧ D 14 [a0, v18] h17 (fun v20 h21 => ∃ t22 : Bool, v20 = (Value.bool t22) ∧ cond (!(x19 != (0 : Int))) (
j7__10 D k kp (Value.string s12) (Value.bool (!t22)) h21) (
j7__10 D k kp (Value.string s12) (Value.bool true) h21)) kp) kp) (
j7__11 D k kp (Value.string s12) h11))))))
def L7 (D : Orc) : Lor := fun b vs h K => match firstId b with | some i => False | none => False
/-- lodestone/lodestonelaw01.NatBack -/
def F7 (D : Orc) (a0 a1 : Value) (h : H) (k : Kv) (kp : Kp) : Prop :=
strW a1 (fun s0 => D 10 [] h (fun v1 h2 => ∃ t3 : Bool, v1 = (Value.bool t3) ∧ D 25 [a0] h2 (fun v4 h5 => ∃ s6 : ByteArray, ∃ x7 : Int, v4 = (Value.tuple #[(Value.string s6), (Value.int IntKind.i64 x7)]) ∧ D 12 [a0] h5 (fun v8 h9 => ∃ t10 : Bool, v8 = (Value.bool t10) ∧ cond (!(!t3)) (
j7__5 D k kp a0 (Value.string s0) (Value.string s6) (Value.int IntKind.i64 x7) (Value.bool (!((x7 == (0 : Int)) == t10))) h9) (
j7__5 D k kp a0 (Value.string s0) (Value.string s6) (Value.int IntKind.i64 x7) (Value.bool true) h9)) kp) kp) kp)
def Cl7 (D : Orc) : Prop := ∀ a0 a1 h k kp, F7 D a0 a1 h k kp → D 7 [a0, a1] h k kp
theorem tieF7 (D : Orc) (a0 a1 : Value) (h : H) (k : Kv) (kp : Kp) : F7 D a0 a1 h k kp = bodyW Tryd.prog D (L7 D) lv7 Tryd.f7 [a0, a1] h k kp := by kernel_rfl
theorem lfp7 : Lfps Tryd.prog (CS Tryd.prog) (L7 (CS Tryd.prog)) lv7 (allLoops (bodyOf Tryd.f7)) := by
  have e : (allLoops (bodyOf Tryd.f7)) = [] := by kernel_rfl
  rw [e]
  exact trivial
theorem cl7 : Cl7 (CS Tryd.prog) := fun a0 a1 h k kp hk =>
  fn_sound wide (fn := Tryd.f7) (by kernel_rfl) (by kernel_rfl) (by kernel_rfl) lfp7 (by rw [tieF7] at hk; exact hk)
def lv8 : Lv := Lv.mk 257 [.raw, .raw, .raw] (fun i => []) (fun i => []) [(6, .bool)] (fun i => cond (Nat.beq i 3) (some [(0, .raw), (1, .raw), (2, .raw), (7, .bool), (8, .bool)]) (cond (Nat.beq i 4) (some [(0, .raw), (1, .raw), (2, .raw), (7, .bool), (61, .bool)]) (cond (Nat.beq i 12) (some [(0, .raw), (1, .raw), (2, .raw), (9, .raw), (10, .int IntKind.i64), (11, .raw), (13, .raw), (14, .int IntKind.i64), (15, .raw), (16, .int IntKind.i64), (17, .raw), (19, .raw), (20, .int IntKind.i64), (106, .bool)]) (cond (Nat.beq i 16) (some [(0, .raw), (1, .raw), (2, .raw), (9, .raw), (10, .int IntKind.i64), (13, .raw), (14, .int IntKind.i64), (15, .raw), (16, .int IntKind.i64), (19, .raw), (20, .int IntKind.i64), (118, .bool)]) (cond (Nat.beq i 29) (some [(0, .raw), (1, .raw), (2, .raw), (13, .raw), (14, .int IntKind.i64), (19, .raw), (20, .int IntKind.i64)]) (cond (Nat.beq i 18) (some [(0, .raw), (1, .raw), (2, .raw), (9, .raw), (13, .raw), (14, .int IntKind.i64), (15, .raw), (16, .int IntKind.i64), (19, .raw), (20, .int IntKind.i64), (124, .bool)]) (cond (Nat.beq i 22) (some [(0, .raw), (1, .raw), (2, .raw), (13, .raw), (14, .int IntKind.i64), (15, .raw), (16, .int IntKind.i64), (19, .raw), (20, .int IntKind.i64), (146, .bool)]) (cond (Nat.beq i 25) (some [(0, .raw), (1, .raw), (2, .raw), (13, .raw), (14, .int IntKind.i64), (15, .raw), (19, .raw), (20, .int IntKind.i64), (28, .raw), (162, .bool)]) (cond (Nat.beq i 28) (some [(0, .raw), (1, .raw), (2, .raw), (13, .raw), (14, .int IntKind.i64), (19, .raw), (20, .int IntKind.i64), (177, .bool)]) (cond (Nat.beq i 32) (some [(0, .raw), (1, .raw), (2, .raw), (13, .raw), (14, .int IntKind.i64), (19, .raw), (20, .int IntKind.i64), (33, .int IntKind.i64), (201, .bool)]) (cond (Nat.beq i 38) (some [(1, .raw), (2, .raw), (19, .raw), (20, .int IntKind.i64), (33, .int IntKind.i64)]) (cond (Nat.beq i 35) (some [(1, .raw), (2, .raw), (13, .raw), (19, .raw), (20, .int IntKind.i64), (33, .int IntKind.i64), (37, .raw), (213, .bool)]) (cond (Nat.beq i 37) (some [(1, .raw), (2, .raw), (19, .raw), (20, .int IntKind.i64), (33, .int IntKind.i64), (226, .bool)]) (cond (Nat.beq i 43) (some []) (cond (Nat.beq i 40) (some [(19, .raw), (33, .int IntKind.i64), (41, .raw), (243, .bool)]) (cond (Nat.beq i 42) (some [(256, .bool)]) (none)))))))))))))))))
def j8__43 (D : Orc) (k : Kv) (kp : Kp) (h149 : H) : Prop :=
k (Value.bool true) h149
def j8__42 (D : Orc) (k : Kv) (kp : Kp) (a0 : Value) (h147 : H) : Prop :=
boolW a0 (fun t148 => cond t148 (
k (Value.bool false) h147) (
j8__43 D k kp  h147))
def j8__40 (D : Orc) (k : Kv) (kp : Kp) (a0 a1 a2 a3 : Value) (h140 : H) : Prop :=
intK IntKind.i64 a1 (fun x141 => boolW a3 (fun t142 => cond t142 (
D 22 [a0, a2] h140 (fun v143 h144 => ∃ x145 : Int, ∃ x146 : Int, v143 = (Value.tuple #[(Value.int IntKind.i64 x145), (Value.int IntKind.i64 x146)]) ∧ cond (!(x146 != (0 : Int))) (
j8__42 D k kp (Value.bool (x145 != x141)) h144) (
j8__42 D k kp (Value.bool true) h144)) kp) (
j8__43 D k kp  h140)))
def j8__38 (D : Orc) (k : Kv) (kp : Kp) (a0 a1 a2 a3 a4 : Value) (h132 : H) : Prop :=
intK IntKind.i64 a3 (fun x133 => intK IntKind.i64 a4 (fun x134 => D 20 [a0, a1] h132 (fun v135 h136 => ∃ v137 : Value, ∃ x138 : Int, v135 = (Value.tuple #[v137, (Value.int IntKind.i64 x138)]) ∧ cond (x133 == (0 : Int)) (
cond (x138 == (0 : Int)) (
lenW a1 (fun n139 => j8__40 D k kp a2 (Value.int IntKind.i64 x134) v137 (Value.bool (decide ((n139 : Int) > (0 : Int)))) h136)) (
j8__40 D k kp a2 (Value.int IntKind.i64 x134) v137 (Value.bool false) h136)) (
j8__40 D k kp a2 (Value.int IntKind.i64 x134) v137 (Value.bool false) h136)) kp))
def j8__37 (D : Orc) (k : Kv) (kp : Kp) (a0 a1 a2 a3 a4 a5 : Value) (h128 : H) : Prop :=
intK IntKind.i64 a3 (fun x129 => intK IntKind.i64 a4 (fun x130 => boolW a5 (fun t131 => cond t131 (
k (Value.bool false) h128) (
j8__38 D k kp a0 a1 a2 (Value.int IntKind.i64 x129) (Value.int IntKind.i64 x130) h128))))
def j8__35 (D : Orc) (k : Kv) (kp : Kp) (a0 a1 a2 a3 a4 a5 a6 a7 : Value) (h120 : H) : Prop :=
intK IntKind.i64 a4 (fun x121 => intK IntKind.i64 a5 (fun x122 => boolW a7 (fun t123 => cond t123 (
D 22 [a6, a2] h120 (fun v124 h125 => ∃ x126 : Int, ∃ x127 : Int, v124 = (Value.tuple #[(Value.int IntKind.i64 x126), (Value.int IntKind.i64 x127)]) ∧ cond (!(x127 != (0 : Int))) (
j8__37 D k kp a0 a1 a3 (Value.int IntKind.i64 x121) (Value.int IntKind.i64 x122) (Value.bool (x126 != x122)) h125) (
j8__37 D k kp a0 a1 a3 (Value.int IntKind.i64 x121) (Value.int IntKind.i64 x122) (Value.bool true) h125)) kp) (
j8__38 D k kp a0 a1 a3 (Value.int IntKind.i64 x121) (Value.int IntKind.i64 x122) h120))))
def j8__32 (D : Orc) (k : Kv) (kp : Kp) (a0 a1 a2 a3 a4 a5 a6 a7 a8 : Value) (h111 : H) : Prop :=
intK IntKind.i64 a4 (fun x112 => intK IntKind.i64 a6 (fun x113 => intK IntKind.i64 a7 (fun x114 => boolW a8 (fun t115 => cond t115 (
k (Value.bool false) h111) (
D 18 [a0, a2] h111 (fun v116 h117 => ∃ v118 : Value, ∃ x119 : Int, v116 = (Value.tuple #[v118, (Value.int IntKind.i64 x119)]) ∧ cond (x119 == (0 : Int)) (
j8__35 D k kp a1 a2 a3 a5 (Value.int IntKind.i64 x113) (Value.int IntKind.i64 x114) v118 (Value.bool (x112 == (0 : Int))) h117) (
j8__35 D k kp a1 a2 a3 a5 (Value.int IntKind.i64 x113) (Value.int IntKind.i64 x114) v118 (Value.bool false) h117)) kp)))))
def j8__29 (D : Orc) (k : Kv) (kp : Kp) (a0 a1 a2 a3 a4 a5 a6 : Value) (h100 : H) : Prop :=
intK IntKind.i64 a4 (fun x101 => intK IntKind.i64 a6 (fun x102 => D 22 [a0, a1] h100 (fun v103 h104 => ∃ x105 : Int, ∃ x106 : Int, v103 = (Value.tuple #[(Value.int IntKind.i64 x105), (Value.int IntKind.i64 x106)]) ∧ D 22 [a1, a0] h104 (fun v107 h108 => ∃ x109 : Int, ∃ x110 : Int, v107 = (Value.tuple #[(Value.int IntKind.i64 x109), (Value.int IntKind.i64 x110)]) ∧ cond (!(x106 != (0 : Int))) (
cond (!(x110 != (0 : Int))) (
j8__32 D k kp a0 a1 a2 a3 (Value.int IntKind.i64 x101) a5 (Value.int IntKind.i64 x102) (Value.int IntKind.i64 x105) (Value.bool (x105 != (IntKind.wrap IntKind.i64 (0 - x109)))) h108) (
j8__32 D k kp a0 a1 a2 a3 (Value.int IntKind.i64 x101) a5 (Value.int IntKind.i64 x102) (Value.int IntKind.i64 x105) (Value.bool true) h108)) (
j8__32 D k kp a0 a1 a2 a3 (Value.int IntKind.i64 x101) a5 (Value.int IntKind.i64 x102) (Value.int IntKind.i64 x105) (Value.bool true) h108)) kp) kp))
def j8__28 (D : Orc) (k : Kv) (kp : Kp) (a0 a1 a2 a3 a4 a5 a6 a7 : Value) (h96 : H) : Prop :=
intK IntKind.i64 a4 (fun x97 => intK IntKind.i64 a6 (fun x98 => boolW a7 (fun t99 => cond t99 (
k (Value.bool false) h96) (
j8__29 D k kp a0 a1 a2 a3 (Value.int IntKind.i64 x97) a5 (Value.int IntKind.i64 x98) h96))))
def j8__25 (D : Orc) (k : Kv) (kp : Kp) (a0 a1 a2 a3 a4 a5 a6 a7 a8 a9 : Value) (h85 : H) : Prop :=
intK IntKind.i64 a4 (fun x86 => intK IntKind.i64 a7 (fun x87 => boolW a9 (fun t88 => cond t88 (
D 18 [a5, a6] h85 (fun v89 h90 => ∃ v91 : Value, ∃ x92 : Int, v89 = (Value.tuple #[v91, (Value.int IntKind.i64 x92)]) ∧ D 14 [a8, v91] h90 (fun v93 h94 => ∃ t95 : Bool, v93 = (Value.bool t95) ∧ cond (!(x92 != (0 : Int))) (
j8__28 D k kp a0 a1 a2 a3 (Value.int IntKind.i64 x86) a6 (Value.int IntKind.i64 x87) (Value.bool (!t95)) h94) (
j8__28 D k kp a0 a1 a2 a3 (Value.int IntKind.i64 x86) a6 (Value.int IntKind.i64 x87) (Value.bool true) h94)) kp) kp) (
j8__29 D k kp a0 a1 a2 a3 (Value.int IntKind.i64 x86) a6 (Value.int IntKind.i64 x87) h85))))
def j8__22 (D : Orc) (k : Kv) (kp : Kp) (a0 a1 a2 a3 a4 a5 a6 a7 a8 a9 : Value) (h76 : H) : Prop :=
intK IntKind.i64 a4 (fun x77 => intK IntKind.i64 a6 (fun x78 => intK IntKind.i64 a8 (fun x79 => boolW a9 (fun t80 => cond t80 (
k (Value.bool false) h76) (
D 20 [a0, a3] h76 (fun v81 h82 => ∃ v83 : Value, ∃ x84 : Int, v81 = (Value.tuple #[v83, (Value.int IntKind.i64 x84)]) ∧ cond (x78 == (0 : Int)) (
cond (x79 == (0 : Int)) (
j8__25 D k kp a0 a1 a2 a3 (Value.int IntKind.i64 x77) a5 a7 (Value.int IntKind.i64 x79) v83 (Value.bool (x84 == (0 : Int))) h82) (
j8__25 D k kp a0 a1 a2 a3 (Value.int IntKind.i64 x77) a5 a7 (Value.int IntKind.i64 x79) v83 (Value.bool false) h82)) (
j8__25 D k kp a0 a1 a2 a3 (Value.int IntKind.i64 x77) a5 a7 (Value.int IntKind.i64 x79) v83 (Value.bool false) h82)) kp)))))
def j8__18 (D : Orc) (k : Kv) (kp : Kp) (a0 a1 a2 a3 a4 a5 a6 a7 a8 a9 a10 : Value) (h60 : H) : Prop :=
intK IntKind.i64 a5 (fun x61 => intK IntKind.i64 a7 (fun x62 => intK IntKind.i64 a9 (fun x63 => boolW a10 (fun t64 => cond t64 (
D 18 [a3, a2] h60 (fun v65 h66 => ∃ v67 : Value, ∃ x68 : Int, v65 = (Value.tuple #[v67, (Value.int IntKind.i64 x68)]) ∧ D 18 [a0, a4] h66 (fun v69 h70 => ∃ v71 : Value, ∃ x72 : Int, v69 = (Value.tuple #[v71, (Value.int IntKind.i64 x72)]) ∧ D 14 [v67, v71] h70 (fun v73 h74 => ∃ t75 : Bool, v73 = (Value.bool t75) ∧ cond (!(x68 != x72)) (
j8__22 D k kp a0 a1 a2 a4 (Value.int IntKind.i64 x61) a6 (Value.int IntKind.i64 x62) a8 (Value.int IntKind.i64 x63) (Value.bool (!t75)) h74) (
j8__22 D k kp a0 a1 a2 a4 (Value.int IntKind.i64 x61) a6 (Value.int IntKind.i64 x62) a8 (Value.int IntKind.i64 x63) (Value.bool true) h74)) kp) kp) kp) (
j8__29 D k kp a0 a1 a2 a4 (Value.int IntKind.i64 x61) a8 (Value.int IntKind.i64 x63) h60)))))
def j8__16 (D : Orc) (k : Kv) (kp : Kp) (a0 a1 a2 a3 a4 a5 a6 a7 a8 a9 a10 a11 : Value) (h54 : H) : Prop :=
intK IntKind.i64 a4 (fun x55 => intK IntKind.i64 a6 (fun x56 => intK IntKind.i64 a8 (fun x57 => intK IntKind.i64 a10 (fun x58 => boolW a11 (fun t59 => cond t59 (
k (Value.bool false) h54) (
cond (x55 == (0 : Int)) (
j8__18 D k kp a0 a1 a2 a3 a5 (Value.int IntKind.i64 x56) a7 (Value.int IntKind.i64 x57) a9 (Value.int IntKind.i64 x58) (Value.bool (x56 == (0 : Int))) h54) (
j8__18 D k kp a0 a1 a2 a3 a5 (Value.int IntKind.i64 x56) a7 (Value.int IntKind.i64 x57) a9 (Value.int IntKind.i64 x58) (Value.bool false) h54)))))))
def j8__12 (D : Orc) (k : Kv) (kp : Kp) (a0 a1 a2 a3 a4 a5 a6 a7 a8 a9 a10 a11 a12 a13 : Value) (h42 : H) : Prop :=
intK IntKind.i64 a4 (fun x43 => intK IntKind.i64 a7 (fun x44 => intK IntKind.i64 a9 (fun x45 => intK IntKind.i64 a12 (fun x46 => boolW a13 (fun t47 => cond t47 (
k (Value.bool false) h42) (
D 14 [a3, a5] h42 (fun v48 h49 => ∃ t50 : Bool, v48 = (Value.bool t50) ∧ D 14 [a8, a10] h49 (fun v51 h52 => ∃ t53 : Bool, v51 = (Value.bool t53) ∧ cond (!(!t50)) (
j8__16 D k kp a0 a1 a2 a3 (Value.int IntKind.i64 x43) a6 (Value.int IntKind.i64 x44) a8 (Value.int IntKind.i64 x45) a11 (Value.int IntKind.i64 x46) (Value.bool (!t53)) h52) (
j8__16 D k kp a0 a1 a2 a3 (Value.int IntKind.i64 x43) a6 (Value.int IntKind.i64 x44) a8 (Value.int IntKind.i64 x45) a11 (Value.int IntKind.i64 x46) (Value.bool true) h52)) kp) kp))))))
def j8__4 (D : Orc) (k : Kv) (kp : Kp) (a0 a1 a2 a3 a4 : Value) (h15 : H) : Prop :=
boolW a3 (fun t16 => boolW a4 (fun t17 => cond t17 (
k (Value.bool t16) h15) (
D 18 [a0, a1] h15 (fun v18 h19 => ∃ v20 : Value, ∃ x21 : Int, v18 = (Value.tuple #[v20, (Value.int IntKind.i64 x21)]) ∧ D 18 [a1, a0] h19 (fun v22 h23 => ∃ v24 : Value, ∃ x25 : Int, v22 = (Value.tuple #[v24, (Value.int IntKind.i64 x25)]) ∧ D 18 [a1, a2] h23 (fun v26 h27 => ∃ v28 : Value, ∃ x29 : Int, v26 = (Value.tuple #[v28, (Value.int IntKind.i64 x29)]) ∧ D 20 [a0, a1] h27 (fun v30 h31 => ∃ v32 : Value, ∃ x33 : Int, v30 = (Value.tuple #[v32, (Value.int IntKind.i64 x33)]) ∧ D 20 [a1, a0] h31 (fun v34 h35 => ∃ v36 : Value, ∃ x37 : Int, v34 = (Value.tuple #[v36, (Value.int IntKind.i64 x37)]) ∧ D 20 [a0, a2] h35 (fun v38 h39 => ∃ v40 : Value, ∃ x41 : Int, v38 = (Value.tuple #[v40, (Value.int IntKind.i64 x41)]) ∧ cond (!(x21 != x25)) (
j8__12 D k kp a0 a1 a2 v20 (Value.int IntKind.i64 x21) v24 v28 (Value.int IntKind.i64 x29) v32 (Value.int IntKind.i64 x33) v36 v40 (Value.int IntKind.i64 x41) (Value.bool (x33 != x37)) h39) (
j8__12 D k kp a0 a1 a2 v20 (Value.int IntKind.i64 x21) v24 v28 (Value.int IntKind.i64 x29) v32 (Value.int IntKind.i64 x33) v36 v40 (Value.int IntKind.i64 x41) (Value.bool true) h39)) kp) kp) kp) kp) kp) kp)))
def j8__3 (D : Orc) (k : Kv) (kp : Kp) (a0 a1 a2 a3 a4 : Value) (h12 : H) : Prop :=
boolW a3 (fun t13 => boolW a4 (fun t14 => cond (!(!t13)) (
j8__4 D k kp a0 a1 a2 (Value.bool t13) (Value.bool (!t14)) h12) (
j8__4 D k kp a0 a1 a2 (Value.bool t13) (Value.bool true) h12)))
def L8 (D : Orc) : Lor := fun b vs h K => match firstId b with | some i => False | none => False
/-- lodestone/lodestonelaw01.NatLaws -/
def F8 (D : Orc) (a0 a1 a2 : Value) (h : H) (k : Kv) (kp : Kp) : Prop :=
D 10 [] h (fun v0 h1 => ∃ t2 : Bool, v0 = (Value.bool t2) ∧ D 12 [a0] h1 (fun v3 h4 => ∃ t5 : Bool, v3 = (Value.bool t5) ∧ cond t5 (
D 12 [a1] h4 (fun v6 h7 => ∃ t8 : Bool, v6 = (Value.bool t8) ∧ cond t8 (
D 12 [a2] h7 (fun v9 h10 => ∃ t11 : Bool, v9 = (Value.bool t11) ∧ j8__3 D k kp a0 a1 a2 (Value.bool t2) (Value.bool t11) h10) kp) (
j8__3 D k kp a0 a1 a2 (Value.bool t2) (Value.bool false) h7)) kp) (
j8__3 D k kp a0 a1 a2 (Value.bool t2) (Value.bool false) h4)) kp) kp
def Cl8 (D : Orc) : Prop := ∀ a0 a1 a2 h k kp, F8 D a0 a1 a2 h k kp → D 8 [a0, a1, a2] h k kp
theorem tieF8 (D : Orc) (a0 a1 a2 : Value) (h : H) (k : Kv) (kp : Kp) : F8 D a0 a1 a2 h k kp = bodyW Tryd.prog D (L8 D) lv8 Tryd.f8 [a0, a1, a2] h k kp := by kernel_rfl
theorem lfp8 : Lfps Tryd.prog (CS Tryd.prog) (L8 (CS Tryd.prog)) lv8 (allLoops (bodyOf Tryd.f8)) := by
  have e : (allLoops (bodyOf Tryd.f8)) = [] := by kernel_rfl
  rw [e]
  exact trivial
theorem cl8 : Cl8 (CS Tryd.prog) := fun a0 a1 a2 h k kp hk =>
  fn_sound wide (fn := Tryd.f8) (by kernel_rfl) (by kernel_rfl) (by kernel_rfl) lfp8 (by rw [tieF8] at hk; exact hk)
def lv9 : Lv := Lv.mk 83 [.raw, .int IntKind.i64] (fun i => []) (fun i => []) [(4, .bool)] (fun i => cond (Nat.beq i 4) (some [(0, .raw), (1, .int IntKind.i64), (5, .bool), (29, .bool)]) (cond (Nat.beq i 7) (some [(0, .raw), (1, .int IntKind.i64)]) (none)))
def j9__7 (D : Orc) (k : Kv) (kp : Kp) (a0 a1 : Value) (h12 : H) : Prop :=
intK IntKind.i64 a1 (fun x13 => (10 : Int) ≠ 0 ∧ D 25 [a0] h12 (fun v14 h15 => ∃ s16 : ByteArray, ∃ x17 : Int, v14 = (Value.tuple #[(Value.string s16), (Value.int IntKind.i64 x17)]) ∧ one (Value.int IntKind.u8 (IntKind.wrap IntKind.u8 (IntKind.wrap IntKind.i64 ((48 : Int) + (Int.tmod x13 (10 : Int)))))) = true ∧ 0 < 1 ∧ newSl h15 1 [(Value.int IntKind.u8 (IntKind.wrap IntKind.u8 (IntKind.wrap IntKind.i64 ((48 : Int) + (Int.tmod x13 (10 : Int))))))] (fun s18 h19 => bsW h19 s18 (fun s20 => s16.size + s20.size ≤ 9223372036854775807 ∧ D 27 [(Value.string (s16 ++ s20))] h19 (fun v21 h22 => ∃ v23 : Value, ∃ x24 : Int, v21 = (Value.tuple #[v23, (Value.int IntKind.i64 x24)]) ∧ one (Value.int IntKind.u32 (10 : Int)) = true ∧ 0 < 1 ∧ newSl h22 1 [(Value.int IntKind.u32 (10 : Int))] (fun s25 h26 => D 20 [a0, s25] h26 (fun v27 h28 => ∃ v29 : Value, ∃ x30 : Int, v27 = (Value.tuple #[v29, (Value.int IntKind.i64 x30)]) ∧ cond (x17 != (0 : Int)) (
k (Value.bool false) h28) (
cond (x30 != (0 : Int)) (
k (Value.bool (x24 == (2 : Int))) h28) (
D 13 [(Value.int IntKind.u64 (IntKind.wrap IntKind.u64 (Int.tmod x13 (10 : Int))))] h28 (fun v31 h32 => ∃ v33 : Value, v31 = v33 ∧ D 18 [v29, v33] h32 (fun v34 h35 => ∃ v36 : Value, ∃ x37 : Int, v34 = (Value.tuple #[v36, (Value.int IntKind.i64 x37)]) ∧ D 14 [v23, v36] h35 (fun v38 h39 => ∃ t40 : Bool, v38 = (Value.bool t40) ∧ cond (x24 == x37) (
k (Value.bool t40) h39) (
k (Value.bool false) h39)) kp) kp) kp))) kp)) kp))) kp)
def j9__4 (D : Orc) (k : Kv) (kp : Kp) (a0 a1 a2 a3 : Value) (h8 : H) : Prop :=
intK IntKind.i64 a1 (fun x9 => boolW a2 (fun t10 => boolW a3 (fun t11 => cond t11 (
k (Value.bool t10) h8) (
cond (decide (x9 < (0 : Int))) (
j9__7 D k kp a0 (Value.int IntKind.i64 (IntKind.wrap IntKind.i64 (0 - (IntKind.wrap IntKind.i64 (x9 + (1 : Int)))))) h8) (
j9__7 D k kp a0 (Value.int IntKind.i64 x9) h8)))))
def L9 (D : Orc) : Lor := fun b vs h K => match firstId b with | some i => False | none => False
/-- lodestone/lodestonelaw01.NatTens -/
def F9 (D : Orc) (a0 a1 : Value) (h : H) (k : Kv) (kp : Kp) : Prop :=
intK IntKind.i64 a1 (fun x0 => D 10 [] h (fun v1 h2 => ∃ t3 : Bool, v1 = (Value.bool t3) ∧ D 12 [a0] h2 (fun v4 h5 => ∃ t6 : Bool, v4 = (Value.bool t6) ∧ cond (!(!t3)) (
cond (!(!t6)) (
lenW a0 (fun n7 => j9__4 D k kp a0 (Value.int IntKind.i64 x0) (Value.bool t3) (Value.bool ((n7 : Int) == (0 : Int))) h5)) (
j9__4 D k kp a0 (Value.int IntKind.i64 x0) (Value.bool t3) (Value.bool true) h5)) (
j9__4 D k kp a0 (Value.int IntKind.i64 x0) (Value.bool t3) (Value.bool true) h5)) kp) kp)
def Cl9 (D : Orc) : Prop := ∀ a0 a1 h k kp, F9 D a0 a1 h k kp → D 9 [a0, a1] h k kp
theorem tieF9 (D : Orc) (a0 a1 : Value) (h : H) (k : Kv) (kp : Kp) : F9 D a0 a1 h k kp = bodyW Tryd.prog D (L9 D) lv9 Tryd.f9 [a0, a1] h k kp := by kernel_rfl
theorem lfp9 : Lfps Tryd.prog (CS Tryd.prog) (L9 (CS Tryd.prog)) lv9 (allLoops (bodyOf Tryd.f9)) := by
  have e : (allLoops (bodyOf Tryd.f9)) = [] := by kernel_rfl
  rw [e]
  exact trivial
theorem cl9 : Cl9 (CS Tryd.prog) := fun a0 a1 h k kp hk =>
  fn_sound wide (fn := Tryd.f9) (by kernel_rfl) (by kernel_rfl) (by kernel_rfl) lfp9 (by rw [tieF9] at hk; exact hk)
def lv10 : Lv := Lv.mk 103 [] (fun i => []) (fun i => []) [(0, .bool)] (fun i => none)
def L10 (D : Orc) : Lor := fun b vs h K => match firstId b with | some i => False | none => False
/-- lodestone/lodestonelaw01.shown -/
def F10 (D : Orc) (h : H) (k : Kv) (kp : Kp) : Prop :=
D 13 [(Value.int IntKind.u64 (4294967296 : Int))] h (fun v0 h1 => ∃ v2 : Value, v0 = v2 ∧ one (Value.int IntKind.u32 (4294967295 : Int)) = true ∧ 0 < 1 ∧ newSl h1 1 [(Value.int IntKind.u32 (4294967295 : Int))] (fun s3 h4 => one (Value.int IntKind.u32 (1 : Int)) = true ∧ 0 < 1 ∧ newSl h4 1 [(Value.int IntKind.u32 (1 : Int))] (fun s5 h6 => D 18 [s3, s5] h6 (fun v7 h8 => ∃ v9 : Value, ∃ x10 : Int, v7 = (Value.tuple #[v9, (Value.int IntKind.i64 x10)]) ∧ one (Value.int IntKind.u32 (4294967295 : Int)) = true ∧ 0 < 1 ∧ newSl h8 1 [(Value.int IntKind.u32 (4294967295 : Int))] (fun s11 h12 => one (Value.int IntKind.u32 (4294967295 : Int)) = true ∧ 0 < 1 ∧ newSl h12 1 [(Value.int IntKind.u32 (4294967295 : Int))] (fun s13 h14 => D 20 [s11, s13] h14 (fun v15 h16 => ∃ v17 : Value, ∃ x18 : Int, v15 = (Value.tuple #[v17, (Value.int IntKind.i64 x18)]) ∧ D 25 [v2] h16 (fun v19 h20 => ∃ s21 : ByteArray, ∃ x22 : Int, v19 = (Value.tuple #[(Value.string s21), (Value.int IntKind.i64 x22)]) ∧ D 27 [(Value.string (ByteArray.mk #[52, 50, 57, 52, 57, 54, 55, 50, 57, 54]))] h20 (fun v23 h24 => ∃ v25 : Value, ∃ x26 : Int, v23 = (Value.tuple #[v25, (Value.int IntKind.i64 x26)]) ∧ one (Value.int IntKind.u32 (4294967295 : Int)) = true ∧ 0 < 1 ∧ newSl h24 1 [(Value.int IntKind.u32 (4294967295 : Int))] (fun s27 h28 => D 22 [v2, s27] h28 (fun v29 h30 => ∃ x31 : Int, ∃ x32 : Int, v29 = (Value.tuple #[(Value.int IntKind.i64 x31), (Value.int IntKind.i64 x32)]) ∧ one (Value.int IntKind.u32 (0 : Int)) = true ∧ 0 < 2 ∧ one (Value.int IntKind.u32 (1 : Int)) = true ∧ 1 < 2 ∧ newSl h30 2 [(Value.int IntKind.u32 (0 : Int)), (Value.int IntKind.u32 (1 : Int))] (fun s33 h34 => D 14 [v2, s33] h34 (fun v35 h36 => ∃ t37 : Bool, v35 = (Value.bool t37) ∧ D 14 [v9, v2] h36 (fun v38 h39 => ∃ t40 : Bool, v38 = (Value.bool t40) ∧ one (Value.int IntKind.u32 (1 : Int)) = true ∧ 0 < 2 ∧ one (Value.int IntKind.u32 (4294967294 : Int)) = true ∧ 1 < 2 ∧ newSl h39 2 [(Value.int IntKind.u32 (1 : Int)), (Value.int IntKind.u32 (4294967294 : Int))] (fun s41 h42 => D 14 [v17, s41] h42 (fun v43 h44 => ∃ t45 : Bool, v43 = (Value.bool t45) ∧ D 14 [v25, v2] h44 (fun v46 h47 => ∃ t48 : Bool, v46 = (Value.bool t48) ∧ cond t37 (
cond t40 (
cond t45 (
cond t48 (
cond (x10 == (0 : Int)) (
cond (x18 == (0 : Int)) (
cond (x22 == (0 : Int)) (
cond (s21.toList == (ByteArray.mk #[52, 50, 57, 52, 57, 54, 55, 50, 57, 54]).toList) (
cond (x26 == (0 : Int)) (
cond (x32 == (0 : Int)) (
cond (x31 == (1 : Int)) (
D 11 [v2] h47 (fun v49 h50 => ∃ t51 : Bool, v49 = (Value.bool t51) ∧ cond t51 (
one (Value.int IntKind.u32 (0 : Int)) = true ∧ 0 < 1 ∧ newSl h50 1 [(Value.int IntKind.u32 (0 : Int))] (fun s52 h53 => D 11 [s52] h53 (fun v54 h55 => ∃ t56 : Bool, v54 = (Value.bool t56) ∧ k (Value.bool (!t56)) h55) kp)) (
k (Value.bool false) h50)) kp) (
k (Value.bool false) h47)) (
k (Value.bool false) h47)) (
k (Value.bool false) h47)) (
k (Value.bool false) h47)) (
k (Value.bool false) h47)) (
k (Value.bool false) h47)) (
k (Value.bool false) h47)) (
k (Value.bool false) h47)) (
k (Value.bool false) h47)) (
k (Value.bool false) h47)) (
k (Value.bool false) h47)) kp) kp)) kp) kp)) kp)) kp) kp) kp))) kp))) kp
def Cl10 (D : Orc) : Prop := ∀  h k kp, F10 D  h k kp → D 10 [] h k kp
theorem tieF10 (D : Orc) (h : H) (k : Kv) (kp : Kp) : F10 D  h k kp = bodyW Tryd.prog D (L10 D) lv10 Tryd.f10 [] h k kp := by kernel_rfl
theorem lfp10 : Lfps Tryd.prog (CS Tryd.prog) (L10 (CS Tryd.prog)) lv10 (allLoops (bodyOf Tryd.f10)) := by
  have e : (allLoops (bodyOf Tryd.f10)) = [] := by kernel_rfl
  rw [e]
  exact trivial
theorem cl10 : Cl10 (CS Tryd.prog) := fun  h k kp hk =>
  fn_sound wide (fn := Tryd.f10) (by kernel_rfl) (by kernel_rfl) (by kernel_rfl) lfp10 (by rw [tieF10] at hk; exact hk)
def lv11 : Lv := Lv.mk 20 [.raw] (fun i => []) (fun i => []) [(2, .bool)] (fun i => none)
def L11 (D : Orc) : Lor := fun b vs h K => match firstId b with | some i => False | none => False
/-- lodestone/nat.Right -/
def F11 (D : Orc) (a0 : Value) (h : H) (k : Kv) (kp : Kp) : Prop :=
lenW a0 (fun n0 => cond (decide ((n0 : Int) ≤ (64 : Int))) (
cond (!((n0 : Int) == (0 : Int))) (
slAtW a0 (IntKind.wrap IntKind.i64 ((n0 : Int) - (1 : Int))) 1 (fun a1 => ∃ x2 : Int, rd h a1 = some (Value.int IntKind.u32 x2) ∧ k (Value.bool (x2 != (0 : Int))) h)) (
k (Value.bool true) h)) (
k (Value.bool false) h))
def Cl11 (D : Orc) : Prop := ∀ a0 h k kp, F11 D a0 h k kp → D 11 [a0] h k kp
theorem tieF11 (D : Orc) (a0 : Value) (h : H) (k : Kv) (kp : Kp) : F11 D a0 h k kp = bodyW Tryd.prog D (L11 D) lv11 Tryd.f11 [a0] h k kp := by kernel_rfl
theorem lfp11 : Lfps Tryd.prog (CS Tryd.prog) (L11 (CS Tryd.prog)) lv11 (allLoops (bodyOf Tryd.f11)) := by
  have e : (allLoops (bodyOf Tryd.f11)) = [] := by kernel_rfl
  rw [e]
  exact trivial
theorem cl11 : Cl11 (CS Tryd.prog) := fun a0 h k kp hk =>
  fn_sound wide (fn := Tryd.f11) (by kernel_rfl) (by kernel_rfl) (by kernel_rfl) lfp11 (by rw [tieF11] at hk; exact hk)
def lv12 : Lv := Lv.mk 20 [.raw] (fun i => []) (fun i => []) [(2, .bool)] (fun i => none)
def L12 (D : Orc) : Lor := fun b vs h K => match firstId b with | some i => False | none => False
/-- lodestone/lodestoneref01.Right -/
def F12 (D : Orc) (a0 : Value) (h : H) (k : Kv) (kp : Kp) : Prop :=
lenW a0 (fun n0 => cond (decide ((n0 : Int) ≤ (64 : Int))) (
lenW a0 (fun n1 => cond (!((n1 : Int) == (0 : Int))) (
lenW a0 (fun n2 => slAtW a0 (IntKind.wrap IntKind.i64 ((n2 : Int) - (1 : Int))) 1 (fun a3 => ∃ x4 : Int, rd h a3 = some (Value.int IntKind.u32 x4) ∧ k (Value.bool (x4 != (0 : Int))) h))) (
k (Value.bool true) h))) (
k (Value.bool false) h))
def Cl12 (D : Orc) : Prop := ∀ a0 h k kp, F12 D a0 h k kp → D 12 [a0] h k kp
theorem tieF12 (D : Orc) (a0 : Value) (h : H) (k : Kv) (kp : Kp) : F12 D a0 h k kp = bodyW Tryd.prog D (L12 D) lv12 Tryd.f12 [a0] h k kp := by kernel_rfl
theorem lfp12 : Lfps Tryd.prog (CS Tryd.prog) (L12 (CS Tryd.prog)) lv12 (allLoops (bodyOf Tryd.f12)) := by
  have e : (allLoops (bodyOf Tryd.f12)) = [] := by kernel_rfl
  rw [e]
  exact trivial
theorem cl12 : Cl12 (CS Tryd.prog) := fun a0 h k kp hk =>
  fn_sound wide (fn := Tryd.f12) (by kernel_rfl) (by kernel_rfl) (by kernel_rfl) lfp12 (by rw [tieF12] at hk; exact hk)
def lv13 : Lv := Lv.mk 10 [.int IntKind.u64] (fun i => []) (fun i => []) [(2, .raw)] (fun i => none)
def L13 (D : Orc) : Lor := fun b vs h K => match firstId b with | some i => False | none => False
/-- lodestone/nat.Of -/
def F13 (D : Orc) (a0 : Value) (h : H) (k : Kv) (kp : Kp) : Prop :=
intK IntKind.u64 a0 (fun x0 => 0 ≤ (32 : Int) ∧ one (Value.int IntKind.u32 (IntKind.wrap IntKind.u32 x0)) = true ∧ 0 < 2 ∧ one (Value.int IntKind.u32 (IntKind.wrap IntKind.u32 (Int.fdiv x0 (2 ^ (min (Int.toNat (32 : Int)) (IntKind.bits IntKind.u64)))))) = true ∧ 1 < 2 ∧ newSl h 2 [(Value.int IntKind.u32 (IntKind.wrap IntKind.u32 x0)), (Value.int IntKind.u32 (IntKind.wrap IntKind.u32 (Int.fdiv x0 (2 ^ (min (Int.toNat (32 : Int)) (IntKind.bits IntKind.u64))))))] (fun s1 h2 => D 29 [s1] h2 (fun v3 h4 => ∃ v5 : Value, v3 = v5 ∧ k v5 h4) kp))
def Cl13 (D : Orc) : Prop := ∀ a0 h k kp, F13 D a0 h k kp → D 13 [a0] h k kp
theorem tieF13 (D : Orc) (a0 : Value) (h : H) (k : Kv) (kp : Kp) : F13 D a0 h k kp = bodyW Tryd.prog D (L13 D) lv13 Tryd.f13 [a0] h k kp := by kernel_rfl
theorem lfp13 : Lfps Tryd.prog (CS Tryd.prog) (L13 (CS Tryd.prog)) lv13 (allLoops (bodyOf Tryd.f13)) := by
  have e : (allLoops (bodyOf Tryd.f13)) = [] := by kernel_rfl
  rw [e]
  exact trivial
theorem cl13 : Cl13 (CS Tryd.prog) := fun a0 h k kp hk =>
  fn_sound wide (fn := Tryd.f13) (by kernel_rfl) (by kernel_rfl) (by kernel_rfl) lfp13 (by rw [tieF13] at hk; exact hk)
def lv14 : Lv := Lv.mk 26 [.raw, .raw] (fun i => cond (Nat.beq i 4) ([(0, .raw), (1, .raw), (5, .int IntKind.i64)]) ([])) (fun i => cond (Nat.beq i 4) ([(0, [])]) ([])) [(4, .bool)] (fun i => none)
def round14_4 (D : Orc) (I : List Value → H → Prop) (K : Kl) (a0 a1 a2 : Value) (h2 : H) : Prop :=
intK IntKind.i64 a2 (fun x3 => lenW a0 (fun n4 => cond (decide (x3 < (n4 : Int))) (
slAtW a0 x3 1 (fun a5 => ∃ x6 : Int, rd h2 a5 = some (Value.int IntKind.u32 x6) ∧ slAtW a1 x3 1 (fun a7 => ∃ x8 : Int, rd h2 a7 = some (Value.int IntKind.u32 x8) ∧ cond (x6 != x8) (
K X.r [(Value.bool false)] h2) (
I [a0, a1, (Value.int IntKind.i64 (IntKind.wrap IntKind.i64 (x3 + (1 : Int))))] h2)))) (
K (X.e 0) [] h2)))
def loop14_4 (D : Orc) (vs : List Value) (h : H) (K : Kl) : Prop := ∀ I : List Value → H → Prop, (∀ a0 a1 a2 h, round14_4 D I K a0 a1 a2 h → I [a0, a1, a2] h) → I vs h
def L14 (D : Orc) : Lor := fun b vs h K => match firstId b with | some i => cond (Nat.beq i 4) (loop14_4 D vs h K) (False) | none => False
/-- lodestone/lodestonelaw01.same -/
def F14 (D : Orc) (a0 a1 : Value) (h : H) (k : Kv) (kp : Kp) : Prop :=
lenW a0 (fun n0 => lenW a1 (fun n1 => cond ((n0 : Int) != (n1 : Int)) (
k (Value.bool false) h) (
loop14_4 D [a0, a1, (Value.int IntKind.i64 (0 : Int))] h (fun x10 vs11 h9 => xs x10 (boolW (nth vs11 0) (fun t13 => k (Value.bool t13) h9)) (fun i12 => cond (Nat.beq i12 0) (
k (Value.bool true) h9) (False)) (fun c => kp c h9)))))
def Cl14 (D : Orc) : Prop := ∀ a0 a1 h k kp, F14 D a0 a1 h k kp → D 14 [a0, a1] h k kp
theorem tieR14_4 (D : Orc) (I : List Value → H → Prop) (K : Kl) (a0 a1 a2 : Value) (h : H) : round14_4 D I K a0 a1 a2 h = round Tryd.prog D (L14 D) lv14 (nthC (allLoops (bodyOf Tryd.f14)) 0) I K [a0, a1, a2] h := by kernel_rfl
theorem tieF14 (D : Orc) (a0 a1 : Value) (h : H) (k : Kv) (kp : Kp) : F14 D a0 a1 h k kp = bodyW Tryd.prog D (L14 D) lv14 Tryd.f14 [a0, a1] h k kp := by kernel_rfl
theorem lfp14 : Lfps Tryd.prog (CS Tryd.prog) (L14 (CS Tryd.prog)) lv14 (allLoops (bodyOf Tryd.f14)) := by
  have e : (allLoops (bodyOf Tryd.f14)) = [nthC (allLoops (bodyOf Tryd.f14)) 0] := by kernel_rfl
  rw [e]
  exact ⟨(fun vs h K hk I H => hk I (fun a0 a1 a2 h hr => H _ _ ((tieR14_4 (CS Tryd.prog) I K a0 a1 a2 h) ▸ hr))), trivial⟩
theorem cl14 : Cl14 (CS Tryd.prog) := fun a0 a1 h k kp hk =>
  fn_sound wide (fn := Tryd.f14) (by kernel_rfl) (by kernel_rfl) (by kernel_rfl) lfp14 (by rw [tieF14] at hk; exact hk)
def lv15 : Lv := Lv.mk 10 [.int IntKind.u64] (fun i => []) (fun i => []) [(2, .raw)] (fun i => none)
def L15 (D : Orc) : Lor := fun b vs h K => match firstId b with | some i => False | none => False
/-- lodestone/lodestoneref01.Of -/
def F15 (D : Orc) (a0 : Value) (h : H) (k : Kv) (kp : Kp) : Prop :=
intK IntKind.u64 a0 (fun x0 => 0 ≤ (32 : Int) ∧ one (Value.int IntKind.u32 (IntKind.wrap IntKind.u32 x0)) = true ∧ 0 < 2 ∧ one (Value.int IntKind.u32 (IntKind.wrap IntKind.u32 (Int.fdiv x0 (2 ^ (min (Int.toNat (32 : Int)) (IntKind.bits IntKind.u64)))))) = true ∧ 1 < 2 ∧ newSl h 2 [(Value.int IntKind.u32 (IntKind.wrap IntKind.u32 x0)), (Value.int IntKind.u32 (IntKind.wrap IntKind.u32 (Int.fdiv x0 (2 ^ (min (Int.toNat (32 : Int)) (IntKind.bits IntKind.u64))))))] (fun s1 h2 => D 30 [s1] h2 (fun v3 h4 => ∃ v5 : Value, v3 = v5 ∧ k v5 h4) kp))
def Cl15 (D : Orc) : Prop := ∀ a0 h k kp, F15 D a0 h k kp → D 15 [a0] h k kp
theorem tieF15 (D : Orc) (a0 : Value) (h : H) (k : Kv) (kp : Kp) : F15 D a0 h k kp = bodyW Tryd.prog D (L15 D) lv15 Tryd.f15 [a0] h k kp := by kernel_rfl
theorem lfp15 : Lfps Tryd.prog (CS Tryd.prog) (L15 (CS Tryd.prog)) lv15 (allLoops (bodyOf Tryd.f15)) := by
  have e : (allLoops (bodyOf Tryd.f15)) = [] := by kernel_rfl
  rw [e]
  exact trivial
theorem cl15 : Cl15 (CS Tryd.prog) := fun a0 h k kp hk =>
  fn_sound wide (fn := Tryd.f15) (by kernel_rfl) (by kernel_rfl) (by kernel_rfl) lfp15 (by rw [tieF15] at hk; exact hk)
def lv16 : Lv := Lv.mk 20 [.raw] (fun i => cond (Nat.beq i 1) ([(0, .raw), (2, .int IntKind.i64)]) ([])) (fun i => cond (Nat.beq i 1) ([(0, [(0, .raw)])]) ([])) [] (fun i => none)
def round16_1 (D : Orc) (I : List Value → H → Prop) (K : Kl) (a0 a1 : Value) (h0 : H) : Prop :=
intK IntKind.i64 a1 (fun x1 => lenW a0 (fun n2 => cond (decide (x1 < (n2 : Int))) (
slAtW a0 x1 1 (fun a3 => one (Value.int IntKind.u32 (99 : Int)) = true ∧ 1 = 1 ∧ ∃ h4, wr1 h0 a3 (Value.int IntKind.u32 (99 : Int)) = some h4 ∧ I [a0, (Value.int IntKind.i64 (IntKind.wrap IntKind.i64 (x1 + (1 : Int))))] h4)) (
K (X.e 0) [a0] h0)))
def loop16_1 (D : Orc) (vs : List Value) (h : H) (K : Kl) : Prop := ∀ I : List Value → H → Prop, (∀ a0 a1 h, round16_1 D I K a0 a1 h → I [a0, a1] h) → I vs h
def L16 (D : Orc) : Lor := fun b vs h K => match firstId b with | some i => cond (Nat.beq i 1) (loop16_1 D vs h K) (False) | none => False
/-- lodestone/lodestonelaw01.spoil -/
def F16 (D : Orc) (a0 : Value) (h : H) (k : Kv) (kp : Kp) : Prop :=
loop16_1 D [a0, (Value.int IntKind.i64 (0 : Int))] h (fun x6 vs7 h5 => xs x6 (k (Value.tuple #[]) h5) (fun i8 => cond (Nat.beq i8 0) (
one (Value.int IntKind.u32 (98 : Int)) = true ∧ 0 < 2 ∧ one (Value.int IntKind.u32 (97 : Int)) = true ∧ 1 < 2 ∧ newSl h5 2 [(Value.int IntKind.u32 (98 : Int)), (Value.int IntKind.u32 (97 : Int))] (fun s9 h10 => slenW s9 (fun n11 => srcW h10 1 s9 (n11) (fun w12 => apW h10 1 4 [(Value.int IntKind.u32 (0 : Int))] (nth vs7 0) (n11) w12 (fun s13 h14 => lenW s13 (fun n15 => slAtW s13 (IntKind.wrap IntKind.i64 ((n15 : Int) - (1 : Int))) 1 (fun a16 => one (Value.int IntKind.u32 (96 : Int)) = true ∧ 1 = 1 ∧ ∃ h17, wr1 h14 a16 (Value.int IntKind.u32 (96 : Int)) = some h17 ∧ k (Value.tuple #[]) h17))))))) (False)) (fun c => kp c h5))
def Cl16 (D : Orc) : Prop := ∀ a0 h k kp, F16 D a0 h k kp → D 16 [a0] h k kp
theorem tieR16_1 (D : Orc) (I : List Value → H → Prop) (K : Kl) (a0 a1 : Value) (h : H) : round16_1 D I K a0 a1 h = round Tryd.prog D (L16 D) lv16 (nthC (allLoops (bodyOf Tryd.f16)) 0) I K [a0, a1] h := by kernel_rfl
theorem tieF16 (D : Orc) (a0 : Value) (h : H) (k : Kv) (kp : Kp) : F16 D a0 h k kp = bodyW Tryd.prog D (L16 D) lv16 Tryd.f16 [a0] h k kp := by kernel_rfl
theorem lfp16 : Lfps Tryd.prog (CS Tryd.prog) (L16 (CS Tryd.prog)) lv16 (allLoops (bodyOf Tryd.f16)) := by
  have e : (allLoops (bodyOf Tryd.f16)) = [nthC (allLoops (bodyOf Tryd.f16)) 0] := by kernel_rfl
  rw [e]
  exact ⟨(fun vs h K hk I H => hk I (fun a0 a1 h hr => H _ _ ((tieR16_1 (CS Tryd.prog) I K a0 a1 h) ▸ hr))), trivial⟩
theorem cl16 : Cl16 (CS Tryd.prog) := fun a0 h k kp hk =>
  fn_sound wide (fn := Tryd.f16) (by kernel_rfl) (by kernel_rfl) (by kernel_rfl) lfp16 (by rw [tieF16] at hk; exact hk)
def lv17 : Lv := Lv.mk 27 [.raw] (fun i => cond (Nat.beq i 4) ([(0, .raw), (3, .raw), (4, .int IntKind.i64)]) ([])) (fun i => cond (Nat.beq i 4) ([(0, [(0, .raw), (3, .raw)])]) ([])) [(2, .raw)] (fun i => none)
def round17_4 (D : Orc) (I : List Value → H → Prop) (K : Kl) (a0 a1 a2 : Value) (h9 : H) : Prop :=
intK IntKind.i64 a2 (fun x10 => lenW a1 (fun n11 => cond (decide (x10 < (n11 : Int))) (
slAtW a1 x10 1 (fun a12 => one (Value.int IntKind.u32 (77 : Int)) = true ∧ 1 = 1 ∧ ∃ h13, wr1 h9 a12 (Value.int IntKind.u32 (77 : Int)) = some h13 ∧ I [a0, a1, (Value.int IntKind.i64 (IntKind.wrap IntKind.i64 (x10 + (1 : Int))))] h13)) (
K (X.e 0) [a0, a1] h9)))
def loop17_4 (D : Orc) (vs : List Value) (h : H) (K : Kl) : Prop := ∀ I : List Value → H → Prop, (∀ a0 a1 a2 h, round17_4 D I K a0 a1 a2 h → I [a0, a1, a2] h) → I vs h
def L17 (D : Orc) : Lor := fun b vs h K => match firstId b with | some i => cond (Nat.beq i 4) (loop17_4 D vs h K) (False) | none => False
/-- lodestone/lodestonelaw01.lent -/
def F17 (D : Orc) (a0 : Value) (h : H) (k : Kv) (kp : Kp) : Prop :=
lenW a0 (fun n0 => mkSliceW h 4 [(Value.int IntKind.u32 (0 : Int))] (IntKind.wrap IntKind.i64 ((n0 : Int) + (3 : Int))) (IntKind.wrap IntKind.i64 ((n0 : Int) + (3 : Int))) (fun s1 h2 => slenW a0 (fun n3 => slenW s1 (fun n4 => srcW h2 1 a0 (min (n3) (n4)) (fun w5 => cpW h2 s1 (n3) w5 (fun v6 h7 => lenW a0 (fun n8 => loop17_4 D [a0, s1, (Value.int IntKind.i64 (n8 : Int))] h7 (fun x15 vs16 h14 => xs x15 (k (nth vs16 0) h14) (fun i17 => cond (Nat.beq i17 0) (
lenW (nth vs16 0) (fun n18 => slCutW (nth vs16 1) none (some (n18 : Int)) none 1 (fun s19 => k s19 h14))) (False)) (fun c => kp c h14)))))))))
def Cl17 (D : Orc) : Prop := ∀ a0 h k kp, F17 D a0 h k kp → D 17 [a0] h k kp
theorem tieR17_4 (D : Orc) (I : List Value → H → Prop) (K : Kl) (a0 a1 a2 : Value) (h : H) : round17_4 D I K a0 a1 a2 h = round Tryd.prog D (L17 D) lv17 (nthC (allLoops (bodyOf Tryd.f17)) 0) I K [a0, a1, a2] h := by kernel_rfl
theorem tieF17 (D : Orc) (a0 : Value) (h : H) (k : Kv) (kp : Kp) : F17 D a0 h k kp = bodyW Tryd.prog D (L17 D) lv17 Tryd.f17 [a0] h k kp := by kernel_rfl
theorem lfp17 : Lfps Tryd.prog (CS Tryd.prog) (L17 (CS Tryd.prog)) lv17 (allLoops (bodyOf Tryd.f17)) := by
  have e : (allLoops (bodyOf Tryd.f17)) = [nthC (allLoops (bodyOf Tryd.f17)) 0] := by kernel_rfl
  rw [e]
  exact ⟨(fun vs h K hk I H => hk I (fun a0 a1 a2 h hr => H _ _ ((tieR17_4 (CS Tryd.prog) I K a0 a1 a2 h) ▸ hr))), trivial⟩
theorem cl17 : Cl17 (CS Tryd.prog) := fun a0 h k kp hk =>
  fn_sound wide (fn := Tryd.f17) (by kernel_rfl) (by kernel_rfl) (by kernel_rfl) lfp17 (by rw [tieF17] at hk; exact hk)
def lv18 : Lv := Lv.mk 69 [.raw, .raw] (fun i => cond (Nat.beq i 8) ([(0, .raw), (1, .raw), (6, .raw), (7, .int IntKind.u64), (29, .raw), (30, .int IntKind.i64), (31, .int IntKind.i64)]) ([])) (fun i => cond (Nat.beq i 8) ([(0, [(0, .raw), (6, .raw), (7, .int IntKind.u64)])]) ([])) [(4, .raw), (5, .int IntKind.i64)] (fun i => cond (Nat.beq i 2) (some [(0, .raw), (1, .raw), (17, .bool)]) (cond (Nat.beq i 5) (some [(0, .raw), (1, .raw)]) (cond (Nat.beq i 13) (some [(0, .raw), (1, .raw), (6, .raw), (7, .int IntKind.u64), (8, .int IntKind.i64), (29, .raw), (30, .int IntKind.i64), (31, .int IntKind.i64)]) (none))))
def j18_8_13 (D : Orc) (I : List Value → H → Prop) (K : Kl) (a0 a1 a2 a3 a4 a5 a6 a7 : Value) (h24 : H) : Prop :=
intK IntKind.u64 a3 (fun x25 => intK IntKind.i64 a4 (fun x26 => intK IntKind.i64 a6 (fun x27 => intK IntKind.i64 a7 (fun x28 => slAtW a2 x26 1 (fun a29 => one (Value.int IntKind.u32 (IntKind.wrap IntKind.u32 x25)) = true ∧ 1 = 1 ∧ ∃ h30, wr1 h24 a29 (Value.int IntKind.u32 (IntKind.wrap IntKind.u32 x25)) = some h30 ∧ 0 ≤ (32 : Int) ∧ I [a0, a1, a2, (Value.int IntKind.u64 (Int.fdiv x25 (2 ^ (min (Int.toNat (32 : Int)) (IntKind.bits IntKind.u64))))), a5, (Value.int IntKind.i64 x27), (Value.int IntKind.i64 (IntKind.wrap IntKind.i64 (x28 + (1 : Int))))] h30)))))
def round18_8 (D : Orc) (I : List Value → H → Prop) (K : Kl) (a0 a1 a2 a3 a4 a5 a6 : Value) (h15 : H) : Prop :=
intK IntKind.u64 a3 (fun x16 => intK IntKind.i64 a5 (fun x17 => intK IntKind.i64 a6 (fun x18 => cond (decide (x18 < x17)) (
slAtW a4 x18 1 (fun a19 => ∃ x20 : Int, rd h15 a19 = some (Value.int IntKind.u32 x20) ∧ lenW a1 (fun n21 => cond (decide (x18 < (n21 : Int))) (
slAtW a1 x18 1 (fun a22 => ∃ x23 : Int, rd h15 a22 = some (Value.int IntKind.u32 x23) ∧ j18_8_13 D I K a0 a1 a2 (Value.int IntKind.u64 (IntKind.wrap IntKind.u64 ((IntKind.wrap IntKind.u64 (x16 + (IntKind.wrap IntKind.u64 x20))) + (IntKind.wrap IntKind.u64 x23)))) (Value.int IntKind.i64 x18) a4 (Value.int IntKind.i64 x17) (Value.int IntKind.i64 x18) h15)) (
j18_8_13 D I K a0 a1 a2 (Value.int IntKind.u64 (IntKind.wrap IntKind.u64 (x16 + (IntKind.wrap IntKind.u64 x20)))) (Value.int IntKind.i64 x18) a4 (Value.int IntKind.i64 x17) (Value.int IntKind.i64 x18) h15)))) (
K (X.e 0) [a0, a2, (Value.int IntKind.u64 x16)] h15))))
def loop18_8 (D : Orc) (vs : List Value) (h : H) (K : Kl) : Prop := ∀ I : List Value → H → Prop, (∀ a0 a1 a2 a3 a4 a5 a6 h, round18_8 D I K a0 a1 a2 a3 a4 a5 a6 h → I [a0, a1, a2, a3, a4, a5, a6] h) → I vs h
def j18__5 (D : Orc) (k : Kv) (kp : Kp) (a0 a1 : Value) (h10 : H) : Prop :=
lenW a0 (fun n11 => mkSliceW h10 4 [(Value.int IntKind.u32 (0 : Int))] (IntKind.wrap IntKind.i64 ((n11 : Int) + (1 : Int))) (IntKind.wrap IntKind.i64 ((n11 : Int) + (1 : Int))) (fun s12 h13 => lenW a0 (fun n14 => loop18_8 D [a0, a1, s12, (Value.int IntKind.u64 (0 : Int)), a0, (Value.int IntKind.i64 (n14 : Int)), (Value.int IntKind.i64 (0 : Int))] h13 (fun x32 vs33 h31 => xs x32 (intK IntKind.i64 (nth vs33 1) (fun x35 => k (Value.tuple #[(nth vs33 0), (Value.int IntKind.i64 x35)]) h31)) (fun i34 => cond (Nat.beq i34 0) (
intK IntKind.u64 (nth vs33 2) (fun x36 => lenW (nth vs33 0) (fun n37 => slAtW (nth vs33 1) (n37 : Int) 1 (fun a38 => one (Value.int IntKind.u32 (IntKind.wrap IntKind.u32 x36)) = true ∧ 1 = 1 ∧ ∃ h39, wr1 h31 a38 (Value.int IntKind.u32 (IntKind.wrap IntKind.u32 x36)) = some h39 ∧ D 31 [(nth vs33 1)] h39 (fun v40 h41 => ∃ v42 : Value, ∃ x43 : Int, v40 = (Value.tuple #[v42, (Value.int IntKind.i64 x43)]) ∧ k (Value.tuple #[v42, (Value.int IntKind.i64 x43)]) h41) kp)))) (False)) (fun c => kp c h31)))))
def j18__2 (D : Orc) (k : Kv) (kp : Kp) (a0 a1 a2 : Value) (h6 : H) : Prop :=
boolW a2 (fun t7 => cond t7 (
k (Value.tuple #[(Value.slice none 0 0), (Value.int IntKind.i64 (10 : Int))]) h6) (
lenW a0 (fun n8 => lenW a1 (fun n9 => cond (decide ((n8 : Int) < (n9 : Int))) (
j18__5 D k kp a1 a0 h6) (
j18__5 D k kp a0 a1 h6)))))
def L18 (D : Orc) : Lor := fun b vs h K => match firstId b with | some i => cond (Nat.beq i 8) (loop18_8 D vs h K) (False) | none => False
/-- lodestone/nat.Add -/
def F18 (D : Orc) (a0 a1 : Value) (h : H) (k : Kv) (kp : Kp) : Prop :=
D 11 [a0] h (fun v0 h1 => ∃ t2 : Bool, v0 = (Value.bool t2) ∧ cond (!(!t2)) (
D 11 [a1] h1 (fun v3 h4 => ∃ t5 : Bool, v3 = (Value.bool t5) ∧ j18__2 D k kp a0 a1 (Value.bool (!t5)) h4) kp) (
j18__2 D k kp a0 a1 (Value.bool true) h1)) kp
def Cl18 (D : Orc) : Prop := ∀ a0 a1 h k kp, F18 D a0 a1 h k kp → D 18 [a0, a1] h k kp
theorem tieR18_8 (D : Orc) (I : List Value → H → Prop) (K : Kl) (a0 a1 a2 a3 a4 a5 a6 : Value) (h : H) : round18_8 D I K a0 a1 a2 a3 a4 a5 a6 h = round Tryd.prog D (L18 D) lv18 (nthC (allLoops (bodyOf Tryd.f18)) 0) I K [a0, a1, a2, a3, a4, a5, a6] h := by kernel_rfl
theorem tieF18 (D : Orc) (a0 a1 : Value) (h : H) (k : Kv) (kp : Kp) : F18 D a0 a1 h k kp = bodyW Tryd.prog D (L18 D) lv18 Tryd.f18 [a0, a1] h k kp := by kernel_rfl
theorem lfp18 : Lfps Tryd.prog (CS Tryd.prog) (L18 (CS Tryd.prog)) lv18 (allLoops (bodyOf Tryd.f18)) := by
  have e : (allLoops (bodyOf Tryd.f18)) = [nthC (allLoops (bodyOf Tryd.f18)) 0] := by kernel_rfl
  rw [e]
  exact ⟨(fun vs h K hk I H => hk I (fun a0 a1 a2 a3 a4 a5 a6 h hr => H _ _ ((tieR18_8 (CS Tryd.prog) I K a0 a1 a2 a3 a4 a5 a6 h) ▸ hr))), trivial⟩
theorem cl18 : Cl18 (CS Tryd.prog) := fun a0 a1 h k kp hk =>
  fn_sound wide (fn := Tryd.f18) (by kernel_rfl) (by kernel_rfl) (by kernel_rfl) lfp18 (by rw [tieF18] at hk; exact hk)
def lv19 : Lv := Lv.mk 63 [.raw, .raw] (fun i => cond (Nat.beq i 6) ([(0, .raw), (1, .raw), (6, .raw), (7, .int IntKind.u64), (8, .int IntKind.i64)]) ([])) (fun i => cond (Nat.beq i 6) ([(0, [(6, .raw)])]) ([])) [(4, .raw), (5, .int IntKind.i64)] (fun i => cond (Nat.beq i 2) (some [(0, .raw), (1, .raw), (16, .bool)]) (cond (Nat.beq i 10) (some [(0, .raw), (1, .raw), (6, .raw), (7, .int IntKind.u64), (8, .int IntKind.i64)]) (cond (Nat.beq i 12) (some [(0, .raw), (1, .raw), (6, .raw), (7, .int IntKind.u64), (8, .int IntKind.i64)]) (none))))
def j19_6_12 (D : Orc) (I : List Value → H → Prop) (K : Kl) (a0 a1 a2 a3 a4 : Value) (h27 : H) : Prop :=
intK IntKind.u64 a3 (fun x28 => intK IntKind.i64 a4 (fun x29 => slAtW a2 x29 1 (fun a30 => one (Value.int IntKind.u32 (IntKind.wrap IntKind.u32 x28)) = true ∧ 1 = 1 ∧ ∃ h31, wr1 h27 a30 (Value.int IntKind.u32 (IntKind.wrap IntKind.u32 x28)) = some h31 ∧ 0 ≤ (32 : Int) ∧ I [a0, a1, a2, (Value.int IntKind.u64 (Int.fdiv x28 (2 ^ (min (Int.toNat (32 : Int)) (IntKind.bits IntKind.u64))))), (Value.int IntKind.i64 (IntKind.wrap IntKind.i64 (x29 + (1 : Int))))] h31)))
def j19_6_10 (D : Orc) (I : List Value → H → Prop) (K : Kl) (a0 a1 a2 a3 a4 : Value) (h21 : H) : Prop :=
intK IntKind.u64 a3 (fun x22 => intK IntKind.i64 a4 (fun x23 => lenW a1 (fun n24 => cond (decide (x23 < (n24 : Int))) (
slAtW a1 x23 1 (fun a25 => ∃ x26 : Int, rd h21 a25 = some (Value.int IntKind.u32 x26) ∧ j19_6_12 D I K a0 a1 a2 (Value.int IntKind.u64 (IntKind.wrap IntKind.u64 (x22 + (IntKind.wrap IntKind.u64 x26)))) (Value.int IntKind.i64 x23) h21)) (
j19_6_12 D I K a0 a1 a2 (Value.int IntKind.u64 x22) (Value.int IntKind.i64 x23) h21))))
def round19_6 (D : Orc) (I : List Value → H → Prop) (K : Kl) (a0 a1 a2 a3 a4 : Value) (h14 : H) : Prop :=
intK IntKind.u64 a3 (fun x15 => intK IntKind.i64 a4 (fun x16 => lenW a2 (fun n17 => cond (decide (x16 < (n17 : Int))) (
lenW a0 (fun n18 => cond (decide (x16 < (n18 : Int))) (
slAtW a0 x16 1 (fun a19 => ∃ x20 : Int, rd h14 a19 = some (Value.int IntKind.u32 x20) ∧ j19_6_10 D I K a0 a1 a2 (Value.int IntKind.u64 (IntKind.wrap IntKind.u64 (x15 + (IntKind.wrap IntKind.u64 x20)))) (Value.int IntKind.i64 x16) h14)) (
j19_6_10 D I K a0 a1 a2 (Value.int IntKind.u64 x15) (Value.int IntKind.i64 x16) h14))) (
K (X.e 0) [a2] h14))))
def loop19_6 (D : Orc) (vs : List Value) (h : H) (K : Kl) : Prop := ∀ I : List Value → H → Prop, (∀ a0 a1 a2 a3 a4 h, round19_6 D I K a0 a1 a2 a3 a4 h → I [a0, a1, a2, a3, a4] h) → I vs h
def j19__2 (D : Orc) (k : Kv) (kp : Kp) (a0 a1 a2 : Value) (h6 : H) : Prop :=
boolW a2 (fun t7 => cond t7 (
k (Value.tuple #[(Value.slice none 0 0), (Value.int IntKind.i64 (10 : Int))]) h6) (
lenW a0 (fun n8 => lenW a1 (fun n9 => minMax true [(Value.int IntKind.i64 (n8 : Int)), (Value.int IntKind.i64 (n9 : Int))] (fun v10 => intK IntKind.i64 v10 (fun x11 => mkSliceW h6 4 [(Value.int IntKind.u32 (0 : Int))] (IntKind.wrap IntKind.i64 (x11 + (1 : Int))) (IntKind.wrap IntKind.i64 (x11 + (1 : Int))) (fun s12 h13 => loop19_6 D [a0, a1, s12, (Value.int IntKind.u64 (0 : Int)), (Value.int IntKind.i64 (0 : Int))] h13 (fun x33 vs34 h32 => xs x33 (intK IntKind.i64 (nth vs34 1) (fun x36 => k (Value.tuple #[(nth vs34 0), (Value.int IntKind.i64 x36)]) h32)) (fun i35 => cond (Nat.beq i35 0) (
D 32 [(nth vs34 0)] h32 (fun v37 h38 => ∃ v39 : Value, ∃ x40 : Int, v37 = (Value.tuple #[v39, (Value.int IntKind.i64 x40)]) ∧ k (Value.tuple #[v39, (Value.int IntKind.i64 x40)]) h38) kp) (False)) (fun c => kp c h32)))))))))
def L19 (D : Orc) : Lor := fun b vs h K => match firstId b with | some i => cond (Nat.beq i 6) (loop19_6 D vs h K) (False) | none => False
/-- lodestone/lodestoneref01.Add -/
def F19 (D : Orc) (a0 a1 : Value) (h : H) (k : Kv) (kp : Kp) : Prop :=
D 12 [a0] h (fun v0 h1 => ∃ t2 : Bool, v0 = (Value.bool t2) ∧ cond (!(!t2)) (
D 12 [a1] h1 (fun v3 h4 => ∃ t5 : Bool, v3 = (Value.bool t5) ∧ j19__2 D k kp a0 a1 (Value.bool (!t5)) h4) kp) (
j19__2 D k kp a0 a1 (Value.bool true) h1)) kp
def Cl19 (D : Orc) : Prop := ∀ a0 a1 h k kp, F19 D a0 a1 h k kp → D 19 [a0, a1] h k kp
theorem tieR19_6 (D : Orc) (I : List Value → H → Prop) (K : Kl) (a0 a1 a2 a3 a4 : Value) (h : H) : round19_6 D I K a0 a1 a2 a3 a4 h = round Tryd.prog D (L19 D) lv19 (nthC (allLoops (bodyOf Tryd.f19)) 0) I K [a0, a1, a2, a3, a4] h := by kernel_rfl
theorem tieF19 (D : Orc) (a0 a1 : Value) (h : H) (k : Kv) (kp : Kp) : F19 D a0 a1 h k kp = bodyW Tryd.prog D (L19 D) lv19 Tryd.f19 [a0, a1] h k kp := by kernel_rfl
theorem lfp19 : Lfps Tryd.prog (CS Tryd.prog) (L19 (CS Tryd.prog)) lv19 (allLoops (bodyOf Tryd.f19)) := by
  have e : (allLoops (bodyOf Tryd.f19)) = [nthC (allLoops (bodyOf Tryd.f19)) 0] := by kernel_rfl
  rw [e]
  exact ⟨(fun vs h K hk I H => hk I (fun a0 a1 a2 a3 a4 h hr => H _ _ ((tieR19_6 (CS Tryd.prog) I K a0 a1 a2 a3 a4 h) ▸ hr))), trivial⟩
theorem cl19 : Cl19 (CS Tryd.prog) := fun a0 a1 h k kp hk =>
  fn_sound wide (fn := Tryd.f19) (by kernel_rfl) (by kernel_rfl) (by kernel_rfl) lfp19 (by rw [tieF19] at hk; exact hk)
def lv20 : Lv := Lv.mk 78 [.raw, .raw] (fun i => cond (Nat.beq i 5) ([(1, .raw), (6, .raw), (26, .raw), (27, .int IntKind.i64), (28, .int IntKind.i64)]) (cond (Nat.beq i 9) ([(1, .raw), (6, .raw), (7, .int IntKind.i64), (8, .int IntKind.u32), (9, .int IntKind.u64), (26, .raw), (27, .int IntKind.i64), (28, .int IntKind.i64), (33, .raw), (34, .int IntKind.i64), (35, .int IntKind.i64)]) ([]))) (fun i => cond (Nat.beq i 5) ([(0, [(6, .raw)])]) (cond (Nat.beq i 9) ([(2, [(1, .raw), (6, .raw), (7, .int IntKind.i64), (9, .int IntKind.u64), (26, .raw), (27, .int IntKind.i64), (28, .int IntKind.i64)])]) ([]))) [(4, .raw), (5, .int IntKind.i64)] (fun i => cond (Nat.beq i 2) (some [(0, .raw), (1, .raw), (19, .bool)]) (none))
def round20_9 (D : Orc) (I : List Value → H → Prop) (K : Kl) (a0 a1 a2 a3 a4 a5 a6 a7 a8 a9 a10 : Value) (h19 : H) : Prop :=
intK IntKind.i64 a2 (fun x20 => intK IntKind.u32 a3 (fun x21 => intK IntKind.u64 a4 (fun x22 => intK IntKind.i64 a6 (fun x23 => intK IntKind.i64 a7 (fun x24 => intK IntKind.i64 a9 (fun x25 => intK IntKind.i64 a10 (fun x26 => cond (decide (x26 < x25)) (
slAtW a8 x26 1 (fun a27 => ∃ x28 : Int, rd h19 a27 = some (Value.int IntKind.u32 x28) ∧ slAtW a1 (IntKind.wrap IntKind.i64 (x20 + x26)) 1 (fun a29 => ∃ x30 : Int, rd h19 a29 = some (Value.int IntKind.u32 x30) ∧ slAtW a1 (IntKind.wrap IntKind.i64 (x20 + x26)) 1 (fun a31 => one (Value.int IntKind.u32 (IntKind.wrap IntKind.u32 (IntKind.wrap IntKind.u64 (x22 + (IntKind.wrap IntKind.u64 ((IntKind.wrap IntKind.u64 ((IntKind.wrap IntKind.u64 x21) * (IntKind.wrap IntKind.u64 x28))) + (IntKind.wrap IntKind.u64 x30))))))) = true ∧ 1 = 1 ∧ ∃ h32, wr1 h19 a31 (Value.int IntKind.u32 (IntKind.wrap IntKind.u32 (IntKind.wrap IntKind.u64 (x22 + (IntKind.wrap IntKind.u64 ((IntKind.wrap IntKind.u64 ((IntKind.wrap IntKind.u64 x21) * (IntKind.wrap IntKind.u64 x28))) + (IntKind.wrap IntKind.u64 x30))))))) = some h32 ∧ 0 ≤ (32 : Int) ∧ I [a0, a1, (Value.int IntKind.i64 x20), (Value.int IntKind.u32 x21), (Value.int IntKind.u64 (Int.fdiv (IntKind.wrap IntKind.u64 (x22 + (IntKind.wrap IntKind.u64 ((IntKind.wrap IntKind.u64 ((IntKind.wrap IntKind.u64 x21) * (IntKind.wrap IntKind.u64 x28))) + (IntKind.wrap IntKind.u64 x30))))) (2 ^ (min (Int.toNat (32 : Int)) (IntKind.bits IntKind.u64))))), a5, (Value.int IntKind.i64 x23), (Value.int IntKind.i64 x24), a8, (Value.int IntKind.i64 x25), (Value.int IntKind.i64 (IntKind.wrap IntKind.i64 (x26 + (1 : Int))))] h32)))) (
K (X.e 2) [a0, a1, (Value.int IntKind.i64 x20), (Value.int IntKind.u64 x22), a5, (Value.int IntKind.i64 x23), (Value.int IntKind.i64 x24)] h19))))))))
def loop20_9 (D : Orc) (vs : List Value) (h : H) (K : Kl) : Prop := ∀ I : List Value → H → Prop, (∀ a0 a1 a2 a3 a4 a5 a6 a7 a8 a9 a10 h, round20_9 D I K a0 a1 a2 a3 a4 a5 a6 a7 a8 a9 a10 h → I [a0, a1, a2, a3, a4, a5, a6, a7, a8, a9, a10] h) → I vs h
def round20_5 (D : Orc) (I : List Value → H → Prop) (K : Kl) (a0 a1 a2 a3 a4 : Value) (h13 : H) : Prop :=
intK IntKind.i64 a3 (fun x14 => intK IntKind.i64 a4 (fun x15 => cond (decide (x15 < x14)) (
slAtW a2 x15 1 (fun a16 => ∃ x17 : Int, rd h13 a16 = some (Value.int IntKind.u32 x17) ∧ lenW a0 (fun n18 => loop20_9 D [a0, a1, (Value.int IntKind.i64 x15), (Value.int IntKind.u32 x17), (Value.int IntKind.u64 (0 : Int)), a2, (Value.int IntKind.i64 x14), (Value.int IntKind.i64 x15), a0, (Value.int IntKind.i64 (n18 : Int)), (Value.int IntKind.i64 (0 : Int))] h13 (fun x34 vs35 h33 => xs x34 (intK IntKind.i64 (nth vs35 1) (fun x37 => K X.r [(nth vs35 0), (Value.int IntKind.i64 x37)] h33)) (fun i36 => cond (Nat.beq i36 2) (
intK IntKind.i64 (nth vs35 2) (fun x38 => intK IntKind.u64 (nth vs35 3) (fun x39 => intK IntKind.i64 (nth vs35 5) (fun x40 => intK IntKind.i64 (nth vs35 6) (fun x41 => lenW (nth vs35 0) (fun n42 => slAtW (nth vs35 1) (IntKind.wrap IntKind.i64 (x38 + (n42 : Int))) 1 (fun a43 => one (Value.int IntKind.u32 (IntKind.wrap IntKind.u32 x39)) = true ∧ 1 = 1 ∧ ∃ h44, wr1 h33 a43 (Value.int IntKind.u32 (IntKind.wrap IntKind.u32 x39)) = some h44 ∧ I [(nth vs35 0), (nth vs35 1), (nth vs35 4), (Value.int IntKind.i64 x40), (Value.int IntKind.i64 (IntKind.wrap IntKind.i64 (x41 + (1 : Int))))] h44))))))) (False)) (fun c => (fun c h => K (X.p c) [] h) c h33))))) (
K (X.e 0) [a1] h13)))
def loop20_5 (D : Orc) (vs : List Value) (h : H) (K : Kl) : Prop := ∀ I : List Value → H → Prop, (∀ a0 a1 a2 a3 a4 h, round20_5 D I K a0 a1 a2 a3 a4 h → I [a0, a1, a2, a3, a4] h) → I vs h
def j20__2 (D : Orc) (k : Kv) (kp : Kp) (a0 a1 a2 : Value) (h6 : H) : Prop :=
boolW a2 (fun t7 => cond t7 (
k (Value.tuple #[(Value.slice none 0 0), (Value.int IntKind.i64 (10 : Int))]) h6) (
lenW a0 (fun n8 => lenW a1 (fun n9 => mkSliceW h6 4 [(Value.int IntKind.u32 (0 : Int))] (IntKind.wrap IntKind.i64 ((n8 : Int) + (n9 : Int))) (IntKind.wrap IntKind.i64 ((n8 : Int) + (n9 : Int))) (fun s10 h11 => lenW a0 (fun n12 => loop20_5 D [a1, s10, a0, (Value.int IntKind.i64 (n12 : Int)), (Value.int IntKind.i64 (0 : Int))] h11 (fun x46 vs47 h45 => xs x46 (intK IntKind.i64 (nth vs47 1) (fun x49 => k (Value.tuple #[(nth vs47 0), (Value.int IntKind.i64 x49)]) h45)) (fun i48 => cond (Nat.beq i48 0) (
D 31 [(nth vs47 0)] h45 (fun v50 h51 => ∃ v52 : Value, ∃ x53 : Int, v50 = (Value.tuple #[v52, (Value.int IntKind.i64 x53)]) ∧ k (Value.tuple #[v52, (Value.int IntKind.i64 x53)]) h51) kp) (False)) (fun c => kp c h45))))))))
def L20 (D : Orc) : Lor := fun b vs h K => match firstId b with | some i => cond (Nat.beq i 5) (loop20_5 D vs h K) (cond (Nat.beq i 9) (loop20_9 D vs h K) (False)) | none => False
/-- lodestone/nat.Mul -/
def F20 (D : Orc) (a0 a1 : Value) (h : H) (k : Kv) (kp : Kp) : Prop :=
D 11 [a0] h (fun v0 h1 => ∃ t2 : Bool, v0 = (Value.bool t2) ∧ cond (!(!t2)) (
D 11 [a1] h1 (fun v3 h4 => ∃ t5 : Bool, v3 = (Value.bool t5) ∧ j20__2 D k kp a0 a1 (Value.bool (!t5)) h4) kp) (
j20__2 D k kp a0 a1 (Value.bool true) h1)) kp
def Cl20 (D : Orc) : Prop := ∀ a0 a1 h k kp, F20 D a0 a1 h k kp → D 20 [a0, a1] h k kp
theorem tieR20_5 (D : Orc) (I : List Value → H → Prop) (K : Kl) (a0 a1 a2 a3 a4 : Value) (h : H) : round20_5 D I K a0 a1 a2 a3 a4 h = round Tryd.prog D (L20 D) lv20 (nthC (allLoops (bodyOf Tryd.f20)) 0) I K [a0, a1, a2, a3, a4] h := by kernel_rfl
theorem tieR20_9 (D : Orc) (I : List Value → H → Prop) (K : Kl) (a0 a1 a2 a3 a4 a5 a6 a7 a8 a9 a10 : Value) (h : H) : round20_9 D I K a0 a1 a2 a3 a4 a5 a6 a7 a8 a9 a10 h = round Tryd.prog D (L20 D) lv20 (nthC (allLoops (bodyOf Tryd.f20)) 1) I K [a0, a1, a2, a3, a4, a5, a6, a7, a8, a9, a10] h := by kernel_rfl
theorem tieF20 (D : Orc) (a0 a1 : Value) (h : H) (k : Kv) (kp : Kp) : F20 D a0 a1 h k kp = bodyW Tryd.prog D (L20 D) lv20 Tryd.f20 [a0, a1] h k kp := by kernel_rfl
theorem lfp20 : Lfps Tryd.prog (CS Tryd.prog) (L20 (CS Tryd.prog)) lv20 (allLoops (bodyOf Tryd.f20)) := by
  have e : (allLoops (bodyOf Tryd.f20)) = [nthC (allLoops (bodyOf Tryd.f20)) 0, nthC (allLoops (bodyOf Tryd.f20)) 1] := by kernel_rfl
  rw [e]
  exact ⟨(fun vs h K hk I H => hk I (fun a0 a1 a2 a3 a4 h hr => H _ _ ((tieR20_5 (CS Tryd.prog) I K a0 a1 a2 a3 a4 h) ▸ hr))), (fun vs h K hk I H => hk I (fun a0 a1 a2 a3 a4 a5 a6 a7 a8 a9 a10 h hr => H _ _ ((tieR20_9 (CS Tryd.prog) I K a0 a1 a2 a3 a4 a5 a6 a7 a8 a9 a10 h) ▸ hr))), trivial⟩
theorem cl20 : Cl20 (CS Tryd.prog) := fun a0 a1 h k kp hk =>
  fn_sound wide (fn := Tryd.f20) (by kernel_rfl) (by kernel_rfl) (by kernel_rfl) lfp20 (by rw [tieF20] at hk; exact hk)
def lv21 : Lv := Lv.mk 80 [.raw, .raw] (fun i => cond (Nat.beq i 5) ([(0, .raw), (1, .raw), (6, .raw), (7, .int IntKind.i64)]) (cond (Nat.beq i 9) ([(0, .raw), (1, .raw), (6, .raw), (7, .int IntKind.i64), (8, .int IntKind.u64), (9, .int IntKind.i64)]) ([]))) (fun i => cond (Nat.beq i 5) ([(0, [(6, .raw)])]) (cond (Nat.beq i 9) ([(2, [(0, .raw), (1, .raw), (6, .raw), (7, .int IntKind.i64)])]) ([]))) [(4, .raw), (5, .int IntKind.i64)] (fun i => cond (Nat.beq i 2) (some [(0, .raw), (1, .raw), (17, .bool)]) (cond (Nat.beq i 14) (some [(0, .raw), (1, .raw), (6, .raw), (7, .int IntKind.i64), (8, .int IntKind.u64), (9, .int IntKind.i64)]) (none)))
def j21_9_14 (D : Orc) (I : List Value → H → Prop) (K : Kl) (a0 a1 a2 a3 a4 a5 : Value) (h27 : H) : Prop :=
intK IntKind.i64 a3 (fun x28 => intK IntKind.u64 a4 (fun x29 => intK IntKind.i64 a5 (fun x30 => slAtW a2 (IntKind.wrap IntKind.i64 (x28 + x30)) 1 (fun a31 => one (Value.int IntKind.u32 (IntKind.wrap IntKind.u32 x29)) = true ∧ 1 = 1 ∧ ∃ h32, wr1 h27 a31 (Value.int IntKind.u32 (IntKind.wrap IntKind.u32 x29)) = some h32 ∧ 0 ≤ (32 : Int) ∧ I [a0, a1, a2, (Value.int IntKind.i64 x28), (Value.int IntKind.u64 (Int.fdiv x29 (2 ^ (min (Int.toNat (32 : Int)) (IntKind.bits IntKind.u64))))), (Value.int IntKind.i64 (IntKind.wrap IntKind.i64 (x30 + (1 : Int))))] h32))))
def round21_9 (D : Orc) (I : List Value → H → Prop) (K : Kl) (a0 a1 a2 a3 a4 a5 : Value) (h15 : H) : Prop :=
intK IntKind.i64 a3 (fun x16 => intK IntKind.u64 a4 (fun x17 => intK IntKind.i64 a5 (fun x18 => lenW a1 (fun n19 => cond (!(decide (x18 < (n19 : Int)))) (
cond (decide (x17 > (0 : Int))) (
slAtW a2 (IntKind.wrap IntKind.i64 (x16 + x18)) 1 (fun a20 => ∃ x21 : Int, rd h15 a20 = some (Value.int IntKind.u32 x21) ∧ lenW a1 (fun n22 => cond (decide (x18 < (n22 : Int))) (
slAtW a0 x16 1 (fun a23 => ∃ x24 : Int, rd h15 a23 = some (Value.int IntKind.u32 x24) ∧ slAtW a1 x18 1 (fun a25 => ∃ x26 : Int, rd h15 a25 = some (Value.int IntKind.u32 x26) ∧ j21_9_14 D I K a0 a1 a2 (Value.int IntKind.i64 x16) (Value.int IntKind.u64 (IntKind.wrap IntKind.u64 ((IntKind.wrap IntKind.u64 (x17 + (IntKind.wrap IntKind.u64 x21))) + (IntKind.wrap IntKind.u64 ((IntKind.wrap IntKind.u64 x24) * (IntKind.wrap IntKind.u64 x26)))))) (Value.int IntKind.i64 x18) h15))) (
j21_9_14 D I K a0 a1 a2 (Value.int IntKind.i64 x16) (Value.int IntKind.u64 (IntKind.wrap IntKind.u64 (x17 + (IntKind.wrap IntKind.u64 x21)))) (Value.int IntKind.i64 x18) h15)))) (
K (X.e 2) [a0, a1, a2, (Value.int IntKind.i64 x16)] h15)) (
slAtW a2 (IntKind.wrap IntKind.i64 (x16 + x18)) 1 (fun a33 => ∃ x34 : Int, rd h15 a33 = some (Value.int IntKind.u32 x34) ∧ lenW a1 (fun n35 => cond (decide (x18 < (n35 : Int))) (
slAtW a0 x16 1 (fun a36 => ∃ x37 : Int, rd h15 a36 = some (Value.int IntKind.u32 x37) ∧ slAtW a1 x18 1 (fun a38 => ∃ x39 : Int, rd h15 a38 = some (Value.int IntKind.u32 x39) ∧ j21_9_14 D I K a0 a1 a2 (Value.int IntKind.i64 x16) (Value.int IntKind.u64 (IntKind.wrap IntKind.u64 ((IntKind.wrap IntKind.u64 (x17 + (IntKind.wrap IntKind.u64 x34))) + (IntKind.wrap IntKind.u64 ((IntKind.wrap IntKind.u64 x37) * (IntKind.wrap IntKind.u64 x39)))))) (Value.int IntKind.i64 x18) h15))) (
j21_9_14 D I K a0 a1 a2 (Value.int IntKind.i64 x16) (Value.int IntKind.u64 (IntKind.wrap IntKind.u64 (x17 + (IntKind.wrap IntKind.u64 x34)))) (Value.int IntKind.i64 x18) h15))))))))
def loop21_9 (D : Orc) (vs : List Value) (h : H) (K : Kl) : Prop := ∀ I : List Value → H → Prop, (∀ a0 a1 a2 a3 a4 a5 h, round21_9 D I K a0 a1 a2 a3 a4 a5 h → I [a0, a1, a2, a3, a4, a5] h) → I vs h
def round21_5 (D : Orc) (I : List Value → H → Prop) (K : Kl) (a0 a1 a2 a3 : Value) (h12 : H) : Prop :=
intK IntKind.i64 a3 (fun x13 => lenW a0 (fun n14 => cond (decide (x13 < (n14 : Int))) (
loop21_9 D [a0, a1, a2, (Value.int IntKind.i64 x13), (Value.int IntKind.u64 (0 : Int)), (Value.int IntKind.i64 (0 : Int))] h12 (fun x41 vs42 h40 => xs x41 (intK IntKind.i64 (nth vs42 1) (fun x44 => K X.r [(nth vs42 0), (Value.int IntKind.i64 x44)] h40)) (fun i43 => cond (Nat.beq i43 2) (
intK IntKind.i64 (nth vs42 3) (fun x45 => I [(nth vs42 0), (nth vs42 1), (nth vs42 2), (Value.int IntKind.i64 (IntKind.wrap IntKind.i64 (x45 + (1 : Int))))] h40)) (False)) (fun c => (fun c h => K (X.p c) [] h) c h40))) (
K (X.e 0) [a2] h12)))
def loop21_5 (D : Orc) (vs : List Value) (h : H) (K : Kl) : Prop := ∀ I : List Value → H → Prop, (∀ a0 a1 a2 a3 h, round21_5 D I K a0 a1 a2 a3 h → I [a0, a1, a2, a3] h) → I vs h
def j21__2 (D : Orc) (k : Kv) (kp : Kp) (a0 a1 a2 : Value) (h6 : H) : Prop :=
boolW a2 (fun t7 => cond t7 (
k (Value.tuple #[(Value.slice none 0 0), (Value.int IntKind.i64 (10 : Int))]) h6) (
lenW a0 (fun n8 => lenW a1 (fun n9 => mkSliceW h6 4 [(Value.int IntKind.u32 (0 : Int))] (IntKind.wrap IntKind.i64 ((IntKind.wrap IntKind.i64 ((n8 : Int) + (n9 : Int))) + (1 : Int))) (IntKind.wrap IntKind.i64 ((IntKind.wrap IntKind.i64 ((n8 : Int) + (n9 : Int))) + (1 : Int))) (fun s10 h11 => loop21_5 D [a0, a1, s10, (Value.int IntKind.i64 (0 : Int))] h11 (fun x47 vs48 h46 => xs x47 (intK IntKind.i64 (nth vs48 1) (fun x50 => k (Value.tuple #[(nth vs48 0), (Value.int IntKind.i64 x50)]) h46)) (fun i49 => cond (Nat.beq i49 0) (
D 32 [(nth vs48 0)] h46 (fun v51 h52 => ∃ v53 : Value, ∃ x54 : Int, v51 = (Value.tuple #[v53, (Value.int IntKind.i64 x54)]) ∧ k (Value.tuple #[v53, (Value.int IntKind.i64 x54)]) h52) kp) (False)) (fun c => kp c h46)))))))
def L21 (D : Orc) : Lor := fun b vs h K => match firstId b with | some i => cond (Nat.beq i 5) (loop21_5 D vs h K) (cond (Nat.beq i 9) (loop21_9 D vs h K) (False)) | none => False
/-- lodestone/lodestoneref01.Mul -/
def F21 (D : Orc) (a0 a1 : Value) (h : H) (k : Kv) (kp : Kp) : Prop :=
D 12 [a0] h (fun v0 h1 => ∃ t2 : Bool, v0 = (Value.bool t2) ∧ cond (!(!t2)) (
D 12 [a1] h1 (fun v3 h4 => ∃ t5 : Bool, v3 = (Value.bool t5) ∧ j21__2 D k kp a0 a1 (Value.bool (!t5)) h4) kp) (
j21__2 D k kp a0 a1 (Value.bool true) h1)) kp
def Cl21 (D : Orc) : Prop := ∀ a0 a1 h k kp, F21 D a0 a1 h k kp → D 21 [a0, a1] h k kp
theorem tieR21_5 (D : Orc) (I : List Value → H → Prop) (K : Kl) (a0 a1 a2 a3 : Value) (h : H) : round21_5 D I K a0 a1 a2 a3 h = round Tryd.prog D (L21 D) lv21 (nthC (allLoops (bodyOf Tryd.f21)) 0) I K [a0, a1, a2, a3] h := by kernel_rfl
theorem tieR21_9 (D : Orc) (I : List Value → H → Prop) (K : Kl) (a0 a1 a2 a3 a4 a5 : Value) (h : H) : round21_9 D I K a0 a1 a2 a3 a4 a5 h = round Tryd.prog D (L21 D) lv21 (nthC (allLoops (bodyOf Tryd.f21)) 1) I K [a0, a1, a2, a3, a4, a5] h := by kernel_rfl
theorem tieF21 (D : Orc) (a0 a1 : Value) (h : H) (k : Kv) (kp : Kp) : F21 D a0 a1 h k kp = bodyW Tryd.prog D (L21 D) lv21 Tryd.f21 [a0, a1] h k kp := by kernel_rfl
theorem lfp21 : Lfps Tryd.prog (CS Tryd.prog) (L21 (CS Tryd.prog)) lv21 (allLoops (bodyOf Tryd.f21)) := by
  have e : (allLoops (bodyOf Tryd.f21)) = [nthC (allLoops (bodyOf Tryd.f21)) 0, nthC (allLoops (bodyOf Tryd.f21)) 1] := by kernel_rfl
  rw [e]
  exact ⟨(fun vs h K hk I H => hk I (fun a0 a1 a2 a3 h hr => H _ _ ((tieR21_5 (CS Tryd.prog) I K a0 a1 a2 a3 h) ▸ hr))), (fun vs h K hk I H => hk I (fun a0 a1 a2 a3 a4 a5 h hr => H _ _ ((tieR21_9 (CS Tryd.prog) I K a0 a1 a2 a3 a4 a5 h) ▸ hr))), trivial⟩
theorem cl21 : Cl21 (CS Tryd.prog) := fun a0 a1 h k kp hk =>
  fn_sound wide (fn := Tryd.f21) (by kernel_rfl) (by kernel_rfl) (by kernel_rfl) lfp21 (by rw [tieF21] at hk; exact hk)
def lv22 : Lv := Lv.mk 44 [.raw, .raw] (fun i => cond (Nat.beq i 7) ([(0, .raw), (1, .raw), (7, .int IntKind.i64)]) ([])) (fun i => cond (Nat.beq i 7) ([(0, [])]) ([])) [(4, .int IntKind.i64), (5, .int IntKind.i64)] (fun i => cond (Nat.beq i 2) (some [(0, .raw), (1, .raw), (16, .bool)]) (none))
def round22_7 (D : Orc) (I : List Value → H → Prop) (K : Kl) (a0 a1 a2 : Value) (h14 : H) : Prop :=
intK IntKind.i64 a2 (fun x15 => cond (decide (x15 ≥ (0 : Int))) (
slAtW a0 x15 1 (fun a16 => ∃ x17 : Int, rd h14 a16 = some (Value.int IntKind.u32 x17) ∧ slAtW a1 x15 1 (fun a18 => ∃ x19 : Int, rd h14 a18 = some (Value.int IntKind.u32 x19) ∧ D 34 [(Value.int IntKind.u32 x17), (Value.int IntKind.u32 x19)] h14 (fun v20 h21 => ∃ x22 : Int, v20 = (Value.int IntKind.i64 x22) ∧ cond (x22 != (0 : Int)) (
K X.r [(Value.int IntKind.i64 x22), (Value.int IntKind.i64 (0 : Int))] h21) (
I [a0, a1, (Value.int IntKind.i64 (IntKind.wrap IntKind.i64 (x15 - (1 : Int))))] h21)) (fun c h => K (X.p c) [] h)))) (
K (X.e 0) [] h14))
def loop22_7 (D : Orc) (vs : List Value) (h : H) (K : Kl) : Prop := ∀ I : List Value → H → Prop, (∀ a0 a1 a2 h, round22_7 D I K a0 a1 a2 h → I [a0, a1, a2] h) → I vs h
def j22__2 (D : Orc) (k : Kv) (kp : Kp) (a0 a1 a2 : Value) (h6 : H) : Prop :=
boolW a2 (fun t7 => cond t7 (
k (Value.tuple #[(Value.int IntKind.i64 (0 : Int)), (Value.int IntKind.i64 (10 : Int))]) h6) (
lenW a0 (fun n8 => lenW a1 (fun n9 => D 33 [(Value.int IntKind.i64 (n8 : Int)), (Value.int IntKind.i64 (n9 : Int))] h6 (fun v10 h11 => ∃ x12 : Int, v10 = (Value.int IntKind.i64 x12) ∧ cond (x12 != (0 : Int)) (
k (Value.tuple #[(Value.int IntKind.i64 x12), (Value.int IntKind.i64 (0 : Int))]) h11) (
lenW a0 (fun n13 => loop22_7 D [a0, a1, (Value.int IntKind.i64 (IntKind.wrap IntKind.i64 ((n13 : Int) - (1 : Int))))] h11 (fun x24 vs25 h23 => xs x24 (intK IntKind.i64 (nth vs25 0) (fun x27 => intK IntKind.i64 (nth vs25 1) (fun x28 => k (Value.tuple #[(Value.int IntKind.i64 x27), (Value.int IntKind.i64 x28)]) h23))) (fun i26 => cond (Nat.beq i26 0) (
k (Value.tuple #[(Value.int IntKind.i64 (0 : Int)), (Value.int IntKind.i64 (0 : Int))]) h23) (False)) (fun c => kp c h23))))) kp))))
def L22 (D : Orc) : Lor := fun b vs h K => match firstId b with | some i => cond (Nat.beq i 7) (loop22_7 D vs h K) (False) | none => False
/-- lodestone/nat.Cmp -/
def F22 (D : Orc) (a0 a1 : Value) (h : H) (k : Kv) (kp : Kp) : Prop :=
D 11 [a0] h (fun v0 h1 => ∃ t2 : Bool, v0 = (Value.bool t2) ∧ cond (!(!t2)) (
D 11 [a1] h1 (fun v3 h4 => ∃ t5 : Bool, v3 = (Value.bool t5) ∧ j22__2 D k kp a0 a1 (Value.bool (!t5)) h4) kp) (
j22__2 D k kp a0 a1 (Value.bool true) h1)) kp
def Cl22 (D : Orc) : Prop := ∀ a0 a1 h k kp, F22 D a0 a1 h k kp → D 22 [a0, a1] h k kp
theorem tieR22_7 (D : Orc) (I : List Value → H → Prop) (K : Kl) (a0 a1 a2 : Value) (h : H) : round22_7 D I K a0 a1 a2 h = round Tryd.prog D (L22 D) lv22 (nthC (allLoops (bodyOf Tryd.f22)) 0) I K [a0, a1, a2] h := by kernel_rfl
theorem tieF22 (D : Orc) (a0 a1 : Value) (h : H) (k : Kv) (kp : Kp) : F22 D a0 a1 h k kp = bodyW Tryd.prog D (L22 D) lv22 Tryd.f22 [a0, a1] h k kp := by kernel_rfl
theorem lfp22 : Lfps Tryd.prog (CS Tryd.prog) (L22 (CS Tryd.prog)) lv22 (allLoops (bodyOf Tryd.f22)) := by
  have e : (allLoops (bodyOf Tryd.f22)) = [nthC (allLoops (bodyOf Tryd.f22)) 0] := by kernel_rfl
  rw [e]
  exact ⟨(fun vs h K hk I H => hk I (fun a0 a1 a2 h hr => H _ _ ((tieR22_7 (CS Tryd.prog) I K a0 a1 a2 h) ▸ hr))), trivial⟩
theorem cl22 : Cl22 (CS Tryd.prog) := fun a0 a1 h k kp hk =>
  fn_sound wide (fn := Tryd.f22) (by kernel_rfl) (by kernel_rfl) (by kernel_rfl) lfp22 (by rw [tieF22] at hk; exact hk)
def lv23 : Lv := Lv.mk 50 [.raw, .raw] (fun i => cond (Nat.beq i 8) ([(0, .raw), (1, .raw), (6, .int IntKind.i64)]) ([])) (fun i => cond (Nat.beq i 8) ([(0, [])]) ([])) [(4, .int IntKind.i64), (5, .int IntKind.i64)] (fun i => cond (Nat.beq i 2) (some [(0, .raw), (1, .raw), (14, .bool)]) (none))
def round23_8 (D : Orc) (I : List Value → H → Prop) (K : Kl) (a0 a1 a2 : Value) (h13 : H) : Prop :=
intK IntKind.i64 a2 (fun x14 => cond (decide (x14 ≥ (0 : Int))) (
slAtW a0 x14 1 (fun a15 => ∃ x16 : Int, rd h13 a15 = some (Value.int IntKind.u32 x16) ∧ slAtW a1 x14 1 (fun a17 => ∃ x18 : Int, rd h13 a17 = some (Value.int IntKind.u32 x18) ∧ cond (decide (x16 < x18)) (
K X.r [(Value.int IntKind.i64 (-1 : Int)), (Value.int IntKind.i64 (0 : Int))] h13) (
slAtW a0 x14 1 (fun a19 => ∃ x20 : Int, rd h13 a19 = some (Value.int IntKind.u32 x20) ∧ slAtW a1 x14 1 (fun a21 => ∃ x22 : Int, rd h13 a21 = some (Value.int IntKind.u32 x22) ∧ cond (decide (x20 > x22)) (
K X.r [(Value.int IntKind.i64 (1 : Int)), (Value.int IntKind.i64 (0 : Int))] h13) (
I [a0, a1, (Value.int IntKind.i64 (IntKind.wrap IntKind.i64 (x14 - (1 : Int))))] h13))))))) (
K (X.e 0) [] h13))
def loop23_8 (D : Orc) (vs : List Value) (h : H) (K : Kl) : Prop := ∀ I : List Value → H → Prop, (∀ a0 a1 a2 h, round23_8 D I K a0 a1 a2 h → I [a0, a1, a2] h) → I vs h
def j23__2 (D : Orc) (k : Kv) (kp : Kp) (a0 a1 a2 : Value) (h6 : H) : Prop :=
boolW a2 (fun t7 => cond t7 (
k (Value.tuple #[(Value.int IntKind.i64 (0 : Int)), (Value.int IntKind.i64 (10 : Int))]) h6) (
lenW a0 (fun n8 => lenW a1 (fun n9 => cond ((n8 : Int) != (n9 : Int)) (
lenW a0 (fun n10 => lenW a1 (fun n11 => cond (decide ((n10 : Int) < (n11 : Int))) (
k (Value.tuple #[(Value.int IntKind.i64 (-1 : Int)), (Value.int IntKind.i64 (0 : Int))]) h6) (
k (Value.tuple #[(Value.int IntKind.i64 (1 : Int)), (Value.int IntKind.i64 (0 : Int))]) h6)))) (
lenW a0 (fun n12 => loop23_8 D [a0, a1, (Value.int IntKind.i64 (IntKind.wrap IntKind.i64 ((n12 : Int) - (1 : Int))))] h6 (fun x24 vs25 h23 => xs x24 (intK IntKind.i64 (nth vs25 0) (fun x27 => intK IntKind.i64 (nth vs25 1) (fun x28 => k (Value.tuple #[(Value.int IntKind.i64 x27), (Value.int IntKind.i64 x28)]) h23))) (fun i26 => cond (Nat.beq i26 0) (
k (Value.tuple #[(Value.int IntKind.i64 (0 : Int)), (Value.int IntKind.i64 (0 : Int))]) h23) (False)) (fun c => kp c h23))))))))
def L23 (D : Orc) : Lor := fun b vs h K => match firstId b with | some i => cond (Nat.beq i 8) (loop23_8 D vs h K) (False) | none => False
/-- lodestone/lodestoneref01.Cmp -/
def F23 (D : Orc) (a0 a1 : Value) (h : H) (k : Kv) (kp : Kp) : Prop :=
D 12 [a0] h (fun v0 h1 => ∃ t2 : Bool, v0 = (Value.bool t2) ∧ cond (!(!t2)) (
D 12 [a1] h1 (fun v3 h4 => ∃ t5 : Bool, v3 = (Value.bool t5) ∧ j23__2 D k kp a0 a1 (Value.bool (!t5)) h4) kp) (
j23__2 D k kp a0 a1 (Value.bool true) h1)) kp
def Cl23 (D : Orc) : Prop := ∀ a0 a1 h k kp, F23 D a0 a1 h k kp → D 23 [a0, a1] h k kp
theorem tieR23_8 (D : Orc) (I : List Value → H → Prop) (K : Kl) (a0 a1 a2 : Value) (h : H) : round23_8 D I K a0 a1 a2 h = round Tryd.prog D (L23 D) lv23 (nthC (allLoops (bodyOf Tryd.f23)) 0) I K [a0, a1, a2] h := by kernel_rfl
theorem tieF23 (D : Orc) (a0 a1 : Value) (h : H) (k : Kv) (kp : Kp) : F23 D a0 a1 h k kp = bodyW Tryd.prog D (L23 D) lv23 Tryd.f23 [a0, a1] h k kp := by kernel_rfl
theorem lfp23 : Lfps Tryd.prog (CS Tryd.prog) (L23 (CS Tryd.prog)) lv23 (allLoops (bodyOf Tryd.f23)) := by
  have e : (allLoops (bodyOf Tryd.f23)) = [nthC (allLoops (bodyOf Tryd.f23)) 0] := by kernel_rfl
  rw [e]
  exact ⟨(fun vs h K hk I H => hk I (fun a0 a1 a2 h hr => H _ _ ((tieR23_8 (CS Tryd.prog) I K a0 a1 a2 h) ▸ hr))), trivial⟩
theorem cl23 : Cl23 (CS Tryd.prog) := fun a0 a1 h k kp hk =>
  fn_sound wide (fn := Tryd.f23) (by kernel_rfl) (by kernel_rfl) (by kernel_rfl) lfp23 (by rw [tieF23] at hk; exact hk)
def lv24 : Lv := Lv.mk 45 [.raw, .raw] (fun i => cond (Nat.beq i 3) ([(0, .raw), (1, .raw), (5, .int IntKind.i64)]) ([])) (fun i => cond (Nat.beq i 3) ([(0, [])]) ([])) [(4, .bool)] (fun i => cond (Nat.beq i 6) (some [(0, .raw), (1, .raw), (5, .int IntKind.i64), (44, .bool)]) (none))
def j24_3_6 (D : Orc) (I : List Value → H → Prop) (K : Kl) (a0 a1 a2 a3 : Value) (h13 : H) : Prop :=
intK IntKind.i64 a2 (fun x14 => boolW a3 (fun t15 => cond t15 (
K X.r [(Value.bool false)] h13) (
I [a0, a1, (Value.int IntKind.i64 (IntKind.wrap IntKind.i64 (x14 + (1 : Int))))] h13)))
def round24_3 (D : Orc) (I : List Value → H → Prop) (K : Kl) (a0 a1 a2 : Value) (h2 : H) : Prop :=
intK IntKind.i64 a2 (fun x3 => lenW a0 (fun n4 => cond (decide (x3 < (n4 : Int))) (
lenW a1 (fun n5 => cond (decide (x3 < (n5 : Int))) (
slAtW a0 x3 1 (fun a6 => ∃ x7 : Int, rd h2 a6 = some (Value.int IntKind.u32 x7) ∧ slAtW a1 x3 1 (fun a8 => ∃ x9 : Int, rd h2 a8 = some (Value.int IntKind.u32 x9) ∧ cond (!(x7 != x9)) (
lenW a1 (fun n10 => cond (decide (x3 ≥ (n10 : Int))) (
slAtW a0 x3 1 (fun a11 => ∃ x12 : Int, rd h2 a11 = some (Value.int IntKind.u32 x12) ∧ j24_3_6 D I K a0 a1 (Value.int IntKind.i64 x3) (Value.bool (x12 != (77 : Int))) h2)) (
j24_3_6 D I K a0 a1 (Value.int IntKind.i64 x3) (Value.bool false) h2))) (
j24_3_6 D I K a0 a1 (Value.int IntKind.i64 x3) (Value.bool true) h2)))) (
lenW a1 (fun n16 => cond (decide (x3 ≥ (n16 : Int))) (
slAtW a0 x3 1 (fun a17 => ∃ x18 : Int, rd h2 a17 = some (Value.int IntKind.u32 x18) ∧ j24_3_6 D I K a0 a1 (Value.int IntKind.i64 x3) (Value.bool (x18 != (77 : Int))) h2)) (
j24_3_6 D I K a0 a1 (Value.int IntKind.i64 x3) (Value.bool false) h2))))) (
K (X.e 0) [] h2)))
def loop24_3 (D : Orc) (vs : List Value) (h : H) (K : Kl) : Prop := ∀ I : List Value → H → Prop, (∀ a0 a1 a2 h, round24_3 D I K a0 a1 a2 h → I [a0, a1, a2] h) → I vs h
def L24 (D : Orc) : Lor := fun b vs h K => match firstId b with | some i => cond (Nat.beq i 3) (loop24_3 D vs h K) (False) | none => False
/-- lodestone/lodestonelaw01.kept -/
def F24 (D : Orc) (a0 a1 : Value) (h : H) (k : Kv) (kp : Kp) : Prop :=
lenW a1 (fun n0 => slCutW a0 none (some (IntKind.wrap IntKind.i64 ((n0 : Int) + (3 : Int)))) none 1 (fun s1 => loop24_3 D [s1, a1, (Value.int IntKind.i64 (0 : Int))] h (fun x20 vs21 h19 => xs x20 (boolW (nth vs21 0) (fun t23 => k (Value.bool t23) h19)) (fun i22 => cond (Nat.beq i22 0) (
k (Value.bool true) h19) (False)) (fun c => kp c h19))))
def Cl24 (D : Orc) : Prop := ∀ a0 a1 h k kp, F24 D a0 a1 h k kp → D 24 [a0, a1] h k kp
theorem tieR24_3 (D : Orc) (I : List Value → H → Prop) (K : Kl) (a0 a1 a2 : Value) (h : H) : round24_3 D I K a0 a1 a2 h = round Tryd.prog D (L24 D) lv24 (nthC (allLoops (bodyOf Tryd.f24)) 0) I K [a0, a1, a2] h := by kernel_rfl
theorem tieF24 (D : Orc) (a0 a1 : Value) (h : H) (k : Kv) (kp : Kp) : F24 D a0 a1 h k kp = bodyW Tryd.prog D (L24 D) lv24 Tryd.f24 [a0, a1] h k kp := by kernel_rfl
theorem lfp24 : Lfps Tryd.prog (CS Tryd.prog) (L24 (CS Tryd.prog)) lv24 (allLoops (bodyOf Tryd.f24)) := by
  have e : (allLoops (bodyOf Tryd.f24)) = [nthC (allLoops (bodyOf Tryd.f24)) 0] := by kernel_rfl
  rw [e]
  exact ⟨(fun vs h K hk I H => hk I (fun a0 a1 a2 h hr => H _ _ ((tieR24_3 (CS Tryd.prog) I K a0 a1 a2 h) ▸ hr))), trivial⟩
theorem cl24 : Cl24 (CS Tryd.prog) := fun a0 a1 h k kp hk =>
  fn_sound wide (fn := Tryd.f24) (by kernel_rfl) (by kernel_rfl) (by kernel_rfl) lfp24 (by rw [tieF24] at hk; exact hk)
def lv25 : Lv := Lv.mk 66 [.raw] (fun i => cond (Nat.beq i 6) ([(4, .raw), (5, .raw)]) (cond (Nat.beq i 10) ([(4, .raw), (5, .raw), (6, .int IntKind.u64), (7, .int IntKind.i64)]) (cond (Nat.beq i 16) ([(4, .raw), (5, .raw), (6, .int IntKind.u64), (46, .int IntKind.i64)]) ([])))) (fun i => cond (Nat.beq i 6) ([(0, [(4, .raw)])]) (cond (Nat.beq i 10) ([(2, [(4, .raw), (5, .raw), (6, .int IntKind.u64)])]) (cond (Nat.beq i 16) ([(4, [(4, .raw), (5, .raw)])]) ([])))) [(2, .str), (3, .int IntKind.i64)] (fun i => cond (Nat.beq i 24) (some [(8, .str)]) (none))
def round25_10 (D : Orc) (I : List Value → H → Prop) (K : Kl) (a0 a1 a2 a3 : Value) (h14 : H) : Prop :=
intK IntKind.u64 a2 (fun x15 => intK IntKind.i64 a3 (fun x16 => cond (decide (x16 ≥ (0 : Int))) (
0 ≤ (32 : Int) ∧ slAtW a1 x16 1 (fun a17 => ∃ x18 : Int, rd h14 a17 = some (Value.int IntKind.u32 x18) ∧ (1000000000 : Int) ≠ 0 ∧ slAtW a1 x16 1 (fun a19 => one (Value.int IntKind.u32 (IntKind.wrap IntKind.u32 (IntKind.wrap IntKind.u64 (Int.tdiv (IntKind.wrap IntKind.u64 ((BitVec.ofInt (IntKind.bits IntKind.u64) (IntKind.wrap IntKind.u64 (x15 * 2 ^ (min (Int.toNat (32 : Int)) (IntKind.bits IntKind.u64)))) ||| BitVec.ofInt (IntKind.bits IntKind.u64) (IntKind.wrap IntKind.u64 x18)).toNat : Int)) (1000000000 : Int))))) = true ∧ 1 = 1 ∧ ∃ h20, wr1 h14 a19 (Value.int IntKind.u32 (IntKind.wrap IntKind.u32 (IntKind.wrap IntKind.u64 (Int.tdiv (IntKind.wrap IntKind.u64 ((BitVec.ofInt (IntKind.bits IntKind.u64) (IntKind.wrap IntKind.u64 (x15 * 2 ^ (min (Int.toNat (32 : Int)) (IntKind.bits IntKind.u64)))) ||| BitVec.ofInt (IntKind.bits IntKind.u64) (IntKind.wrap IntKind.u64 x18)).toNat : Int)) (1000000000 : Int))))) = some h20 ∧ (1000000000 : Int) ≠ 0 ∧ I [a0, a1, (Value.int IntKind.u64 (Int.tmod (IntKind.wrap IntKind.u64 ((BitVec.ofInt (IntKind.bits IntKind.u64) (IntKind.wrap IntKind.u64 (x15 * 2 ^ (min (Int.toNat (32 : Int)) (IntKind.bits IntKind.u64)))) ||| BitVec.ofInt (IntKind.bits IntKind.u64) (IntKind.wrap IntKind.u64 x18)).toNat : Int)) (1000000000 : Int))), (Value.int IntKind.i64 (IntKind.wrap IntKind.i64 (x16 - (1 : Int))))] h20))) (
K (X.e 2) [a0, a1, (Value.int IntKind.u64 x15)] h14)))
def loop25_10 (D : Orc) (vs : List Value) (h : H) (K : Kl) : Prop := ∀ I : List Value → H → Prop, (∀ a0 a1 a2 a3 h, round25_10 D I K a0 a1 a2 a3 h → I [a0, a1, a2, a3] h) → I vs h
def round25_16 (D : Orc) (I : List Value → H → Prop) (K : Kl) (a0 a1 a2 a3 : Value) (h28 : H) : Prop :=
intK IntKind.u64 a2 (fun x29 => intK IntKind.i64 a3 (fun x30 => cond (decide (x30 < (9 : Int))) (
(10 : Int) ≠ 0 ∧ one (Value.int IntKind.u8 (IntKind.wrap IntKind.u8 (IntKind.wrap IntKind.u64 ((48 : Int) + (Int.tmod x29 (10 : Int)))))) = true ∧ 0 < 1 ∧ newSl h28 1 [(Value.int IntKind.u8 (IntKind.wrap IntKind.u8 (IntKind.wrap IntKind.u64 ((48 : Int) + (Int.tmod x29 (10 : Int))))))] (fun s31 h32 => slenW s31 (fun n33 => srcW h32 1 s31 (n33) (fun w34 => apW h32 1 1 [(Value.int IntKind.u8 (0 : Int))] a0 (n33) w34 (fun s35 h36 => (10 : Int) ≠ 0 ∧ I [s35, a1, (Value.int IntKind.u64 (IntKind.wrap IntKind.u64 (Int.tdiv x29 (10 : Int)))), (Value.int IntKind.i64 (IntKind.wrap IntKind.i64 (x30 + (1 : Int))))] h36))))) (
K (X.e 4) [a0, a1] h28)))
def loop25_16 (D : Orc) (vs : List Value) (h : H) (K : Kl) : Prop := ∀ I : List Value → H → Prop, (∀ a0 a1 a2 a3 h, round25_16 D I K a0 a1 a2 a3 h → I [a0, a1, a2, a3] h) → I vs h
def round25_6 (D : Orc) (I : List Value → H → Prop) (K : Kl) (a0 a1 : Value) (h11 : H) : Prop :=
lenW a1 (fun n12 => cond (decide ((n12 : Int) > (0 : Int))) (
lenW a1 (fun n13 => loop25_10 D [a0, a1, (Value.int IntKind.u64 (0 : Int)), (Value.int IntKind.i64 (IntKind.wrap IntKind.i64 ((n13 : Int) - (1 : Int))))] h11 (fun x22 vs23 h21 => xs x22 (strW (nth vs23 0) (fun s25 => intK IntKind.i64 (nth vs23 1) (fun x26 => K X.r [(Value.string s25), (Value.int IntKind.i64 x26)] h21))) (fun i24 => cond (Nat.beq i24 2) (
intK IntKind.u64 (nth vs23 2) (fun x27 => loop25_16 D [(nth vs23 0), (nth vs23 1), (Value.int IntKind.u64 x27), (Value.int IntKind.i64 (0 : Int))] h21 (fun x38 vs39 h37 => xs x38 (strW (nth vs39 0) (fun s41 => intK IntKind.i64 (nth vs39 1) (fun x42 => K X.r [(Value.string s41), (Value.int IntKind.i64 x42)] h37))) (fun i40 => cond (Nat.beq i40 4) (
D 29 [(nth vs39 1)] h37 (fun v43 h44 => ∃ v45 : Value, v43 = v45 ∧ I [(nth vs39 0), v45] h44) (fun c h => K (X.p c) [] h)) (False)) (fun c => (fun c h => K (X.p c) [] h) c h37)))) (False)) (fun c => (fun c h => K (X.p c) [] h) c h21)))) (
K (X.e 0) [a0] h11))
def loop25_6 (D : Orc) (vs : List Value) (h : H) (K : Kl) : Prop := ∀ I : List Value → H → Prop, (∀ a0 a1 h, round25_6 D I K a0 a1 h → I [a0, a1] h) → I vs h
def j25__24 (D : Orc) (k : Kv) (kp : Kp) (a0 : Value) (h58 : H) : Prop :=
strW a0 (fun s59 => k (Value.tuple #[(Value.string s59), (Value.int IntKind.i64 (0 : Int))]) h58)
def L25 (D : Orc) : Lor := fun b vs h K => match firstId b with | some i => cond (Nat.beq i 6) (loop25_6 D vs h K) (cond (Nat.beq i 10) (loop25_10 D vs h K) (cond (Nat.beq i 16) (loop25_16 D vs h K) (False))) | none => False
/-- lodestone/nat.Text -/
def F25 (D : Orc) (a0 : Value) (h : H) (k : Kv) (kp : Kp) : Prop :=
D 11 [a0] h (fun v0 h1 => ∃ t2 : Bool, v0 = (Value.bool t2) ∧ cond (!t2) (
k (Value.tuple #[(Value.string (ByteArray.mk #[])), (Value.int IntKind.i64 (10 : Int))]) h1) (
lenW a0 (fun n3 => mkSliceW h1 4 [(Value.int IntKind.u32 (0 : Int))] (n3 : Int) (n3 : Int) (fun s4 h5 => slenW a0 (fun n6 => slenW s4 (fun n7 => srcW h5 1 a0 (min (n6) (n7)) (fun w8 => cpW h5 s4 (n6) w8 (fun v9 h10 => loop25_6 D [(Value.slice none 0 0), s4] h10 (fun x47 vs48 h46 => xs x47 (strW (nth vs48 0) (fun s50 => intK IntKind.i64 (nth vs48 1) (fun x51 => k (Value.tuple #[(Value.string s50), (Value.int IntKind.i64 x51)]) h46))) (fun i49 => cond (Nat.beq i49 0) (
D 35 [(nth vs48 0)] h46 (fun v52 h53 => v52 = (Value.tuple #[]) ∧ bsW h53 (nth vs48 0) (fun s54 => D 36 [(Value.string s54), (Value.string (ByteArray.mk #[48]))] h53 (fun v55 h56 => ∃ s57 : ByteArray, v55 = (Value.string s57) ∧ cond (s57.toList == (ByteArray.mk #[]).toList) (
j25__24 D k kp (Value.string (ByteArray.mk #[48])) h56) (
j25__24 D k kp (Value.string s57) h56)) kp)) kp) (False)) (fun c => kp c h46)))))))))) kp
def Cl25 (D : Orc) : Prop := ∀ a0 h k kp, F25 D a0 h k kp → D 25 [a0] h k kp
theorem tieR25_6 (D : Orc) (I : List Value → H → Prop) (K : Kl) (a0 a1 : Value) (h : H) : round25_6 D I K a0 a1 h = round Tryd.prog D (L25 D) lv25 (nthC (allLoops (bodyOf Tryd.f25)) 0) I K [a0, a1] h := by kernel_rfl
theorem tieR25_10 (D : Orc) (I : List Value → H → Prop) (K : Kl) (a0 a1 a2 a3 : Value) (h : H) : round25_10 D I K a0 a1 a2 a3 h = round Tryd.prog D (L25 D) lv25 (nthC (allLoops (bodyOf Tryd.f25)) 1) I K [a0, a1, a2, a3] h := by kernel_rfl
theorem tieR25_16 (D : Orc) (I : List Value → H → Prop) (K : Kl) (a0 a1 a2 a3 : Value) (h : H) : round25_16 D I K a0 a1 a2 a3 h = round Tryd.prog D (L25 D) lv25 (nthC (allLoops (bodyOf Tryd.f25)) 2) I K [a0, a1, a2, a3] h := by kernel_rfl
theorem tieF25 (D : Orc) (a0 : Value) (h : H) (k : Kv) (kp : Kp) : F25 D a0 h k kp = bodyW Tryd.prog D (L25 D) lv25 Tryd.f25 [a0] h k kp := by kernel_rfl
theorem lfp25 : Lfps Tryd.prog (CS Tryd.prog) (L25 (CS Tryd.prog)) lv25 (allLoops (bodyOf Tryd.f25)) := by
  have e : (allLoops (bodyOf Tryd.f25)) = [nthC (allLoops (bodyOf Tryd.f25)) 0, nthC (allLoops (bodyOf Tryd.f25)) 1, nthC (allLoops (bodyOf Tryd.f25)) 2] := by kernel_rfl
  rw [e]
  exact ⟨(fun vs h K hk I H => hk I (fun a0 a1 h hr => H _ _ ((tieR25_6 (CS Tryd.prog) I K a0 a1 h) ▸ hr))), (fun vs h K hk I H => hk I (fun a0 a1 a2 a3 h hr => H _ _ ((tieR25_10 (CS Tryd.prog) I K a0 a1 a2 a3 h) ▸ hr))), (fun vs h K hk I H => hk I (fun a0 a1 a2 a3 h hr => H _ _ ((tieR25_16 (CS Tryd.prog) I K a0 a1 a2 a3 h) ▸ hr))), trivial⟩
theorem cl25 : Cl25 (CS Tryd.prog) := fun a0 h k kp hk =>
  fn_sound wide (fn := Tryd.f25) (by kernel_rfl) (by kernel_rfl) (by kernel_rfl) lfp25 (by rw [tieF25] at hk; exact hk)
def lv26 : Lv := Lv.mk 53 [.raw] (fun i => cond (Nat.beq i 7) ([(4, .raw), (5, .str)]) (cond (Nat.beq i 10) ([(4, .raw), (5, .str), (6, .int IntKind.u64), (7, .int IntKind.i64)]) ([]))) (fun i => cond (Nat.beq i 7) ([(0, [(5, .str)])]) (cond (Nat.beq i 10) ([(2, [(4, .raw), (5, .str), (6, .int IntKind.u64)])]) ([]))) [(2, .str), (3, .int IntKind.i64)] (fun i => none)
def round26_10 (D : Orc) (I : List Value → H → Prop) (K : Kl) (a0 a1 a2 a3 : Value) (h14 : H) : Prop :=
strW a1 (fun s15 => intK IntKind.u64 a2 (fun x16 => intK IntKind.i64 a3 (fun x17 => cond (decide (x17 ≥ (0 : Int))) (
0 ≤ (32 : Int) ∧ slAtW a0 x17 1 (fun a18 => ∃ x19 : Int, rd h14 a18 = some (Value.int IntKind.u32 x19) ∧ (10 : Int) ≠ 0 ∧ slAtW a0 x17 1 (fun a20 => one (Value.int IntKind.u32 (IntKind.wrap IntKind.u32 (IntKind.wrap IntKind.u64 (Int.tdiv (IntKind.wrap IntKind.u64 ((IntKind.wrap IntKind.u64 (x16 * 2 ^ (min (Int.toNat (32 : Int)) (IntKind.bits IntKind.u64)))) + (IntKind.wrap IntKind.u64 x19))) (10 : Int))))) = true ∧ 1 = 1 ∧ ∃ h21, wr1 h14 a20 (Value.int IntKind.u32 (IntKind.wrap IntKind.u32 (IntKind.wrap IntKind.u64 (Int.tdiv (IntKind.wrap IntKind.u64 ((IntKind.wrap IntKind.u64 (x16 * 2 ^ (min (Int.toNat (32 : Int)) (IntKind.bits IntKind.u64)))) + (IntKind.wrap IntKind.u64 x19))) (10 : Int))))) = some h21 ∧ (10 : Int) ≠ 0 ∧ I [a0, (Value.string s15), (Value.int IntKind.u64 (Int.tmod (IntKind.wrap IntKind.u64 ((IntKind.wrap IntKind.u64 (x16 * 2 ^ (min (Int.toNat (32 : Int)) (IntKind.bits IntKind.u64)))) + (IntKind.wrap IntKind.u64 x19))) (10 : Int))), (Value.int IntKind.i64 (IntKind.wrap IntKind.i64 (x17 - (1 : Int))))] h21))) (
K (X.e 2) [a0, (Value.string s15), (Value.int IntKind.u64 x16)] h14))))
def loop26_10 (D : Orc) (vs : List Value) (h : H) (K : Kl) : Prop := ∀ I : List Value → H → Prop, (∀ a0 a1 a2 a3 h, round26_10 D I K a0 a1 a2 a3 h → I [a0, a1, a2, a3] h) → I vs h
def round26_7 (D : Orc) (I : List Value → H → Prop) (K : Kl) (a0 a1 : Value) (h10 : H) : Prop :=
strW a1 (fun s11 => lenW a0 (fun n12 => cond (decide ((n12 : Int) > (0 : Int))) (
lenW a0 (fun n13 => loop26_10 D [a0, (Value.string s11), (Value.int IntKind.u64 (0 : Int)), (Value.int IntKind.i64 (IntKind.wrap IntKind.i64 ((n13 : Int) - (1 : Int))))] h10 (fun x23 vs24 h22 => xs x23 (strW (nth vs24 0) (fun s26 => intK IntKind.i64 (nth vs24 1) (fun x27 => K X.r [(Value.string s26), (Value.int IntKind.i64 x27)] h22))) (fun i25 => cond (Nat.beq i25 2) (
strW (nth vs24 1) (fun s28 => intK IntKind.u64 (nth vs24 2) (fun x29 => one (Value.int IntKind.u8 (IntKind.wrap IntKind.u8 (IntKind.wrap IntKind.u64 ((48 : Int) + x29)))) = true ∧ 0 < 1 ∧ newSl h22 1 [(Value.int IntKind.u8 (IntKind.wrap IntKind.u8 (IntKind.wrap IntKind.u64 ((48 : Int) + x29))))] (fun s30 h31 => bsW h31 s30 (fun s32 => s32.size + s28.size ≤ 9223372036854775807 ∧ D 30 [(nth vs24 0)] h31 (fun v33 h34 => ∃ v35 : Value, v33 = v35 ∧ I [v35, (Value.string (s32 ++ s28))] h34) (fun c h => K (X.p c) [] h)))))) (False)) (fun c => (fun c h => K (X.p c) [] h) c h22)))) (
K (X.e 0) [(Value.string s11)] h10)))
def loop26_7 (D : Orc) (vs : List Value) (h : H) (K : Kl) : Prop := ∀ I : List Value → H → Prop, (∀ a0 a1 h, round26_7 D I K a0 a1 h → I [a0, a1] h) → I vs h
def L26 (D : Orc) : Lor := fun b vs h K => match firstId b with | some i => cond (Nat.beq i 7) (loop26_7 D vs h K) (cond (Nat.beq i 10) (loop26_10 D vs h K) (False)) | none => False
/-- lodestone/lodestoneref01.Text -/
def F26 (D : Orc) (a0 : Value) (h : H) (k : Kv) (kp : Kp) : Prop :=
D 12 [a0] h (fun v0 h1 => ∃ t2 : Bool, v0 = (Value.bool t2) ∧ cond (!t2) (
k (Value.tuple #[(Value.string (ByteArray.mk #[])), (Value.int IntKind.i64 (10 : Int))]) h1) (
lenW a0 (fun n3 => cond ((n3 : Int) == (0 : Int)) (
k (Value.tuple #[(Value.string (ByteArray.mk #[48])), (Value.int IntKind.i64 (0 : Int))]) h1) (
newSl h1 0 [] (fun s4 h5 => slenW a0 (fun n6 => srcW h5 1 a0 (n6) (fun w7 => apW h5 1 4 [(Value.int IntKind.u32 (0 : Int))] s4 (n6) w7 (fun s8 h9 => loop26_7 D [s8, (Value.string (ByteArray.mk #[]))] h9 (fun x37 vs38 h36 => xs x37 (strW (nth vs38 0) (fun s40 => intK IntKind.i64 (nth vs38 1) (fun x41 => k (Value.tuple #[(Value.string s40), (Value.int IntKind.i64 x41)]) h36))) (fun i39 => cond (Nat.beq i39 0) (
strW (nth vs38 0) (fun s42 => k (Value.tuple #[(Value.string s42), (Value.int IntKind.i64 (0 : Int))]) h36)) (False)) (fun c => kp c h36)))))))))) kp
def Cl26 (D : Orc) : Prop := ∀ a0 h k kp, F26 D a0 h k kp → D 26 [a0] h k kp
theorem tieR26_7 (D : Orc) (I : List Value → H → Prop) (K : Kl) (a0 a1 : Value) (h : H) : round26_7 D I K a0 a1 h = round Tryd.prog D (L26 D) lv26 (nthC (allLoops (bodyOf Tryd.f26)) 0) I K [a0, a1] h := by kernel_rfl
theorem tieR26_10 (D : Orc) (I : List Value → H → Prop) (K : Kl) (a0 a1 a2 a3 : Value) (h : H) : round26_10 D I K a0 a1 a2 a3 h = round Tryd.prog D (L26 D) lv26 (nthC (allLoops (bodyOf Tryd.f26)) 1) I K [a0, a1, a2, a3] h := by kernel_rfl
theorem tieF26 (D : Orc) (a0 : Value) (h : H) (k : Kv) (kp : Kp) : F26 D a0 h k kp = bodyW Tryd.prog D (L26 D) lv26 Tryd.f26 [a0] h k kp := by kernel_rfl
theorem lfp26 : Lfps Tryd.prog (CS Tryd.prog) (L26 (CS Tryd.prog)) lv26 (allLoops (bodyOf Tryd.f26)) := by
  have e : (allLoops (bodyOf Tryd.f26)) = [nthC (allLoops (bodyOf Tryd.f26)) 0, nthC (allLoops (bodyOf Tryd.f26)) 1] := by kernel_rfl
  rw [e]
  exact ⟨(fun vs h K hk I H => hk I (fun a0 a1 h hr => H _ _ ((tieR26_7 (CS Tryd.prog) I K a0 a1 h) ▸ hr))), (fun vs h K hk I H => hk I (fun a0 a1 a2 a3 h hr => H _ _ ((tieR26_10 (CS Tryd.prog) I K a0 a1 a2 a3 h) ▸ hr))), trivial⟩
theorem cl26 : Cl26 (CS Tryd.prog) := fun a0 h k kp hk =>
  fn_sound wide (fn := Tryd.f26) (by kernel_rfl) (by kernel_rfl) (by kernel_rfl) lfp26 (by rw [tieF26] at hk; exact hk)
def lv27 : Lv := Lv.mk 67 [.str] (fun i => cond (Nat.beq i 5) ([(0, .str), (4, .raw), (5, .int IntKind.i64)]) (cond (Nat.beq i 9) ([(0, .str), (4, .raw), (5, .int IntKind.i64), (6, .int IntKind.u64), (36, .raw), (37, .int IntKind.i64), (38, .int IntKind.i64)]) ([]))) (fun i => cond (Nat.beq i 5) ([(0, [(4, .raw)])]) (cond (Nat.beq i 9) ([(2, [(0, .str), (4, .raw), (5, .int IntKind.i64), (6, .int IntKind.u64)])]) ([]))) [(2, .raw), (3, .int IntKind.i64)] (fun i => cond (Nat.beq i 2) (some [(0, .str), (24, .bool)]) (cond (Nat.beq i 17) (some [(0, .str), (4, .raw), (5, .int IntKind.i64)]) (none)))
def round27_9 (D : Orc) (I : List Value → H → Prop) (K : Kl) (a0 a1 a2 a3 a4 a5 a6 : Value) (h13 : H) : Prop :=
strW a0 (fun s14 => intK IntKind.i64 a2 (fun x15 => intK IntKind.u64 a3 (fun x16 => intK IntKind.i64 a5 (fun x17 => intK IntKind.i64 a6 (fun x18 => cond (decide (x18 < x17)) (
slAtW a4 x18 1 (fun a19 => ∃ x20 : Int, rd h13 a19 = some (Value.int IntKind.u32 x20) ∧ slAtW a1 x18 1 (fun a21 => one (Value.int IntKind.u32 (IntKind.wrap IntKind.u32 (IntKind.wrap IntKind.u64 (x16 + (IntKind.wrap IntKind.u64 ((10 : Int) * (IntKind.wrap IntKind.u64 x20))))))) = true ∧ 1 = 1 ∧ ∃ h22, wr1 h13 a21 (Value.int IntKind.u32 (IntKind.wrap IntKind.u32 (IntKind.wrap IntKind.u64 (x16 + (IntKind.wrap IntKind.u64 ((10 : Int) * (IntKind.wrap IntKind.u64 x20))))))) = some h22 ∧ 0 ≤ (32 : Int) ∧ I [(Value.string s14), a1, (Value.int IntKind.i64 x15), (Value.int IntKind.u64 (Int.fdiv (IntKind.wrap IntKind.u64 (x16 + (IntKind.wrap IntKind.u64 ((10 : Int) * (IntKind.wrap IntKind.u64 x20))))) (2 ^ (min (Int.toNat (32 : Int)) (IntKind.bits IntKind.u64))))), a4, (Value.int IntKind.i64 x17), (Value.int IntKind.i64 (IntKind.wrap IntKind.i64 (x18 + (1 : Int))))] h22))) (
K (X.e 2) [(Value.string s14), a1, (Value.int IntKind.i64 x15), (Value.int IntKind.u64 x16)] h13))))))
def loop27_9 (D : Orc) (vs : List Value) (h : H) (K : Kl) : Prop := ∀ I : List Value → H → Prop, (∀ a0 a1 a2 a3 a4 a5 a6 h, round27_9 D I K a0 a1 a2 a3 a4 a5 a6 h → I [a0, a1, a2, a3, a4, a5, a6] h) → I vs h
def j27_5_17 (D : Orc) (I : List Value → H → Prop) (K : Kl) (a0 a1 a2 : Value) (h37 : H) : Prop :=
strW a0 (fun s38 => intK IntKind.i64 a2 (fun x39 => lenW a1 (fun n40 => cond (decide ((n40 : Int) > (64 : Int))) (
K X.r [(Value.slice none 0 0), (Value.int IntKind.i64 (2 : Int))] h37) (
I [(Value.string s38), a1, (Value.int IntKind.i64 (IntKind.wrap IntKind.i64 (x39 + (1 : Int))))] h37))))
def round27_5 (D : Orc) (I : List Value → H → Prop) (K : Kl) (a0 a1 a2 : Value) (h8 : H) : Prop :=
strW a0 (fun s9 => intK IntKind.i64 a2 (fun x10 => cond (decide (x10 < (s9.size : Int))) (
strAtW s9 x10 (fun x11 => lenW a1 (fun n12 => loop27_9 D [(Value.string s9), a1, (Value.int IntKind.i64 x10), (Value.int IntKind.u64 (IntKind.wrap IntKind.u64 (IntKind.wrap IntKind.u8 (x11 - (48 : Int))))), a1, (Value.int IntKind.i64 (n12 : Int)), (Value.int IntKind.i64 (0 : Int))] h8 (fun x24 vs25 h23 => xs x24 (intK IntKind.i64 (nth vs25 1) (fun x27 => K X.r [(nth vs25 0), (Value.int IntKind.i64 x27)] h23)) (fun i26 => cond (Nat.beq i26 2) (
strW (nth vs25 0) (fun s28 => intK IntKind.i64 (nth vs25 2) (fun x29 => intK IntKind.u64 (nth vs25 3) (fun x30 => cond (decide (x30 > (0 : Int))) (
one (Value.int IntKind.u32 (IntKind.wrap IntKind.u32 x30)) = true ∧ 0 < 1 ∧ newSl h23 1 [(Value.int IntKind.u32 (IntKind.wrap IntKind.u32 x30))] (fun s31 h32 => slenW s31 (fun n33 => srcW h32 1 s31 (n33) (fun w34 => apW h32 1 4 [(Value.int IntKind.u32 (0 : Int))] (nth vs25 1) (n33) w34 (fun s35 h36 => j27_5_17 D I K (Value.string s28) s35 (Value.int IntKind.i64 x29) h36))))) (
j27_5_17 D I K (Value.string s28) (nth vs25 1) (Value.int IntKind.i64 x29) h23))))) (False)) (fun c => (fun c h => K (X.p c) [] h) c h23))))) (
K (X.e 0) [a1] h8)))
def loop27_5 (D : Orc) (vs : List Value) (h : H) (K : Kl) : Prop := ∀ I : List Value → H → Prop, (∀ a0 a1 a2 h, round27_5 D I K a0 a1 a2 h → I [a0, a1, a2] h) → I vs h
def j27__2 (D : Orc) (k : Kv) (kp : Kp) (a0 a1 : Value) (h5 : H) : Prop :=
strW a0 (fun s6 => boolW a1 (fun t7 => cond t7 (
k (Value.tuple #[(Value.slice none 0 0), (Value.int IntKind.i64 (11 : Int))]) h5) (
loop27_5 D [(Value.string s6), (Value.slice none 0 0), (Value.int IntKind.i64 (0 : Int))] h5 (fun x42 vs43 h41 => xs x42 (intK IntKind.i64 (nth vs43 1) (fun x45 => k (Value.tuple #[(nth vs43 0), (Value.int IntKind.i64 x45)]) h41)) (fun i44 => cond (Nat.beq i44 0) (
k (Value.tuple #[(nth vs43 0), (Value.int IntKind.i64 (0 : Int))]) h41) (False)) (fun c => kp c h41)))))
def L27 (D : Orc) : Lor := fun b vs h K => match firstId b with | some i => cond (Nat.beq i 5) (loop27_5 D vs h K) (cond (Nat.beq i 9) (loop27_9 D vs h K) (False)) | none => False
/-- lodestone/nat.Parse -/
def F27 (D : Orc) (a0 : Value) (h : H) (k : Kv) (kp : Kp) : Prop :=
strW a0 (fun s0 => cond (!(s0.toList == (ByteArray.mk #[]).toList)) (
strAtW s0 (0 : Int) (fun x1 => cond (x1 == (48 : Int)) (
cond (!(!(s0.toList == (ByteArray.mk #[48]).toList))) (
D 37 [(Value.string s0), (Value.string (ByteArray.mk #[48, 49, 50, 51, 52, 53, 54, 55, 56, 57]))] h (fun v2 h3 => ∃ s4 : ByteArray, v2 = (Value.string s4) ∧ j27__2 D k kp (Value.string s0) (Value.bool (!(s4.toList == (ByteArray.mk #[]).toList))) h3) kp) (
j27__2 D k kp (Value.string s0) (Value.bool true) h)) (
D 37 [(Value.string s0), (Value.string (ByteArray.mk #[48, 49, 50, 51, 52, 53, 54, 55, 56, 57]))] h (fun v46 h47 => ∃ s48 : ByteArray, v46 = (Value.string s48) ∧ j27__2 D k kp (Value.string s0) (Value.bool (!(s48.toList == (ByteArray.mk #[]).toList))) h47) kp))) (
j27__2 D k kp (Value.string s0) (Value.bool true) h))
def Cl27 (D : Orc) : Prop := ∀ a0 h k kp, F27 D a0 h k kp → D 27 [a0] h k kp
theorem tieR27_5 (D : Orc) (I : List Value → H → Prop) (K : Kl) (a0 a1 a2 : Value) (h : H) : round27_5 D I K a0 a1 a2 h = round Tryd.prog D (L27 D) lv27 (nthC (allLoops (bodyOf Tryd.f27)) 0) I K [a0, a1, a2] h := by kernel_rfl
theorem tieR27_9 (D : Orc) (I : List Value → H → Prop) (K : Kl) (a0 a1 a2 a3 a4 a5 a6 : Value) (h : H) : round27_9 D I K a0 a1 a2 a3 a4 a5 a6 h = round Tryd.prog D (L27 D) lv27 (nthC (allLoops (bodyOf Tryd.f27)) 1) I K [a0, a1, a2, a3, a4, a5, a6] h := by kernel_rfl
theorem tieF27 (D : Orc) (a0 : Value) (h : H) (k : Kv) (kp : Kp) : F27 D a0 h k kp = bodyW Tryd.prog D (L27 D) lv27 Tryd.f27 [a0] h k kp := by kernel_rfl
theorem lfp27 : Lfps Tryd.prog (CS Tryd.prog) (L27 (CS Tryd.prog)) lv27 (allLoops (bodyOf Tryd.f27)) := by
  have e : (allLoops (bodyOf Tryd.f27)) = [nthC (allLoops (bodyOf Tryd.f27)) 0, nthC (allLoops (bodyOf Tryd.f27)) 1] := by kernel_rfl
  rw [e]
  exact ⟨(fun vs h K hk I H => hk I (fun a0 a1 a2 h hr => H _ _ ((tieR27_5 (CS Tryd.prog) I K a0 a1 a2 h) ▸ hr))), (fun vs h K hk I H => hk I (fun a0 a1 a2 a3 a4 a5 a6 h hr => H _ _ ((tieR27_9 (CS Tryd.prog) I K a0 a1 a2 a3 a4 a5 a6 h) ▸ hr))), trivial⟩
theorem cl27 : Cl27 (CS Tryd.prog) := fun a0 h k kp hk =>
  fn_sound wide (fn := Tryd.f27) (by kernel_rfl) (by kernel_rfl) (by kernel_rfl) lfp27 (by rw [tieF27] at hk; exact hk)
def lv28 : Lv := Lv.mk 82 [.str] (fun i => cond (Nat.beq i 4) ([(0, .str), (4, .int IntKind.i64)]) (cond (Nat.beq i 10) ([(0, .str), (5, .raw), (6, .int IntKind.i64)]) (cond (Nat.beq i 14) ([(0, .str), (5, .raw), (6, .int IntKind.i64), (7, .int IntKind.u64), (8, .int IntKind.i64)]) ([])))) (fun i => cond (Nat.beq i 4) ([(0, [(0, .str)])]) (cond (Nat.beq i 10) ([(2, [(5, .raw)])]) (cond (Nat.beq i 14) ([(4, [(0, .str), (5, .raw), (6, .int IntKind.i64), (7, .int IntKind.u64)])]) ([])))) [(2, .raw), (3, .int IntKind.i64)] (fun i => cond (Nat.beq i 2) (some [(0, .str), (21, .bool)]) (cond (Nat.beq i 7) (some [(0, .str), (4, .int IntKind.i64), (37, .bool)]) (cond (Nat.beq i 21) (some [(0, .str), (5, .raw), (6, .int IntKind.i64)]) (none))))
def j28_4_7 (D : Orc) (I : List Value → H → Prop) (K : Kl) (a0 a1 a2 : Value) (h10 : H) : Prop :=
strW a0 (fun s11 => intK IntKind.i64 a1 (fun x12 => boolW a2 (fun t13 => cond t13 (
K X.r [(Value.slice none 0 0), (Value.int IntKind.i64 (11 : Int))] h10) (
I [(Value.string s11), (Value.int IntKind.i64 (IntKind.wrap IntKind.i64 (x12 + (1 : Int))))] h10))))
def round28_4 (D : Orc) (I : List Value → H → Prop) (K : Kl) (a0 a1 : Value) (h5 : H) : Prop :=
strW a0 (fun s6 => intK IntKind.i64 a1 (fun x7 => cond (decide (x7 < (s6.size : Int))) (
strAtW s6 x7 (fun x8 => cond (!(decide (x8 < (48 : Int)))) (
strAtW s6 x7 (fun x9 => j28_4_7 D I K (Value.string s6) (Value.int IntKind.i64 x7) (Value.bool (decide (x9 > (57 : Int)))) h5)) (
j28_4_7 D I K (Value.string s6) (Value.int IntKind.i64 x7) (Value.bool true) h5))) (
K (X.e 0) [(Value.string s6)] h5)))
def loop28_4 (D : Orc) (vs : List Value) (h : H) (K : Kl) : Prop := ∀ I : List Value → H → Prop, (∀ a0 a1 h, round28_4 D I K a0 a1 h → I [a0, a1] h) → I vs h
def round28_14 (D : Orc) (I : List Value → H → Prop) (K : Kl) (a0 a1 a2 a3 a4 : Value) (h26 : H) : Prop :=
strW a0 (fun s27 => intK IntKind.i64 a2 (fun x28 => intK IntKind.u64 a3 (fun x29 => intK IntKind.i64 a4 (fun x30 => lenW a1 (fun n31 => cond (decide (x30 < (n31 : Int))) (
slAtW a1 x30 1 (fun a32 => ∃ x33 : Int, rd h26 a32 = some (Value.int IntKind.u32 x33) ∧ slAtW a1 x30 1 (fun a34 => one (Value.int IntKind.u32 (IntKind.wrap IntKind.u32 (IntKind.wrap IntKind.u64 (x29 + (IntKind.wrap IntKind.u64 ((10 : Int) * (IntKind.wrap IntKind.u64 x33))))))) = true ∧ 1 = 1 ∧ ∃ h35, wr1 h26 a34 (Value.int IntKind.u32 (IntKind.wrap IntKind.u32 (IntKind.wrap IntKind.u64 (x29 + (IntKind.wrap IntKind.u64 ((10 : Int) * (IntKind.wrap IntKind.u64 x33))))))) = some h35 ∧ 0 ≤ (32 : Int) ∧ I [(Value.string s27), a1, (Value.int IntKind.i64 x28), (Value.int IntKind.u64 (Int.fdiv (IntKind.wrap IntKind.u64 (x29 + (IntKind.wrap IntKind.u64 ((10 : Int) * (IntKind.wrap IntKind.u64 x33))))) (2 ^ (min (Int.toNat (32 : Int)) (IntKind.bits IntKind.u64))))), (Value.int IntKind.i64 (IntKind.wrap IntKind.i64 (x30 + (1 : Int))))] h35))) (
K (X.e 4) [(Value.string s27), a1, (Value.int IntKind.i64 x28), (Value.int IntKind.u64 x29)] h26))))))
def loop28_14 (D : Orc) (vs : List Value) (h : H) (K : Kl) : Prop := ∀ I : List Value → H → Prop, (∀ a0 a1 a2 a3 a4 h, round28_14 D I K a0 a1 a2 a3 a4 h → I [a0, a1, a2, a3, a4] h) → I vs h
def j28_10_21 (D : Orc) (I : List Value → H → Prop) (K : Kl) (a0 a1 a2 : Value) (h50 : H) : Prop :=
strW a0 (fun s51 => intK IntKind.i64 a2 (fun x52 => lenW a1 (fun n53 => cond (decide ((n53 : Int) > (64 : Int))) (
K X.r [(Value.slice none 0 0), (Value.int IntKind.i64 (2 : Int))] h50) (
I [(Value.string s51), a1, (Value.int IntKind.i64 (IntKind.wrap IntKind.i64 (x52 + (1 : Int))))] h50))))
def round28_10 (D : Orc) (I : List Value → H → Prop) (K : Kl) (a0 a1 a2 : Value) (h22 : H) : Prop :=
strW a0 (fun s23 => intK IntKind.i64 a2 (fun x24 => cond (decide (x24 < (s23.size : Int))) (
strAtW s23 x24 (fun x25 => loop28_14 D [(Value.string s23), a1, (Value.int IntKind.i64 x24), (Value.int IntKind.u64 (IntKind.wrap IntKind.u64 (IntKind.wrap IntKind.u8 (x25 - (48 : Int))))), (Value.int IntKind.i64 (0 : Int))] h22 (fun x37 vs38 h36 => xs x37 (intK IntKind.i64 (nth vs38 1) (fun x40 => K X.r [(nth vs38 0), (Value.int IntKind.i64 x40)] h36)) (fun i39 => cond (Nat.beq i39 4) (
strW (nth vs38 0) (fun s41 => intK IntKind.i64 (nth vs38 2) (fun x42 => intK IntKind.u64 (nth vs38 3) (fun x43 => cond (decide (x43 > (0 : Int))) (
one (Value.int IntKind.u32 (IntKind.wrap IntKind.u32 x43)) = true ∧ 0 < 1 ∧ newSl h36 1 [(Value.int IntKind.u32 (IntKind.wrap IntKind.u32 x43))] (fun s44 h45 => slenW s44 (fun n46 => srcW h45 1 s44 (n46) (fun w47 => apW h45 1 4 [(Value.int IntKind.u32 (0 : Int))] (nth vs38 1) (n46) w47 (fun s48 h49 => j28_10_21 D I K (Value.string s41) s48 (Value.int IntKind.i64 x42) h49))))) (
j28_10_21 D I K (Value.string s41) (nth vs38 1) (Value.int IntKind.i64 x42) h36))))) (False)) (fun c => (fun c h => K (X.p c) [] h) c h36)))) (
K (X.e 2) [a1] h22)))
def loop28_10 (D : Orc) (vs : List Value) (h : H) (K : Kl) : Prop := ∀ I : List Value → H → Prop, (∀ a0 a1 a2 h, round28_10 D I K a0 a1 a2 h → I [a0, a1, a2] h) → I vs h
def j28__2 (D : Orc) (k : Kv) (kp : Kp) (a0 a1 : Value) (h2 : H) : Prop :=
strW a0 (fun s3 => boolW a1 (fun t4 => cond t4 (
k (Value.tuple #[(Value.slice none 0 0), (Value.int IntKind.i64 (11 : Int))]) h2) (
loop28_4 D [(Value.string s3), (Value.int IntKind.i64 (0 : Int))] h2 (fun x15 vs16 h14 => xs x15 (intK IntKind.i64 (nth vs16 1) (fun x18 => k (Value.tuple #[(nth vs16 0), (Value.int IntKind.i64 x18)]) h14)) (fun i17 => cond (Nat.beq i17 0) (
strW (nth vs16 0) (fun s19 => newSl h14 0 [] (fun s20 h21 => loop28_10 D [(Value.string s19), s20, (Value.int IntKind.i64 (0 : Int))] h21 (fun x55 vs56 h54 => xs x55 (intK IntKind.i64 (nth vs56 1) (fun x58 => k (Value.tuple #[(nth vs56 0), (Value.int IntKind.i64 x58)]) h54)) (fun i57 => cond (Nat.beq i57 2) (
k (Value.tuple #[(nth vs56 0), (Value.int IntKind.i64 (0 : Int))]) h54) (False)) (fun c => kp c h54))))) (False)) (fun c => kp c h14)))))
def L28 (D : Orc) : Lor := fun b vs h K => match firstId b with | some i => cond (Nat.beq i 4) (loop28_4 D vs h K) (cond (Nat.beq i 10) (loop28_10 D vs h K) (cond (Nat.beq i 14) (loop28_14 D vs h K) (False))) | none => False
/-- lodestone/lodestoneref01.Parse -/
def F28 (D : Orc) (a0 : Value) (h : H) (k : Kv) (kp : Kp) : Prop :=
strW a0 (fun s0 => cond (!((s0.size : Int) == (0 : Int))) (
cond (decide ((s0.size : Int) > (1 : Int))) (
strAtW s0 (0 : Int) (fun x1 => j28__2 D k kp (Value.string s0) (Value.bool (x1 == (48 : Int))) h)) (
j28__2 D k kp (Value.string s0) (Value.bool false) h)) (
j28__2 D k kp (Value.string s0) (Value.bool true) h))
def Cl28 (D : Orc) : Prop := ∀ a0 h k kp, F28 D a0 h k kp → D 28 [a0] h k kp
theorem tieR28_4 (D : Orc) (I : List Value → H → Prop) (K : Kl) (a0 a1 : Value) (h : H) : round28_4 D I K a0 a1 h = round Tryd.prog D (L28 D) lv28 (nthC (allLoops (bodyOf Tryd.f28)) 0) I K [a0, a1] h := by kernel_rfl
theorem tieR28_10 (D : Orc) (I : List Value → H → Prop) (K : Kl) (a0 a1 a2 : Value) (h : H) : round28_10 D I K a0 a1 a2 h = round Tryd.prog D (L28 D) lv28 (nthC (allLoops (bodyOf Tryd.f28)) 1) I K [a0, a1, a2] h := by kernel_rfl
theorem tieR28_14 (D : Orc) (I : List Value → H → Prop) (K : Kl) (a0 a1 a2 a3 a4 : Value) (h : H) : round28_14 D I K a0 a1 a2 a3 a4 h = round Tryd.prog D (L28 D) lv28 (nthC (allLoops (bodyOf Tryd.f28)) 2) I K [a0, a1, a2, a3, a4] h := by kernel_rfl
theorem tieF28 (D : Orc) (a0 : Value) (h : H) (k : Kv) (kp : Kp) : F28 D a0 h k kp = bodyW Tryd.prog D (L28 D) lv28 Tryd.f28 [a0] h k kp := by kernel_rfl
theorem lfp28 : Lfps Tryd.prog (CS Tryd.prog) (L28 (CS Tryd.prog)) lv28 (allLoops (bodyOf Tryd.f28)) := by
  have e : (allLoops (bodyOf Tryd.f28)) = [nthC (allLoops (bodyOf Tryd.f28)) 0, nthC (allLoops (bodyOf Tryd.f28)) 1, nthC (allLoops (bodyOf Tryd.f28)) 2] := by kernel_rfl
  rw [e]
  exact ⟨(fun vs h K hk I H => hk I (fun a0 a1 h hr => H _ _ ((tieR28_4 (CS Tryd.prog) I K a0 a1 h) ▸ hr))), (fun vs h K hk I H => hk I (fun a0 a1 a2 h hr => H _ _ ((tieR28_10 (CS Tryd.prog) I K a0 a1 a2 h) ▸ hr))), (fun vs h K hk I H => hk I (fun a0 a1 a2 a3 a4 h hr => H _ _ ((tieR28_14 (CS Tryd.prog) I K a0 a1 a2 a3 a4 h) ▸ hr))), trivial⟩
theorem cl28 : Cl28 (CS Tryd.prog) := fun a0 h k kp hk =>
  fn_sound wide (fn := Tryd.f28) (by kernel_rfl) (by kernel_rfl) (by kernel_rfl) lfp28 (by rw [tieF28] at hk; exact hk)
def lv29 : Lv := Lv.mk 21 [.raw] (fun i => cond (Nat.beq i 2) ([(0, .raw), (3, .int IntKind.i64)]) ([])) (fun i => cond (Nat.beq i 2) ([(0, [(0, .raw), (3, .int IntKind.i64)])]) ([])) [(2, .raw)] (fun i => none)
def round29_2 (D : Orc) (I : List Value → H → Prop) (K : Kl) (a0 a1 : Value) (h1 : H) : Prop :=
intK IntKind.i64 a1 (fun x2 => cond (decide (x2 > (0 : Int))) (
slAtW a0 (IntKind.wrap IntKind.i64 (x2 - (1 : Int))) 1 (fun a3 => ∃ x4 : Int, rd h1 a3 = some (Value.int IntKind.u32 x4) ∧ cond (x4 == (0 : Int)) (
I [a0, (Value.int IntKind.i64 (IntKind.wrap IntKind.i64 (x2 - (1 : Int))))] h1) (
K (X.e 0) [a0, (Value.int IntKind.i64 x2)] h1))) (
K (X.e 0) [a0, (Value.int IntKind.i64 x2)] h1))
def loop29_2 (D : Orc) (vs : List Value) (h : H) (K : Kl) : Prop := ∀ I : List Value → H → Prop, (∀ a0 a1 h, round29_2 D I K a0 a1 h → I [a0, a1] h) → I vs h
def L29 (D : Orc) : Lor := fun b vs h K => match firstId b with | some i => cond (Nat.beq i 2) (loop29_2 D vs h K) (False) | none => False
/-- lodestone/nat.trimmed -/
def F29 (D : Orc) (a0 : Value) (h : H) (k : Kv) (kp : Kp) : Prop :=
lenW a0 (fun n0 => loop29_2 D [a0, (Value.int IntKind.i64 (n0 : Int))] h (fun x6 vs7 h5 => xs x6 (k (nth vs7 0) h5) (fun i8 => cond (Nat.beq i8 0) (
intK IntKind.i64 (nth vs7 1) (fun x9 => slCutW (nth vs7 0) none (some x9) none 1 (fun s10 => k s10 h5))) (False)) (fun c => kp c h5)))
def Cl29 (D : Orc) : Prop := ∀ a0 h k kp, F29 D a0 h k kp → D 29 [a0] h k kp
theorem tieR29_2 (D : Orc) (I : List Value → H → Prop) (K : Kl) (a0 a1 : Value) (h : H) : round29_2 D I K a0 a1 h = round Tryd.prog D (L29 D) lv29 (nthC (allLoops (bodyOf Tryd.f29)) 0) I K [a0, a1] h := by kernel_rfl
theorem tieF29 (D : Orc) (a0 : Value) (h : H) (k : Kv) (kp : Kp) : F29 D a0 h k kp = bodyW Tryd.prog D (L29 D) lv29 Tryd.f29 [a0] h k kp := by kernel_rfl
theorem lfp29 : Lfps Tryd.prog (CS Tryd.prog) (L29 (CS Tryd.prog)) lv29 (allLoops (bodyOf Tryd.f29)) := by
  have e : (allLoops (bodyOf Tryd.f29)) = [nthC (allLoops (bodyOf Tryd.f29)) 0] := by kernel_rfl
  rw [e]
  exact ⟨(fun vs h K hk I H => hk I (fun a0 a1 h hr => H _ _ ((tieR29_2 (CS Tryd.prog) I K a0 a1 h) ▸ hr))), trivial⟩
theorem cl29 : Cl29 (CS Tryd.prog) := fun a0 h k kp hk =>
  fn_sound wide (fn := Tryd.f29) (by kernel_rfl) (by kernel_rfl) (by kernel_rfl) lfp29 (by rw [tieF29] at hk; exact hk)
def lv30 : Lv := Lv.mk 21 [.raw] (fun i => cond (Nat.beq i 1) ([(0, .raw)]) ([])) (fun i => cond (Nat.beq i 1) ([(0, [(0, .raw)])]) ([])) [(2, .raw)] (fun i => none)
def round30_1 (D : Orc) (I : List Value → H → Prop) (K : Kl) (a0 : Value) (h0 : H) : Prop :=
lenW a0 (fun n1 => cond (decide ((n1 : Int) > (0 : Int))) (
lenW a0 (fun n2 => slAtW a0 (IntKind.wrap IntKind.i64 ((n2 : Int) - (1 : Int))) 1 (fun a3 => ∃ x4 : Int, rd h0 a3 = some (Value.int IntKind.u32 x4) ∧ cond (x4 == (0 : Int)) (
lenW a0 (fun n5 => slCutW a0 none (some (IntKind.wrap IntKind.i64 ((n5 : Int) - (1 : Int)))) none 1 (fun s6 => I [s6] h0))) (
K (X.e 0) [a0] h0)))) (
K (X.e 0) [a0] h0))
def loop30_1 (D : Orc) (vs : List Value) (h : H) (K : Kl) : Prop := ∀ I : List Value → H → Prop, (∀ a0 h, round30_1 D I K a0 h → I [a0] h) → I vs h
def L30 (D : Orc) : Lor := fun b vs h K => match firstId b with | some i => cond (Nat.beq i 1) (loop30_1 D vs h K) (False) | none => False
/-- lodestone/lodestoneref01.trim -/
def F30 (D : Orc) (a0 : Value) (h : H) (k : Kv) (kp : Kp) : Prop :=
loop30_1 D [a0] h (fun x8 vs9 h7 => xs x8 (k (nth vs9 0) h7) (fun i10 => cond (Nat.beq i10 0) (
k (nth vs9 0) h7) (False)) (fun c => kp c h7))
def Cl30 (D : Orc) : Prop := ∀ a0 h k kp, F30 D a0 h k kp → D 30 [a0] h k kp
theorem tieR30_1 (D : Orc) (I : List Value → H → Prop) (K : Kl) (a0 : Value) (h : H) : round30_1 D I K a0 h = round Tryd.prog D (L30 D) lv30 (nthC (allLoops (bodyOf Tryd.f30)) 0) I K [a0] h := by kernel_rfl
theorem tieF30 (D : Orc) (a0 : Value) (h : H) (k : Kv) (kp : Kp) : F30 D a0 h k kp = bodyW Tryd.prog D (L30 D) lv30 Tryd.f30 [a0] h k kp := by kernel_rfl
theorem lfp30 : Lfps Tryd.prog (CS Tryd.prog) (L30 (CS Tryd.prog)) lv30 (allLoops (bodyOf Tryd.f30)) := by
  have e : (allLoops (bodyOf Tryd.f30)) = [nthC (allLoops (bodyOf Tryd.f30)) 0] := by kernel_rfl
  rw [e]
  exact ⟨(fun vs h K hk I H => hk I (fun a0 h hr => H _ _ ((tieR30_1 (CS Tryd.prog) I K a0 h) ▸ hr))), trivial⟩
theorem cl30 : Cl30 (CS Tryd.prog) := fun a0 h k kp hk =>
  fn_sound wide (fn := Tryd.f30) (by kernel_rfl) (by kernel_rfl) (by kernel_rfl) lfp30 (by rw [tieF30] at hk; exact hk)
def lv31 : Lv := Lv.mk 10 [.raw] (fun i => []) (fun i => []) [(2, .raw), (3, .int IntKind.i64)] (fun i => none)
def L31 (D : Orc) : Lor := fun b vs h K => match firstId b with | some i => False | none => False
/-- lodestone/nat.fit -/
def F31 (D : Orc) (a0 : Value) (h : H) (k : Kv) (kp : Kp) : Prop :=
D 29 [a0] h (fun v0 h1 => ∃ v2 : Value, v0 = v2 ∧ lenW v2 (fun n3 => cond (decide ((n3 : Int) > (64 : Int))) (
k (Value.tuple #[(Value.slice none 0 0), (Value.int IntKind.i64 (2 : Int))]) h1) (
k (Value.tuple #[v2, (Value.int IntKind.i64 (0 : Int))]) h1))) kp
def Cl31 (D : Orc) : Prop := ∀ a0 h k kp, F31 D a0 h k kp → D 31 [a0] h k kp
theorem tieF31 (D : Orc) (a0 : Value) (h : H) (k : Kv) (kp : Kp) : F31 D a0 h k kp = bodyW Tryd.prog D (L31 D) lv31 Tryd.f31 [a0] h k kp := by kernel_rfl
theorem lfp31 : Lfps Tryd.prog (CS Tryd.prog) (L31 (CS Tryd.prog)) lv31 (allLoops (bodyOf Tryd.f31)) := by
  have e : (allLoops (bodyOf Tryd.f31)) = [] := by kernel_rfl
  rw [e]
  exact trivial
theorem cl31 : Cl31 (CS Tryd.prog) := fun a0 h k kp hk =>
  fn_sound wide (fn := Tryd.f31) (by kernel_rfl) (by kernel_rfl) (by kernel_rfl) lfp31 (by rw [tieF31] at hk; exact hk)
def lv32 : Lv := Lv.mk 10 [.raw] (fun i => []) (fun i => []) [(2, .raw), (3, .int IntKind.i64)] (fun i => none)
def L32 (D : Orc) : Lor := fun b vs h K => match firstId b with | some i => False | none => False
/-- lodestone/lodestoneref01.told -/
def F32 (D : Orc) (a0 : Value) (h : H) (k : Kv) (kp : Kp) : Prop :=
D 30 [a0] h (fun v0 h1 => ∃ v2 : Value, v0 = v2 ∧ lenW v2 (fun n3 => cond (decide ((n3 : Int) > (64 : Int))) (
k (Value.tuple #[(Value.slice none 0 0), (Value.int IntKind.i64 (2 : Int))]) h1) (
k (Value.tuple #[v2, (Value.int IntKind.i64 (0 : Int))]) h1))) kp
def Cl32 (D : Orc) : Prop := ∀ a0 h k kp, F32 D a0 h k kp → D 32 [a0] h k kp
theorem tieF32 (D : Orc) (a0 : Value) (h : H) (k : Kv) (kp : Kp) : F32 D a0 h k kp = bodyW Tryd.prog D (L32 D) lv32 Tryd.f32 [a0] h k kp := by kernel_rfl
theorem lfp32 : Lfps Tryd.prog (CS Tryd.prog) (L32 (CS Tryd.prog)) lv32 (allLoops (bodyOf Tryd.f32)) := by
  have e : (allLoops (bodyOf Tryd.f32)) = [] := by kernel_rfl
  rw [e]
  exact trivial
theorem cl32 : Cl32 (CS Tryd.prog) := fun a0 h k kp hk =>
  fn_sound wide (fn := Tryd.f32) (by kernel_rfl) (by kernel_rfl) (by kernel_rfl) lfp32 (by rw [tieF32] at hk; exact hk)
def lv33 : Lv := Lv.mk 20 [.int IntKind.i64, .int IntKind.i64] (fun i => []) (fun i => []) [(4, .int IntKind.i64)] (fun i => none)
def L33 (D : Orc) : Lor := fun b vs h K => match firstId b with | some i => False | none => False
/-- cmp.Compare[int] -/
def F33 (D : Orc) (a0 a1 : Value) (h : H) (k : Kv) (kp : Kp) : Prop :=
intK IntKind.i64 a0 (fun x0 => intK IntKind.i64 a1 (fun x1 => D 38 [(Value.int IntKind.i64 x0)] h (fun v2 h3 => ∃ t4 : Bool, v2 = (Value.bool t4) ∧ D 38 [(Value.int IntKind.i64 x1)] h3 (fun v5 h6 => ∃ t7 : Bool, v5 = (Value.bool t7) ∧ cond t4 (
cond t7 (
k (Value.int IntKind.i64 (0 : Int)) h6) (
k (Value.int IntKind.i64 (-1 : Int)) h6)) (
cond t7 (
k (Value.int IntKind.i64 (1 : Int)) h6) (
cond (decide (x0 < x1)) (
k (Value.int IntKind.i64 (-1 : Int)) h6) (
cond (decide (x0 > x1)) (
k (Value.int IntKind.i64 (1 : Int)) h6) (
k (Value.int IntKind.i64 (0 : Int)) h6))))) kp) kp))
def Cl33 (D : Orc) : Prop := ∀ a0 a1 h k kp, F33 D a0 a1 h k kp → D 33 [a0, a1] h k kp
theorem tieF33 (D : Orc) (a0 a1 : Value) (h : H) (k : Kv) (kp : Kp) : F33 D a0 a1 h k kp = bodyW Tryd.prog D (L33 D) lv33 Tryd.f33 [a0, a1] h k kp := by kernel_rfl
theorem lfp33 : Lfps Tryd.prog (CS Tryd.prog) (L33 (CS Tryd.prog)) lv33 (allLoops (bodyOf Tryd.f33)) := by
  have e : (allLoops (bodyOf Tryd.f33)) = [] := by kernel_rfl
  rw [e]
  exact trivial
theorem cl33 : Cl33 (CS Tryd.prog) := fun a0 a1 h k kp hk =>
  fn_sound wide (fn := Tryd.f33) (by kernel_rfl) (by kernel_rfl) (by kernel_rfl) lfp33 (by rw [tieF33] at hk; exact hk)
def lv34 : Lv := Lv.mk 20 [.int IntKind.u32, .int IntKind.u32] (fun i => []) (fun i => []) [(4, .int IntKind.i64)] (fun i => none)
def L34 (D : Orc) : Lor := fun b vs h K => match firstId b with | some i => False | none => False
/-- cmp.Compare[uint32] -/
def F34 (D : Orc) (a0 a1 : Value) (h : H) (k : Kv) (kp : Kp) : Prop :=
intK IntKind.u32 a0 (fun x0 => intK IntKind.u32 a1 (fun x1 => D 39 [(Value.int IntKind.u32 x0)] h (fun v2 h3 => ∃ t4 : Bool, v2 = (Value.bool t4) ∧ D 39 [(Value.int IntKind.u32 x1)] h3 (fun v5 h6 => ∃ t7 : Bool, v5 = (Value.bool t7) ∧ cond t4 (
cond t7 (
k (Value.int IntKind.i64 (0 : Int)) h6) (
k (Value.int IntKind.i64 (-1 : Int)) h6)) (
cond t7 (
k (Value.int IntKind.i64 (1 : Int)) h6) (
cond (decide (x0 < x1)) (
k (Value.int IntKind.i64 (-1 : Int)) h6) (
cond (decide (x0 > x1)) (
k (Value.int IntKind.i64 (1 : Int)) h6) (
k (Value.int IntKind.i64 (0 : Int)) h6))))) kp) kp))
def Cl34 (D : Orc) : Prop := ∀ a0 a1 h k kp, F34 D a0 a1 h k kp → D 34 [a0, a1] h k kp
theorem tieF34 (D : Orc) (a0 a1 : Value) (h : H) (k : Kv) (kp : Kp) : F34 D a0 a1 h k kp = bodyW Tryd.prog D (L34 D) lv34 Tryd.f34 [a0, a1] h k kp := by kernel_rfl
theorem lfp34 : Lfps Tryd.prog (CS Tryd.prog) (L34 (CS Tryd.prog)) lv34 (allLoops (bodyOf Tryd.f34)) := by
  have e : (allLoops (bodyOf Tryd.f34)) = [] := by kernel_rfl
  rw [e]
  exact trivial
theorem cl34 : Cl34 (CS Tryd.prog) := fun a0 a1 h k kp hk =>
  fn_sound wide (fn := Tryd.f34) (by kernel_rfl) (by kernel_rfl) (by kernel_rfl) lfp34 (by rw [tieF34] at hk; exact hk)
def lv35 : Lv := Lv.mk 28 [.raw] (fun i => cond (Nat.beq i 1) ([(0, .raw), (2, .int IntKind.i64), (3, .int IntKind.i64)]) ([])) (fun i => cond (Nat.beq i 1) ([(0, [])]) ([])) [] (fun i => none)
def round35_1 (D : Orc) (I : List Value → H → Prop) (K : Kl) (a0 a1 a2 : Value) (h1 : H) : Prop :=
intK IntKind.i64 a1 (fun x2 => intK IntKind.i64 a2 (fun x3 => cond (decide (x2 < x3)) (
slAtW a0 x3 1 (fun a4 => ∃ x5 : Int, rd h1 a4 = some (Value.int IntKind.u8 x5) ∧ slAtW a0 x2 1 (fun a6 => ∃ x7 : Int, rd h1 a6 = some (Value.int IntKind.u8 x7) ∧ slAtW a0 x2 1 (fun a8 => one (Value.int IntKind.u8 x5) = true ∧ 1 = 1 ∧ ∃ h9, wr1 h1 a8 (Value.int IntKind.u8 x5) = some h9 ∧ slAtW a0 x3 1 (fun a10 => one (Value.int IntKind.u8 x7) = true ∧ 1 = 1 ∧ ∃ h11, wr1 h9 a10 (Value.int IntKind.u8 x7) = some h11 ∧ I [a0, (Value.int IntKind.i64 (IntKind.wrap IntKind.i64 (x2 + (1 : Int)))), (Value.int IntKind.i64 (IntKind.wrap IntKind.i64 (x3 - (1 : Int))))] h11))))) (
K (X.e 0) [] h1)))
def loop35_1 (D : Orc) (vs : List Value) (h : H) (K : Kl) : Prop := ∀ I : List Value → H → Prop, (∀ a0 a1 a2 h, round35_1 D I K a0 a1 a2 h → I [a0, a1, a2] h) → I vs h
def L35 (D : Orc) : Lor := fun b vs h K => match firstId b with | some i => cond (Nat.beq i 1) (loop35_1 D vs h K) (False) | none => False
/-- slices.Reverse[[]byte,byte] -/
def F35 (D : Orc) (a0 : Value) (h : H) (k : Kv) (kp : Kp) : Prop :=
lenW a0 (fun n0 => loop35_1 D [a0, (Value.int IntKind.i64 (0 : Int)), (Value.int IntKind.i64 (IntKind.wrap IntKind.i64 ((n0 : Int) - (1 : Int))))] h (fun x13 vs14 h12 => xs x13 (k (Value.tuple #[]) h12) (fun i15 => cond (Nat.beq i15 0) (
k (Value.tuple #[]) h12) (False)) (fun c => kp c h12)))
def Cl35 (D : Orc) : Prop := ∀ a0 h k kp, F35 D a0 h k kp → D 35 [a0] h k kp
theorem tieR35_1 (D : Orc) (I : List Value → H → Prop) (K : Kl) (a0 a1 a2 : Value) (h : H) : round35_1 D I K a0 a1 a2 h = round Tryd.prog D (L35 D) lv35 (nthC (allLoops (bodyOf Tryd.f35)) 0) I K [a0, a1, a2] h := by kernel_rfl
theorem tieF35 (D : Orc) (a0 : Value) (h : H) (k : Kv) (kp : Kp) : F35 D a0 h k kp = bodyW Tryd.prog D (L35 D) lv35 Tryd.f35 [a0] h k kp := by kernel_rfl
theorem lfp35 : Lfps Tryd.prog (CS Tryd.prog) (L35 (CS Tryd.prog)) lv35 (allLoops (bodyOf Tryd.f35)) := by
  have e : (allLoops (bodyOf Tryd.f35)) = [nthC (allLoops (bodyOf Tryd.f35)) 0] := by kernel_rfl
  rw [e]
  exact ⟨(fun vs h K hk I H => hk I (fun a0 a1 a2 h hr => H _ _ ((tieR35_1 (CS Tryd.prog) I K a0 a1 a2 h) ▸ hr))), trivial⟩
theorem cl35 : Cl35 (CS Tryd.prog) := fun a0 h k kp hk =>
  fn_sound wide (fn := Tryd.f35) (by kernel_rfl) (by kernel_rfl) (by kernel_rfl) lfp35 (by rw [tieF35] at hk; exact hk)
def lv36 : Lv := Lv.mk 37 [.str, .str] (fun i => []) (fun i => []) [(4, .str)] (fun i => cond (Nat.beq i 2) (some [(0, .str), (1, .str), (12, .bool)]) (cond (Nat.beq i 4) (some [(0, .str), (1, .str), (21, .bool)]) (none)))
def j36__4 (D : Orc) (k : Kv) (kp : Kp) (a0 a1 a2 : Value) (h7 : H) : Prop :=
strW a0 (fun s8 => strW a1 (fun s9 => boolW a2 (fun t10 => cond t10 (
strAtW s9 (0 : Int) (fun x11 => D 40 [(Value.string s8), (Value.int IntKind.u8 x11)] h7 (fun v12 h13 => ∃ s14 : ByteArray, v12 = (Value.string s14) ∧ k (Value.string s14) h13) kp)) (
D 41 [(Value.string s9)] h7 (fun v15 h16 => ∃ vs17 : List Value, ∃ t18 : Bool, v15 = (Value.tuple #[(Value.agg (vs17).toArray), (Value.bool t18)]) ∧ newW h16 [(Value.bool false), (Value.bool false), (Value.bool false), (Value.bool false), (Value.bool false), (Value.bool false), (Value.bool false), (Value.bool false), (Value.bool false), (Value.bool false), (Value.bool false), (Value.bool false), (Value.bool false), (Value.bool false), (Value.bool false), (Value.bool false), (Value.bool false), (Value.bool false), (Value.bool false), (Value.bool false), (Value.bool false), (Value.bool false), (Value.bool false), (Value.bool false), (Value.bool false), (Value.bool false), (Value.bool false), (Value.bool false), (Value.bool false), (Value.bool false), (Value.bool false), (Value.bool false), (Value.bool false), (Value.bool false), (Value.bool false), (Value.bool false), (Value.bool false), (Value.bool false), (Value.bool false), (Value.bool false), (Value.bool false), (Value.bool false), (Value.bool false), (Value.bool false), (Value.bool false), (Value.bool false), (Value.bool false), (Value.bool false), (Value.bool false), (Value.bool false), (Value.bool false), (Value.bool false), (Value.bool false), (Value.bool false), (Value.bool false), (Value.bool false), (Value.bool false), (Value.bool false), (Value.bool false), (Value.bool false), (Value.bool false), (Value.bool false), (Value.bool false), (Value.bool false), (Value.bool false), (Value.bool false), (Value.bool false), (Value.bool false), (Value.bool false), (Value.bool false), (Value.bool false), (Value.bool false), (Value.bool false), (Value.bool false), (Value.bool false), (Value.bool false), (Value.bool false), (Value.bool false), (Value.bool false), (Value.bool false), (Value.bool false), (Value.bool false), (Value.bool false), (Value.bool false), (Value.bool false), (Value.bool false), (Value.bool false), (Value.bool false), (Value.bool false), (Value.bool false), (Value.bool false), (Value.bool false), (Value.bool false), (Value.bool false), (Value.bool false), (Value.bool false), (Value.bool false), (Value.bool false), (Value.bool false), (Value.bool false), (Value.bool false), (Value.bool false), (Value.bool false), (Value.bool false), (Value.bool false), (Value.bool false), (Value.bool false), (Value.bool false), (Value.bool false), (Value.bool false), (Value.bool false), (Value.bool false), (Value.bool false), (Value.bool false), (Value.bool false), (Value.bool false), (Value.bool false), (Value.bool false), (Value.bool false), (Value.bool false), (Value.bool false), (Value.bool false), (Value.bool false), (Value.bool false), (Value.bool false), (Value.bool false), (Value.bool false), (Value.bool false), (Value.bool false), (Value.bool false), (Value.bool false), (Value.bool false), (Value.bool false), (Value.bool false), (Value.bool false), (Value.bool false), (Value.bool false), (Value.bool false), (Value.bool false), (Value.bool false), (Value.bool false), (Value.bool false), (Value.bool false), (Value.bool false), (Value.bool false), (Value.bool false), (Value.bool false), (Value.bool false), (Value.bool false), (Value.bool false), (Value.bool false), (Value.bool false), (Value.bool false), (Value.bool false), (Value.bool false), (Value.bool false), (Value.bool false), (Value.bool false), (Value.bool false), (Value.bool false), (Value.bool false), (Value.bool false), (Value.bool false), (Value.bool false), (Value.bool false), (Value.bool false), (Value.bool false), (Value.bool false), (Value.bool false), (Value.bool false), (Value.bool false), (Value.bool false), (Value.bool false), (Value.bool false), (Value.bool false), (Value.bool false), (Value.bool false), (Value.bool false), (Value.bool false), (Value.bool false), (Value.bool false), (Value.bool false), (Value.bool false), (Value.bool false), (Value.bool false), (Value.bool false), (Value.bool false), (Value.bool false), (Value.bool false), (Value.bool false), (Value.bool false), (Value.bool false), (Value.bool false), (Value.bool false), (Value.bool false), (Value.bool false), (Value.bool false), (Value.bool false), (Value.bool false), (Value.bool false), (Value.bool false), (Value.bool false), (Value.bool false), (Value.bool false), (Value.bool false), (Value.bool false), (Value.bool false), (Value.bool false), (Value.bool false), (Value.bool false), (Value.bool false), (Value.bool false), (Value.bool false), (Value.bool false), (Value.bool false), (Value.bool false), (Value.bool false), (Value.bool false), (Value.bool false), (Value.bool false), (Value.bool false), (Value.bool false), (Value.bool false), (Value.bool false), (Value.bool false), (Value.bool false), (Value.bool false), (Value.bool false), (Value.bool false), (Value.bool false), (Value.bool false), (Value.bool false), (Value.bool false), (Value.bool false), (Value.bool false), (Value.bool false), (Value.bool false), (Value.bool false), (Value.bool false), (Value.bool false), (Value.bool false), (Value.bool false), (Value.bool false), (Value.bool false), (Value.bool false), (Value.bool false), (Value.bool false), (Value.bool false), (Value.bool false), (Value.bool false), (Value.bool false), (Value.bool false), (Value.bool false), (Value.bool false), (Value.bool false), (Value.bool false)] (fun p19 h20 => ptrW p19 (fun a21 => vs17.length = 256 ∧ List.all vs17 one = true ∧ ∃ h22, wr h20 a21 vs17 = some h22 ∧ cond t18 (
D 42 [(Value.string s8), p19] h22 (fun v23 h24 => ∃ s25 : ByteArray, v23 = (Value.string s25) ∧ k (Value.string s25) h24) kp) (
D 43 [(Value.string s8), (Value.string s9)] h22 (fun v26 h27 => ∃ s28 : ByteArray, v26 = (Value.string s28) ∧ k (Value.string s28) h27) kp)))) kp))))
def j36__2 (D : Orc) (k : Kv) (kp : Kp) (a0 a1 a2 : Value) (h2 : H) : Prop :=
strW a0 (fun s3 => strW a1 (fun s4 => boolW a2 (fun t5 => cond t5 (
k (Value.string s3) h2) (
cond ((s4.size : Int) == (1 : Int)) (
strAtW s4 (0 : Int) (fun x6 => j36__4 D k kp (Value.string s3) (Value.string s4) (Value.bool (decide (x6 < (128 : Int)))) h2)) (
j36__4 D k kp (Value.string s3) (Value.string s4) (Value.bool false) h2)))))
def L36 (D : Orc) : Lor := fun b vs h K => match firstId b with | some i => False | none => False
/-- strings.TrimLeft -/
def F36 (D : Orc) (a0 a1 : Value) (h : H) (k : Kv) (kp : Kp) : Prop :=
strW a0 (fun s0 => strW a1 (fun s1 => cond (!(s0.toList == (ByteArray.mk #[]).toList)) (
j36__2 D k kp (Value.string s0) (Value.string s1) (Value.bool (s1.toList == (ByteArray.mk #[]).toList)) h) (
j36__2 D k kp (Value.string s0) (Value.string s1) (Value.bool true) h)))
def Cl36 (D : Orc) : Prop := ∀ a0 a1 h k kp, F36 D a0 a1 h k kp → D 36 [a0, a1] h k kp
theorem tieF36 (D : Orc) (a0 a1 : Value) (h : H) (k : Kv) (kp : Kp) : F36 D a0 a1 h k kp = bodyW Tryd.prog D (L36 D) lv36 Tryd.f36 [a0, a1] h k kp := by kernel_rfl
theorem lfp36 : Lfps Tryd.prog (CS Tryd.prog) (L36 (CS Tryd.prog)) lv36 (allLoops (bodyOf Tryd.f36)) := by
  have e : (allLoops (bodyOf Tryd.f36)) = [] := by kernel_rfl
  rw [e]
  exact trivial
theorem cl36 : Cl36 (CS Tryd.prog) := fun a0 a1 h k kp hk =>
  fn_sound wide (fn := Tryd.f36) (by kernel_rfl) (by kernel_rfl) (by kernel_rfl) lfp36 (by rw [tieF36] at hk; exact hk)
def lv37 : Lv := Lv.mk 43 [.str, .str] (fun i => []) (fun i => []) [(4, .str)] (fun i => cond (Nat.beq i 2) (some [(0, .str), (1, .str), (12, .bool)]) (cond (Nat.beq i 4) (some [(0, .str), (1, .str), (21, .bool)]) (none)))
def j37__4 (D : Orc) (k : Kv) (kp : Kp) (a0 a1 a2 : Value) (h7 : H) : Prop :=
strW a0 (fun s8 => strW a1 (fun s9 => boolW a2 (fun t10 => cond t10 (
strAtW s9 (0 : Int) (fun x11 => strAtW s9 (0 : Int) (fun x12 => D 44 [(Value.string s8), (Value.int IntKind.u8 x11)] h7 (fun v13 h14 => ∃ s15 : ByteArray, v13 = (Value.string s15) ∧ D 40 [(Value.string s15), (Value.int IntKind.u8 x12)] h14 (fun v16 h17 => ∃ s18 : ByteArray, v16 = (Value.string s18) ∧ k (Value.string s18) h17) kp) kp))) (
D 41 [(Value.string s9)] h7 (fun v19 h20 => ∃ vs21 : List Value, ∃ t22 : Bool, v19 = (Value.tuple #[(Value.agg (vs21).toArray), (Value.bool t22)]) ∧ newW h20 [(Value.bool false), (Value.bool false), (Value.bool false), (Value.bool false), (Value.bool false), (Value.bool false), (Value.bool false), (Value.bool false), (Value.bool false), (Value.bool false), (Value.bool false), (Value.bool false), (Value.bool false), (Value.bool false), (Value.bool false), (Value.bool false), (Value.bool false), (Value.bool false), (Value.bool false), (Value.bool false), (Value.bool false), (Value.bool false), (Value.bool false), (Value.bool false), (Value.bool false), (Value.bool false), (Value.bool false), (Value.bool false), (Value.bool false), (Value.bool false), (Value.bool false), (Value.bool false), (Value.bool false), (Value.bool false), (Value.bool false), (Value.bool false), (Value.bool false), (Value.bool false), (Value.bool false), (Value.bool false), (Value.bool false), (Value.bool false), (Value.bool false), (Value.bool false), (Value.bool false), (Value.bool false), (Value.bool false), (Value.bool false), (Value.bool false), (Value.bool false), (Value.bool false), (Value.bool false), (Value.bool false), (Value.bool false), (Value.bool false), (Value.bool false), (Value.bool false), (Value.bool false), (Value.bool false), (Value.bool false), (Value.bool false), (Value.bool false), (Value.bool false), (Value.bool false), (Value.bool false), (Value.bool false), (Value.bool false), (Value.bool false), (Value.bool false), (Value.bool false), (Value.bool false), (Value.bool false), (Value.bool false), (Value.bool false), (Value.bool false), (Value.bool false), (Value.bool false), (Value.bool false), (Value.bool false), (Value.bool false), (Value.bool false), (Value.bool false), (Value.bool false), (Value.bool false), (Value.bool false), (Value.bool false), (Value.bool false), (Value.bool false), (Value.bool false), (Value.bool false), (Value.bool false), (Value.bool false), (Value.bool false), (Value.bool false), (Value.bool false), (Value.bool false), (Value.bool false), (Value.bool false), (Value.bool false), (Value.bool false), (Value.bool false), (Value.bool false), (Value.bool false), (Value.bool false), (Value.bool false), (Value.bool false), (Value.bool false), (Value.bool false), (Value.bool false), (Value.bool false), (Value.bool false), (Value.bool false), (Value.bool false), (Value.bool false), (Value.bool false), (Value.bool false), (Value.bool false), (Value.bool false), (Value.bool false), (Value.bool false), (Value.bool false), (Value.bool false), (Value.bool false), (Value.bool false), (Value.bool false), (Value.bool false), (Value.bool false), (Value.bool false), (Value.bool false), (Value.bool false), (Value.bool false), (Value.bool false), (Value.bool false), (Value.bool false), (Value.bool false), (Value.bool false), (Value.bool false), (Value.bool false), (Value.bool false), (Value.bool false), (Value.bool false), (Value.bool false), (Value.bool false), (Value.bool false), (Value.bool false), (Value.bool false), (Value.bool false), (Value.bool false), (Value.bool false), (Value.bool false), (Value.bool false), (Value.bool false), (Value.bool false), (Value.bool false), (Value.bool false), (Value.bool false), (Value.bool false), (Value.bool false), (Value.bool false), (Value.bool false), (Value.bool false), (Value.bool false), (Value.bool false), (Value.bool false), (Value.bool false), (Value.bool false), (Value.bool false), (Value.bool false), (Value.bool false), (Value.bool false), (Value.bool false), (Value.bool false), (Value.bool false), (Value.bool false), (Value.bool false), (Value.bool false), (Value.bool false), (Value.bool false), (Value.bool false), (Value.bool false), (Value.bool false), (Value.bool false), (Value.bool false), (Value.bool false), (Value.bool false), (Value.bool false), (Value.bool false), (Value.bool false), (Value.bool false), (Value.bool false), (Value.bool false), (Value.bool false), (Value.bool false), (Value.bool false), (Value.bool false), (Value.bool false), (Value.bool false), (Value.bool false), (Value.bool false), (Value.bool false), (Value.bool false), (Value.bool false), (Value.bool false), (Value.bool false), (Value.bool false), (Value.bool false), (Value.bool false), (Value.bool false), (Value.bool false), (Value.bool false), (Value.bool false), (Value.bool false), (Value.bool false), (Value.bool false), (Value.bool false), (Value.bool false), (Value.bool false), (Value.bool false), (Value.bool false), (Value.bool false), (Value.bool false), (Value.bool false), (Value.bool false), (Value.bool false), (Value.bool false), (Value.bool false), (Value.bool false), (Value.bool false), (Value.bool false), (Value.bool false), (Value.bool false), (Value.bool false), (Value.bool false), (Value.bool false), (Value.bool false), (Value.bool false), (Value.bool false), (Value.bool false), (Value.bool false), (Value.bool false), (Value.bool false), (Value.bool false), (Value.bool false), (Value.bool false), (Value.bool false), (Value.bool false), (Value.bool false), (Value.bool false), (Value.bool false), (Value.bool false), (Value.bool false), (Value.bool false), (Value.bool false), (Value.bool false), (Value.bool false), (Value.bool false)] (fun p23 h24 => ptrW p23 (fun a25 => vs21.length = 256 ∧ List.all vs21 one = true ∧ ∃ h26, wr h24 a25 vs21 = some h26 ∧ cond t22 (
D 45 [(Value.string s8), p23] h26 (fun v27 h28 => ∃ s29 : ByteArray, v27 = (Value.string s29) ∧ D 42 [(Value.string s29), p23] h28 (fun v30 h31 => ∃ s32 : ByteArray, v30 = (Value.string s32) ∧ k (Value.string s32) h31) kp) kp) (
D 46 [(Value.string s8), (Value.string s9)] h26 (fun v33 h34 => ∃ s35 : ByteArray, v33 = (Value.string s35) ∧ D 43 [(Value.string s35), (Value.string s9)] h34 (fun v36 h37 => ∃ s38 : ByteArray, v36 = (Value.string s38) ∧ k (Value.string s38) h37) kp) kp)))) kp))))
def j37__2 (D : Orc) (k : Kv) (kp : Kp) (a0 a1 a2 : Value) (h2 : H) : Prop :=
strW a0 (fun s3 => strW a1 (fun s4 => boolW a2 (fun t5 => cond t5 (
k (Value.string s3) h2) (
cond ((s4.size : Int) == (1 : Int)) (
strAtW s4 (0 : Int) (fun x6 => j37__4 D k kp (Value.string s3) (Value.string s4) (Value.bool (decide (x6 < (128 : Int)))) h2)) (
j37__4 D k kp (Value.string s3) (Value.string s4) (Value.bool false) h2)))))
def L37 (D : Orc) : Lor := fun b vs h K => match firstId b with | some i => False | none => False
/-- strings.Trim -/
def F37 (D : Orc) (a0 a1 : Value) (h : H) (k : Kv) (kp : Kp) : Prop :=
strW a0 (fun s0 => strW a1 (fun s1 => cond (!(s0.toList == (ByteArray.mk #[]).toList)) (
j37__2 D k kp (Value.string s0) (Value.string s1) (Value.bool (s1.toList == (ByteArray.mk #[]).toList)) h) (
j37__2 D k kp (Value.string s0) (Value.string s1) (Value.bool true) h)))
def Cl37 (D : Orc) : Prop := ∀ a0 a1 h k kp, F37 D a0 a1 h k kp → D 37 [a0, a1] h k kp
theorem tieF37 (D : Orc) (a0 a1 : Value) (h : H) (k : Kv) (kp : Kp) : F37 D a0 a1 h k kp = bodyW Tryd.prog D (L37 D) lv37 Tryd.f37 [a0, a1] h k kp := by kernel_rfl
theorem lfp37 : Lfps Tryd.prog (CS Tryd.prog) (L37 (CS Tryd.prog)) lv37 (allLoops (bodyOf Tryd.f37)) := by
  have e : (allLoops (bodyOf Tryd.f37)) = [] := by kernel_rfl
  rw [e]
  exact trivial
theorem cl37 : Cl37 (CS Tryd.prog) := fun a0 a1 h k kp hk =>
  fn_sound wide (fn := Tryd.f37) (by kernel_rfl) (by kernel_rfl) (by kernel_rfl) lfp37 (by rw [tieF37] at hk; exact hk)
def lv38 : Lv := Lv.mk 6 [.int IntKind.i64] (fun i => []) (fun i => []) [(2, .bool)] (fun i => none)
def L38 (D : Orc) : Lor := fun b vs h K => match firstId b with | some i => False | none => False
/-- cmp.isNaN[int] -/
def F38 (D : Orc) (a0 : Value) (h : H) (k : Kv) (kp : Kp) : Prop :=
intK IntKind.i64 a0 (fun x0 => k (Value.bool (x0 != x0)) h)
def Cl38 (D : Orc) : Prop := ∀ a0 h k kp, F38 D a0 h k kp → D 38 [a0] h k kp
theorem tieF38 (D : Orc) (a0 : Value) (h : H) (k : Kv) (kp : Kp) : F38 D a0 h k kp = bodyW Tryd.prog D (L38 D) lv38 Tryd.f38 [a0] h k kp := by kernel_rfl
theorem lfp38 : Lfps Tryd.prog (CS Tryd.prog) (L38 (CS Tryd.prog)) lv38 (allLoops (bodyOf Tryd.f38)) := by
  have e : (allLoops (bodyOf Tryd.f38)) = [] := by kernel_rfl
  rw [e]
  exact trivial
theorem cl38 : Cl38 (CS Tryd.prog) := fun a0 h k kp hk =>
  fn_sound wide (fn := Tryd.f38) (by kernel_rfl) (by kernel_rfl) (by kernel_rfl) lfp38 (by rw [tieF38] at hk; exact hk)
def lv39 : Lv := Lv.mk 6 [.int IntKind.u32] (fun i => []) (fun i => []) [(2, .bool)] (fun i => none)
def L39 (D : Orc) : Lor := fun b vs h K => match firstId b with | some i => False | none => False
/-- cmp.isNaN[uint32] -/
def F39 (D : Orc) (a0 : Value) (h : H) (k : Kv) (kp : Kp) : Prop :=
intK IntKind.u32 a0 (fun x0 => k (Value.bool (x0 != x0)) h)
def Cl39 (D : Orc) : Prop := ∀ a0 h k kp, F39 D a0 h k kp → D 39 [a0] h k kp
theorem tieF39 (D : Orc) (a0 : Value) (h : H) (k : Kv) (kp : Kp) : F39 D a0 h k kp = bodyW Tryd.prog D (L39 D) lv39 Tryd.f39 [a0] h k kp := by kernel_rfl
theorem lfp39 : Lfps Tryd.prog (CS Tryd.prog) (L39 (CS Tryd.prog)) lv39 (allLoops (bodyOf Tryd.f39)) := by
  have e : (allLoops (bodyOf Tryd.f39)) = [] := by kernel_rfl
  rw [e]
  exact trivial
theorem cl39 : Cl39 (CS Tryd.prog) := fun a0 h k kp hk =>
  fn_sound wide (fn := Tryd.f39) (by kernel_rfl) (by kernel_rfl) (by kernel_rfl) lfp39 (by rw [tieF39] at hk; exact hk)
def lv40 : Lv := Lv.mk 17 [.str, .int IntKind.u8] (fun i => cond (Nat.beq i 1) ([(0, .str), (1, .int IntKind.u8)]) ([])) (fun i => cond (Nat.beq i 1) ([(0, [(0, .str)])]) ([])) [(4, .str)] (fun i => none)
def round40_1 (D : Orc) (I : List Value → H → Prop) (K : Kl) (a0 a1 : Value) (h2 : H) : Prop :=
strW a0 (fun s3 => intK IntKind.u8 a1 (fun x4 => cond (decide ((s3.size : Int) > (0 : Int))) (
strAtW s3 (0 : Int) (fun x5 => cond (x5 == x4) (
strCutW s3 (some (1 : Int)) none (fun s6 => I [(Value.string s6), (Value.int IntKind.u8 x4)] h2)) (
K (X.e 0) [(Value.string s3)] h2))) (
K (X.e 0) [(Value.string s3)] h2)))
def loop40_1 (D : Orc) (vs : List Value) (h : H) (K : Kl) : Prop := ∀ I : List Value → H → Prop, (∀ a0 a1 h, round40_1 D I K a0 a1 h → I [a0, a1] h) → I vs h
def L40 (D : Orc) : Lor := fun b vs h K => match firstId b with | some i => cond (Nat.beq i 1) (loop40_1 D vs h K) (False) | none => False
/-- strings.trimLeftByte -/
def F40 (D : Orc) (a0 a1 : Value) (h : H) (k : Kv) (kp : Kp) : Prop :=
strW a0 (fun s0 => intK IntKind.u8 a1 (fun x1 => loop40_1 D [(Value.string s0), (Value.int IntKind.u8 x1)] h (fun x8 vs9 h7 => xs x8 (strW (nth vs9 0) (fun s11 => k (Value.string s11) h7)) (fun i10 => cond (Nat.beq i10 0) (
strW (nth vs9 0) (fun s12 => k (Value.string s12) h7)) (False)) (fun c => kp c h7))))
def Cl40 (D : Orc) : Prop := ∀ a0 a1 h k kp, F40 D a0 a1 h k kp → D 40 [a0, a1] h k kp
theorem tieR40_1 (D : Orc) (I : List Value → H → Prop) (K : Kl) (a0 a1 : Value) (h : H) : round40_1 D I K a0 a1 h = round Tryd.prog D (L40 D) lv40 (nthC (allLoops (bodyOf Tryd.f40)) 0) I K [a0, a1] h := by kernel_rfl
theorem tieF40 (D : Orc) (a0 a1 : Value) (h : H) (k : Kv) (kp : Kp) : F40 D a0 a1 h k kp = bodyW Tryd.prog D (L40 D) lv40 Tryd.f40 [a0, a1] h k kp := by kernel_rfl
theorem lfp40 : Lfps Tryd.prog (CS Tryd.prog) (L40 (CS Tryd.prog)) lv40 (allLoops (bodyOf Tryd.f40)) := by
  have e : (allLoops (bodyOf Tryd.f40)) = [nthC (allLoops (bodyOf Tryd.f40)) 0] := by kernel_rfl
  rw [e]
  exact ⟨(fun vs h K hk I H => hk I (fun a0 a1 h hr => H _ _ ((tieR40_1 (CS Tryd.prog) I K a0 a1 h) ▸ hr))), trivial⟩
theorem cl40 : Cl40 (CS Tryd.prog) := fun a0 a1 h k kp hk =>
  fn_sound wide (fn := Tryd.f40) (by kernel_rfl) (by kernel_rfl) (by kernel_rfl) lfp40 (by rw [tieF40] at hk; exact hk)
def lv41 : Lv := Lv.mk 21 [.str] (fun i => cond (Nat.beq i 2) ([(0, .str), (2, .raw), (4, .int IntKind.i64)]) ([])) (fun i => cond (Nat.beq i 2) ([(0, [(2, .raw)])]) ([])) [(2, .raw), (3, .bool)] (fun i => none)
def round41_2 (D : Orc) (I : List Value → H → Prop) (K : Kl) (a0 a1 a2 : Value) (h3 : H) : Prop :=
strW a0 (fun s4 => intK IntKind.i64 a2 (fun x5 => cond (decide (x5 < (s4.size : Int))) (
strAtW s4 x5 (fun x6 => cond (decide (x6 ≥ (128 : Int))) (
ptrW a1 (fun a7 => ∃ vs8 : List Value, rdN h3 a7 256 = some vs8 ∧ ptrW a1 (fun a9 => vs8.length = 256 ∧ List.all vs8 one = true ∧ ∃ h10, wr h3 a9 vs8 = some h10 ∧ K X.r [a1, (Value.bool false)] h10))) (
ptrW a1 (fun a11 => 0 ≤ x6 ∧ x6 < (256 : Int) ∧ one (Value.bool true) = true ∧ 1 = 1 ∧ ∃ h12, wr1 h3 (Addr.add a11 (Int.toNat x6 * 1)) (Value.bool true) = some h12 ∧ I [(Value.string s4), a1, (Value.int IntKind.i64 (IntKind.wrap IntKind.i64 (x5 + (1 : Int))))] h12)))) (
K (X.e 0) [a1] h3)))
def loop41_2 (D : Orc) (vs : List Value) (h : H) (K : Kl) : Prop := ∀ I : List Value → H → Prop, (∀ a0 a1 a2 h, round41_2 D I K a0 a1 a2 h → I [a0, a1, a2] h) → I vs h
def L41 (D : Orc) : Lor := fun b vs h K => match firstId b with | some i => cond (Nat.beq i 2) (loop41_2 D vs h K) (False) | none => False
/-- strings.makeASCIISet -/
def F41 (D : Orc) (a0 : Value) (h : H) (k : Kv) (kp : Kp) : Prop :=
strW a0 (fun s0 => newW h [(Value.bool false), (Value.bool false), (Value.bool false), (Value.bool false), (Value.bool false), (Value.bool false), (Value.bool false), (Value.bool false), (Value.bool false), (Value.bool false), (Value.bool false), (Value.bool false), (Value.bool false), (Value.bool false), (Value.bool false), (Value.bool false), (Value.bool false), (Value.bool false), (Value.bool false), (Value.bool false), (Value.bool false), (Value.bool false), (Value.bool false), (Value.bool false), (Value.bool false), (Value.bool false), (Value.bool false), (Value.bool false), (Value.bool false), (Value.bool false), (Value.bool false), (Value.bool false), (Value.bool false), (Value.bool false), (Value.bool false), (Value.bool false), (Value.bool false), (Value.bool false), (Value.bool false), (Value.bool false), (Value.bool false), (Value.bool false), (Value.bool false), (Value.bool false), (Value.bool false), (Value.bool false), (Value.bool false), (Value.bool false), (Value.bool false), (Value.bool false), (Value.bool false), (Value.bool false), (Value.bool false), (Value.bool false), (Value.bool false), (Value.bool false), (Value.bool false), (Value.bool false), (Value.bool false), (Value.bool false), (Value.bool false), (Value.bool false), (Value.bool false), (Value.bool false), (Value.bool false), (Value.bool false), (Value.bool false), (Value.bool false), (Value.bool false), (Value.bool false), (Value.bool false), (Value.bool false), (Value.bool false), (Value.bool false), (Value.bool false), (Value.bool false), (Value.bool false), (Value.bool false), (Value.bool false), (Value.bool false), (Value.bool false), (Value.bool false), (Value.bool false), (Value.bool false), (Value.bool false), (Value.bool false), (Value.bool false), (Value.bool false), (Value.bool false), (Value.bool false), (Value.bool false), (Value.bool false), (Value.bool false), (Value.bool false), (Value.bool false), (Value.bool false), (Value.bool false), (Value.bool false), (Value.bool false), (Value.bool false), (Value.bool false), (Value.bool false), (Value.bool false), (Value.bool false), (Value.bool false), (Value.bool false), (Value.bool false), (Value.bool false), (Value.bool false), (Value.bool false), (Value.bool false), (Value.bool false), (Value.bool false), (Value.bool false), (Value.bool false), (Value.bool false), (Value.bool false), (Value.bool false), (Value.bool false), (Value.bool false), (Value.bool false), (Value.bool false), (Value.bool false), (Value.bool false), (Value.bool false), (Value.bool false), (Value.bool false), (Value.bool false), (Value.bool false), (Value.bool false), (Value.bool false), (Value.bool false), (Value.bool false), (Value.bool false), (Value.bool false), (Value.bool false), (Value.bool false), (Value.bool false), (Value.bool false), (Value.bool false), (Value.bool false), (Value.bool false), (Value.bool false), (Value.bool false), (Value.bool false), (Value.bool false), (Value.bool false), (Value.bool false), (Value.bool false), (Value.bool false), (Value.bool false), (Value.bool false), (Value.bool false), (Value.bool false), (Value.bool false), (Value.bool false), (Value.bool false), (Value.bool false), (Value.bool false), (Value.bool false), (Value.bool false), (Value.bool false), (Value.bool false), (Value.bool false), (Value.bool false), (Value.bool false), (Value.bool false), (Value.bool false), (Value.bool false), (Value.bool false), (Value.bool false), (Value.bool false), (Value.bool false), (Value.bool false), (Value.bool false), (Value.bool false), (Value.bool false), (Value.bool false), (Value.bool false), (Value.bool false), (Value.bool false), (Value.bool false), (Value.bool false), (Value.bool false), (Value.bool false), (Value.bool false), (Value.bool false), (Value.bool false), (Value.bool false), (Value.bool false), (Value.bool false), (Value.bool false), (Value.bool false), (Value.bool false), (Value.bool false), (Value.bool false), (Value.bool false), (Value.bool false), (Value.bool false), (Value.bool false), (Value.bool false), (Value.bool false), (Value.bool false), (Value.bool false), (Value.bool false), (Value.bool false), (Value.bool false), (Value.bool false), (Value.bool false), (Value.bool false), (Value.bool false), (Value.bool false), (Value.bool false), (Value.bool false), (Value.bool false), (Value.bool false), (Value.bool false), (Value.bool false), (Value.bool false), (Value.bool false), (Value.bool false), (Value.bool false), (Value.bool false), (Value.bool false), (Value.bool false), (Value.bool false), (Value.bool false), (Value.bool false), (Value.bool false), (Value.bool false), (Value.bool false), (Value.bool false), (Value.bool false), (Value.bool false), (Value.bool false), (Value.bool false), (Value.bool false), (Value.bool false), (Value.bool false), (Value.bool false), (Value.bool false), (Value.bool false), (Value.bool false), (Value.bool false), (Value.bool false), (Value.bool false), (Value.bool false), (Value.bool false), (Value.bool false), (Value.bool false), (Value.bool false), (Value.bool false), (Value.bool false), (Value.bool false), (Value.bool false), (Value.bool false)] (fun p1 h2 => loop41_2 D [(Value.string s0), p1, (Value.int IntKind.i64 (0 : Int))] h2 (fun x14 vs15 h13 => xs x14 (boolW (nth vs15 1) (fun t17 => ptrW (nth vs15 0) (fun a18 => ∃ vs19 : List Value, rdN h13 a18 256 = some vs19 ∧ k (Value.tuple #[(Value.agg (vs19).toArray), (Value.bool t17)]) h13))) (fun i16 => cond (Nat.beq i16 0) (
ptrW (nth vs15 0) (fun a20 => ∃ vs21 : List Value, rdN h13 a20 256 = some vs21 ∧ ptrW (nth vs15 0) (fun a22 => vs21.length = 256 ∧ List.all vs21 one = true ∧ ∃ h23, wr h13 a22 vs21 = some h23 ∧ ptrW (nth vs15 0) (fun a24 => ∃ vs25 : List Value, rdN h23 a24 256 = some vs25 ∧ k (Value.tuple #[(Value.agg (vs25).toArray), (Value.bool true)]) h23)))) (False)) (fun c => kp c h13))))
def Cl41 (D : Orc) : Prop := ∀ a0 h k kp, F41 D a0 h k kp → D 41 [a0] h k kp
theorem tieR41_2 (D : Orc) (I : List Value → H → Prop) (K : Kl) (a0 a1 a2 : Value) (h : H) : round41_2 D I K a0 a1 a2 h = round Tryd.prog D (L41 D) lv41 (nthC (allLoops (bodyOf Tryd.f41)) 0) I K [a0, a1, a2] h := by kernel_rfl
theorem tieF41 (D : Orc) (a0 : Value) (h : H) (k : Kv) (kp : Kp) : F41 D a0 h k kp = bodyW Tryd.prog D (L41 D) lv41 Tryd.f41 [a0] h k kp := by kernel_rfl
theorem lfp41 : Lfps Tryd.prog (CS Tryd.prog) (L41 (CS Tryd.prog)) lv41 (allLoops (bodyOf Tryd.f41)) := by
  have e : (allLoops (bodyOf Tryd.f41)) = [nthC (allLoops (bodyOf Tryd.f41)) 0] := by kernel_rfl
  rw [e]
  exact ⟨(fun vs h K hk I H => hk I (fun a0 a1 a2 h hr => H _ _ ((tieR41_2 (CS Tryd.prog) I K a0 a1 a2 h) ▸ hr))), trivial⟩
theorem cl41 : Cl41 (CS Tryd.prog) := fun a0 h k kp hk =>
  fn_sound wide (fn := Tryd.f41) (by kernel_rfl) (by kernel_rfl) (by kernel_rfl) lfp41 (by rw [tieF41] at hk; exact hk)
def lv42 : Lv := Lv.mk 16 [.str, .raw] (fun i => cond (Nat.beq i 1) ([(0, .str), (1, .raw)]) ([])) (fun i => cond (Nat.beq i 1) ([(0, [(0, .str)])]) ([])) [(4, .str)] (fun i => none)
def round42_1 (D : Orc) (I : List Value → H → Prop) (K : Kl) (a0 a1 : Value) (h1 : H) : Prop :=
strW a0 (fun s2 => cond (decide ((s2.size : Int) > (0 : Int))) (
strAtW s2 (0 : Int) (fun x3 => D 47 [a1, (Value.int IntKind.u8 x3)] h1 (fun v4 h5 => ∃ t6 : Bool, v4 = (Value.bool t6) ∧ cond (!t6) (
K (X.e 0) [(Value.string s2)] h5) (
strCutW s2 (some (1 : Int)) none (fun s7 => I [(Value.string s7), a1] h5))) (fun c h => K (X.p c) [] h))) (
K (X.e 0) [(Value.string s2)] h1))
def loop42_1 (D : Orc) (vs : List Value) (h : H) (K : Kl) : Prop := ∀ I : List Value → H → Prop, (∀ a0 a1 h, round42_1 D I K a0 a1 h → I [a0, a1] h) → I vs h
def L42 (D : Orc) : Lor := fun b vs h K => match firstId b with | some i => cond (Nat.beq i 1) (loop42_1 D vs h K) (False) | none => False
/-- strings.trimLeftASCII -/
def F42 (D : Orc) (a0 a1 : Value) (h : H) (k : Kv) (kp : Kp) : Prop :=
strW a0 (fun s0 => loop42_1 D [(Value.string s0), a1] h (fun x9 vs10 h8 => xs x9 (strW (nth vs10 0) (fun s12 => k (Value.string s12) h8)) (fun i11 => cond (Nat.beq i11 0) (
strW (nth vs10 0) (fun s13 => k (Value.string s13) h8)) (False)) (fun c => kp c h8)))
def Cl42 (D : Orc) : Prop := ∀ a0 a1 h k kp, F42 D a0 a1 h k kp → D 42 [a0, a1] h k kp
theorem tieR42_1 (D : Orc) (I : List Value → H → Prop) (K : Kl) (a0 a1 : Value) (h : H) : round42_1 D I K a0 a1 h = round Tryd.prog D (L42 D) lv42 (nthC (allLoops (bodyOf Tryd.f42)) 0) I K [a0, a1] h := by kernel_rfl
theorem tieF42 (D : Orc) (a0 a1 : Value) (h : H) (k : Kv) (kp : Kp) : F42 D a0 a1 h k kp = bodyW Tryd.prog D (L42 D) lv42 Tryd.f42 [a0, a1] h k kp := by kernel_rfl
theorem lfp42 : Lfps Tryd.prog (CS Tryd.prog) (L42 (CS Tryd.prog)) lv42 (allLoops (bodyOf Tryd.f42)) := by
  have e : (allLoops (bodyOf Tryd.f42)) = [nthC (allLoops (bodyOf Tryd.f42)) 0] := by kernel_rfl
  rw [e]
  exact ⟨(fun vs h K hk I H => hk I (fun a0 a1 h hr => H _ _ ((tieR42_1 (CS Tryd.prog) I K a0 a1 h) ▸ hr))), trivial⟩
theorem cl42 : Cl42 (CS Tryd.prog) := fun a0 a1 h k kp hk =>
  fn_sound wide (fn := Tryd.f42) (by kernel_rfl) (by kernel_rfl) (by kernel_rfl) lfp42 (by rw [tieF42] at hk; exact hk)
def lv43 : Lv := Lv.mk 23 [.str, .str] (fun i => cond (Nat.beq i 1) ([(0, .str), (1, .str)]) ([])) (fun i => cond (Nat.beq i 1) ([(0, [(0, .str)])]) ([])) [(4, .str)] (fun i => none)
def round43_1 (D : Orc) (I : List Value → H → Prop) (K : Kl) (a0 a1 : Value) (h2 : H) : Prop :=
strW a0 (fun s3 => strW a1 (fun s4 => cond (decide ((s3.size : Int) > (0 : Int))) (
D 48 [(Value.string s3)] h2 (fun v5 h6 => ∃ x7 : Int, ∃ x8 : Int, v5 = (Value.tuple #[(Value.int IntKind.i32 x7), (Value.int IntKind.i64 x8)]) ∧ D 49 [(Value.string s4), (Value.int IntKind.i32 x7)] h6 (fun v9 h10 => ∃ t11 : Bool, v9 = (Value.bool t11) ∧ cond (!t11) (
K (X.e 0) [(Value.string s3)] h10) (
strCutW s3 (some x8) none (fun s12 => I [(Value.string s12), (Value.string s4)] h10))) (fun c h => K (X.p c) [] h)) (fun c h => K (X.p c) [] h)) (
K (X.e 0) [(Value.string s3)] h2)))
def loop43_1 (D : Orc) (vs : List Value) (h : H) (K : Kl) : Prop := ∀ I : List Value → H → Prop, (∀ a0 a1 h, round43_1 D I K a0 a1 h → I [a0, a1] h) → I vs h
def L43 (D : Orc) : Lor := fun b vs h K => match firstId b with | some i => cond (Nat.beq i 1) (loop43_1 D vs h K) (False) | none => False
/-- strings.trimLeftUnicode -/
def F43 (D : Orc) (a0 a1 : Value) (h : H) (k : Kv) (kp : Kp) : Prop :=
strW a0 (fun s0 => strW a1 (fun s1 => loop43_1 D [(Value.string s0), (Value.string s1)] h (fun x14 vs15 h13 => xs x14 (strW (nth vs15 0) (fun s17 => k (Value.string s17) h13)) (fun i16 => cond (Nat.beq i16 0) (
strW (nth vs15 0) (fun s18 => k (Value.string s18) h13)) (False)) (fun c => kp c h13))))
def Cl43 (D : Orc) : Prop := ∀ a0 a1 h k kp, F43 D a0 a1 h k kp → D 43 [a0, a1] h k kp
theorem tieR43_1 (D : Orc) (I : List Value → H → Prop) (K : Kl) (a0 a1 : Value) (h : H) : round43_1 D I K a0 a1 h = round Tryd.prog D (L43 D) lv43 (nthC (allLoops (bodyOf Tryd.f43)) 0) I K [a0, a1] h := by kernel_rfl
theorem tieF43 (D : Orc) (a0 a1 : Value) (h : H) (k : Kv) (kp : Kp) : F43 D a0 a1 h k kp = bodyW Tryd.prog D (L43 D) lv43 Tryd.f43 [a0, a1] h k kp := by kernel_rfl
theorem lfp43 : Lfps Tryd.prog (CS Tryd.prog) (L43 (CS Tryd.prog)) lv43 (allLoops (bodyOf Tryd.f43)) := by
  have e : (allLoops (bodyOf Tryd.f43)) = [nthC (allLoops (bodyOf Tryd.f43)) 0] := by kernel_rfl
  rw [e]
  exact ⟨(fun vs h K hk I H => hk I (fun a0 a1 h hr => H _ _ ((tieR43_1 (CS Tryd.prog) I K a0 a1 h) ▸ hr))), trivial⟩
theorem cl43 : Cl43 (CS Tryd.prog) := fun a0 a1 h k kp hk =>
  fn_sound wide (fn := Tryd.f43) (by kernel_rfl) (by kernel_rfl) (by kernel_rfl) lfp43 (by rw [tieF43] at hk; exact hk)
def lv44 : Lv := Lv.mk 23 [.str, .int IntKind.u8] (fun i => cond (Nat.beq i 1) ([(0, .str), (1, .int IntKind.u8)]) ([])) (fun i => cond (Nat.beq i 1) ([(0, [(0, .str)])]) ([])) [(4, .str)] (fun i => none)
def round44_1 (D : Orc) (I : List Value → H → Prop) (K : Kl) (a0 a1 : Value) (h2 : H) : Prop :=
strW a0 (fun s3 => intK IntKind.u8 a1 (fun x4 => cond (decide ((s3.size : Int) > (0 : Int))) (
strAtW s3 (IntKind.wrap IntKind.i64 ((s3.size : Int) - (1 : Int))) (fun x5 => cond (x5 == x4) (
strCutW s3 none (some (IntKind.wrap IntKind.i64 ((s3.size : Int) - (1 : Int)))) (fun s6 => I [(Value.string s6), (Value.int IntKind.u8 x4)] h2)) (
K (X.e 0) [(Value.string s3)] h2))) (
K (X.e 0) [(Value.string s3)] h2)))
def loop44_1 (D : Orc) (vs : List Value) (h : H) (K : Kl) : Prop := ∀ I : List Value → H → Prop, (∀ a0 a1 h, round44_1 D I K a0 a1 h → I [a0, a1] h) → I vs h
def L44 (D : Orc) : Lor := fun b vs h K => match firstId b with | some i => cond (Nat.beq i 1) (loop44_1 D vs h K) (False) | none => False
/-- strings.trimRightByte -/
def F44 (D : Orc) (a0 a1 : Value) (h : H) (k : Kv) (kp : Kp) : Prop :=
strW a0 (fun s0 => intK IntKind.u8 a1 (fun x1 => loop44_1 D [(Value.string s0), (Value.int IntKind.u8 x1)] h (fun x8 vs9 h7 => xs x8 (strW (nth vs9 0) (fun s11 => k (Value.string s11) h7)) (fun i10 => cond (Nat.beq i10 0) (
strW (nth vs9 0) (fun s12 => k (Value.string s12) h7)) (False)) (fun c => kp c h7))))
def Cl44 (D : Orc) : Prop := ∀ a0 a1 h k kp, F44 D a0 a1 h k kp → D 44 [a0, a1] h k kp
theorem tieR44_1 (D : Orc) (I : List Value → H → Prop) (K : Kl) (a0 a1 : Value) (h : H) : round44_1 D I K a0 a1 h = round Tryd.prog D (L44 D) lv44 (nthC (allLoops (bodyOf Tryd.f44)) 0) I K [a0, a1] h := by kernel_rfl
theorem tieF44 (D : Orc) (a0 a1 : Value) (h : H) (k : Kv) (kp : Kp) : F44 D a0 a1 h k kp = bodyW Tryd.prog D (L44 D) lv44 Tryd.f44 [a0, a1] h k kp := by kernel_rfl
theorem lfp44 : Lfps Tryd.prog (CS Tryd.prog) (L44 (CS Tryd.prog)) lv44 (allLoops (bodyOf Tryd.f44)) := by
  have e : (allLoops (bodyOf Tryd.f44)) = [nthC (allLoops (bodyOf Tryd.f44)) 0] := by kernel_rfl
  rw [e]
  exact ⟨(fun vs h K hk I H => hk I (fun a0 a1 h hr => H _ _ ((tieR44_1 (CS Tryd.prog) I K a0 a1 h) ▸ hr))), trivial⟩
theorem cl44 : Cl44 (CS Tryd.prog) := fun a0 a1 h k kp hk =>
  fn_sound wide (fn := Tryd.f44) (by kernel_rfl) (by kernel_rfl) (by kernel_rfl) lfp44 (by rw [tieF44] at hk; exact hk)
def lv45 : Lv := Lv.mk 22 [.str, .raw] (fun i => cond (Nat.beq i 1) ([(0, .str), (1, .raw)]) ([])) (fun i => cond (Nat.beq i 1) ([(0, [(0, .str)])]) ([])) [(4, .str)] (fun i => none)
def round45_1 (D : Orc) (I : List Value → H → Prop) (K : Kl) (a0 a1 : Value) (h1 : H) : Prop :=
strW a0 (fun s2 => cond (decide ((s2.size : Int) > (0 : Int))) (
strAtW s2 (IntKind.wrap IntKind.i64 ((s2.size : Int) - (1 : Int))) (fun x3 => D 47 [a1, (Value.int IntKind.u8 x3)] h1 (fun v4 h5 => ∃ t6 : Bool, v4 = (Value.bool t6) ∧ cond (!t6) (
K (X.e 0) [(Value.string s2)] h5) (
strCutW s2 none (some (IntKind.wrap IntKind.i64 ((s2.size : Int) - (1 : Int)))) (fun s7 => I [(Value.string s7), a1] h5))) (fun c h => K (X.p c) [] h))) (
K (X.e 0) [(Value.string s2)] h1))
def loop45_1 (D : Orc) (vs : List Value) (h : H) (K : Kl) : Prop := ∀ I : List Value → H → Prop, (∀ a0 a1 h, round45_1 D I K a0 a1 h → I [a0, a1] h) → I vs h
def L45 (D : Orc) : Lor := fun b vs h K => match firstId b with | some i => cond (Nat.beq i 1) (loop45_1 D vs h K) (False) | none => False
/-- strings.trimRightASCII -/
def F45 (D : Orc) (a0 a1 : Value) (h : H) (k : Kv) (kp : Kp) : Prop :=
strW a0 (fun s0 => loop45_1 D [(Value.string s0), a1] h (fun x9 vs10 h8 => xs x9 (strW (nth vs10 0) (fun s12 => k (Value.string s12) h8)) (fun i11 => cond (Nat.beq i11 0) (
strW (nth vs10 0) (fun s13 => k (Value.string s13) h8)) (False)) (fun c => kp c h8)))
def Cl45 (D : Orc) : Prop := ∀ a0 a1 h k kp, F45 D a0 a1 h k kp → D 45 [a0, a1] h k kp
theorem tieR45_1 (D : Orc) (I : List Value → H → Prop) (K : Kl) (a0 a1 : Value) (h : H) : round45_1 D I K a0 a1 h = round Tryd.prog D (L45 D) lv45 (nthC (allLoops (bodyOf Tryd.f45)) 0) I K [a0, a1] h := by kernel_rfl
theorem tieF45 (D : Orc) (a0 a1 : Value) (h : H) (k : Kv) (kp : Kp) : F45 D a0 a1 h k kp = bodyW Tryd.prog D (L45 D) lv45 Tryd.f45 [a0, a1] h k kp := by kernel_rfl
theorem lfp45 : Lfps Tryd.prog (CS Tryd.prog) (L45 (CS Tryd.prog)) lv45 (allLoops (bodyOf Tryd.f45)) := by
  have e : (allLoops (bodyOf Tryd.f45)) = [nthC (allLoops (bodyOf Tryd.f45)) 0] := by kernel_rfl
  rw [e]
  exact ⟨(fun vs h K hk I H => hk I (fun a0 a1 h hr => H _ _ ((tieR45_1 (CS Tryd.prog) I K a0 a1 h) ▸ hr))), trivial⟩
theorem cl45 : Cl45 (CS Tryd.prog) := fun a0 a1 h k kp hk =>
  fn_sound wide (fn := Tryd.f45) (by kernel_rfl) (by kernel_rfl) (by kernel_rfl) lfp45 (by rw [tieF45] at hk; exact hk)
def lv46 : Lv := Lv.mk 34 [.str, .str] (fun i => cond (Nat.beq i 1) ([(0, .str), (1, .str)]) ([])) (fun i => cond (Nat.beq i 1) ([(0, [(0, .str)])]) ([])) [(4, .str)] (fun i => cond (Nat.beq i 5) (some [(0, .str), (1, .str), (5, .int IntKind.i32), (6, .int IntKind.i64)]) (none))
def j46_1_5 (D : Orc) (I : List Value → H → Prop) (K : Kl) (a0 a1 a2 a3 : Value) (h10 : H) : Prop :=
strW a0 (fun s11 => strW a1 (fun s12 => intK IntKind.i32 a2 (fun x13 => intK IntKind.i64 a3 (fun x14 => D 49 [(Value.string s12), (Value.int IntKind.i32 x13)] h10 (fun v15 h16 => ∃ t17 : Bool, v15 = (Value.bool t17) ∧ cond (!t17) (
K (X.e 0) [(Value.string s11)] h16) (
strCutW s11 none (some (IntKind.wrap IntKind.i64 ((s11.size : Int) - x14))) (fun s18 => I [(Value.string s18), (Value.string s12)] h16))) (fun c h => K (X.p c) [] h)))))
def round46_1 (D : Orc) (I : List Value → H → Prop) (K : Kl) (a0 a1 : Value) (h2 : H) : Prop :=
strW a0 (fun s3 => strW a1 (fun s4 => cond (decide ((s3.size : Int) > (0 : Int))) (
strAtW s3 (IntKind.wrap IntKind.i64 ((s3.size : Int) - (1 : Int))) (fun x5 => cond (decide ((IntKind.wrap IntKind.i32 x5) ≥ (128 : Int))) (
D 50 [(Value.string s3)] h2 (fun v6 h7 => ∃ x8 : Int, ∃ x9 : Int, v6 = (Value.tuple #[(Value.int IntKind.i32 x8), (Value.int IntKind.i64 x9)]) ∧ j46_1_5 D I K (Value.string s3) (Value.string s4) (Value.int IntKind.i32 x8) (Value.int IntKind.i64 x9) h7) (fun c h => K (X.p c) [] h)) (
j46_1_5 D I K (Value.string s3) (Value.string s4) (Value.int IntKind.i32 (IntKind.wrap IntKind.i32 x5)) (Value.int IntKind.i64 (1 : Int)) h2))) (
K (X.e 0) [(Value.string s3)] h2)))
def loop46_1 (D : Orc) (vs : List Value) (h : H) (K : Kl) : Prop := ∀ I : List Value → H → Prop, (∀ a0 a1 h, round46_1 D I K a0 a1 h → I [a0, a1] h) → I vs h
def L46 (D : Orc) : Lor := fun b vs h K => match firstId b with | some i => cond (Nat.beq i 1) (loop46_1 D vs h K) (False) | none => False
/-- strings.trimRightUnicode -/
def F46 (D : Orc) (a0 a1 : Value) (h : H) (k : Kv) (kp : Kp) : Prop :=
strW a0 (fun s0 => strW a1 (fun s1 => loop46_1 D [(Value.string s0), (Value.string s1)] h (fun x20 vs21 h19 => xs x20 (strW (nth vs21 0) (fun s23 => k (Value.string s23) h19)) (fun i22 => cond (Nat.beq i22 0) (
strW (nth vs21 0) (fun s24 => k (Value.string s24) h19)) (False)) (fun c => kp c h19))))
def Cl46 (D : Orc) : Prop := ∀ a0 a1 h k kp, F46 D a0 a1 h k kp → D 46 [a0, a1] h k kp
theorem tieR46_1 (D : Orc) (I : List Value → H → Prop) (K : Kl) (a0 a1 : Value) (h : H) : round46_1 D I K a0 a1 h = round Tryd.prog D (L46 D) lv46 (nthC (allLoops (bodyOf Tryd.f46)) 0) I K [a0, a1] h := by kernel_rfl
theorem tieF46 (D : Orc) (a0 a1 : Value) (h : H) (k : Kv) (kp : Kp) : F46 D a0 a1 h k kp = bodyW Tryd.prog D (L46 D) lv46 Tryd.f46 [a0, a1] h k kp := by kernel_rfl
theorem lfp46 : Lfps Tryd.prog (CS Tryd.prog) (L46 (CS Tryd.prog)) lv46 (allLoops (bodyOf Tryd.f46)) := by
  have e : (allLoops (bodyOf Tryd.f46)) = [nthC (allLoops (bodyOf Tryd.f46)) 0] := by kernel_rfl
  rw [e]
  exact ⟨(fun vs h K hk I H => hk I (fun a0 a1 h hr => H _ _ ((tieR46_1 (CS Tryd.prog) I K a0 a1 h) ▸ hr))), trivial⟩
theorem cl46 : Cl46 (CS Tryd.prog) := fun a0 a1 h k kp hk =>
  fn_sound wide (fn := Tryd.f46) (by kernel_rfl) (by kernel_rfl) (by kernel_rfl) lfp46 (by rw [tieF46] at hk; exact hk)
def lv47 : Lv := Lv.mk 10 [.raw, .int IntKind.u8] (fun i => []) (fun i => []) [(4, .bool)] (fun i => none)
def L47 (D : Orc) : Lor := fun b vs h K => match firstId b with | some i => False | none => False
/-- (*strings.asciiSet).contains -/
def F47 (D : Orc) (a0 a1 : Value) (h : H) (k : Kv) (kp : Kp) : Prop :=
intK IntKind.u8 a1 (fun x0 => nonNil a0 = true ∧ ptrW a0 (fun a1 => 0 ≤ x0 ∧ x0 < (256 : Int) ∧ ∃ t2 : Bool, rd h (Addr.add a1 (Int.toNat x0 * 1)) = some (Value.bool t2) ∧ k (Value.bool t2) h))
def Cl47 (D : Orc) : Prop := ∀ a0 a1 h k kp, F47 D a0 a1 h k kp → D 47 [a0, a1] h k kp
theorem tieF47 (D : Orc) (a0 a1 : Value) (h : H) (k : Kv) (kp : Kp) : F47 D a0 a1 h k kp = bodyW Tryd.prog D (L47 D) lv47 Tryd.f47 [a0, a1] h k kp := by kernel_rfl
theorem lfp47 : Lfps Tryd.prog (CS Tryd.prog) (L47 (CS Tryd.prog)) lv47 (allLoops (bodyOf Tryd.f47)) := by
  have e : (allLoops (bodyOf Tryd.f47)) = [] := by kernel_rfl
  rw [e]
  exact trivial
theorem cl47 : Cl47 (CS Tryd.prog) := fun a0 a1 h k kp hk =>
  fn_sound wide (fn := Tryd.f47) (by kernel_rfl) (by kernel_rfl) (by kernel_rfl) lfp47 (by rw [tieF47] at hk; exact hk)
end Go.Proofs.YtkgjpdadeakacaaDoor.Am
