/-
  Packed: 
-/
import Derived.Test.YtkdneddcocggdaaGreatDoorAmFnsR
set_option linter.unusedVariables false
set_option linter.unusedSimpArgs false
set_option linter.unnecessarySimpa false
namespace Go.Proofs.YtkdneddcocggdaaGreatDoor.Am
open Go Go.Proofs
set_option maxRecDepth 100000
set_option linter.unusedVariables false
def lv7:=lvM 90 [.raw,.raw,.str] [] [] [kB 6] [(6,[kR 0,kR 1,kS 2,kB 7,kS 8,kI 9,kB 36]),(11,[kR 0,kS 2,kB 7]),(10,[kR 0,kS 2,kB 7,kB 59])]
def j7__11 (D:Orc) (k:Kv) (kp:Kp) (a0 a1 a2:Value) (b0:H):Prop :=
strW a1 (fun b1=>boolW a2 (fun b2=>D 12 [a0,(.string b1)] b0 (fun b3 b4=>∃ b5:Value,∃ b6:Int,b3=(.tuple #[b5,(.int .i64 b6)])∧cond (b6 != 0) (
cond b2 (
lenW b5 (fun b7=>k (.bool ((b7:Int)==0)) b4)) (
k (.bool false) b4)) (
D 15 [a0,b5] b4 (fun b8 b9=>∃ ba:ByteArray,∃ bb:Int,b8=(.tuple #[(.string ba),(.int .i64 bb)])∧cond b2 (
cond (bb==0) (
k (.bool (ba.toList==b1.toList)) b9) (
k (.bool false) b9)) (
k (.bool false) b9)) kp)) kp))
def j7__10 (D:Orc) (k:Kv) (kp:Kp) (a0 a1 a2 a3:Value) (b0:H):Prop :=
strW a1 (fun b1=>boolW a2 (fun b2=>boolW a3 (fun b3=>cond b3 (
k (.bool false) b0) (
j7__11 D k kp a0 (.string b1) (.bool b2) b0))))
def j7__6 (D:Orc) (k:Kv) (kp:Kp) (a0 a1 a2 a3 a4 a5 a6:Value) (b0:H):Prop :=
strW a2 (fun b1=>boolW a3 (fun b2=>strW a4 (fun b3=>intK .i64 a5 (fun b4=>boolW a6 (fun b5=>cond b5 (
k (.bool false) b0) (
cond (b4==0) (
D 12 [a0,(.string b3)] b0 (fun b6 b7=>∃ b8:Value,∃ b9:Int,b6=(.tuple #[b8,(.int .i64 b9)])∧cond (!(b9 != 0)) (
D 14 [b8,a1] b7 (fun ba bb=>∃ bc:Bool,ba=(.bool bc)∧cond (!(!bc)) (
lenW a1 (fun bd=>j7__10 D k kp a0 (.string b1) (.bool b2) (.bool (decide ((b3.size:Int)<(bd:Int)))) bb)) (
j7__10 D k kp a0 (.string b1) (.bool b2) (.bool true) bb)) kp) (
j7__10 D k kp a0 (.string b1) (.bool b2) (.bool true) b7)) kp) (
j7__11 D k kp a0 (.string b1) (.bool b2) b0)))))))
def F7 (D:Orc) (a0 a1 a2:Value) (h:H) (k:Kv) (kp:Kp):Prop :=
strW a2 (fun s0=>D 11 [] h (fun v1 h2=>∃ t3:Bool,v1=(.bool t3)∧cond (!t3) (
k (.bool false) h2) (
D 15 [a0,a1] h2 (fun v4 h5=>∃ s6:ByteArray,∃ x7:Int,v4=(.tuple #[(.string s6),(.int .i64 x7)])∧D 22 [a0,a1] h5 (fun v8 h9=>∃ ba:Int,v8=(.int .i64 ba)∧cond (ba==0) (
cond (x7 != 0) (
j7__6 D k kp a0 a1 (.string s0) (.bool t3) (.string s6) (.int .i64 x7) (.bool (x7 != 220)) h9) (
j7__6 D k kp a0 a1 (.string s0) (.bool t3) (.string s6) (.int .i64 x7) (.bool false) h9)) (
j7__6 D k kp a0 a1 (.string s0) (.bool t3) (.string s6) (.int .i64 x7) (.bool false) h9)) kp) kp)) kp)
def Cl7 (D:Orc):Prop:=∀ a0 a1 a2 h k kp,F7 D a0 a1 a2 h k kp→D 7 [a0,a1,a2] h k kp
theorem cl7:Cl7 (CS Tryz.prog):=fun _ _ _ _ _ _ hk=>fn0 wide lv7 (fn:=Tryz.f7) (by kernel_rfl) (by kernel_rfl) (by kernel_rfl) (by kernel_rfl) (cast (by kernel_rfl) hk)
end Go.Proofs.YtkdneddcocggdaaGreatDoor.Am
