/-
  Packed: 
-/
import Derived.Test.YtkdneddcocggdaaGreatDoorAmFnsR
set_option linter.unusedVariables false
set_option linter.unusedSimpArgs false
set_option linter.unnecessarySimpa false
namespace Go.Proofs.YtkdneddcocggdaaGreatDoor.Am
open Go Go.Proofs
set_option maxRecDepth 100000
set_option linter.unusedVariables false
def lv3:=lvM 36 [.raw,.str] [] [] [kB 4] []
def F3 (D:Orc) (a0 a1:Value) (h:H) (k:Kv) (kp:Kp):Prop :=
strW a1 (fun s0=>D 11 [] h (fun v1 h2=>∃ t3:Bool,v1=(.bool t3)∧cond (!t3) (
k (.bool false) h2) (
D 12 [a0,(.string s0)] h2 (fun v4 h5=>∃ v6:Value,∃ x7:Int,v4=(.tuple #[v6,(.int .i64 x7)])∧D 13 [a0,(.string s0)] h5 (fun v8 h9=>∃ ba:Value,∃ bb:Int,v8=(.tuple #[ba,(.int .i64 bb)])∧cond t3 (
cond (x7==bb) (
D 14 [v6,ba] h9 (fun bc bd=>∃ be:Bool,bc=(.bool be)∧k (.bool be) bd) kp) (
k (.bool false) h9)) (
k (.bool false) h9)) kp) kp)) kp)
def Cl3 (D:Orc):Prop:=∀ a0 a1 h k kp,F3 D a0 a1 h k kp→D 3 [a0,a1] h k kp
theorem cl3:Cl3 (CS Tryz.prog):=fun _ _ _ _ _ hk=>fn0 wide lv3 (fn:=Tryz.f3) (by kernel_rfl) (by kernel_rfl) (by kernel_rfl) (by kernel_rfl) (cast (by kernel_rfl) hk)
def lv4:=lvM 45 [.raw,.raw] [] [] [kB 4] []
def F4 (D:Orc) (a0 a1:Value) (h:H) (k:Kv) (kp:Kp):Prop :=
D 11 [] h (fun v0 h1=>∃ t2:Bool,v0=(.bool t2)∧cond (!t2) (
k (.bool false) h1) (
newSl h1 0 [] (fun s3 h4=>slenW a1 (fun n5=>srcW h4 1 a1 (n5) (fun w6=>apW h4 1 8 [(.int .i64 0)] s3 (n5) w6 (fun s7 h8=>D 15 [a0,s7] h8 (fun v9 ba=>∃ bb:ByteArray,∃ bc:Int,v9=(.tuple #[(.string bb),(.int .i64 bc)])∧D 16 [a0,a1] ba (fun bd be=>∃ bf:ByteArray,∃ bg:Int,bd=(.tuple #[(.string bf),(.int .i64 bg)])∧cond t2 (
cond (bc==bg) (
cond (bb.toList==bf.toList) (
D 14 [s7,a1] be (fun bh bi=>∃ bj:Bool,bh=(.bool bj)∧k (.bool bj) bi) kp) (
k (.bool false) be)) (
k (.bool false) be)) (
k (.bool false) be)) kp) kp)))))) kp
def Cl4 (D:Orc):Prop:=∀ a0 a1 h k kp,F4 D a0 a1 h k kp→D 4 [a0,a1] h k kp
theorem cl4:Cl4 (CS Tryz.prog):=fun _ _ _ _ _ hk=>fn0 wide lv4 (fn:=Tryz.f4) (by kernel_rfl) (by kernel_rfl) (by kernel_rfl) (by kernel_rfl) (cast (by kernel_rfl) hk)
end Go.Proofs.YtkdneddcocggdaaGreatDoor.Am
