/-
  Packed:  The functions.
-/
import Derived.Test.YtkdneddcocggdaaGreatDoorAmFnsP
set_option linter.unusedVariables false
set_option linter.unusedSimpArgs false
set_option linter.unnecessarySimpa false
namespace Go.Proofs.YtkdneddcocggdaaGreatDoor.Am
open Go Go.Proofs
set_option maxRecDepth 100000
def lv133:=lvM 20 [.raw] [] [] [kB 2] []
def F133 (D:Orc) (a0:Value) (h:H) (k:Kv) (kp:Kp):Prop :=
lenW a0 (fun n0=>cond (decide ((n0:Int)≤(64:Int))) (
lenW a0 (fun n1=>cond (!((n1:Int)==0)) (
lenW a0 (fun n2=>qQm a0 (IntKind.i64.wrap ((n2:Int) - 1)) 1 (fun b3=>∃ x4:Int,rd h b3=some (.int .u32 x4)∧k (.bool (x4 != 0)) h))) (
k (.bool true) h))) (
k (.bool false) h))
def Cl133 (D:Orc):Prop:=∀ a0 h k kp,F133 D a0 h k kp→D 133 [a0] h k kp
theorem cl133:Cl133 (CS Tryz.prog):=fun _ _ _ _ hk=>fn0 wide lv133 (fn:=Tryz.f133) (by kernel_rfl) (by kernel_rfl) (by kernel_rfl) (by kernel_rfl) (cast (by kernel_rfl) hk)
end Go.Proofs.YtkdneddcocggdaaGreatDoor.Am
