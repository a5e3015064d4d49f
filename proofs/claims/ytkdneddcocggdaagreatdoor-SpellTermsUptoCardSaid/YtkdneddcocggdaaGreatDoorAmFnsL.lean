/-
  Packed: 
-/
import Derived.Test.YtkdneddcocggdaaGreatDoorAmFnsR
set_option linter.unusedVariables false
set_option linter.unusedSimpArgs false
set_option linter.unnecessarySimpa false
namespace Go.Proofs.YtkdneddcocggdaaGreatDoor.Am
open Go Go.Proofs
set_option maxRecDepth 100000
set_option linter.unusedVariables false
def lv3:=lvM 36 [.raw,.str] [] [] [kB 4] []
def F3 (D:Orc) (a0 a1:Value) (h:H) (k:Kv) (kp:Kp):Prop :=
strW a1 (fun s0=>D 11 [] h (fun v1 h2=>∃ t3:Bool,v1=(.bool t3)∧cond (!t3) (
k (.bool false) h2) (
D 12 [a0,(.string s0)] h2 (fun v4 h5=>∃ v6:Value,∃ x7:Int,v4=(.tuple #[v6,(.int .i64 x7)])∧D 13 [a0,(.string s0)] h5 (fun v8 h9=>∃ ba:Value,∃ bb:Int,v8=(.tuple #[ba,(.int .i64 bb)])∧cond t3 (
cond (x7==bb) (
D 14 [v6,ba] h9 (fun bc bd=>∃ be:Bool,bc=(.bool be)∧k (.bool be) bd) kp) (
k (.bool false) h9)) (
k (.bool false) h9)) kp) kp)) kp)
def Cl3 (D:Orc):Prop:=∀ a0 a1 h k kp,F3 D a0 a1 h k kp→D 3 [a0,a1] h k kp
theorem cl3:Cl3 (CS Tryz.prog):=fun _ _ _ _ _ hk=>fn0 wide lv3 (fn:=Tryz.f3) (by kernel_rfl) (by kernel_rfl) (by kernel_rfl) (by kernel_rfl) (cast (by kernel_rfl) hk)
end Go.Proofs.YtkdneddcocggdaaGreatDoor.Am
