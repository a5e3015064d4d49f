/-
  Packed: 
-/
import Derived.Test.YtkdneddcocggdaaGreatDoorAmFnsR
set_option linter.unusedVariables false
set_option linter.unusedSimpArgs false
set_option linter.unnecessarySimpa false
namespace Go.Proofs.YtkdneddcocggdaaGreatDoor.Am
open Go Go.Proofs
set_option maxRecDepth 100000
def lv6:=lvM 32 [.raw] [] [] [kB 2] []
def F6 (D:Orc) (a0:Value) (h:H) (k:Kv) (kp:Kp):Prop :=
aggW a0 (fun l0=>newW h l0 (fun p1 h2=>D 11 [] h2 (fun v3 h4=>∃ t5:Bool,v3=(.bool t5)∧cond (!t5) (
k (.bool false) h4) (
ptrW p1 (fun b6=>∃ v7 v8 v9 ba bb bc:Value,rdN h4 b6 6=some [v7,v8,v9,ba,bb,bc]∧D 20 [(.agg #[v7,v8,v9,ba,bb,bc])] h4 (fun bd be=>∃ bf:ByteArray,∃ bg:Int,bd=(.tuple #[(.string bf),(.int .i64 bg)])∧ptrW p1 (fun bh=>∃ bi bj bk bl bm bn:Value,rdN be bh 6=some [bi,bj,bk,bl,bm,bn]∧D 21 [(.agg #[bi,bj,bk,bl,bm,bn])] be (fun bo bp=>∃ bq:ByteArray,∃ br:Int,bo=(.tuple #[(.string bq),(.int .i64 br)])∧cond t5 (
cond (bg==br) (
k (.bool (bf.toList==bq.toList)) bp) (
k (.bool false) bp)) (
k (.bool false) bp)) kp)) kp))) kp))
def Cl6 (D:Orc):Prop:=∀ a0 h k kp,F6 D a0 h k kp→D 6 [a0] h k kp
theorem cl6:Cl6 (CS Tryz.prog):=fun _ _ _ _ hk=>fn0 wide lv6 (fn:=Tryz.f6) (by kernel_rfl) (by kernel_rfl) (by kernel_rfl) (by kernel_rfl) (cast (by kernel_rfl) hk)
end Go.Proofs.YtkdneddcocggdaaGreatDoor.Am
