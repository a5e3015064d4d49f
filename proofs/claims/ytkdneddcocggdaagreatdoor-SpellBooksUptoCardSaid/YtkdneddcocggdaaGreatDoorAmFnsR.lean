/-
  Packed:  The functions.
-/
import Derived.Test.YtkdneddcocggdaaGreatDoorAmFnsP
set_option linter.unusedVariables false
set_option linter.unusedSimpArgs false
set_option linter.unnecessarySimpa false
namespace Go.Proofs.YtkdneddcocggdaaGreatDoor.Am
open Go Go.Proofs
set_option maxRecDepth 100000
def lv118:=lvM 10 [.int .u64] [] [] [kR 2] []
def F118 (D:Orc) (a0:Value) (h:H) (k:Kv) (kp:Kp):Prop :=
intK .u64 a0 (fun x0=>0≤(32:Int)∧one (.int .u32 (IntKind.wrap IntKind.u32 x0))=true∧0<2∧one (.int .u32 (IntKind.u32.wrap (Int.fdiv x0 (2 ^ (min (Int.toNat 32) (IntKind.bits IntKind.u64))))))=true∧1<2∧qXa h 2 [(.int .u32 (IntKind.wrap IntKind.u32 x0)),(.int .u32 (IntKind.u32.wrap (Int.fdiv x0 (2 ^ (min (Int.toNat 32) (IntKind.bits IntKind.u64))))))] (fun s1 h2=>D 134 [s1] h2 (fun v3 h4=>∃ v5:Value,v3=v5∧k v5 h4) kp))
def Cl118 (D:Orc):Prop:=∀ a0 h k kp,F118 D a0 h k kp→D 118 [a0] h k kp
theorem cl118:Cl118 (CS Tryz.prog):=fun _ _ _ _ hk=>fn0 wide lv118 (fn:=Tryz.f118) (by kernel_rfl) (by kernel_rfl) (by kernel_rfl) (by kernel_rfl) (cast (by kernel_rfl) hk)
def lv133:=lvM 20 [.raw] [] [] [kB 2] []
def F133 (D:Orc) (a0:Value) (h:H) (k:Kv) (kp:Kp):Prop :=
lenW a0 (fun n0=>cond (decide ((n0:Int)≤(64:Int))) (
lenW a0 (fun n1=>cond (!((n1:Int)==0)) (
lenW a0 (fun n2=>qQm a0 (IntKind.i64.wrap ((n2:Int) - 1)) 1 (fun b3=>∃ x4:Int,rd h b3=some (.int .u32 x4)∧k (.bool (x4 != 0)) h))) (
k (.bool true) h))) (
k (.bool false) h))
def Cl133 (D:Orc):Prop:=∀ a0 h k kp,F133 D a0 h k kp→D 133 [a0] h k kp
theorem cl133:Cl133 (CS Tryz.prog):=fun _ _ _ _ hk=>fn0 wide lv133 (fn:=Tryz.f133) (by kernel_rfl) (by kernel_rfl) (by kernel_rfl) (by kernel_rfl) (cast (by kernel_rfl) hk)
def lv134:=lvM 21 [.raw] [(1,[kR 0])] [(1,[(0,[kR 0])])] [kR 2] []
def round134_1 (D:Orc) (I:List Value→H→Prop) (K:Kl) (a0:Value) (h0:H):Prop :=
lenW a0 (fun n1=>cond (decide ((n1:Int)>0)) (
lenW a0 (fun n2=>qQm a0 (IntKind.i64.wrap ((n2:Int) - 1)) 1 (fun b3=>∃ x4:Int,rd h0 b3=some (.int .u32 x4)∧cond (x4==0) (
lenW a0 (fun n5=>qXu a0 none (some (IntKind.i64.wrap ((n5:Int) - 1))) none 1 (fun s6=>I [s6] h0))) (
K (X.e 0) [a0] h0)))) (
K (X.e 0) [a0] h0))
def loop134_1 (D:Orc):=Lp1 (round134_1 D)
def L134 (D:Orc):Lor:=Lsel [(1,loop134_1 D)]
def F134 (D:Orc) (a0:Value) (h:H) (k:Kv) (kp:Kp):Prop :=
loop134_1 D [a0] h (fun x8 b1 h7=>xs x8 (k (nth b1 0) h7) (fun b3=>cond (Nat.beq b3 0) (
k (nth b1 0) h7) (False)) (fun c=>kp c h7))
def Cl134 (D:Orc):Prop:=∀ a0 h k kp,F134 D a0 h k kp→D 134 [a0] h k kp
theorem cl134:Cl134 (CS Tryz.prog):=fun _ _ _ _ hk=>fnL wide lv134 L134 (fn:=Tryz.f134) (by kernel_rfl) (by kernel_rfl) (by kernel_rfl) (l:=[nthC (qQi (qQs Tryz.f134)) 0]) (by kernel_rfl) ⟨fun _ _ _ hk I H=>hk I fun _ _ hr=>H _ _ (cast (by kernel_rfl) hr),trivial⟩ (cast (by kernel_rfl) hk)
end Go.Proofs.YtkdneddcocggdaaGreatDoor.Am
