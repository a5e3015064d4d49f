/-
  Packed: 
-/
import Derived.Test.YtkdneddcocggdaaGreatDoorAmFnsR
set_option linter.unusedVariables false
set_option linter.unusedSimpArgs false
set_option linter.unnecessarySimpa false
namespace Go.Proofs.YtkdneddcocggdaaGreatDoor.Am
open Go Go.Proofs
set_option maxRecDepth 100000
def lv8:=lvM 54 [.raw] [] [] [kB 2] []
def F8 (D:Orc) (a0:Value) (h:H) (k:Kv) (kp:Kp):Prop :=
aggW a0 (fun l0=>newW h l0 (fun p1 h2=>D 11 [] h2 (fun v3 h4=>∃ t5:Bool,v3=(.bool t5)∧cond (!t5) (
k (.bool false) h4) (
ptrW p1 (fun b6=>∃ v7 v8 v9 ba bb bc:Value,rdN h4 b6 6=some [v7,v8,v9,ba,bb,bc]∧D 20 [(.agg #[v7,v8,v9,ba,bb,bc])] h4 (fun bd be=>∃ bf:ByteArray,∃ bg:Int,bd=(.tuple #[(.string bf),(.int .i64 bg)])∧cond (bg != 0) (
cond t5 (
k (.bool (bf.toList==(ByteArray.mk #[]).toList)) be) (
k (.bool false) be)) (
D 17 [(.string bf)] be (fun bh bi=>∃ bj bk bl bm bn bo:Value,∃ bp bq:Int,bh=(.tuple #[(.agg #[bj,bk,bl,bm,bn,bo]),(.int .i64 bp),(.int .i64 bq)])∧newW bi [(.slice none 0 0),(.slice none 0 0),(.slice none 0 0),(.slice none 0 0),(.slice none 0 0),(.slice none 0 0)] (fun br bs=>ptrW br (fun bt=>6=6∧List.all [bj,bk,bl,bm,bn,bo] one=true∧∃ bu,wr bs bt [bj,bk,bl,bm,bn,bo]=some bu∧cond t5 (
cond (bq==0) (
cond (bp==0) (
ptrW br (fun bv=>∃ bw bx bz c0 c1 c2:Value,rdN bu bv 6=some [bw,bx,bz,c0,c1,c2]∧ptrW p1 (fun c3=>∃ c4 c5 c6 c7 c8 c9:Value,rdN bu c3 6=some [c4,c5,c6,c7,c8,c9]∧D 19 [(.agg #[bw,bx,bz,c0,c1,c2]),(.agg #[c4,c5,c6,c7,c8,c9])] bu (fun ca cb=>∃ cc:Bool,ca=(.bool cc)∧cond cc (
cond (decide ((bf.size:Int)≤(65536:Int))) (
D 23 [(.string bf)] cb (fun cd ce=>∃ cf:Int,cd=(.int .i64 cf)∧k (.bool (decide (cf≤(4096:Int)))) ce) kp) (
k (.bool false) cb)) (
k (.bool false) cb)) kp))) (
k (.bool false) bu)) (
k (.bool false) bu)) (
k (.bool false) bu)))) kp)) kp))) kp))
def Cl8 (D:Orc):Prop:=∀ a0 h k kp,F8 D a0 h k kp→D 8 [a0] h k kp
theorem cl8:Cl8 (CS Tryz.prog):=fun _ _ _ _ hk=>fn0 wide lv8 (fn:=Tryz.f8) (by kernel_rfl) (by kernel_rfl) (by kernel_rfl) (by kernel_rfl) (cast (by kernel_rfl) hk)
end Go.Proofs.YtkdneddcocggdaaGreatDoor.Am
