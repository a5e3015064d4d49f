/-
  Packed: 
-/
import Derived.Test.YtkdneddcocggdaaGreatDoorAmFnsR
set_option linter.unusedVariables false
set_option linter.unusedSimpArgs false
set_option linter.unnecessarySimpa false
namespace Go.Proofs.YtkdneddcocggdaaGreatDoor.Am
open Go Go.Proofs
set_option maxRecDepth 100000
def lv5:=lvM 105 [.str] [(9,[kS 0,kB 3,kR 4,kR 7,kI 9,kI 10]),(12,[kS 0,kB 3,kR 4,kR 7,kI 9,kI 10,kI 11]),(17,[kS 0,kB 3,kR 4,kR 7,kI 9,kI 12])] [(9,[(0,[kS 0,kB 3,kR 4,kR 7,kI 9])]),(12,[(2,[kS 0,kB 3,kR 4,kR 7,kI 9,kI 10])]),(17,[(4,[kS 0,kB 3,kR 7,kI 9])])] [kB 2] [(7,[kS 0,kB 3,kR 4,kR 7,kI 9,kB 44])]
def round5_12 (D:Orc) (I:List Value→H→Prop) (K:Kl) (a0 a1 a2 a3 a4 a5 a6:Value) (b0:H):Prop :=
strW a0 (fun b1=>qQl a1 (fun b2=>intK .i64 a4 (fun b3=>intK .i64 a5 (fun b4=>intK .i64 a6 (fun b5=>ptrW a2 (fun b6=>∃ b7:Value,rd b0 (Addr.add b6 1)=some b7∧qQj b7 b4 2 (fun b8=>∃ b9:Value,rd b0 (Addr.add b8 0)=some b9∧lenW b9 (fun ba=>cond (decide (b5<(ba:Int))) (
ptrW a2 (fun bb=>∃ bc:Value,rd b0 (Addr.add bb 1)=some bc∧qQj bc b4 2 (fun bd=>∃ be:Value,rd b0 (Addr.add bd 0)=some be∧qQj be b5 1 (fun bf=>one (.int .i64 99)=true∧1=1∧∃ bg,wr1 b0 bf (.int .i64 99)=some bg∧I [(.string b1),(.bool b2),a2,a3,(.int .i64 b3),(.int .i64 b4),(.int .i64 (IntKind.i64.wrap (b5+1)))] bg)))) (
K (X.e 2) [(.string b1),(.bool b2),a2,a3,(.int .i64 b3),(.int .i64 b4)] b0)))))))))
def loop5_12 (D:Orc):=Lp7 (round5_12 D)
def round5_9 (D:Orc) (I:List Value→H→Prop) (K:Kl) (a0 a1 a2 a3 a4 a5:Value) (b0:H):Prop :=
strW a0 (fun b1=>qQl a1 (fun b2=>intK .i64 a4 (fun b3=>intK .i64 a5 (fun b4=>ptrW a2 (fun b5=>∃ b6:Value,rd b0 (Addr.add b5 1)=some b6∧lenW b6 (fun b7=>cond (decide (b4<(b7:Int))) (
loop5_12 D [(.string b1),(.bool b2),a2,a3,(.int .i64 b3),(.int .i64 b4),(.int .i64 0)] b0 (fun b8 b9 ba=>xs b8 (qQl (nth b9 0) (fun bb=>K X.r [(.bool bb)] ba)) (fun bc=>cond (Nat.beq bc 2) (
strW (nth b9 0) (fun bd=>qQl (nth b9 1) (fun be=>intK .i64 (nth b9 4) (fun bf=>intK .i64 (nth b9 5) (fun bg=>ptrW (nth b9 2) (fun bh=>∃ bi:Value,rd ba (Addr.add bh 1)=some bi∧qQj bi bg 2 (fun bj=>2=2∧List.all [(.slice none 0 0),(.slice none 0 0)] one=true∧∃ bk,wr ba bj [(.slice none 0 0),(.slice none 0 0)]=some bk∧I [(.string bd),(.bool be),(nth b9 2),(nth b9 3),(.int .i64 bf),(.int .i64 (IntKind.i64.wrap (bg+1)))] bk))))))) (False)) (fun c=>(fun c h=>K (X.p c) [] h) c ba))) (
K (X.e 0) [(.string b1),(.bool b2),a2,a3,(.int .i64 b3)] b0)))))))
def loop5_9 (D:Orc):=Lp6 (round5_9 D)
def round5_17 (D:Orc) (I:List Value→H→Prop) (K:Kl) (a0 a1 a2 a3 a4 a5:Value) (b0:H):Prop :=
strW a0 (fun b1=>qQl a1 (fun b2=>intK .i64 a4 (fun b3=>intK .i64 a5 (fun b4=>ptrW a2 (fun b5=>∃ b6:Value,rd b0 (Addr.add b5 4)=some b6∧lenW b6 (fun b7=>cond (decide (b4<(b7:Int))) (
ptrW a2 (fun b8=>∃ b9:Value,rd b0 (Addr.add b8 4)=some b9∧qQj b9 b4 4 (fun ba=>4=4∧List.all [(.int .i64 0),(.slice none 0 0),(.slice none 0 0),(.int .i64 0)] one=true∧∃ bb,wr b0 ba [(.int .i64 0),(.slice none 0 0),(.slice none 0 0),(.int .i64 0)]=some bb∧I [(.string b1),(.bool b2),a2,a3,(.int .i64 b3),(.int .i64 (IntKind.i64.wrap (b4+1)))] bb))) (
K (X.e 4) [(.string b1),(.bool b2),a3,(.int .i64 b3)] b0)))))))
def loop5_17 (D:Orc):=Lp6 (round5_17 D)
def j5__7 (D:Orc) (k:Kv) (kp:Kp) (a0 a1 a2 a3 a4 a5:Value) (b0:H):Prop :=
strW a0 (fun b1=>qQl a1 (fun b2=>intK .i64 a4 (fun b3=>qQl a5 (fun b4=>cond b4 (
k (.bool false) b0) (
loop5_9 D [(.string b1),(.bool b2),a2,a3,(.int .i64 b3),(.int .i64 0)] b0 (fun b5 b6 b7=>xs b5 (qQl (nth b6 0) (fun b8=>k (.bool b8) b7)) (fun b9=>cond (Nat.beq b9 0) (
strW (nth b6 0) (fun ba=>qQl (nth b6 1) (fun bb=>intK .i64 (nth b6 4) (fun bc=>loop5_17 D [(.string ba),(.bool bb),(nth b6 2),(nth b6 3),(.int .i64 bc),(.int .i64 0)] b7 (fun bd be bf=>xs bd (qQl (nth be 0) (fun bg=>k (.bool bg) bf)) (fun bh=>cond (Nat.beq bh 4) (
strW (nth be 0) (fun bi=>qQl (nth be 1) (fun bj=>intK .i64 (nth be 3) (fun bk=>D 17 [(.string bi)] bf (fun bl bm=>∃ bn bo bp bq br bs:Value,∃ bt bu:Int,bl=(.tuple #[(.agg #[bn,bo,bp,bq,br,bs]),(.int .i64 bt),(.int .i64 bu)])∧newW bm [(.slice none 0 0),(.slice none 0 0),(.slice none 0 0),(.slice none 0 0),(.slice none 0 0),(.slice none 0 0)] (fun bv bw=>ptrW bv (fun bx=>6=6∧List.all [bn,bo,bp,bq,br,bs] one=true∧∃ bz,wr bw bx [bn,bo,bp,bq,br,bs]=some bz∧cond bj (
cond (bu==bk) (
ptrW bv (fun c0=>∃ c1 c2 c3 c4 c5 c6:Value,rdN bz c0 6=some [c1,c2,c3,c4,c5,c6]∧ptrW (nth be 2) (fun c7=>∃ c8 c9 ca cb cc cd:Value,rdN bz c7 6=some [c8,c9,ca,cb,cc,cd]∧D 19 [(.agg #[c1,c2,c3,c4,c5,c6]),(.agg #[c8,c9,ca,cb,cc,cd])] bz (fun ce cf=>∃ cg:Bool,ce=(.bool cg)∧k (.bool cg) cf) kp))) (
k (.bool false) bz)) (
k (.bool false) bz)))) kp)))) (False)) (fun c=>kp c bf)))))) (False)) (fun c=>kp c b7)))))))
def L5 (D:Orc):Lor:=Lsel [(9,loop5_9 D),(12,loop5_12 D),(17,loop5_17 D)]
def F5 (D:Orc) (a0:Value) (h:H) (k:Kv) (kp:Kp):Prop :=
strW a0 (fun s0=>D 11 [] h (fun v1 h2=>∃ t3:Bool,v1=(.bool t3)∧cond (!t3) (
k (.bool false) h2) (
D 17 [(.string s0)] h2 (fun v4 h5=>∃ v6 v7 v8 v9 ba bb:Value,∃ bc bd:Int,v4=(.tuple #[(.agg #[v6,v7,v8,v9,ba,bb]),(.int .i64 bc),(.int .i64 bd)])∧newW h5 [(.slice none 0 0),(.slice none 0 0),(.slice none 0 0),(.slice none 0 0),(.slice none 0 0),(.slice none 0 0)] (fun be bf=>ptrW be (fun bg=>6=6∧List.all [v6,v7,v8,v9,ba,bb] one=true∧∃ bh,wr bf bg [v6,v7,v8,v9,ba,bb]=some bh∧D 18 [(.string s0)] bh (fun bi bj=>∃ bk bl bm bn bo bp:Value,∃ bq br:Int,bi=(.tuple #[(.agg #[bk,bl,bm,bn,bo,bp]),(.int .i64 bq),(.int .i64 br)])∧newW bj [(.slice none 0 0),(.slice none 0 0),(.slice none 0 0),(.slice none 0 0),(.slice none 0 0),(.slice none 0 0)] (fun bs bt=>ptrW bs (fun bu=>6=6∧List.all [bk,bl,bm,bn,bo,bp] one=true∧∃ bv,wr bt bu [bk,bl,bm,bn,bo,bp]=some bv∧cond (!(bd != br)) (
cond (!(bc != bq)) (
ptrW be (fun bw=>∃ bx bz c0 c1 c2 c3:Value,rdN bv bw 6=some [bx,bz,c0,c1,c2,c3]∧ptrW bs (fun c4=>∃ c5 c6 c7 c8 c9 ca:Value,rdN bv c4 6=some [c5,c6,c7,c8,c9,ca]∧D 19 [(.agg #[bx,bz,c0,c1,c2,c3]),(.agg #[c5,c6,c7,c8,c9,ca])] bv (fun cb cc=>∃ cd:Bool,cb=(.bool cd)∧j5__7 D k kp (.string s0) (.bool t3) be bs (.int .i64 br) (.bool (!cd)) cc) kp))) (
j5__7 D k kp (.string s0) (.bool t3) be bs (.int .i64 br) (.bool true) bv)) (
j5__7 D k kp (.string s0) (.bool t3) be bs (.int .i64 br) (.bool true) bv)))) kp))) kp)) kp)
def Cl5 (D:Orc):Prop:=∀ a0 h k kp,F5 D a0 h k kp→D 5 [a0] h k kp
theorem cl5:Cl5 (CS Tryz.prog):=fun _ _ _ _ hk=>fnL wide lv5 L5 (fn:=Tryz.f5) (by kernel_rfl) (by kernel_rfl) (by kernel_rfl) (l:=[nthC (qQh (qQs Tryz.f5)) 0,nthC (qQh (qQs Tryz.f5)) 1,nthC (qQh (qQs Tryz.f5)) 2]) (by kernel_rfl) ⟨fun _ _ _ hk I H=>hk I fun _ _ _ _ _ _ _ hr=>H _ _ (cast (by kernel_rfl) hr),fun _ _ _ hk I H=>hk I fun _ _ _ _ _ _ _ _ hr=>H _ _ (cast (by kernel_rfl) hr),fun _ _ _ hk I H=>hk I fun _ _ _ _ _ _ _ hr=>H _ _ (cast (by kernel_rfl) hr),trivial⟩ (cast (by kernel_rfl) hk)
end Go.Proofs.YtkdneddcocggdaaGreatDoor.Am
