/-
  Packed: 
-/
import Derived.Test.YtkdneddcocggdaaGreatDoorAmFnsR
set_option linter.unusedVariables false
set_option linter.unusedSimpArgs false
set_option linter.unnecessarySimpa false
namespace Go.Proofs.YtkdneddcocggdaaGreatDoor.Am
open Go Go.Proofs
set_option maxRecDepth 100000
def lv10:=lvM 134 [.str,.str] [(6,[kS 0,kS 1,kB 5,kR 6,kI 7]),(12,[kS 0,kB 5,kR 6,kI 8])] [(6,[(0,[kS 0,kB 5,kR 6])]),(12,[(2,[kS 0,kB 5,kR 6])])] [kB 4] [(7,[kS 0,kS 1,kB 5,kR 6,kI 7]),(9,[kS 0,kS 1,kB 5,kR 6,kI 7,kB 39]),(13,[kS 0,kB 5,kR 6,kI 8]),(15,[kS 0,kB 5,kR 6,kI 8,kB 67]),(19,[kS 0,kB 5,kR 6,kB 90])]
def j10_6_7 (D:Orc) (I:List Value→H→Prop) (K:Kl) (a0 a1 a2 a3 a4:Value) (b0:H):Prop :=
strW a0 (fun b1=>strW a1 (fun b2=>qQp a2 (fun b3=>intK .i64 a4 (fun b4=>I [(.string b1),(.string b2),(.bool b3),a3,(.int .i64 (IntKind.i64.wrap (b4+1)))] b0))))
def j10_6_9 (D:Orc) (I:List Value→H→Prop) (K:Kl) (a0 a1 a2 a3 a4 a5:Value) (b0:H):Prop :=
strW a0 (fun b1=>strW a1 (fun b2=>qQp a2 (fun b3=>intK .i64 a4 (fun b4=>qQp a5 (fun b5=>cond b5 (
qZc b2 b4 (fun b6=>one (.int .u8 b6)=true∧0<1∧qQz b0 1 [(.int .u8 b6)] (fun b7 b8=>qXi b7 (fun b9=>srcW b8 1 b7 (b9) (fun ba=>apX false 5 b8 1 [(.int .u8 0)] a3 (b9) ba (fun bb bc=>j10_6_7 D I K (.string b1) (.string b2) (.bool b3) bb (.int .i64 b4) bc)))))) (
j10_6_7 D I K (.string b1) (.string b2) (.bool b3) a3 (.int .i64 b4) b0))))))
def round10_6 (D:Orc) (I:List Value→H→Prop) (K:Kl) (a0 a1 a2 a3 a4:Value) (h9:H):Prop :=
strW a0 (fun b1=>strW a1 (fun b2=>qQp a2 (fun b3=>intK .i64 a4 (fun b4=>cond (decide (b4<(b2.size:Int))) (
cond (decide (b4≤(65536:Int))) (
qZc b2 b4 (fun b5=>cond (b5 != 10) (
qZc b2 b4 (fun b6=>j10_6_9 D I K (.string b1) (.string b2) (.bool b3) a3 (.int .i64 b4) (.bool (decide (b6<(128:Int)))) h9)) (
j10_6_9 D I K (.string b1) (.string b2) (.bool b3) a3 (.int .i64 b4) (.bool false) h9))) (
K (X.e 0) [(.string b1),(.bool b3),a3] h9)) (
K (X.e 0) [(.string b1),(.bool b3),a3] h9)))))
def loop10_6 (D:Orc):=Lp5 (round10_6 D)
def j10_12_13 (D:Orc) (I:List Value→H→Prop) (K:Kl) (a0 a1 a2 a3:Value) (b0:H):Prop :=
strW a0 (fun b1=>qQp a1 (fun b2=>intK .i64 a3 (fun b3=>I [(.string b1),(.bool b2),a2,(.int .i64 (IntKind.i64.wrap (b3+1)))] b0)))
def j10_12_15 (D:Orc) (I:List Value→H→Prop) (K:Kl) (a0 a1 a2 a3 a4:Value) (b0:H):Prop :=
strW a0 (fun b1=>qQp a1 (fun b2=>intK .i64 a3 (fun b3=>qQp a4 (fun b4=>cond b4 (
qZc b1 b3 (fun b5=>one (.int .u8 32)=true∧0<3∧one (.int .u8 b5)=true∧1<3∧one (.int .u8 32)=true∧2<3∧qQz b0 3 [(.int .u8 32),(.int .u8 b5),(.int .u8 32)] (fun b6 b7=>qXi b6 (fun b8=>srcW b7 1 b6 (b8) (fun b9=>apX false 5 b7 1 [(.int .u8 0)] a2 (b8) b9 (fun ba bb=>j10_12_13 D I K (.string b1) (.bool b2) ba (.int .i64 b3) bb)))))) (
qZc b1 b3 (fun bc=>one (.int .u8 bc)=true∧0<1∧qQz b0 1 [(.int .u8 bc)] (fun bd be=>qXi bd (fun bf=>srcW be 1 bd (bf) (fun bg=>apX false 5 be 1 [(.int .u8 0)] a2 (bf) bg (fun bh bi=>j10_12_13 D I K (.string b1) (.bool b2) bh (.int .i64 b3) bi))))))))))
def round10_12 (D:Orc) (I:List Value→H→Prop) (K:Kl) (a0 a1 a2 a3:Value) (b0:H):Prop :=
strW a0 (fun b1=>qQp a1 (fun b2=>intK .i64 a3 (fun b3=>cond (decide (b3<(b1.size:Int))) (
cond (decide (b3≤(65536:Int))) (
qZc b1 b3 (fun b4=>cond (!(b4==32)) (
qZc b1 b3 (fun b5=>j10_12_15 D I K (.string b1) (.bool b2) a2 (.int .i64 b3) (.bool (b5==10)) b0)) (
j10_12_15 D I K (.string b1) (.bool b2) a2 (.int .i64 b3) (.bool true) b0))) (
K (X.e 2) [(.string b1),(.bool b2),a2] b0)) (
K (X.e 2) [(.string b1),(.bool b2),a2] b0))))
def loop10_12 (D:Orc):=Lp4 (round10_12 D)
def j10__19 (D:Orc) (k:Kv) (kp:Kp) (a0 a1 a2 a3:Value) (b0:H):Prop :=
strW a0 (fun b1=>qQp a1 (fun b2=>qQp a3 (fun b3=>cond b3 (
k (.bool b2) b0) (
D 17 [(.string b1)] b0 (fun b4 b5=>∃ b6 b7 b8 b9 ba bb:Value,∃ bc bd:Int,b4=(.tuple #[(.agg #[b6,b7,b8,b9,ba,bb]),(.int .i64 bc),(.int .i64 bd)])∧newW b5 [(.slice none 0 0),(.slice none 0 0),(.slice none 0 0),(.slice none 0 0),(.slice none 0 0),(.slice none 0 0)] (fun be bf=>ptrW be (fun bg=>6=6∧List.all [b6,b7,b8,b9,ba,bb] one=true∧∃ bh,wr bf bg [b6,b7,b8,b9,ba,bb]=some bh∧bsW bh a2 (fun bi=>D 17 [(.string bi)] bh (fun bj bk=>∃ bl bm bn bo bp bq:Value,∃ br bs:Int,bj=(.tuple #[(.agg #[bl,bm,bn,bo,bp,bq]),(.int .i64 br),(.int .i64 bs)])∧newW bk [(.slice none 0 0),(.slice none 0 0),(.slice none 0 0),(.slice none 0 0),(.slice none 0 0),(.slice none 0 0)] (fun bt bu=>ptrW bt (fun bv=>6=6∧List.all [bl,bm,bn,bo,bp,bq] one=true∧∃ bw,wr bu bv [bl,bm,bn,bo,bp,bq]=some bw∧cond b2 (
cond (bd==bs) (
ptrW be (fun bx=>∃ bz c0 c1 c2 c3 c4:Value,rdN bw bx 6=some [bz,c0,c1,c2,c3,c4]∧ptrW bt (fun c5=>∃ c6 c7 c8 c9 ca cb:Value,rdN bw c5 6=some [c6,c7,c8,c9,ca,cb]∧D 19 [(.agg #[bz,c0,c1,c2,c3,c4]),(.agg #[c6,c7,c8,c9,ca,cb])] bw (fun cc cd=>∃ ce:Bool,cc=(.bool ce)∧cond ce (
cond (bc==0) (
cond (!(br==0)) (
cond (decide (bc>0)) (
k (.bool (br==(IntKind.i64.wrap (bc+2)))) cd) (
k (.bool false) cd)) (
k (.bool true) cd)) (
cond (decide (bc>0)) (
k (.bool (br==(IntKind.i64.wrap (bc+2)))) cd) (
k (.bool false) cd))) (
k (.bool false) cd)) kp))) (
k (.bool false) bw)) (
k (.bool false) bw)))) kp)))) kp))))
def L10 (D:Orc):Lor:=Lsel [(6,loop10_6 D),(12,loop10_12 D)]
def F10 (D:Orc) (a0 a1:Value) (h:H) (k:Kv) (kp:Kp):Prop :=
strW a0 (fun s0=>strW a1 (fun s1=>D 11 [] h (fun v2 h3=>∃ t4:Bool,v2=(.bool t4)∧cond (!t4) (
k (.bool false) h3) (
one (.int .u8 35)=true∧0<1∧qQz h3 1 [(.int .u8 35)] (fun s5 h6=>xBb h6 s5 (fun s7 h8=>loop10_6 D [(.string s0),(.string s1),(.bool t4),s7,(.int .i64 0)] h8 (fun b9 ba bb=>xs b9 (qQp (nth ba 0) (fun bc=>k (.bool bc) bb)) (fun bd=>cond (Nat.beq bd 0) (
strW (nth ba 0) (fun be=>qQp (nth ba 1) (fun bf=>srcW bb 1 (.string (ByteArray.mk #[10,32,32,10])) ((ByteArray.mk #[10,32,32,10]).size) (fun bg=>apX true 5 bb 1 [(.int .u8 0)] (nth ba 2) ((ByteArray.mk #[10,32,32,10]).size) bg (fun bh bi=>loop10_12 D [(.string be),(.bool bf),bh,(.int .i64 0)] bi (fun bj bk bl=>xs bj (qQp (nth bk 0) (fun bm=>k (.bool bm) bl)) (fun bn=>cond (Nat.beq bn 2) (
strW (nth bk 0) (fun bo=>qQp (nth bk 1) (fun bp=>srcW bl 1 (.string (ByteArray.mk #[32,32,10,32,35,32,97,110,100,32,115,111,32,111,110])) ((ByteArray.mk #[32,32,10,32,35,32,97,110,100,32,115,111,32,111,110]).size) (fun bq=>apX true 5 bl 1 [(.int .u8 0)] (nth bk 2) ((ByteArray.mk #[32,32,10,32,35,32,97,110,100,32,115,111,32,111,110]).size) bq (fun br bs=>lenW br (fun bt=>cond (!(decide ((bt:Int)>65536))) (
bsW bs br (fun bu=>D 23 [(.string bu)] bs (fun bv bw=>∃ bx:Int,bv=(.int .i64 bx)∧j10__19 D k kp (.string bo) (.bool bp) br (.bool (decide (bx>4096))) bw) kp)) (
j10__19 D k kp (.string bo) (.bool bp) br (.bool true) bs))))))) (False)) (fun c=>kp c bl))))))) (False)) (fun c=>kp c bb)))))) kp))
def Cl10 (D:Orc):Prop:=∀ a0 a1 h k kp,F10 D a0 a1 h k kp→D 10 [a0,a1] h k kp
theorem cl10:Cl10 (CS Tryz.prog):=fun _ _ _ _ _ hk=>fnL wide lv10 L10 (fn:=Tryz.f10) (by kernel_rfl) (by kernel_rfl) (by kernel_rfl) (l:=[nthC (qQi (qQs Tryz.f10)) 0,nthC (qQi (qQs Tryz.f10)) 1]) (by kernel_rfl) ⟨fun _ _ _ hk I H=>hk I fun _ _ _ _ _ _ hr=>H _ _ (cast (by kernel_rfl) hr),fun _ _ _ hk I H=>hk I fun _ _ _ _ _ hr=>H _ _ (cast (by kernel_rfl) hr),trivial⟩ (cast (by kernel_rfl) hk)
end Go.Proofs.YtkdneddcocggdaaGreatDoor.Am
