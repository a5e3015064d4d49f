/-
  Packed:  The functions.
-/
import Derived.Test.YtkdneddcocggdaaGreatDoorAmFnsP
set_option linter.unusedVariables false
set_option linter.unusedSimpArgs false
set_option linter.unnecessarySimpa false
namespace Go.Proofs.YtkdneddcocggdaaGreatDoor.Am
open Go Go.Proofs
set_option maxRecDepth 100000
def lv21:=lvM 192 [.raw] [(6,[kR 1,kR 4,kI 6]),(12,[kR 1,kR 4,kI 7]),(21,[kR 1,kR 4,kI 8]),(28,[kR 1,kR 4,kI 9]),(32,[kR 1,kR 4,kI 10]),(37,[kR 4,kI 11,kI 12])] [(6,[(0,[kR 1,kR 4])]),(12,[(2,[kR 1,kR 4])]),(21,[(4,[kR 1,kR 4])]),(28,[(6,[kR 1,kR 4])]),(32,[(8,[kR 4])]),(37,[(10,[kR 4,kI 11])])] [kS 2,kI 3] [(38,[kR 4,kI 11,kI 12]),(42,[kR 4])]
def round21_6 (D:Orc) (I:List Value→H→Prop) (K:Kl) (a0 a1 a2:Value) (b0:H):Prop :=
intK .i64 a2 (fun b1=>ptrW a0 (fun b2=>∃ b3:Value,rd b0 (Addr.add b2 0)=some b3∧lenW b3 (fun b4=>cond (decide (b1<(b4:Int))) (
ptrW a0 (fun b5=>∃ b6:Value,rd b0 (Addr.add b5 0)=some b6∧qQk b6 b1 2 (fun b7=>∃ b8:ByteArray,rd b0 (Addr.add b7 0)=some (.string b8)∧D 61 [(.string b8)] b0 (fun b9 ba=>∃ bb:Bool,b9=(.bool bb)∧D 60 [a1,(.bool (!bb)),(.int .i64 223)] ba (fun bc bd=>bc=(.tuple #[])∧I [a0,a1,(.int .i64 (IntKind.i64.wrap (b1+1)))] bd) (fun c h=>K (X.p c) [] h)) (fun c h=>K (X.p c) [] h)))) (
K (X.e 0) [a0,a1] b0))))
def loop21_6 (D:Orc):=Lp3 (round21_6 D)
def round21_12 (D:Orc) (I:List Value→H→Prop) (K:Kl) (a0 a1 a2:Value) (b0:H):Prop :=
intK .i64 a2 (fun b1=>ptrW a0 (fun b2=>∃ b3:Value,rd b0 (Addr.add b2 0)=some b3∧lenW b3 (fun b4=>cond (decide (b1<(b4:Int))) (
D 62 [a1,(.bool true),(.string (ByteArray.mk #[115,121,109]))] b0 (fun b5 b6=>b5=(.tuple #[])∧ptrW a0 (fun b7=>∃ b8:Value,rd b6 (Addr.add b7 0)=some b8∧qQk b8 b1 2 (fun b9=>∃ ba:ByteArray,rd b6 (Addr.add b9 0)=some (.string ba)∧D 62 [a1,(.bool false),(.string ba)] b6 (fun bb bc=>bb=(.tuple #[])∧ptrW a0 (fun bd=>∃ be:Value,rd bc (Addr.add bd 0)=some be∧qQk be b1 2 (fun bf=>∃ bg:Int,rd bc (Addr.add bf 1)=some (.int .i64 bg)∧D 63 [a1,(.int .i64 bg)] bc (fun bh bi=>bh=(.tuple #[])∧D 64 [a1] bi (fun bj bk=>bj=(.tuple #[])∧I [a0,a1,(.int .i64 (IntKind.i64.wrap (b1+1)))] bk) (fun c h=>K (X.p c) [] h)) (fun c h=>K (X.p c) [] h)))) (fun c h=>K (X.p c) [] h)))) (fun c h=>K (X.p c) [] h)) (
K (X.e 2) [a0,a1] b0))))
def loop21_12 (D:Orc):=Lp3 (round21_12 D)
def round21_21 (D:Orc) (I:List Value→H→Prop) (K:Kl) (a0 a1 a2:Value) (b0:H):Prop :=
intK .i64 a2 (fun b1=>ptrW a0 (fun b2=>∃ b3:Value,rd b0 (Addr.add b2 3)=some b3∧lenW b3 (fun b4=>cond (decide (b1<(b4:Int))) (
D 62 [a1,(.bool true),(.string (ByteArray.mk #[97,98,111,118,101]))] b0 (fun b5 b6=>b5=(.tuple #[])∧ptrW a0 (fun b7=>∃ b8:Value,rd b6 (Addr.add b7 3)=some b8∧qQk b8 b1 2 (fun b9=>0≤(0:Int)∧0<(2:Int)∧∃ ba:Int,rd b6 (Addr.add b9 (Int.toNat 0*1))=some (.int .i64 ba)∧D 66 [a1,(.int .i64 ba),(.bool false)] b6 (fun bb bc=>bb=(.tuple #[])∧ptrW a0 (fun bd=>∃ be:Value,rd bc (Addr.add bd 3)=some be∧qQk be b1 2 (fun bf=>0≤(1:Int)∧1<(2:Int)∧∃ bg:Int,rd bc (Addr.add bf (Int.toNat 1*1))=some (.int .i64 bg)∧D 66 [a1,(.int .i64 bg),(.bool false)] bc (fun bh bi=>bh=(.tuple #[])∧D 64 [a1] bi (fun bj bk=>bj=(.tuple #[])∧I [a0,a1,(.int .i64 (IntKind.i64.wrap (b1+1)))] bk) (fun c h=>K (X.p c) [] h)) (fun c h=>K (X.p c) [] h)))) (fun c h=>K (X.p c) [] h)))) (fun c h=>K (X.p c) [] h)) (
K (X.e 4) [a0,a1] b0))))
def loop21_21 (D:Orc):=Lp3 (round21_21 D)
def round21_28 (D:Orc) (I:List Value→H→Prop) (K:Kl) (a0 a1 a2:Value) (b0:H):Prop :=
intK .i64 a2 (fun b1=>ptrW a0 (fun b2=>∃ b3:Value,rd b0 (Addr.add b2 4)=some b3∧lenW b3 (fun b4=>cond (decide (b1<(b4:Int))) (
ptrW a0 (fun b5=>∃ b6:Value,rd b0 (Addr.add b5 4)=some b6∧qQk b6 b1 4 (fun b7=>∃ b8:Int,∃ b9 ba:Value,∃ bb:Int,rdN b0 b7 4=some [(.int .i64 b8),b9,ba,(.int .i64 bb)]∧D 67 [a1,(.agg #[(.int .i64 b8),b9,ba,(.int .i64 bb)])] b0 (fun bc bd=>bc=(.tuple #[])∧I [a0,a1,(.int .i64 (IntKind.i64.wrap (b1+1)))] bd) (fun c h=>K (X.p c) [] h)))) (
K (X.e 6) [a0,a1] b0))))
def loop21_28 (D:Orc):=Lp3 (round21_28 D)
def round21_32 (D:Orc) (I:List Value→H→Prop) (K:Kl) (a0 a1 a2:Value) (b0:H):Prop :=
intK .i64 a2 (fun b1=>ptrW a0 (fun b2=>∃ b3:Value,rd b0 (Addr.add b2 5)=some b3∧lenW b3 (fun b4=>cond (decide (b1<(b4:Int))) (
ptrW a0 (fun b5=>∃ b6:Value,rd b0 (Addr.add b5 5)=some b6∧qQk b6 b1 2 (fun b7=>∃ b8:ByteArray,∃ b9:Value,rdN b0 b7 2=some [(.string b8),b9]∧D 68 [a1,(.agg #[(.string b8),b9])] b0 (fun ba bb=>ba=(.tuple #[])∧I [a0,a1,(.int .i64 (IntKind.i64.wrap (b1+1)))] bb) (fun c h=>K (X.p c) [] h)))) (
K (X.e 8) [a1] b0))))
def loop21_32 (D:Orc):=Lp3 (round21_32 D)
def j21_37_38 (D:Orc) (I:List Value→H→Prop) (K:Kl) (a0 a1 a2:Value) (b0:H):Prop :=
intK .i64 a1 (fun b1=>intK .i64 a2 (fun b2=>I [a0,(.int .i64 b1),(.int .i64 (IntKind.i64.wrap (b2+1)))] b0))
def round21_37 (D:Orc) (I:List Value→H→Prop) (K:Kl) (a0 a1 a2:Value) (b0:H):Prop :=
intK .i64 a1 (fun b1=>intK .i64 a2 (fun b2=>qQe a0=true∧ptrW a0 (fun b3=>∃ b4:Value,rd b0 (Addr.add b3 1)=some b4∧lenW b4 (fun b5=>cond (decide (b2<(b5:Int))) (
qQe a0=true∧ptrW a0 (fun b6=>∃ b7:Value,rd b0 (Addr.add b6 1)=some b7∧qQk b7 b2 1 (fun b8=>∃ b9:Int,rd b0 b8=some (.int .u8 b9)∧cond (b9==10) (
j21_37_38 D I K a0 (.int .i64 (IntKind.i64.wrap (b1+1))) (.int .i64 b2) b0) (
j21_37_38 D I K a0 (.int .i64 b1) (.int .i64 b2) b0)))) (
K (X.e 10) [a0,(.int .i64 b1)] b0)))))
def loop21_37 (D:Orc):=Lp3 (round21_37 D)
def j21__42 (D:Orc) (k:Kv) (kp:Kp) (a0:Value) (b0:H):Prop :=
qQe a0=true∧ptrW a0 (fun b1=>∃ b2:Int,rd b0 (Addr.add b1 2)=some (.int .i64 b2)∧cond (b2 != 0) (
qQe a0=true∧ptrW a0 (fun b3=>∃ b4:Int,rd b0 (Addr.add b3 2)=some (.int .i64 b4)∧k (.tuple #[(.string (ByteArray.mk #[])),(.int .i64 b4)]) b0)) (
qQe a0=true∧ptrW a0 (fun b5=>∃ b6:Value,rd b0 (Addr.add b5 1)=some b6∧bsW b0 b6 (fun b7=>k (.tuple #[(.string b7),(.int .i64 0)]) b0))))
def L21 (D:Orc):Lor:=Lsel [(6,loop21_6 D),(12,loop21_12 D),(21,loop21_21 D),(28,loop21_28 D),(32,loop21_32 D),(37,loop21_37 D)]
def F21 (D:Orc) (a0:Value) (h:H) (k:Kv) (kp:Kp):Prop :=
aggW a0 (fun l0=>newW h l0 (fun p1 h2=>ptrW p1 (fun b3=>∃ v4:Value,rd h2 (Addr.add b3 0)=some v4∧one v4=true∧0<3∧newW h2 [v4,(.slice none 0 0),(.int .i64 0)] (fun p5 h6=>ptrW p1 (fun b7=>∃ v8:Value,rd h6 (Addr.add b7 0)=some v8∧D 31 [v8] h6 (fun v9 ba=>∃ bb:Int,v9=(.int .i64 bb)∧D 60 [p5,(.bool (bb != 0)),(.int .i64 bb)] ba (fun bc bd=>bc=(.tuple #[])∧ptrW p1 (fun be=>∃ bf:Value,rd bd (Addr.add be 0)=some bf∧lenW bf (fun bg=>D 60 [p5,(.bool (decide ((bg:Int)>64))),(.int .i64 226)] bd (fun bh bi=>bh=(.tuple #[])∧loop21_6 D [p1,p5,(.int .i64 0)] bi (fun bj bk bl=>xs bj (strW (nth bk 0) (fun bm=>intK .i64 (nth bk 1) (fun bn=>k (.tuple #[(.string bm),(.int .i64 bn)]) bl))) (fun bo=>cond (Nat.beq bo 0) (
qQe (nth bk 1)=true∧ptrW (nth bk 1) (fun bp=>∃ bq:Int,rd bl (Addr.add bp 2)=some (.int .i64 bq)∧cond (bq != 0) (
qQe (nth bk 1)=true∧ptrW (nth bk 1) (fun br=>∃ bs:Int,rd bl (Addr.add br 2)=some (.int .i64 bs)∧k (.tuple #[(.string (ByteArray.mk #[])),(.int .i64 bs)]) bl)) (
loop21_12 D [(nth bk 0),(nth bk 1),(.int .i64 0)] bl (fun bt bu bv=>xs bt (strW (nth bu 0) (fun bw=>intK .i64 (nth bu 1) (fun bx=>k (.tuple #[(.string bw),(.int .i64 bx)]) bv))) (fun bz=>cond (Nat.beq bz 2) (
ptrW (nth bu 0) (fun c0=>∃ c1:Value,rd bv (Addr.add c0 1)=some c1∧D 65 [(nth bu 1),c1,(.string (ByteArray.mk #[114,117,108,101])),(.string (ByteArray.mk #[45,62]))] bv (fun c2 c3=>c2=(.tuple #[])∧ptrW (nth bu 0) (fun c4=>∃ c5:Value,rd c3 (Addr.add c4 2)=some c5∧D 65 [(nth bu 1),c5,(.string (ByteArray.mk #[101,113])),(.string (ByteArray.mk #[61]))] c3 (fun c6 c7=>c6=(.tuple #[])∧loop21_21 D [(nth bu 0),(nth bu 1),(.int .i64 0)] c7 (fun c8 c9 ca=>xs c8 (strW (nth c9 0) (fun cb=>intK .i64 (nth c9 1) (fun cc=>k (.tuple #[(.string cb),(.int .i64 cc)]) ca))) (fun cd=>cond (Nat.beq cd 4) (
loop21_28 D [(nth c9 0),(nth c9 1),(.int .i64 0)] ca (fun ce cf cg=>xs ce (strW (nth cf 0) (fun ch=>intK .i64 (nth cf 1) (fun ci=>k (.tuple #[(.string ch),(.int .i64 ci)]) cg))) (fun cj=>cond (Nat.beq cj 6) (
loop21_32 D [(nth cf 0),(nth cf 1),(.int .i64 0)] cg (fun ck cl cm=>xs ck (strW (nth cl 0) (fun cn=>intK .i64 (nth cl 1) (fun co=>k (.tuple #[(.string cn),(.int .i64 co)]) cm))) (fun cp=>cond (Nat.beq cp 8) (
loop21_37 D [(nth cl 0),(.int .i64 1),(.int .i64 0)] cm (fun cq cr cs=>xs cq (strW (nth cr 0) (fun ct=>intK .i64 (nth cr 1) (fun cu=>k (.tuple #[(.string ct),(.int .i64 cu)]) cs))) (fun cv=>cond (Nat.beq cv 10) (
intK .i64 (nth cr 1) (fun cw=>qQe (nth cr 0)=true∧ptrW (nth cr 0) (fun cx=>∃ cy:Value,rd cs (Addr.add cx 1)=some cy∧lenW cy (fun cz=>cond (!(decide ((cz:Int)>65536))) (
D 60 [(nth cr 0),(.bool (decide (cw>4096))),(.int .i64 220)] cs (fun d0 d1=>d0=(.tuple #[])∧j21__42 D k kp (nth cr 0) d1) kp) (
D 60 [(nth cr 0),(.bool true),(.int .i64 220)] cs (fun d2 d3=>d2=(.tuple #[])∧j21__42 D k kp (nth cr 0) d3) kp))))) (False)) (fun c=>kp c cs))) (False)) (fun c=>kp c cm))) (False)) (fun c=>kp c cg))) (False)) (fun c=>kp c ca))) kp)) kp)) (False)) (fun c=>kp c bv))))) (False)) (fun c=>kp c bl))) kp))) kp) kp)))))
def Cl21 (D:Orc):Prop:=∀ a0 h k kp,F21 D a0 h k kp→D 21 [a0] h k kp
theorem cl21:Cl21 (CS Tryz.prog):=fun _ _ _ _ hk=>fnL wide lv21 L21 (fn:=Tryz.f21) (by kernel_rfl) (by kernel_rfl) (by kernel_rfl) (l:=[nthC (qQg (qQq Tryz.f21)) 0,nthC (qQg (qQq Tryz.f21)) 1,nthC (qQg (qQq Tryz.f21)) 2,nthC (qQg (qQq Tryz.f21)) 3,nthC (qQg (qQq Tryz.f21)) 4,nthC (qQg (qQq Tryz.f21)) 5]) (by kernel_rfl) ⟨fun _ _ _ hk I H=>hk I fun _ _ _ _ hr=>H _ _ (cast (by kernel_rfl) hr),fun _ _ _ hk I H=>hk I fun _ _ _ _ hr=>H _ _ (cast (by kernel_rfl) hr),fun _ _ _ hk I H=>hk I fun _ _ _ _ hr=>H _ _ (cast (by kernel_rfl) hr),fun _ _ _ hk I H=>hk I fun _ _ _ _ hr=>H _ _ (cast (by kernel_rfl) hr),fun _ _ _ hk I H=>hk I fun _ _ _ _ hr=>H _ _ (cast (by kernel_rfl) hr),fun _ _ _ hk I H=>hk I fun _ _ _ _ hr=>H _ _ (cast (by kernel_rfl) hr),trivial⟩ (cast (by kernel_rfl) hk)
def lv22:=lvM 14 [.raw,.raw] [] [] [kI 4] []
def F22 (D:Orc) (a0 a1:Value) (h:H) (k:Kv) (kp:Kp):Prop :=
D 31 [a0] h (fun v0 h1=>∃ x2:Int,v0=(.int .i64 x2)∧cond (x2 != 0) (
k (.int .i64 x2) h1) (
D 69 [a0,a1] h1 (fun v3 h4=>∃ x5:Int,v3=(.int .i64 x5)∧k (.int .i64 x5) h4) kp)) kp
def Cl22 (D:Orc):Prop:=∀ a0 a1 h k kp,F22 D a0 a1 h k kp→D 22 [a0,a1] h k kp
theorem cl22:Cl22 (CS Tryz.prog):=fun _ _ _ _ _ hk=>fn0 wide lv22 (fn:=Tryz.f22) (by kernel_rfl) (by kernel_rfl) (by kernel_rfl) (by kernel_rfl) (cast (by kernel_rfl) hk)
def lv31:=lvM 60 [.raw] [(4,[kR 0,kI 3]),(11,[kR 0,kI 3,kI 4])] [(4,[(0,[])]),(11,[(2,[kR 0,kI 3])])] [kI 2] [(7,[kR 0,kI 3,kB 29]),(9,[kR 0,kI 3,kB 43])]
def round31_11 (D:Orc) (I:List Value→H→Prop) (K:Kl) (a0 a1 a2:Value) (b0:H):Prop :=
intK .i64 a1 (fun b1=>intK .i64 a2 (fun b2=>cond (decide (b2<b1)) (
qQk a0 b2 2 (fun b3=>∃ b4:ByteArray,rd b0 (Addr.add b3 0)=some (.string b4)∧qQk a0 b1 2 (fun b5=>∃ b6:ByteArray,rd b0 (Addr.add b5 0)=some (.string b6)∧cond (b4.toList==b6.toList) (
K X.r [(.int .i64 36)] b0) (
I [a0,(.int .i64 b1),(.int .i64 (IntKind.i64.wrap (b2+1)))] b0)))) (
K (X.e 2) [a0,(.int .i64 b1)] b0)))
def loop31_11 (D:Orc):=Lp3 (round31_11 D)
def j31_4_9 (D:Orc) (I:List Value→H→Prop) (K:Kl) (a0 a1 a2:Value) (b0:H):Prop :=
intK .i64 a1 (fun b1=>qQr a2 (fun b2=>cond b2 (
K X.r [(.int .i64 35)] b0) (
loop31_11 D [a0,(.int .i64 b1),(.int .i64 0)] b0 (fun b3 b4 b5=>xs b3 (intK .i64 (nth b4 0) (fun b6=>K X.r [(.int .i64 b6)] b5)) (fun b7=>cond (Nat.beq b7 2) (
intK .i64 (nth b4 1) (fun b8=>I [(nth b4 0),(.int .i64 (IntKind.i64.wrap (b8+1)))] b5)) (False)) (fun c=>(fun c h=>K (X.p c) [] h) c b5)))))
def j31_4_7 (D:Orc) (I:List Value→H→Prop) (K:Kl) (a0 a1 a2:Value) (b0:H):Prop :=
intK .i64 a1 (fun b1=>qQr a2 (fun b2=>cond b2 (
K X.r [(.int .i64 34)] b0) (
qQk a0 b1 2 (fun b3=>∃ b4:Int,rd b0 (Addr.add b3 1)=some (.int .i64 b4)∧cond (!(decide (b4<(0:Int)))) (
qQk a0 b1 2 (fun b5=>∃ b6:Int,rd b0 (Addr.add b5 1)=some (.int .i64 b6)∧j31_4_9 D I K a0 (.int .i64 b1) (.bool (decide (b6>8))) b0)) (
j31_4_9 D I K a0 (.int .i64 b1) (.bool true) b0)))))
def round31_4 (D:Orc) (I:List Value→H→Prop) (K:Kl) (a0 a1:Value) (h1:H):Prop :=
intK .i64 a1 (fun x2=>lenW a0 (fun n3=>cond (decide (x2<(n3:Int))) (
qQk a0 x2 2 (fun b3=>∃ s5:ByteArray,rd h1 (Addr.add b3 0)=some (.string s5)∧D 61 [(.string s5)] h1 (fun v6 h7=>∃ t8:Bool,v6=(.bool t8)∧cond (!t8) (
qQk a0 x2 2 (fun b8=>∃ b9:ByteArray,rd h7 (Addr.add b8 0)=some (.string b9)∧D 75 [(.string b9)] h7 (fun ba bb=>∃ bc:Bool,ba=(.bool bc)∧j31_4_7 D I K a0 (.int .i64 x2) (.bool (!bc)) bb) (fun c h=>K (X.p c) [] h))) (
j31_4_7 D I K a0 (.int .i64 x2) (.bool false) h7)) (fun c h=>K (X.p c) [] h))) (
K (X.e 0) [] h1)))
def loop31_4 (D:Orc):=Lp2 (round31_4 D)
def L31 (D:Orc):Lor:=Lsel [(4,loop31_4 D),(11,loop31_11 D)]
def F31 (D:Orc) (a0:Value) (h:H) (k:Kv) (kp:Kp):Prop :=
lenW a0 (fun n0=>cond (decide ((n0:Int)>128)) (
k (.int .i64 37) h) (
loop31_4 D [a0,(.int .i64 0)] h (fun b1 b2 b3=>xs b1 (intK .i64 (nth b2 0) (fun b4=>k (.int .i64 b4) b3)) (fun b5=>cond (Nat.beq b5 0) (
k (.int .i64 0) b3) (False)) (fun c=>kp c b3))))
def Cl31 (D:Orc):Prop:=∀ a0 h k kp,F31 D a0 h k kp→D 31 [a0] h k kp
theorem cl31:Cl31 (CS Tryz.prog):=fun _ _ _ _ hk=>fnL wide lv31 L31 (fn:=Tryz.f31) (by kernel_rfl) (by kernel_rfl) (by kernel_rfl) (l:=[nthC (qQg (qQq Tryz.f31)) 0,nthC (qQg (qQq Tryz.f31)) 1]) (by kernel_rfl) ⟨fun _ _ _ hk I H=>hk I fun _ _ _ hr=>H _ _ (cast (by kernel_rfl) hr),fun _ _ _ hk I H=>hk I fun _ _ _ _ hr=>H _ _ (cast (by kernel_rfl) hr),trivial⟩ (cast (by kernel_rfl) hk)
def lv38:=lvM 66 [.raw,.raw,.raw] [(7,[kR 0,kR 1,kR 2,kR 8,kI 9])] [(7,[(0,[kR 1,kR 2,kR 8])])] [kR 6,kR 7] [(12,[kR 0,kR 1,kR 2,kR 8,kI 9]),(15,[kR 1,kR 2])]
def j38_7_12 (D:Orc) (I:List Value→H→Prop) (K:Kl) (a0 a1 a2 a3 a4:Value) (b0:H):Prop :=
intK .i64 a4 (fun b1=>D 38 [a0,a1,a2] b0 (fun b2 b3=>∃ b4 b5:Value,b2=(.tuple #[b4,b5])∧I [a0,b5,b4,a3,(.int .i64 (IntKind.i64.wrap (b1+1)))] b3) (fun c h=>K (X.p c) [] h))
def round38_7 (D:Orc) (I:List Value→H→Prop) (K:Kl) (a0 a1 a2 a3 a4:Value) (b0:H):Prop :=
intK .i64 a4 (fun b1=>ptrW a3 (fun b2=>∃ b3:Int,rd b0 (Addr.add b2 1)=some (.int .i64 b3)∧cond (decide (b1<b3)) (
cond (b1==0) (
one (.int .u8 40)=true∧0<1∧qQz b0 1 [(.int .u8 40)] (fun b4 b5=>qXf b4 (fun b6=>srcW b5 1 b4 (b6) (fun b7=>apX false 5 b5 1 [(.int .u8 0)] a2 (b6) b7 (fun b8 b9=>j38_7_12 D I K a0 a1 b8 a3 (.int .i64 b1) b9))))) (
one (.int .u8 44)=true∧0<1∧qQz b0 1 [(.int .u8 44)] (fun ba bb=>qXf ba (fun bc=>srcW bb 1 ba (bc) (fun bd=>apX false 5 bb 1 [(.int .u8 0)] a2 (bc) bd (fun be bf=>j38_7_12 D I K a0 a1 be a3 (.int .i64 b1) bf)))))) (
K (X.e 0) [a1,a2,a3] b0)))
def loop38_7 (D:Orc):=Lp5 (round38_7 D)
def j38__15 (D:Orc) (k:Kv) (kp:Kp) (a0 a1:Value) (b0:H):Prop :=
k (.tuple #[a1,a0]) b0
def L38 (D:Orc):Lor:=Lsel [(7,loop38_7 D)]
def F38 (D:Orc) (a0 a1 a2:Value) (h:H) (k:Kv) (kp:Kp):Prop :=
qQk a1 0 1 (fun b0=>∃ x1:Int,rd h b0=some (.int .i64 x1)∧cond (decide (x1<(0:Int))) (
one (.int .u8 95)=true∧0<1∧qQz h 1 [(.int .u8 95)] (fun s2 h3=>qQk a1 0 1 (fun b4=>∃ x5:Int,rd h3 b4=some (.int .i64 x5)∧qXt a1 (some 1) none none 1 (fun s6=>qXf s2 (fun n7=>srcW h3 1 s2 (n7) (fun w8=>apX false 5 h3 1 [(.int .u8 0)] a2 (n7) w8 (fun s9 ba=>(rd ba b4=some (.int .i64 x5))∧D 83 [(.int .i64 (IntKind.i64.wrap (-1 - x5)))] ba (fun bb bc=>∃ bd:ByteArray,bb=(.string bd)∧srcW bc 1 (.string bd) (bd.size) (fun be=>apX true 5 bc 1 [(.int .u8 0)] s9 (bd.size) be (fun bf bg=>k (.tuple #[bf,s6]) bg))) kp))))))) (
qQk a1 0 1 (fun bh=>∃ bi:Int,rd h bh=some (.int .i64 bi)∧qQk a0 bi 2 (fun bj=>∃ bk:ByteArray,∃ bl:Int,rdN h bj 2=some [(.string bk),(.int .i64 bl)]∧newW h [(.string (ByteArray.mk #[])),(.int .i64 0)] (fun bm bn=>ptrW bm (fun bo=>2=2∧List.all [(.string bk),(.int .i64 bl)] one=true∧∃ bp,wr bn bo [(.string bk),(.int .i64 bl)]=some bp∧ptrW bm (fun bq=>∃ br:ByteArray,rd bp (Addr.add bq 0)=some (.string br)∧srcW bp 1 (.string br) (br.size) (fun bs=>apX true 5 bp 1 [(.int .u8 0)] a2 (br.size) bs (fun bt bu=>qXt a1 (some 1) none none 1 (fun bv=>loop38_7 D [a0,bv,bt,bm,(.int .i64 0)] bu (fun bw bx bz=>xs bw (k (.tuple #[(nth bx 0),(nth bx 1)]) bz) (fun c0=>cond (Nat.beq c0 0) (
ptrW (nth bx 2) (fun c1=>∃ c2:Int,rd bz (Addr.add c1 1)=some (.int .i64 c2)∧cond (decide (c2>0)) (
one (.int .u8 41)=true∧0<1∧qQz bz 1 [(.int .u8 41)] (fun c3 c4=>qXf c3 (fun c5=>srcW c4 1 c3 (c5) (fun c6=>apX false 5 c4 1 [(.int .u8 0)] (nth bx 1) (c5) c6 (fun c7 c8=>j38__15 D k kp (nth bx 0) c7 c8))))) (
j38__15 D k kp (nth bx 0) (nth bx 1) bz))) (False)) (fun c=>kp c bz))))))))))))
def Cl38 (D:Orc):Prop:=∀ a0 a1 a2 h k kp,F38 D a0 a1 a2 h k kp→D 38 [a0,a1,a2] h k kp
theorem cl38:Cl38 (CS Tryz.prog):=fun _ _ _ _ _ _ hk=>fnL wide lv38 L38 (fn:=Tryz.f38) (by kernel_rfl) (by kernel_rfl) (by kernel_rfl) (l:=[nthC (qQg (qQq Tryz.f38)) 0]) (by kernel_rfl) ⟨fun _ _ _ hk I H=>hk I fun _ _ _ _ _ _ hr=>H _ _ (cast (by kernel_rfl) hr),trivial⟩ (cast (by kernel_rfl) hk)
def lv60:=lvM 18 [.raw,.bool,.int .i64] [] [] [] [(1,[kR 0,kI 2,kB 13])]
def j60__1 (D:Orc) (k:Kv) (kp:Kp) (a0 a1 a2:Value) (h4:H):Prop :=
intK .i64 a1 (fun x5=>qQr a2 (fun t6=>cond t6 (
qQe a0=true∧ptrW a0 (fun b3=>one (.int .i64 x5)=true∧1=1∧∃ h8,wr1 h4 (Addr.add b3 2) (.int .i64 x5)=some h8∧k (.tuple #[]) h8)) (
k (.tuple #[]) h4)))
def F60 (D:Orc) (a0 a1 a2:Value) (h:H) (k:Kv) (kp:Kp):Prop :=
qQr a1 (fun t0=>intK .i64 a2 (fun x1=>cond t0 (
qQe a0=true∧ptrW a0 (fun b2=>∃ x3:Int,rd h (Addr.add b2 2)=some (.int .i64 x3)∧j60__1 D k kp a0 (.int .i64 x1) (.bool (x3==0)) h)) (
j60__1 D k kp a0 (.int .i64 x1) (.bool false) h)))
def Cl60 (D:Orc):Prop:=∀ a0 a1 a2 h k kp,F60 D a0 a1 a2 h k kp→D 60 [a0,a1,a2] h k kp
theorem cl60:Cl60 (CS Tryz.prog):=fun _ _ _ _ _ _ hk=>fn0 wide lv60 (fn:=Tryz.f60) (by kernel_rfl) (by kernel_rfl) (by kernel_rfl) (by kernel_rfl) (cast (by kernel_rfl) hk)
def lv61:=lvM 35 [.str] [(4,[kR 18])] [(4,[(0,[])])] [kB 2] [(2,[kS 0,kB 16]),(7,[kR 18,kB 34])]
def j61_4_7 (D:Orc) (I:List Value→H→Prop) (K:Kl) (a0 a1:Value) (b0:H):Prop :=
qQr a1 (fun b1=>cond b1 (
K X.r [(.bool false)] b0) (
I [a0] b0))
def round61_4 (D:Orc) (I:List Value→H→Prop) (K:Kl) (a0:Value) (h9:H):Prop :=
ptrW a0 (fun b1=>xWj h9 b1 (fun b2 b3=>qXw b2 0 (fun b4=>qQr b4 (fun b5=>cond b5 (
qXw b2 1 (fun b6=>qXw b2 2 (fun b7=>intK .i64 b6 (fun b8=>cond (b8==0) (
D 104 [b7] b3 (fun b9 ba=>∃ bb:Bool,b9=(.bool bb)∧cond (!(!bb)) (
D 105 [b7] ba (fun bc bd=>∃ be:Bool,bc=(.bool be)∧j61_4_7 D I K a0 (.bool (!be)) bd) (fun c h=>K (X.p c) [] h)) (
j61_4_7 D I K a0 (.bool true) ba)) (fun c h=>K (X.p c) [] h)) (
D 105 [b7] b3 (fun bf bg=>∃ bh:Bool,bf=(.bool bh)∧j61_4_7 D I K a0 (.bool (!bh)) bg) (fun c h=>K (X.p c) [] h)))))) (
K (X.e 0) [] b3)))))
def loop61_4 (D:Orc):=Lp1 (round61_4 D)
def j61__2 (D:Orc) (k:Kv) (kp:Kp) (a0 a1:Value) (h4:H):Prop :=
strW a0 (fun s5=>qQr a1 (fun t6=>cond t6 (
k (.bool false) h4) (
xUw h4 s5 (fun p7 h8=>loop61_4 D [p7] h8 (fun b5 b6 b7=>xs b5 (qQr (nth b6 0) (fun b8=>k (.bool b8) b7)) (fun b9=>cond (Nat.beq b9 0) (
k (.bool true) b7) (False)) (fun c=>kp c b7))))))
def L61 (D:Orc):Lor:=Lsel [(4,loop61_4 D)]
def F61 (D:Orc) (a0:Value) (h:H) (k:Kv) (kp:Kp):Prop :=
strW a0 (fun s0=>cond (!(s0.toList==(ByteArray.mk #[]).toList)) (
cond (!(decide ((s0.size:Int)>32))) (
D 103 [(.string s0)] h (fun v1 h2=>∃ t3:Bool,v1=(.bool t3)∧j61__2 D k kp (.string s0) (.bool (!t3)) h2) kp) (
j61__2 D k kp (.string s0) (.bool true) h)) (
j61__2 D k kp (.string s0) (.bool true) h))
def Cl61 (D:Orc):Prop:=∀ a0 h k kp,F61 D a0 h k kp→D 61 [a0] h k kp
theorem cl61:Cl61 (CS Tryz.prog):=fun _ _ _ _ hk=>fnL wide lv61 L61 (fn:=Tryz.f61) (by kernel_rfl) (by kernel_rfl) (by kernel_rfl) (l:=[nthC (qQg (qQq Tryz.f61)) 0]) (by kernel_rfl) ⟨fun _ _ _ hk I H=>hk I fun _ _ hr=>H _ _ (cast (by kernel_rfl) hr),trivial⟩ (cast (by kernel_rfl) hk)
def lv62:=lvM 26 [.raw,.bool,.str] [] [] [] [(2,[kR 0,kS 2])]
def j62__2 (D:Orc) (k:Kv) (kp:Kp) (a0 a1:Value) (b0:H):Prop :=
strW a1 (fun b1=>qQe a0=true∧ptrW a0 (fun b2=>∃ b3:Value,rd b0 (Addr.add b2 1)=some b3∧srcW b0 1 (.string b1) (b1.size) (fun b4=>apX true 5 b0 1 [(.int .u8 0)] b3 (b1.size) b4 (fun b5 b6=>qQe a0=true∧ptrW a0 (fun b7=>one b5=true∧1=1∧∃ b8,wr1 b6 (Addr.add b7 1) b5=some b8∧k (.tuple #[]) b8)))))
def F62 (D:Orc) (a0 a1 a2:Value) (h:H) (k:Kv) (kp:Kp):Prop :=
qQr a1 (fun t0=>strW a2 (fun s1=>cond (!t0) (
qQe a0=true∧ptrW a0 (fun b2=>∃ v3:Value,rd h (Addr.add b2 1)=some v3∧one (.int .u8 32)=true∧0<1∧qQz h 1 [(.int .u8 32)] (fun s4 h5=>qXf s4 (fun n6=>srcW h5 1 s4 (n6) (fun w7=>apX false 5 h5 1 [(.int .u8 0)] v3 (n6) w7 (fun s8 h9=>qQe a0=true∧ptrW a0 (fun ba=>one s8=true∧1=1∧∃ bb,wr1 h9 (Addr.add ba 1) s8=some bb∧j62__2 D k kp a0 (.string s1) bb))))))) (
j62__2 D k kp a0 (.string s1) h)))
def Cl62 (D:Orc):Prop:=∀ a0 a1 a2 h k kp,F62 D a0 a1 a2 h k kp→D 62 [a0,a1,a2] h k kp
theorem cl62:Cl62 (CS Tryz.prog):=fun _ _ _ _ _ _ hk=>fn0 wide lv62 (fn:=Tryz.f62) (by kernel_rfl) (by kernel_rfl) (by kernel_rfl) (by kernel_rfl) (cast (by kernel_rfl) hk)
def lv63:=lvM 21 [.raw,.int .i64] [] [] [] [(1,[kR 0,kI 1])]
def j63__1 (D:Orc) (k:Kv) (kp:Kp) (a0 a1:Value) (h3:H):Prop :=
intK .i64 a1 (fun x4=>qQe a0=true∧ptrW a0 (fun b2=>∃ x6:Int,rd h3 (Addr.add b2 2)=some (.int .i64 x6)∧cond (x6==0) (
D 83 [(.int .i64 x4)] h3 (fun v7 h8=>∃ s9:ByteArray,v7=(.string s9)∧D 62 [a0,(.bool false),(.string s9)] h8 (fun b7 b8=>b7=(.tuple #[])∧k (.tuple #[]) b8) kp) kp) (
k (.tuple #[]) h3)))
def F63 (D:Orc) (a0 a1:Value) (h:H) (k:Kv) (kp:Kp):Prop :=
intK .i64 a1 (fun x0=>cond (!(decide (x0<(0:Int)))) (
D 60 [a0,(.bool (decide (x0>2147483647))),(.int .i64 225)] h (fun v1 h2=>v1=(.tuple #[])∧j63__1 D k kp a0 (.int .i64 x0) h2) kp) (
D 60 [a0,(.bool true),(.int .i64 225)] h (fun b3 b4=>b3=(.tuple #[])∧j63__1 D k kp a0 (.int .i64 x0) b4) kp))
def Cl63 (D:Orc):Prop:=∀ a0 a1 h k kp,F63 D a0 a1 h k kp→D 63 [a0,a1] h k kp
theorem cl63:Cl63 (CS Tryz.prog):=fun _ _ _ _ _ hk=>fn0 wide lv63 (fn:=Tryz.f63) (by kernel_rfl) (by kernel_rfl) (by kernel_rfl) (by kernel_rfl) (cast (by kernel_rfl) hk)
def lv64:=lvM 11 [.raw] [] [] [] []
def F64 (D:Orc) (a0:Value) (h:H) (k:Kv) (kp:Kp):Prop :=
qQe a0=true∧ptrW a0 (fun b0=>∃ v1:Value,rd h (Addr.add b0 1)=some v1∧one (.int .u8 10)=true∧0<1∧qQz h 1 [(.int .u8 10)] (fun s2 h3=>qXf s2 (fun n4=>srcW h3 1 s2 (n4) (fun w5=>apX false 5 h3 1 [(.int .u8 0)] v1 (n4) w5 (fun s6 h7=>qQe a0=true∧ptrW a0 (fun b8=>one s6=true∧1=1∧∃ h9,wr1 h7 (Addr.add b8 1) s6=some h9∧k (.tuple #[]) h9))))))
def Cl64 (D:Orc):Prop:=∀ a0 h k kp,F64 D a0 h k kp→D 64 [a0] h k kp
theorem cl64:Cl64 (CS Tryz.prog):=fun _ _ _ _ hk=>fn0 wide lv64 (fn:=Tryz.f64) (by kernel_rfl) (by kernel_rfl) (by kernel_rfl) (by kernel_rfl) (cast (by kernel_rfl) hk)
def lv65:=lvM 42 [.raw,.raw,.str,.str] [(1,[kR 0,kR 1,kS 2,kS 3,kI 8])] [(1,[(0,[kR 0,kR 1])])] [] []
def round65_1 (D:Orc) (I:List Value→H→Prop) (K:Kl) (a0 a1 a2 a3 a4:Value) (h2:H):Prop :=
strW a2 (fun s3=>strW a3 (fun s4=>intK .i64 a4 (fun x5=>lenW a1 (fun n6=>cond (decide (x5<(n6:Int))) (
D 62 [a0,(.bool true),(.string s3)] h2 (fun v7 h8=>v7=(.tuple #[])∧qQk a1 x5 2 (fun b7=>∃ b8:Value,rd h8 (Addr.add b7 0)=some b8∧D 106 [a0,b8] h8 (fun b9 ba=>b9=(.tuple #[])∧D 62 [a0,(.bool false),(.string s4)] ba (fun bb bc=>bb=(.tuple #[])∧qQk a1 x5 2 (fun bd=>∃ be:Value,rd bc (Addr.add bd 1)=some be∧D 106 [a0,be] bc (fun bf bg=>bf=(.tuple #[])∧D 64 [a0] bg (fun bh bi=>bh=(.tuple #[])∧I [a0,a1,(.string s3),(.string s4),(.int .i64 (IntKind.i64.wrap (x5+1)))] bi) (fun c h=>K (X.p c) [] h)) (fun c h=>K (X.p c) [] h))) (fun c h=>K (X.p c) [] h)) (fun c h=>K (X.p c) [] h))) (fun c h=>K (X.p c) [] h)) (
K (X.e 0) [a0,a1] h2)))))
def loop65_1 (D:Orc):=Lp5 (round65_1 D)
def L65 (D:Orc):Lor:=Lsel [(1,loop65_1 D)]
def F65 (D:Orc) (a0 a1 a2 a3:Value) (h:H) (k:Kv) (kp:Kp):Prop :=
strW a2 (fun s0=>strW a3 (fun s1=>loop65_1 D [a0,a1,(.string s0),(.string s1),(.int .i64 0)] h (fun b2 b3 b4=>xs b2 (k (.tuple #[]) b4) (fun b5=>cond (Nat.beq b5 0) (
lenW (nth b3 1) (fun b6=>D 60 [(nth b3 0),(.bool (decide ((b6:Int)>64))),(.int .i64 226)] b4 (fun b7 b8=>b7=(.tuple #[])∧k (.tuple #[]) b8) kp)) (False)) (fun c=>kp c b4))))
def Cl65 (D:Orc):Prop:=∀ a0 a1 a2 a3 h k kp,F65 D a0 a1 a2 a3 h k kp→D 65 [a0,a1,a2,a3] h k kp
theorem cl65:Cl65 (CS Tryz.prog):=fun _ _ _ _ _ _ _ hk=>fnL wide lv65 L65 (fn:=Tryz.f65) (by kernel_rfl) (by kernel_rfl) (by kernel_rfl) (l:=[nthC (qQg (qQq Tryz.f65)) 0]) (by kernel_rfl) ⟨fun _ _ _ hk I H=>hk I fun _ _ _ _ _ _ hr=>H _ _ (cast (by kernel_rfl) hr),trivial⟩ (cast (by kernel_rfl) hk)
def lv66:=lvM 62 [.raw,.int .i64,.bool] [] [] [] [(2,[kR 0,kI 1,kI 6])]
def j66__2 (D:Orc) (k:Kv) (kp:Kp) (a0 a1 a2:Value) (h7:H):Prop :=
intK .i64 a1 (fun x8=>intK .i64 a2 (fun x9=>qQe a0=true∧ptrW a0 (fun b3=>∃ b4:Int,rd h7 (Addr.add b3 2)=some (.int .i64 b4)∧cond (b4 != 0) (
k (.tuple #[]) h7) (
cond (decide (x8<x9)) (
qQe a0=true∧ptrW a0 (fun b5=>∃ b6:Value,rd h7 (Addr.add b5 0)=some b6∧qQk b6 x8 2 (fun b7=>∃ b8:ByteArray,rd h7 (Addr.add b7 0)=some (.string b8)∧D 62 [a0,(.bool false),(.string b8)] h7 (fun b9 ba=>b9=(.tuple #[])∧k (.tuple #[]) ba) kp))) (
qQe a0=true∧ptrW a0 (fun bb=>∃ bc:Value,rd h7 (Addr.add bb 0)=some bc∧qQk bc (IntKind.i64.wrap (x8 - x9)) 2 (fun bd=>∃ be:ByteArray,rd h7 (Addr.add bd 0)=some (.string be)∧be.size+(ByteArray.mk #[35]).size≤9223372036854775807∧D 62 [a0,(.bool false),(.string (be++(ByteArray.mk #[35])))] h7 (fun bf bg=>bf=(.tuple #[])∧k (.tuple #[]) bg) kp)))))))
def F66 (D:Orc) (a0 a1 a2:Value) (h:H) (k:Kv) (kp:Kp):Prop :=
intK .i64 a1 (fun x0=>qQr a2 (fun t1=>qQe a0=true∧ptrW a0 (fun b2=>∃ v3:Value,rd h (Addr.add b2 0)=some v3∧lenW v3 (fun n4=>cond (!(decide (x0<(0:Int)))) (
cond (decide (x0≥(n4:Int))) (
cond (!(!t1)) (
D 60 [a0,(.bool (decide (x0≥(IntKind.i64.wrap (2*(n4:Int)))))),(.int .i64 223)] h (fun v5 h6=>v5=(.tuple #[])∧j66__2 D k kp a0 (.int .i64 x0) (.int .i64 (n4:Int)) h6) kp) (
D 60 [a0,(.bool true),(.int .i64 223)] h (fun b7 b8=>b7=(.tuple #[])∧j66__2 D k kp a0 (.int .i64 x0) (.int .i64 (n4:Int)) b8) kp)) (
D 60 [a0,(.bool (decide (x0≥(IntKind.i64.wrap (2*(n4:Int)))))),(.int .i64 223)] h (fun b9 ba=>b9=(.tuple #[])∧j66__2 D k kp a0 (.int .i64 x0) (.int .i64 (n4:Int)) ba) kp)) (
D 60 [a0,(.bool true),(.int .i64 223)] h (fun bb bc=>bb=(.tuple #[])∧j66__2 D k kp a0 (.int .i64 x0) (.int .i64 (n4:Int)) bc) kp)))))
def Cl66 (D:Orc):Prop:=∀ a0 a1 a2 h k kp,F66 D a0 a1 a2 h k kp→D 66 [a0,a1,a2] h k kp
theorem cl66:Cl66 (CS Tryz.prog):=fun _ _ _ _ _ _ hk=>fn0 wide lv66 (fn:=Tryz.f66) (by kernel_rfl) (by kernel_rfl) (by kernel_rfl) (by kernel_rfl) (cast (by kernel_rfl) hk)
def lv67:=lvM 138 [.raw,.raw] [(8,[kR 0,kR 3,kI 4]),(15,[kR 0,kR 3,kI 5]),(21,[kR 0,kR 3,kI 5,kI 6]),(29,[kR 0,kR 3,kI 5,kI 6,kR 7,kI 10])] [(8,[(0,[kR 0,kR 3])]),(15,[(2,[])]),(21,[(4,[kR 0,kR 3,kI 5])]),(29,[(6,[kR 0,kR 3,kI 5,kI 6])])] [] [(2,[kR 0,kR 3])]
def round67_8 (D:Orc) (I:List Value→H→Prop) (K:Kl) (a0 a1 a2:Value) (b0:H):Prop :=
intK .i64 a2 (fun b1=>ptrW a1 (fun b2=>∃ b3:Value,rd b0 (Addr.add b2 1)=some b3∧lenW b3 (fun b4=>cond (decide (b1<(b4:Int))) (
D 62 [a0,(.bool true),(.string (ByteArray.mk #[111,118,101,114]))] b0 (fun b5 b6=>b5=(.tuple #[])∧ptrW a1 (fun b7=>∃ b8:Value,rd b6 (Addr.add b7 1)=some b8∧qQk b8 b1 2 (fun b9=>0≤(0:Int)∧0<(2:Int)∧∃ ba:Int,rd b6 (Addr.add b9 (Int.toNat 0*1))=some (.int .i64 ba)∧D 66 [a0,(.int .i64 ba),(.bool true)] b6 (fun bb bc=>bb=(.tuple #[])∧ptrW a1 (fun bd=>∃ be:Value,rd bc (Addr.add bd 1)=some be∧qQk be b1 2 (fun bf=>0≤(1:Int)∧1<(2:Int)∧∃ bg:Int,rd bc (Addr.add bf (Int.toNat 1*1))=some (.int .i64 bg)∧D 66 [a0,(.int .i64 bg),(.bool true)] bc (fun bh bi=>bh=(.tuple #[])∧D 64 [a0] bi (fun bj bk=>bj=(.tuple #[])∧I [a0,a1,(.int .i64 (IntKind.i64.wrap (b1+1)))] bk) (fun c h=>K (X.p c) [] h)) (fun c h=>K (X.p c) [] h)))) (fun c h=>K (X.p c) [] h)))) (fun c h=>K (X.p c) [] h)) (
K (X.e 0) [a0,a1] b0))))
def loop67_8 (D:Orc):=Lp3 (round67_8 D)
def round67_29 (D:Orc) (I:List Value→H→Prop) (K:Kl) (a0 a1 a2 a3 a4 a5:Value) (b0:H):Prop :=
intK .i64 a2 (fun b1=>intK .i64 a3 (fun b2=>intK .i64 a5 (fun b3=>ptrW a4 (fun b4=>∃ b5:Value,rd b0 (Addr.add b4 1)=some b5∧lenW b5 (fun b6=>cond (decide (b3<(b6:Int))) (
ptrW a4 (fun b7=>∃ b8:Value,rd b0 (Addr.add b7 1)=some b8∧qQk b8 b3 1 (fun b9=>∃ ba:Int,rd b0 b9=some (.int .i64 ba)∧D 63 [a0,(.int .i64 ba)] b0 (fun bb bc=>bb=(.tuple #[])∧I [a0,a1,(.int .i64 b1),(.int .i64 b2),a4,(.int .i64 (IntKind.i64.wrap (b3+1)))] bc) (fun c h=>K (X.p c) [] h)))) (
K (X.e 6) [a0,a1,(.int .i64 b1),(.int .i64 b2)] b0))))))
def loop67_29 (D:Orc):=Lp6 (round67_29 D)
def round67_21 (D:Orc) (I:List Value→H→Prop) (K:Kl) (a0 a1 a2 a3:Value) (b0:H):Prop :=
intK .i64 a2 (fun b1=>intK .i64 a3 (fun b2=>ptrW a1 (fun b3=>∃ b4:Value,rd b0 (Addr.add b3 2)=some b4∧qQk b4 b1 2 (fun b5=>∃ b6:Value,rd b0 (Addr.add b5 1)=some b6∧lenW b6 (fun b7=>cond (decide (b2<(b7:Int))) (
ptrW a1 (fun b8=>∃ b9:Value,rd b0 (Addr.add b8 2)=some b9∧qQk b9 b1 2 (fun ba=>∃ bb:Value,rd b0 (Addr.add ba 1)=some bb∧qQk bb b2 2 (fun bc=>∃ bd be:Value,rdN b0 bc 2=some [bd,be]∧newW b0 [(.slice none 0 0),(.slice none 0 0)] (fun bf bg=>ptrW bf (fun bh=>2=2∧List.all [bd,be] one=true∧∃ bi,wr bg bh [bd,be]=some bi∧ptrW bf (fun bj=>∃ bk:Value,rd bi (Addr.add bj 0)=some bk∧D 108 [bk] bi (fun bl bm=>∃ bn:ByteArray,∃ bo:Int,bl=(.tuple #[(.string bn),(.int .i64 bo)])∧D 60 [a0,(.bool (bo != 0)),(.int .i64 225)] bm (fun bp bq=>bp=(.tuple #[])∧D 62 [a0,(.bool true),(.string (ByteArray.mk #[109,111,110,111]))] bq (fun br bs=>br=(.tuple #[])∧D 62 [a0,(.bool false),(.string bn)] bs (fun bt bu=>bt=(.tuple #[])∧loop67_29 D [a0,a1,(.int .i64 b1),(.int .i64 b2),bf,(.int .i64 0)] bu (fun bv bw bx=>xs bv (K X.r [] bx) (fun bz=>cond (Nat.beq bz 6) (
intK .i64 (nth bw 2) (fun c0=>intK .i64 (nth bw 3) (fun c1=>D 64 [(nth bw 0)] bx (fun c2 c3=>c2=(.tuple #[])∧I [(nth bw 0),(nth bw 1),(.int .i64 c0),(.int .i64 (IntKind.i64.wrap (c1+1)))] c3) (fun c h=>K (X.p c) [] h)))) (False)) (fun c=>(fun c h=>K (X.p c) [] h) c bx))) (fun c h=>K (X.p c) [] h)) (fun c h=>K (X.p c) [] h)) (fun c h=>K (X.p c) [] h)) (fun c h=>K (X.p c) [] h)))))))) (
K (X.e 4) [a0,a1,(.int .i64 b1)] b0))))))
def loop67_21 (D:Orc):=Lp4 (round67_21 D)
def round67_15 (D:Orc) (I:List Value→H→Prop) (K:Kl) (a0 a1 a2:Value) (b0:H):Prop :=
intK .i64 a2 (fun b1=>ptrW a1 (fun b2=>∃ b3:Value,rd b0 (Addr.add b2 2)=some b3∧lenW b3 (fun b4=>cond (decide (b1<(b4:Int))) (
D 62 [a0,(.bool true),(.string (ByteArray.mk #[115,101,116]))] b0 (fun b5 b6=>b5=(.tuple #[])∧ptrW a1 (fun b7=>∃ b8:Value,rd b6 (Addr.add b7 2)=some b8∧qQk b8 b1 2 (fun b9=>∃ ba:Int,rd b6 (Addr.add b9 0)=some (.int .i64 ba)∧D 66 [a0,(.int .i64 ba),(.bool true)] b6 (fun bb bc=>bb=(.tuple #[])∧D 64 [a0] bc (fun bd be=>bd=(.tuple #[])∧loop67_21 D [a0,a1,(.int .i64 b1),(.int .i64 0)] be (fun bf bg bh=>xs bf (K X.r [] bh) (fun bi=>cond (Nat.beq bi 4) (
intK .i64 (nth bg 2) (fun bj=>I [(nth bg 0),(nth bg 1),(.int .i64 (IntKind.i64.wrap (bj+1)))] bh)) (False)) (fun c=>(fun c h=>K (X.p c) [] h) c bh))) (fun c h=>K (X.p c) [] h)) (fun c h=>K (X.p c) [] h)))) (fun c h=>K (X.p c) [] h)) (
K (X.e 2) [] b0))))
def loop67_15 (D:Orc):=Lp3 (round67_15 D)
def j67__2 (D:Orc) (k:Kv) (kp:Kp) (a0 a1:Value) (h9:H):Prop :=
qQe a0=true∧ptrW a0 (fun b1=>∃ b2:Int,rd h9 (Addr.add b1 2)=some (.int .i64 b2)∧cond (b2 != 0) (
k (.tuple #[]) h9) (
D 62 [a0,(.bool true),(.string (ByteArray.mk #[110,111,100,101]))] h9 (fun b3 b4=>b3=(.tuple #[])∧ptrW a1 (fun b5=>∃ b6:Int,rd b4 (Addr.add b5 0)=some (.int .i64 b6)∧D 107 [] b4 (fun b7 b8=>∃ b9:Value,b7=b9∧(rd b8 (Addr.add b5 0)=some (.int .i64 b6))∧qQk b9 b6 1 (fun ba=>∃ bb:ByteArray,rd b8 ba=some (.string bb)∧D 62 [a0,(.bool false),(.string bb)] b8 (fun bc bd=>bc=(.tuple #[])∧ptrW a1 (fun be=>∃ bf:Int,rd bd (Addr.add be 3)=some (.int .i64 bf)∧D 63 [a0,(.int .i64 bf)] bd (fun bg bh=>bg=(.tuple #[])∧D 64 [a0] bh (fun bi bj=>bi=(.tuple #[])∧loop67_8 D [a0,a1,(.int .i64 0)] bj (fun bk bl bm=>xs bk (k (.tuple #[]) bm) (fun bn=>cond (Nat.beq bn 0) (
loop67_15 D [(nth bl 0),(nth bl 1),(.int .i64 0)] bm (fun bo bp bq=>xs bo (k (.tuple #[]) bq) (fun br=>cond (Nat.beq br 2) (
k (.tuple #[]) bq) (False)) (fun c=>kp c bq))) (False)) (fun c=>kp c bm))) kp) kp)) kp)) kp)) kp))
def L67 (D:Orc):Lor:=Lsel [(8,loop67_8 D),(15,loop67_15 D),(21,loop67_21 D),(29,loop67_29 D)]
def F67 (D:Orc) (a0 a1:Value) (h:H) (k:Kv) (kp:Kp):Prop :=
aggW a1 (fun l0=>newW h l0 (fun p1 h2=>ptrW p1 (fun b3=>∃ x4:Int,rd h2 (Addr.add b3 0)=some (.int .i64 x4)∧cond (!(decide (x4<(1:Int)))) (
ptrW p1 (fun b5=>∃ x6:Int,rd h2 (Addr.add b5 0)=some (.int .i64 x6)∧D 60 [a0,(.bool (decide (x6>5))),(.int .i64 222)] h2 (fun v7 h8=>v7=(.tuple #[])∧j67__2 D k kp a0 p1 h8) kp)) (
D 60 [a0,(.bool true),(.int .i64 222)] h2 (fun b9 ba=>b9=(.tuple #[])∧j67__2 D k kp a0 p1 ba) kp))))
def Cl67 (D:Orc):Prop:=∀ a0 a1 h k kp,F67 D a0 a1 h k kp→D 67 [a0,a1] h k kp
theorem cl67:Cl67 (CS Tryz.prog):=fun _ _ _ _ _ hk=>fnL wide lv67 L67 (fn:=Tryz.f67) (by kernel_rfl) (by kernel_rfl) (by kernel_rfl) (l:=[nthC (qQg (qQq Tryz.f67)) 0,nthC (qQg (qQq Tryz.f67)) 1,nthC (qQg (qQq Tryz.f67)) 2,nthC (qQg (qQq Tryz.f67)) 3]) (by kernel_rfl) ⟨fun _ _ _ hk I H=>hk I fun _ _ _ _ hr=>H _ _ (cast (by kernel_rfl) hr),fun _ _ _ hk I H=>hk I fun _ _ _ _ hr=>H _ _ (cast (by kernel_rfl) hr),fun _ _ _ hk I H=>hk I fun _ _ _ _ _ hr=>H _ _ (cast (by kernel_rfl) hr),fun _ _ _ hk I H=>hk I fun _ _ _ _ _ _ _ hr=>H _ _ (cast (by kernel_rfl) hr),trivial⟩ (cast (by kernel_rfl) hk)
def lv68:=lvM 51 [.raw,.raw] [(16,[kR 0,kR 3,kI 5])] [(16,[(1,[kR 0])])] [] [(13,[kR 0,kR 3,kI 4]),(9,[kR 0,kR 3,kI 4,kS 7,kB 10]),(20,[kR 0,kR 3,kI 5])]
def j68_16_20 (D:Orc) (I:List Value→H→Prop) (K:Kl) (a0 a1 a2:Value) (b0:H):Prop :=
intK .i64 a2 (fun b1=>ptrW a1 (fun b2=>∃ b3:Value,rd b0 (Addr.add b2 1)=some b3∧qQk b3 b1 1 (fun b4=>∃ b5:Value,rd b0 b4=some b5∧D 106 [a0,b5] b0 (fun b6 b7=>b6=(.tuple #[])∧I [a0,a1,(.int .i64 (IntKind.i64.wrap (b1+1)))] b7) (fun c h=>K (X.p c) [] h))))
def round68_16 (D:Orc) (I:List Value→H→Prop) (K:Kl) (a0 a1 a2:Value) (b0:H):Prop :=
intK .i64 a2 (fun b1=>ptrW a1 (fun b2=>∃ b3:Value,rd b0 (Addr.add b2 1)=some b3∧lenW b3 (fun b4=>cond (decide (b1<(b4:Int))) (
cond (decide (b1>0)) (
D 62 [a0,(.bool false),(.string (ByteArray.mk #[61]))] b0 (fun b5 b6=>b5=(.tuple #[])∧j68_16_20 D I K a0 a1 (.int .i64 b1) b6) (fun c h=>K (X.p c) [] h)) (
j68_16_20 D I K a0 a1 (.int .i64 b1) b0)) (
K (X.e 1) [a0] b0))))
def loop68_16 (D:Orc):=Lp3 (round68_16 D)
def j68__13 (D:Orc) (k:Kv) (kp:Kp) (a0 a1 a2:Value) (h9:H):Prop :=
intK .i64 a2 (fun b1=>ptrW a1 (fun b2=>∃ b3:Value,rd h9 (Addr.add b2 1)=some b3∧lenW b3 (fun b4=>D 60 [a0,(.bool ((b4:Int) != b1)),(.int .i64 224)] h9 (fun b5 b6=>b5=(.tuple #[])∧ptrW a1 (fun b7=>∃ b8:ByteArray,rd b6 (Addr.add b7 0)=some (.string b8)∧D 62 [a0,(.bool true),(.string b8)] b6 (fun b9 ba=>b9=(.tuple #[])∧loop68_16 D [a0,a1,(.int .i64 0)] ba (fun bb bc bd=>xs bb (k (.tuple #[]) bd) (fun be=>cond (Nat.beq be 1) (
D 64 [(nth bc 0)] bd (fun bf bg=>bf=(.tuple #[])∧k (.tuple #[]) bg) kp) (False)) (fun c=>kp c bd))) kp)) kp)))
def j68__9 (D:Orc) (k:Kv) (kp:Kp) (a0 a1 a2 a3 a4:Value) (h5:H):Prop :=
intK .i64 a2 (fun x6=>strW a3 (fun s7=>qQr a4 (fun t8=>cond t8 (
j68__13 D k kp a0 a1 (.int .i64 x6) h5) (
cond (s7.toList==(ByteArray.mk #[110,111,114,109,97,108]).toList) (
j68__13 D k kp a0 a1 (.int .i64 1) h5) (
cond (s7.toList==(ByteArray.mk #[101,113,117,97,108]).toList) (
j68__13 D k kp a0 a1 (.int .i64 2) h5) (
D 60 [a0,(.bool true),(.int .i64 222)] h5 (fun b4 b5=>b4=(.tuple #[])∧j68__13 D k kp a0 a1 (.int .i64 x6) b5) kp))))))
def L68 (D:Orc):Lor:=Lsel [(16,loop68_16 D)]
def F68 (D:Orc) (a0 a1:Value) (h:H) (k:Kv) (kp:Kp):Prop :=
aggW a1 (fun l0=>newW h l0 (fun p1 h2=>ptrW p1 (fun b3=>∃ s4:ByteArray,rd h2 (Addr.add b3 0)=some (.string s4)∧cond (s4.toList==(ByteArray.mk #[99,104,101,99,107]).toList) (
j68__9 D k kp a0 p1 (.int .i64 0) (.string s4) (.bool (s4.toList==(ByteArray.mk #[99,104,101,99,107]).toList)) h2) (
cond (s4.toList==(ByteArray.mk #[99,114,105,116,105,99,97,108]).toList) (
j68__9 D k kp a0 p1 (.int .i64 0) (.string s4) (.bool (s4.toList==(ByteArray.mk #[99,114,105,116,105,99,97,108]).toList)) h2) (
cond (s4.toList==(ByteArray.mk #[106,111,105,110]).toList) (
j68__9 D k kp a0 p1 (.int .i64 0) (.string s4) (.bool (s4.toList==(ByteArray.mk #[106,111,105,110]).toList)) h2) (
cond (s4.toList==(ByteArray.mk #[112,97,105,114,115]).toList) (
j68__9 D k kp a0 p1 (.int .i64 0) (.string s4) (.bool (s4.toList==(ByteArray.mk #[112,97,105,114,115]).toList)) h2) (
j68__9 D k kp a0 p1 (.int .i64 0) (.string s4) (.bool (s4.toList==(ByteArray.mk #[99,111,109,112,108,101,116,101]).toList)) h2)))))))
def Cl68 (D:Orc):Prop:=∀ a0 a1 h k kp,F68 D a0 a1 h k kp→D 68 [a0,a1] h k kp
theorem cl68:Cl68 (CS Tryz.prog):=fun _ _ _ _ _ hk=>fnL wide lv68 L68 (fn:=Tryz.f68) (by kernel_rfl) (by kernel_rfl) (by kernel_rfl) (l:=[nthC (qQg (qQq Tryz.f68)) 0]) (by kernel_rfl) ⟨fun _ _ _ hk I H=>hk I fun _ _ _ _ hr=>H _ _ (cast (by kernel_rfl) hr),trivial⟩ (cast (by kernel_rfl) hk)
def lv69:=lvM 55 [.raw,.raw] [(3,[kR 0,kR 1,kI 5,kI 6])] [(3,[(0,[])])] [kI 4] [(8,[kR 0,kR 1,kI 5,kI 6,kB 28]),(12,[kR 0,kR 1,kI 5,kI 6]),(13,[kR 0,kR 1,kI 5,kI 6,kB 54])]
def j69_3_13 (D:Orc) (I:List Value→H→Prop) (K:Kl) (a0 a1 a2 a3 a4:Value) (b0:H):Prop :=
intK .i64 a2 (fun b1=>intK .i64 a3 (fun b2=>qQr a4 (fun b3=>cond b3 (
K X.r [(.int .i64 32)] b0) (
I [a0,a1,(.int .i64 b1),(.int .i64 (IntKind.i64.wrap (b2+1)))] b0))))
def j69_3_12 (D:Orc) (I:List Value→H→Prop) (K:Kl) (a0 a1 a2 a3:Value) (b0:H):Prop :=
intK .i64 a2 (fun b1=>intK .i64 a3 (fun b2=>cond (b1==0) (
lenW a1 (fun b3=>j69_3_13 D I K a0 a1 (.int .i64 b1) (.int .i64 b2) (.bool (decide ((IntKind.i64.wrap (b2+1))<(b3:Int)))) b0)) (
j69_3_13 D I K a0 a1 (.int .i64 b1) (.int .i64 b2) (.bool false) b0)))
def j69_3_8 (D:Orc) (I:List Value→H→Prop) (K:Kl) (a0 a1 a2 a3 a4:Value) (h9:H):Prop :=
intK .i64 a2 (fun b1=>intK .i64 a3 (fun b2=>qQr a4 (fun b3=>cond b3 (
K X.r [(.int .i64 30)] h9) (
qQk a1 b2 1 (fun b4=>∃ b5:Int,rd h9 b4=some (.int .i64 b5)∧cond (decide (b5≥0)) (
qQk a1 b2 1 (fun b6=>∃ b7:Int,rd h9 b6=some (.int .i64 b7)∧qQk a0 b7 2 (fun b8=>∃ b9:Int,rd h9 (Addr.add b8 1)=some (.int .i64 b9)∧j69_3_12 D I K a0 a1 (.int .i64 (IntKind.i64.wrap ((IntKind.i64.wrap (b1 - 1))+b9))) (.int .i64 b2) h9))) (
j69_3_12 D I K a0 a1 (.int .i64 (IntKind.i64.wrap (b1 - 1))) (.int .i64 b2) h9))))))
def round69_3 (D:Orc) (I:List Value→H→Prop) (K:Kl) (a0 a1 a2 a3:Value) (h0:H):Prop :=
intK .i64 a2 (fun x1=>intK .i64 a3 (fun x2=>cond (decide (x1>0)) (
lenW a1 (fun n3=>cond (x2==(n3:Int)) (
K X.r [(.int .i64 31)] h0) (
qQk a1 x2 1 (fun b4=>∃ x5:Int,rd h0 b4=some (.int .i64 x5)∧lenW a0 (fun n6=>cond (!(decide (x5≥(n6:Int)))) (
qQk a1 x2 1 (fun b7=>∃ x8:Int,rd h0 b7=some (.int .i64 x8)∧j69_3_8 D I K a0 a1 (.int .i64 x1) (.int .i64 x2) (.bool (decide (x8<(-1048576:Int)))) h0)) (
j69_3_8 D I K a0 a1 (.int .i64 x1) (.int .i64 x2) (.bool true) h0)))))) (
K (X.e 0) [] h0)))
def loop69_3 (D:Orc):=Lp4 (round69_3 D)
def L69 (D:Orc):Lor:=Lsel [(3,loop69_3 D)]
def F69 (D:Orc) (a0 a1:Value) (h:H) (k:Kv) (kp:Kp):Prop :=
loop69_3 D [a0,a1,(.int .i64 1),(.int .i64 0)] h (fun b0 b1 b2=>xs b0 (intK .i64 (nth b1 0) (fun b3=>k (.int .i64 b3) b2)) (fun b4=>cond (Nat.beq b4 0) (
k (.int .i64 0) b2) (False)) (fun c=>kp c b2))
def Cl69 (D:Orc):Prop:=∀ a0 a1 h k kp,F69 D a0 a1 h k kp→D 69 [a0,a1] h k kp
theorem cl69:Cl69 (CS Tryz.prog):=fun _ _ _ _ _ hk=>fnL wide lv69 L69 (fn:=Tryz.f69) (by kernel_rfl) (by kernel_rfl) (by kernel_rfl) (l:=[nthC (qQg (qQq Tryz.f69)) 0]) (by kernel_rfl) ⟨fun _ _ _ hk I H=>hk I fun _ _ _ _ _ hr=>H _ _ (cast (by kernel_rfl) hr),trivial⟩ (cast (by kernel_rfl) hk)
def lv75:=lvM 22 [.str] [] [] [kB 2] []
def F75 (D:Orc) (a0:Value) (h:H) (k:Kv) (kp:Kp):Prop :=
strW a0 (fun s0=>cond (decide ((s0.size:Int)>0)) (
qVh s0 (IntKind.i64.wrap ((s0.size:Int) - 1)) (fun x1=>cond (x1==35) (
qXo s0 none (some (IntKind.i64.wrap ((s0.size:Int) - 1))) (fun s2=>D 61 [(.string s2)] h (fun v3 h4=>∃ t5:Bool,v3=(.bool t5)∧k (.bool t5) h4) kp)) (
k (.bool false) h))) (
k (.bool false) h))
def Cl75 (D:Orc):Prop:=∀ a0 h k kp,F75 D a0 h k kp→D 75 [a0] h k kp
theorem cl75:Cl75 (CS Tryz.prog):=fun _ _ _ _ hk=>fn0 wide lv75 (fn:=Tryz.f75) (by kernel_rfl) (by kernel_rfl) (by kernel_rfl) (by kernel_rfl) (cast (by kernel_rfl) hk)
def lv83:=lvM 13 [.int .i64] [] [] [kS 2] []
def F83 (D:Orc) (a0:Value) (h:H) (k:Kv) (kp:Kp):Prop :=
intK .i64 a0 (fun x0=>D 118 [(.int .u64 (IntKind.wrap IntKind.u64 x0))] h (fun v1 h2=>∃ v3:Value,v1=v3∧D 108 [v3] h2 (fun v4 h5=>∃ s6:ByteArray,∃ x7:Int,v4=(.tuple #[(.string s6),(.int .i64 x7)])∧k (.string s6) h5) kp) kp)
def Cl83 (D:Orc):Prop:=∀ a0 h k kp,F83 D a0 h k kp→D 83 [a0] h k kp
theorem cl83:Cl83 (CS Tryz.prog):=fun _ _ _ _ hk=>fn0 wide lv83 (fn:=Tryz.f83) (by kernel_rfl) (by kernel_rfl) (by kernel_rfl) (by kernel_rfl) (cast (by kernel_rfl) hk)
def lv103:=lvM 18 [.str] [(3,[kS 0,kS 3,kR 7])] [(3,[(0,[kS 0,kS 3])])] [kB 2] []
def round103_3 (D:Orc) (I:List Value→H→Prop) (K:Kl) (a0 a1 a2:Value) (h3:H):Prop :=
strW a0 (fun s4=>strW a1 (fun s5=>ptrW a2 (fun b3=>xWj h3 b3 (fun v7 h8=>qXw v7 0 (fun v9=>qQr v9 (fun b7=>cond b7 (
qXw v7 2 (fun b8=>intW b8 (fun _ b9=>s5.size+(Utf8.encode b9).size≤9223372036854775807∧I [(.string s4),(.string (s5++(Utf8.encode b9))),a2] h8))) (
K (X.e 0) [(.string s4),(.string s5)] h8)))))))
def loop103_3 (D:Orc):=Lp3 (round103_3 D)
def L103 (D:Orc):Lor:=Lsel [(3,loop103_3 D)]
def F103 (D:Orc) (a0:Value) (h:H) (k:Kv) (kp:Kp):Prop :=
strW a0 (fun s0=>xUw h s0 (fun p1 h2=>loop103_3 D [(.string s0),(.string (ByteArray.mk #[])),p1] h2 (fun b3 b4 b5=>xs b3 (qQr (nth b4 0) (fun b6=>k (.bool b6) b5)) (fun b7=>cond (Nat.beq b7 0) (
strW (nth b4 0) (fun b8=>strW (nth b4 1) (fun b9=>k (.bool (b9.toList==b8.toList)) b5))) (False)) (fun c=>kp c b5))))
def Cl103 (D:Orc):Prop:=∀ a0 h k kp,F103 D a0 h k kp→D 103 [a0] h k kp
theorem cl103:Cl103 (CS Tryz.prog):=fun _ _ _ _ hk=>fnL wide lv103 L103 (fn:=Tryz.f103) (by kernel_rfl) (by kernel_rfl) (by kernel_rfl) (l:=[nthC (qQg (qQq Tryz.f103)) 0]) (by kernel_rfl) ⟨fun _ _ _ hk I H=>hk I fun _ _ _ _ hr=>H _ _ (cast (by kernel_rfl) hr),trivial⟩ (cast (by kernel_rfl) hk)
def lv104:=lvM 21 [.int .i32] [] [] [kB 2] []
def F104 (D:Orc) (a0:Value) (h:H) (k:Kv) (kp:Kp):Prop :=
intK .i32 a0 (fun x0=>cond (decide (x0≥97)) (
cond (!(decide (x0≤(122:Int)))) (
cond (decide (x0≥65)) (
cond (!(decide (x0≤(90:Int)))) (
k (.bool (decide (x0≥128))) h) (
k (.bool true) h)) (
k (.bool (decide (x0≥128))) h)) (
k (.bool true) h)) (
cond (decide (x0≥65)) (
cond (!(decide (x0≤(90:Int)))) (
k (.bool (decide (x0≥128))) h) (
k (.bool true) h)) (
k (.bool (decide (x0≥128))) h)))
def Cl104 (D:Orc):Prop:=∀ a0 h k kp,F104 D a0 h k kp→D 104 [a0] h k kp
theorem cl104:Cl104 (CS Tryz.prog):=fun _ _ _ _ hk=>fn0 wide lv104 (fn:=Tryz.f104) (by kernel_rfl) (by kernel_rfl) (by kernel_rfl) (by kernel_rfl) (cast (by kernel_rfl) hk)
def lv105:=lvM 21 [.int .i32] [] [] [kB 2] []
def F105 (D:Orc) (a0:Value) (h:H) (k:Kv) (kp:Kp):Prop :=
intK .i32 a0 (fun x0=>D 104 [(.int .i32 x0)] h (fun v1 h2=>∃ t3:Bool,v1=(.bool t3)∧cond (!t3) (
cond (decide (x0≥48)) (
cond (!(decide (x0≤(57:Int)))) (
cond (!(x0==95)) (
k (.bool (x0==39)) h2) (
k (.bool true) h2)) (
k (.bool true) h2)) (
cond (!(x0==95)) (
k (.bool (x0==39)) h2) (
k (.bool true) h2))) (
k (.bool true) h2)) kp)
def Cl105 (D:Orc):Prop:=∀ a0 h k kp,F105 D a0 h k kp→D 105 [a0] h k kp
theorem cl105:Cl105 (CS Tryz.prog):=fun _ _ _ _ hk=>fn0 wide lv105 (fn:=Tryz.f105) (by kernel_rfl) (by kernel_rfl) (by kernel_rfl) (by kernel_rfl) (cast (by kernel_rfl) hk)
def lv106:=lvM 46 [.raw,.raw] [] [] [] []
def F106 (D:Orc) (a0 a1:Value) (h:H) (k:Kv) (kp:Kp):Prop :=
qQe a0=true∧ptrW a0 (fun b0=>∃ v1:Value,rd h (Addr.add b0 0)=some v1∧D 22 [v1,a1] h (fun v2 h3=>∃ x4:Int,v2=(.int .i64 x4)∧D 60 [a0,(.bool (x4 != 0)),(.int .i64 x4)] h3 (fun v5 h6=>v5=(.tuple #[])∧qQe a0=true∧ptrW a0 (fun b7=>∃ x8:Int,rd h6 (Addr.add b7 2)=some (.int .i64 x8)∧cond (x8==0) (
qQe a0=true∧ptrW a0 (fun b9=>∃ ba:Value,rd h6 (Addr.add b9 1)=some ba∧one (.int .u8 32)=true∧0<1∧qQz h6 1 [(.int .u8 32)] (fun bb bc=>qXf bb (fun bd=>srcW bc 1 bb (bd) (fun be=>apX false 5 bc 1 [(.int .u8 0)] ba (bd) be (fun bf bg=>qQe a0=true∧ptrW a0 (fun bh=>one bf=true∧1=1∧∃ bi,wr1 bg (Addr.add bh 1) bf=some bi∧qQe a0=true∧ptrW a0 (fun bj=>∃ bk:Value,rd bi (Addr.add bj 0)=some bk∧qQe a0=true∧ptrW a0 (fun bl=>∃ bm:Value,rd bi (Addr.add bl 1)=some bm∧D 38 [bk,a1,bm] bi (fun bn bo=>∃ bp bq:Value,bn=(.tuple #[bp,bq])∧qQe a0=true∧ptrW a0 (fun br=>one bp=true∧1=1∧∃ bs,wr1 bo (Addr.add br 1) bp=some bs∧k (.tuple #[]) bs)) kp))))))))) (
k (.tuple #[]) h6))) kp) kp)
def Cl106 (D:Orc):Prop:=∀ a0 a1 h k kp,F106 D a0 a1 h k kp→D 106 [a0,a1] h k kp
theorem cl106:Cl106 (CS Tryz.prog):=fun _ _ _ _ _ hk=>fn0 wide lv106 (fn:=Tryz.f106) (by kernel_rfl) (by kernel_rfl) (by kernel_rfl) (by kernel_rfl) (cast (by kernel_rfl) hk)
def lv107:=lvM 2 [] [] [] [kR 0] []
def F107 (D:Orc) (h:H) (k:Kv) (kp:Kp):Prop :=
one (.string (ByteArray.mk #[]))=true∧0<6∧one (.string (ByteArray.mk #[108,112,111]))=true∧1<6∧one (.string (ByteArray.mk #[112,111,108,121]))=true∧2<6∧one (.string (ByteArray.mk #[112,97,105,114,115]))=true∧3<6∧one (.string (ByteArray.mk #[100,114,111,112,108,112,111]))=true∧4<6∧one (.string (ByteArray.mk #[100,114,111,112,112,111,108,121]))=true∧5<6∧qQz h 6 [(.string (ByteArray.mk #[])),(.string (ByteArray.mk #[108,112,111])),(.string (ByteArray.mk #[112,111,108,121])),(.string (ByteArray.mk #[112,97,105,114,115])),(.string (ByteArray.mk #[100,114,111,112,108,112,111])),(.string (ByteArray.mk #[100,114,111,112,112,111,108,121]))] (fun s0 h1=>k s0 h1)
def Cl107 (D:Orc):Prop:=∀  h k kp,F107 D  h k kp→D 107 [] h k kp
theorem cl107:Cl107 (CS Tryz.prog):=fun  _ _ _ hk=>fn0 wide lv107 (fn:=Tryz.f107) (by kernel_rfl) (by kernel_rfl) (by kernel_rfl) (by kernel_rfl) (cast (by kernel_rfl) hk)
def lv108:=lvM 53 [.raw] [(7,[kR 4,kS 5]),(10,[kR 4,kS 5,(6,.int .u64),kI 7])] [(7,[(0,[kS 5])]),(10,[(2,[kR 4,kS 5,(6,.int .u64)])])] [kS 2,kI 3] []
def round108_10 (D:Orc) (I:List Value→H→Prop) (K:Kl) (a0 a1 a2 a3:Value) (b0:H):Prop :=
strW a1 (fun b1=>intK .u64 a2 (fun b2=>intK .i64 a3 (fun b3=>cond (decide (b3≥0)) (
0≤(32:Int)∧qQk a0 b3 1 (fun b4=>∃ b5:Int,rd b0 b4=some (.int .u32 b5)∧(10:Int)≠0∧qQk a0 b3 1 (fun b6=>one (.int .u32 (IntKind.u32.wrap (IntKind.u64.wrap (Int.tdiv (IntKind.u64.wrap ((IntKind.u64.wrap (b2*2 ^ (min (Int.toNat 32) (IntKind.bits IntKind.u64))))+(IntKind.wrap IntKind.u64 b5))) 10))))=true∧1=1∧∃ b7,wr1 b0 b6 (.int .u32 (IntKind.u32.wrap (IntKind.u64.wrap (Int.tdiv (IntKind.u64.wrap ((IntKind.u64.wrap (b2*2 ^ (min (Int.toNat 32) (IntKind.bits IntKind.u64))))+(IntKind.wrap IntKind.u64 b5))) 10))))=some b7∧(10:Int)≠0∧I [a0,(.string b1),(.int .u64 (Int.tmod (IntKind.u64.wrap ((IntKind.u64.wrap (b2*2 ^ (min (Int.toNat 32) (IntKind.bits IntKind.u64))))+(IntKind.wrap IntKind.u64 b5))) 10)),(.int .i64 (IntKind.i64.wrap (b3 - 1)))] b7))) (
K (X.e 2) [a0,(.string b1),(.int .u64 b2)] b0))))
def loop108_10 (D:Orc):=Lp4 (round108_10 D)
def round108_7 (D:Orc) (I:List Value→H→Prop) (K:Kl) (a0 a1:Value) (b0:H):Prop :=
strW a1 (fun b1=>lenW a0 (fun b2=>cond (decide ((b2:Int)>0)) (
lenW a0 (fun b3=>loop108_10 D [a0,(.string b1),(.int .u64 0),(.int .i64 (IntKind.i64.wrap ((b3:Int) - 1)))] b0 (fun b4 b5 b6=>xs b4 (strW (nth b5 0) (fun b7=>intK .i64 (nth b5 1) (fun b8=>K X.r [(.string b7),(.int .i64 b8)] b6))) (fun b9=>cond (Nat.beq b9 2) (
strW (nth b5 1) (fun ba=>intK .u64 (nth b5 2) (fun bb=>one (.int .u8 (IntKind.u8.wrap (IntKind.u64.wrap (48+bb))))=true∧0<1∧qQz b6 1 [(.int .u8 (IntKind.u8.wrap (IntKind.u64.wrap (48+bb))))] (fun bc bd=>bsW bd bc (fun be=>be.size+ba.size≤9223372036854775807∧D 134 [(nth b5 0)] bd (fun bf bg=>∃ bh:Value,bf=bh∧I [bh,(.string (be++ba))] bg) (fun c h=>K (X.p c) [] h)))))) (False)) (fun c=>(fun c h=>K (X.p c) [] h) c b6)))) (
K (X.e 0) [(.string b1)] b0)))
def loop108_7 (D:Orc):=Lp2 (round108_7 D)
def L108 (D:Orc):Lor:=Lsel [(7,loop108_7 D),(10,loop108_10 D)]
def F108 (D:Orc) (a0:Value) (h:H) (k:Kv) (kp:Kp):Prop :=
D 133 [a0] h (fun v0 h1=>∃ t2:Bool,v0=(.bool t2)∧cond (!t2) (
k (.tuple #[(.string (ByteArray.mk #[])),(.int .i64 10)]) h1) (
lenW a0 (fun n3=>cond ((n3:Int)==0) (
k (.tuple #[(.string (ByteArray.mk #[48])),(.int .i64 0)]) h1) (
qQz h1 0 [] (fun s4 h5=>qXf a0 (fun n6=>srcW h5 1 a0 (n6) (fun w7=>apW h5 1 4 [(.int .u32 0)] s4 (n6) w7 (fun s8 h9=>loop108_7 D [s8,(.string (ByteArray.mk #[]))] h9 (fun ba bb bc=>xs ba (strW (nth bb 0) (fun bd=>intK .i64 (nth bb 1) (fun be=>k (.tuple #[(.string bd),(.int .i64 be)]) bc))) (fun bf=>cond (Nat.beq bf 0) (
strW (nth bb 0) (fun bg=>k (.tuple #[(.string bg),(.int .i64 0)]) bc)) (False)) (fun c=>kp c bc)))))))))) kp
def Cl108 (D:Orc):Prop:=∀ a0 h k kp,F108 D a0 h k kp→D 108 [a0] h k kp
theorem cl108:Cl108 (CS Tryz.prog):=fun _ _ _ _ hk=>fnL wide lv108 L108 (fn:=Tryz.f108) (by kernel_rfl) (by kernel_rfl) (by kernel_rfl) (l:=[nthC (qQg (qQq Tryz.f108)) 0,nthC (qQg (qQq Tryz.f108)) 1]) (by kernel_rfl) ⟨fun _ _ _ hk I H=>hk I fun _ _ _ hr=>H _ _ (cast (by kernel_rfl) hr),fun _ _ _ hk I H=>hk I fun _ _ _ _ _ hr=>H _ _ (cast (by kernel_rfl) hr),trivial⟩ (cast (by kernel_rfl) hk)
def lv118:=lvM 10 [.int .u64] [] [] [kR 2] []
def F118 (D:Orc) (a0:Value) (h:H) (k:Kv) (kp:Kp):Prop :=
intK .u64 a0 (fun x0=>0≤(32:Int)∧one (.int .u32 (IntKind.wrap IntKind.u32 x0))=true∧0<2∧one (.int .u32 (IntKind.u32.wrap (Int.fdiv x0 (2 ^ (min (Int.toNat 32) (IntKind.bits IntKind.u64))))))=true∧1<2∧qQz h 2 [(.int .u32 (IntKind.wrap IntKind.u32 x0)),(.int .u32 (IntKind.u32.wrap (Int.fdiv x0 (2 ^ (min (Int.toNat 32) (IntKind.bits IntKind.u64))))))] (fun s1 h2=>D 134 [s1] h2 (fun v3 h4=>∃ v5:Value,v3=v5∧k v5 h4) kp))
def Cl118 (D:Orc):Prop:=∀ a0 h k kp,F118 D a0 h k kp→D 118 [a0] h k kp
theorem cl118:Cl118 (CS Tryz.prog):=fun _ _ _ _ hk=>fn0 wide lv118 (fn:=Tryz.f118) (by kernel_rfl) (by kernel_rfl) (by kernel_rfl) (by kernel_rfl) (cast (by kernel_rfl) hk)
def lv133:=lvM 20 [.raw] [] [] [kB 2] []
def F133 (D:Orc) (a0:Value) (h:H) (k:Kv) (kp:Kp):Prop :=
lenW a0 (fun n0=>cond (decide ((n0:Int)≤(64:Int))) (
lenW a0 (fun n1=>cond (!((n1:Int)==0)) (
lenW a0 (fun n2=>qQk a0 (IntKind.i64.wrap ((n2:Int) - 1)) 1 (fun b3=>∃ x4:Int,rd h b3=some (.int .u32 x4)∧k (.bool (x4 != 0)) h))) (
k (.bool true) h))) (
k (.bool false) h))
def Cl133 (D:Orc):Prop:=∀ a0 h k kp,F133 D a0 h k kp→D 133 [a0] h k kp
theorem cl133:Cl133 (CS Tryz.prog):=fun _ _ _ _ hk=>fn0 wide lv133 (fn:=Tryz.f133) (by kernel_rfl) (by kernel_rfl) (by kernel_rfl) (by kernel_rfl) (cast (by kernel_rfl) hk)
def lv134:=lvM 21 [.raw] [(1,[kR 0])] [(1,[(0,[kR 0])])] [kR 2] []
def round134_1 (D:Orc) (I:List Value→H→Prop) (K:Kl) (a0:Value) (h0:H):Prop :=
lenW a0 (fun n1=>cond (decide ((n1:Int)>0)) (
lenW a0 (fun n2=>qQk a0 (IntKind.i64.wrap ((n2:Int) - 1)) 1 (fun b3=>∃ x4:Int,rd h0 b3=some (.int .u32 x4)∧cond (x4==0) (
lenW a0 (fun n5=>qXt a0 none (some (IntKind.i64.wrap ((n5:Int) - 1))) none 1 (fun s6=>I [s6] h0))) (
K (X.e 0) [a0] h0)))) (
K (X.e 0) [a0] h0))
def loop134_1 (D:Orc):=Lp1 (round134_1 D)
def L134 (D:Orc):Lor:=Lsel [(1,loop134_1 D)]
def F134 (D:Orc) (a0:Value) (h:H) (k:Kv) (kp:Kp):Prop :=
loop134_1 D [a0] h (fun x8 b1 h7=>xs x8 (k (nth b1 0) h7) (fun b3=>cond (Nat.beq b3 0) (
k (nth b1 0) h7) (False)) (fun c=>kp c h7))
def Cl134 (D:Orc):Prop:=∀ a0 h k kp,F134 D a0 h k kp→D 134 [a0] h k kp
theorem cl134:Cl134 (CS Tryz.prog):=fun _ _ _ _ hk=>fnL wide lv134 L134 (fn:=Tryz.f134) (by kernel_rfl) (by kernel_rfl) (by kernel_rfl) (l:=[nthC (qQg (qQq Tryz.f134)) 0]) (by kernel_rfl) ⟨fun _ _ _ hk I H=>hk I fun _ _ hr=>H _ _ (cast (by kernel_rfl) hr),trivial⟩ (cast (by kernel_rfl) hk)
end Go.Proofs.YtkdneddcocggdaaGreatDoor.Am
