/-
  Packed:  The functions.
-/
import Derived.Test.YtkdneddcocggdaaGreatDoorAmFnsP
set_option linter.unusedVariables false
set_option linter.unusedSimpArgs false
set_option linter.unnecessarySimpa false
namespace Go.Proofs.YtkdneddcocggdaaGreatDoor.Am
open Go Go.Proofs
set_option maxRecDepth 100000
def lv13:=lvM 37 [.raw,.str] [] [] [kR 4,kI 5] [(11,[kI 6,kR 7]),(10,[kI 6,kR 7,kB 32])]
def j13__11 (D:Orc) (k:Kv) (kp:Kp) (a0 a1:Value) (b0:H):Prop :=
intK .i64 a0 (fun b1=>cond (b1 != 0) (
k (.tuple #[(.slice none 0 0),(.int .i64 b1)]) b0) (
k (.tuple #[a1,(.int .i64 0)]) b0))
def j13__10 (D:Orc) (k:Kv) (kp:Kp) (a0 a1 a2:Value) (b0:H):Prop :=
intK .i64 a0 (fun b1=>qQl a2 (fun b2=>cond b2 (
j13__11 D k kp (.int .i64 224) a1 b0) (
j13__11 D k kp (.int .i64 b1) a1 b0)))
def F13 (D:Orc) (a0 a1:Value) (h:H) (k:Kv) (kp:Kp):Prop :=
strW a1 (fun s0=>D 31 [a0] h (fun v1 h2=>∃ x3:Int,v1=(.int .i64 x3)∧cond (x3 != 0) (
k (.tuple #[(.slice none 0 0),(.int .i64 x3)]) h2) (
cond (decide ((s0.size:Int)>65536)) (
k (.tuple #[(.slice none 0 0),(.int .i64 220)]) h2) (
D 32 [(.string s0)] h2 (fun v4 h5=>∃ t6:Bool,v4=(.bool t6)∧cond (!t6) (
k (.tuple #[(.slice none 0 0),(.int .i64 221)]) h5) (
D 33 [a0,(.string s0)] h5 (fun v7 h8=>∃ v9:Value,∃ ba:ByteArray,∃ bb:Int,v7=(.tuple #[v9,(.string ba),(.int .i64 bb)])∧cond (bb==0) (
j13__10 D k kp (.int .i64 bb) v9 (.bool (!(ba.toList==(ByteArray.mk #[]).toList))) h8) (
j13__10 D k kp (.int .i64 bb) v9 (.bool false) h8)) kp)) kp))) kp)
def Cl13 (D:Orc):Prop:=∀ a0 a1 h k kp,F13 D a0 a1 h k kp→D 13 [a0,a1] h k kp
theorem cl13:Cl13 (CS Tryz.prog):=fun _ _ _ _ _ hk=>fn0 wide lv13 (fn:=Tryz.f13) (by kernel_rfl) (by kernel_rfl) (by kernel_rfl) (by kernel_rfl) (cast (by kernel_rfl) hk)
def lv18:=lvM 74 [.str] [(11,[kR 2,kR 5,kR 6,kB 7,kI 8])] [(11,[(0,[kR 2,kR 6])])] [kR 2,kI 3,kI 4] [(12,[kR 2,kR 5,kR 6,kB 7,kI 8])]
def j18_11_12 (D:Orc) (I:List Value→H→Prop) (K:Kl) (a0 a1 a2 a3 a4:Value) (b0:H):Prop :=
qQl a3 (fun b1=>intK .i64 a4 (fun b2=>I [a0,a1,a2,(.bool b1),(.int .i64 (IntKind.i64.wrap (b2+1)))] b0))
def round18_11 (D:Orc) (I:List Value→H→Prop) (K:Kl) (a0 a1 a2 a3 a4:Value) (b0:H):Prop :=
qQl a3 (fun b1=>intK .i64 a4 (fun b2=>lenW a1 (fun b3=>cond (decide (b2<(b3:Int))) (
qQj a1 b2 1 (fun b4=>∃ b5:ByteArray,rd b0 b4=some (.string b5)∧D 46 [(.string b5)] b0 (fun b6 b7=>∃ b8:Value,b6=b8∧lenW b8 (fun b9=>cond (!((b9:Int)==0)) (
qQj b8 0 1 (fun ba=>∃ bb:ByteArray,rd b7 ba=some (.string bb)∧qXt bb 0 (fun bc=>cond (bc==35) (
j18_11_12 D I K a0 a1 a2 (.bool b1) (.int .i64 b2) b7) (
qQe a2=true∧ptrW a2 (fun bd=>∃ be bf bg bh bi bj:Value,rdN b7 bd 6=some [be,bf,bg,bh,bi,bj]∧D 47 [(.agg #[be,bf,bg,bh,bi,bj]),(.bool b1),b8] b7 (fun bk bl=>∃ bm:Bool,bk=(.bool bm)∧cond (!bm) (
ptrW a0 (fun bn=>6=6∧List.all [(.slice none 0 0),(.slice none 0 0),(.slice none 0 0),(.slice none 0 0),(.slice none 0 0),(.slice none 0 0)] one=true∧∃ bo,wr bl bn [(.slice none 0 0),(.slice none 0 0),(.slice none 0 0),(.slice none 0 0),(.slice none 0 0),(.slice none 0 0)]=some bo∧K X.r [a0,(.int .i64 (IntKind.i64.wrap (b2+1))),(.int .i64 222)] bo)) (
qQj b8 0 1 (fun bp=>∃ bq:ByteArray,rd bl bp=some (.string bq)∧D 48 [a2,b8] bl (fun br bs=>∃ bt:Int,br=(.int .i64 bt)∧cond (bt != 0) (
ptrW a0 (fun bu=>6=6∧List.all [(.slice none 0 0),(.slice none 0 0),(.slice none 0 0),(.slice none 0 0),(.slice none 0 0),(.slice none 0 0)] one=true∧∃ bv,wr bs bu [(.slice none 0 0),(.slice none 0 0),(.slice none 0 0),(.slice none 0 0),(.slice none 0 0),(.slice none 0 0)]=some bv∧K X.r [a0,(.int .i64 (IntKind.i64.wrap (b2+1))),(.int .i64 bt)] bv)) (
j18_11_12 D I K a0 a1 a2 (.bool (bq.toList==(ByteArray.mk #[115,121,109]).toList)) (.int .i64 b2) bs)) (fun c h=>K (X.p c) [] h)))) (fun c h=>K (X.p c) [] h)))))) (
j18_11_12 D I K a0 a1 a2 (.bool b1) (.int .i64 b2) b7))) (fun c h=>K (X.p c) [] h))) (
K (X.e 0) [a0,a2] b0))))
def loop18_11 (D:Orc):=Lp5 (round18_11 D)
def L18 (D:Orc):Lor:=Lsel [(11,loop18_11 D)]
def F18 (D:Orc) (a0:Value) (h:H) (k:Kv) (kp:Kp):Prop :=
strW a0 (fun s0=>newW h [(.slice none 0 0),(.slice none 0 0),(.slice none 0 0),(.slice none 0 0),(.slice none 0 0),(.slice none 0 0)] (fun p1 h2=>cond (decide ((s0.size:Int)>65536)) (
ptrW p1 (fun b3=>6=6∧List.all [(.slice none 0 0),(.slice none 0 0),(.slice none 0 0),(.slice none 0 0),(.slice none 0 0),(.slice none 0 0)] one=true∧∃ h4,wr h2 b3 [(.slice none 0 0),(.slice none 0 0),(.slice none 0 0),(.slice none 0 0),(.slice none 0 0),(.slice none 0 0)]=some h4∧ptrW p1 (fun b5=>∃ v6 v7 v8 v9 ba bb:Value,rdN h4 b5 6=some [v6,v7,v8,v9,ba,bb]∧k (.tuple #[(.agg #[v6,v7,v8,v9,ba,bb]),(.int .i64 0),(.int .i64 220)]) h4))) (
D 45 [(.string s0),(.int .u8 10)] h2 (fun bc bd=>∃ be:Value,bc=be∧lenW be (fun bf=>cond (decide ((bf:Int)>4096)) (
ptrW p1 (fun bg=>6=6∧List.all [(.slice none 0 0),(.slice none 0 0),(.slice none 0 0),(.slice none 0 0),(.slice none 0 0),(.slice none 0 0)] one=true∧∃ bh,wr bd bg [(.slice none 0 0),(.slice none 0 0),(.slice none 0 0),(.slice none 0 0),(.slice none 0 0),(.slice none 0 0)]=some bh∧ptrW p1 (fun bi=>∃ bj bk bl bm bn bo:Value,rdN bh bi 6=some [bj,bk,bl,bm,bn,bo]∧k (.tuple #[(.agg #[bj,bk,bl,bm,bn,bo]),(.int .i64 0),(.int .i64 220)]) bh))) (
D 32 [(.string s0)] bd (fun bp bq=>∃ br:Bool,bp=(.bool br)∧cond (!br) (
ptrW p1 (fun bs=>6=6∧List.all [(.slice none 0 0),(.slice none 0 0),(.slice none 0 0),(.slice none 0 0),(.slice none 0 0),(.slice none 0 0)] one=true∧∃ bt,wr bq bs [(.slice none 0 0),(.slice none 0 0),(.slice none 0 0),(.slice none 0 0),(.slice none 0 0),(.slice none 0 0)]=some bt∧ptrW p1 (fun bu=>∃ bv bw bx bz c0 c1:Value,rdN bt bu 6=some [bv,bw,bx,bz,c0,c1]∧k (.tuple #[(.agg #[bv,bw,bx,bz,c0,c1]),(.int .i64 0),(.int .i64 221)]) bt))) (
newW bq [(.slice none 0 0),(.slice none 0 0),(.slice none 0 0),(.slice none 0 0),(.slice none 0 0),(.slice none 0 0)] (fun c2 c3=>loop18_11 D [p1,be,c2,(.bool true),(.int .i64 0)] c3 (fun c4 c5 c6=>xs c4 (intK .i64 (nth c5 1) (fun c7=>intK .i64 (nth c5 2) (fun c8=>ptrW (nth c5 0) (fun c9=>∃ ca cb cc cd ce cf:Value,rdN c6 c9 6=some [ca,cb,cc,cd,ce,cf]∧k (.tuple #[(.agg #[ca,cb,cc,cd,ce,cf]),(.int .i64 c7),(.int .i64 c8)]) c6)))) (fun cg=>cond (Nat.beq cg 0) (
qQe (nth c5 1)=true∧ptrW (nth c5 1) (fun ch=>∃ ci cj ck cl cm cn:Value,rdN c6 ch 6=some [ci,cj,ck,cl,cm,cn]∧ptrW (nth c5 0) (fun co=>6=6∧List.all [ci,cj,ck,cl,cm,cn] one=true∧∃ cp,wr c6 co [ci,cj,ck,cl,cm,cn]=some cp∧ptrW (nth c5 0) (fun cq=>∃ cr cs ct cu cv cw:Value,rdN cp cq 6=some [cr,cs,ct,cu,cv,cw]∧k (.tuple #[(.agg #[cr,cs,ct,cu,cv,cw]),(.int .i64 0),(.int .i64 0)]) cp)))) (False)) (fun c=>kp c c6))))) kp))) kp)))
def Cl18 (D:Orc):Prop:=∀ a0 h k kp,F18 D a0 h k kp→D 18 [a0] h k kp
theorem cl18:Cl18 (CS Tryz.prog):=fun _ _ _ _ hk=>fnL wide lv18 L18 (fn:=Tryz.f18) (by kernel_rfl) (by kernel_rfl) (by kernel_rfl) (l:=[nthC (qQh (qQs Tryz.f18)) 0]) (by kernel_rfl) ⟨fun _ _ _ hk I H=>hk I fun _ _ _ _ _ _ hr=>H _ _ (cast (by kernel_rfl) hr),trivial⟩ (cast (by kernel_rfl) hk)
def lv31:=lvM 60 [.raw] [(4,[kR 0,kI 3]),(11,[kR 0,kI 3,kI 4])] [(4,[(0,[])]),(11,[(2,[kR 0,kI 3])])] [kI 2] [(7,[kR 0,kI 3,kB 29]),(9,[kR 0,kI 3,kB 43])]
def round31_11 (D:Orc) (I:List Value→H→Prop) (K:Kl) (a0 a1 a2:Value) (b0:H):Prop :=
intK .i64 a1 (fun b1=>intK .i64 a2 (fun b2=>cond (decide (b2<b1)) (
qQj a0 b2 2 (fun b3=>∃ b4:ByteArray,rd b0 (Addr.add b3 0)=some (.string b4)∧qQj a0 b1 2 (fun b5=>∃ b6:ByteArray,rd b0 (Addr.add b5 0)=some (.string b6)∧cond (b4.toList==b6.toList) (
K X.r [(.int .i64 36)] b0) (
I [a0,(.int .i64 b1),(.int .i64 (IntKind.i64.wrap (b2+1)))] b0)))) (
K (X.e 2) [a0,(.int .i64 b1)] b0)))
def loop31_11 (D:Orc):=Lp3 (round31_11 D)
def j31_4_9 (D:Orc) (I:List Value→H→Prop) (K:Kl) (a0 a1 a2:Value) (b0:H):Prop :=
intK .i64 a1 (fun b1=>qQl a2 (fun b2=>cond b2 (
K X.r [(.int .i64 35)] b0) (
loop31_11 D [a0,(.int .i64 b1),(.int .i64 0)] b0 (fun b3 b4 b5=>xs b3 (intK .i64 (nth b4 0) (fun b6=>K X.r [(.int .i64 b6)] b5)) (fun b7=>cond (Nat.beq b7 2) (
intK .i64 (nth b4 1) (fun b8=>I [(nth b4 0),(.int .i64 (IntKind.i64.wrap (b8+1)))] b5)) (False)) (fun c=>(fun c h=>K (X.p c) [] h) c b5)))))
def j31_4_7 (D:Orc) (I:List Value→H→Prop) (K:Kl) (a0 a1 a2:Value) (b0:H):Prop :=
intK .i64 a1 (fun b1=>qQl a2 (fun b2=>cond b2 (
K X.r [(.int .i64 34)] b0) (
qQj a0 b1 2 (fun b3=>∃ b4:Int,rd b0 (Addr.add b3 1)=some (.int .i64 b4)∧cond (!(decide (b4<(0:Int)))) (
qQj a0 b1 2 (fun b5=>∃ b6:Int,rd b0 (Addr.add b5 1)=some (.int .i64 b6)∧j31_4_9 D I K a0 (.int .i64 b1) (.bool (decide (b6>8))) b0)) (
j31_4_9 D I K a0 (.int .i64 b1) (.bool true) b0)))))
def round31_4 (D:Orc) (I:List Value→H→Prop) (K:Kl) (a0 a1:Value) (h1:H):Prop :=
intK .i64 a1 (fun x2=>lenW a0 (fun n3=>cond (decide (x2<(n3:Int))) (
qQj a0 x2 2 (fun b3=>∃ s5:ByteArray,rd h1 (Addr.add b3 0)=some (.string s5)∧D 61 [(.string s5)] h1 (fun v6 h7=>∃ t8:Bool,v6=(.bool t8)∧cond (!t8) (
qQj a0 x2 2 (fun b8=>∃ b9:ByteArray,rd h7 (Addr.add b8 0)=some (.string b9)∧D 75 [(.string b9)] h7 (fun ba bb=>∃ bc:Bool,ba=(.bool bc)∧j31_4_7 D I K a0 (.int .i64 x2) (.bool (!bc)) bb) (fun c h=>K (X.p c) [] h))) (
j31_4_7 D I K a0 (.int .i64 x2) (.bool false) h7)) (fun c h=>K (X.p c) [] h))) (
K (X.e 0) [] h1)))
def loop31_4 (D:Orc):=Lp2 (round31_4 D)
def L31 (D:Orc):Lor:=Lsel [(4,loop31_4 D),(11,loop31_11 D)]
def F31 (D:Orc) (a0:Value) (h:H) (k:Kv) (kp:Kp):Prop :=
lenW a0 (fun n0=>cond (decide ((n0:Int)>128)) (
k (.int .i64 37) h) (
loop31_4 D [a0,(.int .i64 0)] h (fun b1 b2 b3=>xs b1 (intK .i64 (nth b2 0) (fun b4=>k (.int .i64 b4) b3)) (fun b5=>cond (Nat.beq b5 0) (
k (.int .i64 0) b3) (False)) (fun c=>kp c b3))))
def Cl31 (D:Orc):Prop:=∀ a0 h k kp,F31 D a0 h k kp→D 31 [a0] h k kp
theorem cl31:Cl31 (CS Tryz.prog):=fun _ _ _ _ hk=>fnL wide lv31 L31 (fn:=Tryz.f31) (by kernel_rfl) (by kernel_rfl) (by kernel_rfl) (l:=[nthC (qQh (qQs Tryz.f31)) 0,nthC (qQh (qQs Tryz.f31)) 1]) (by kernel_rfl) ⟨fun _ _ _ hk I H=>hk I fun _ _ _ hr=>H _ _ (cast (by kernel_rfl) hr),fun _ _ _ hk I H=>hk I fun _ _ _ _ hr=>H _ _ (cast (by kernel_rfl) hr),trivial⟩ (cast (by kernel_rfl) hk)
def lv32:=lvM 28 [.str] [(2,[kS 0,kR 6])] [(2,[(0,[])])] [kB 2] [(5,[kS 0,kR 6,kB 27])]
def j32_2_5 (D:Orc) (I:List Value→H→Prop) (K:Kl) (a0 a1 a2:Value) (b0:H):Prop :=
strW a0 (fun b1=>qQl a2 (fun b2=>cond b2 (
K X.r [(.bool false)] b0) (
I [(.string b1),a1] b0)))
def round32_2 (D:Orc) (I:List Value→H→Prop) (K:Kl) (a0 a1:Value) (h3:H):Prop :=
strW a0 (fun s4=>ptrW a1 (fun b2=>qRs h3 b2 (fun v6 h7=>qXu v6 0 (fun v8=>qQl v8 (fun t9=>cond t9 (
qXu v6 1 (fun b7=>qXu v6 2 (fun b8=>intK .i32 b8 (fun b9=>cond (b9==65533) (
intK .i64 b7 (fun ba=>cond (!(decide ((IntKind.i64.wrap (ba+3))>(s4.size:Int)))) (
intK .i64 b7 (fun bb=>optI (some b7) (fun bc=>qXe s4 bc (some (IntKind.i64.wrap (bb+3))) (fun bd=>j32_2_5 D I K (.string s4) a1 (.bool (!(bd.toList==(ByteArray.mk #[239,191,189]).toList))) h7)))) (
j32_2_5 D I K (.string s4) a1 (.bool true) h7))) (
j32_2_5 D I K (.string s4) a1 (.bool false) h7))))) (
K (X.e 0) [] h7))))))
def loop32_2 (D:Orc):=Lp2 (round32_2 D)
def L32 (D:Orc):Lor:=Lsel [(2,loop32_2 D)]
def F32 (D:Orc) (a0:Value) (h:H) (k:Kv) (kp:Kp):Prop :=
strW a0 (fun s0=>xQe h s0 (fun p1 h2=>loop32_2 D [(.string s0),p1] h2 (fun b3 b4 b5=>xs b3 (qQl (nth b4 0) (fun b6=>k (.bool b6) b5)) (fun b7=>cond (Nat.beq b7 0) (
k (.bool true) b5) (False)) (fun c=>kp c b5))))
def Cl32 (D:Orc):Prop:=∀ a0 h k kp,F32 D a0 h k kp→D 32 [a0] h k kp
theorem cl32:Cl32 (CS Tryz.prog):=fun _ _ _ _ hk=>fnL wide lv32 L32 (fn:=Tryz.f32) (by kernel_rfl) (by kernel_rfl) (by kernel_rfl) (l:=[nthC (qQh (qQs Tryz.f32)) 0]) (by kernel_rfl) ⟨fun _ _ _ hk I H=>hk I fun _ _ _ hr=>H _ _ (cast (by kernel_rfl) hr),trivial⟩ (cast (by kernel_rfl) hk)
def lv33:=lvM 118 [.raw,.str] [(14,[kR 0,kS 1,kI 11,kR 12,kI 13])] [(14,[(0,[kR 0,kS 1,kI 11,kR 12])])] [kR 4,kS 5,kI 6] [(2,[kR 0,kS 1,kB 25]),(10,[kR 0,kS 1,kI 10,kI 11,kB 58]),(19,[kR 0,kS 1,kI 11,kR 12,kI 13,(14,.int .u8)]),(20,[kR 0,kS 1,kI 11,kR 12,kI 13,kB 83]),(29,[kS 1,kR 12,kB 114])]
def j33_14_20 (D:Orc) (I:List Value→H→Prop) (K:Kl) (a0 a1 a2 a3 a4 a5:Value) (b0:H):Prop :=
strW a1 (fun b1=>intK .i64 a2 (fun b2=>intK .i64 a4 (fun b3=>qQl a5 (fun b4=>cond b4 (
K X.r [(.slice none 0 0),(.string (ByteArray.mk #[])),(.int .i64 224)] b0) (
qXe b1 (some 1) none (fun b5=>D 33 [a0,(.string b5)] b0 (fun b6 b7=>∃ b8:Value,∃ b9:ByteArray,∃ ba:Int,b6=(.tuple #[b8,(.string b9),(.int .i64 ba)])∧cond (ba != 0) (
K X.r [(.slice none 0 0),(.string (ByteArray.mk #[])),(.int .i64 ba)] b7) (
qXg b8 (fun bb=>srcW b7 1 b8 (bb) (fun bc=>apW b7 1 8 [(.int .i64 0)] a3 (bb) bc (fun bd be=>I [a0,(.string b9),(.int .i64 b2),bd,(.int .i64 (IntKind.i64.wrap (b3+1)))] be))))) (fun c h=>K (X.p c) [] h)))))))
def j33_14_19 (D:Orc) (I:List Value→H→Prop) (K:Kl) (a0 a1 a2 a3 a4 a5:Value) (b0:H):Prop :=
strW a1 (fun b1=>intK .i64 a2 (fun b2=>intK .i64 a4 (fun b3=>intK .u8 a5 (fun b4=>cond (!((b1.size:Int)==0)) (
qXt b1 0 (fun b5=>j33_14_20 D I K a0 (.string b1) (.int .i64 b2) a3 (.int .i64 b3) (.bool (b5 != b4)) b0)) (
j33_14_20 D I K a0 (.string b1) (.int .i64 b2) a3 (.int .i64 b3) (.bool true) b0)))))
def round33_14 (D:Orc) (I:List Value→H→Prop) (K:Kl) (a0 a1 a2 a3 a4:Value) (b0:H):Prop :=
strW a1 (fun b1=>intK .i64 a2 (fun b2=>intK .i64 a4 (fun b3=>qQj a0 b2 2 (fun b4=>∃ b5:Int,rd b0 (Addr.add b4 1)=some (.int .i64 b5)∧cond (decide (b3<b5)) (
cond (b3==0) (
j33_14_19 D I K a0 (.string b1) (.int .i64 b2) a3 (.int .i64 b3) (.int .u8 40) b0) (
j33_14_19 D I K a0 (.string b1) (.int .i64 b2) a3 (.int .i64 b3) (.int .u8 44) b0)) (
K (X.e 0) [a0,(.string b1),(.int .i64 b2),a3] b0)))))
def loop33_14 (D:Orc):=Lp5 (round33_14 D)
def j33__29 (D:Orc) (k:Kv) (kp:Kp) (a0 a1 a2:Value) (b0:H):Prop :=
strW a0 (fun b1=>qQl a2 (fun b2=>cond b2 (
k (.tuple #[(.slice none 0 0),(.string (ByteArray.mk #[])),(.int .i64 224)]) b0) (
qXe b1 (some 1) none (fun b3=>k (.tuple #[a1,(.string b3),(.int .i64 0)]) b0))))
def j33__10 (D:Orc) (k:Kv) (kp:Kp) (a0 a1 a2 a3 a4:Value) (b0:H):Prop :=
strW a1 (fun b1=>intK .i64 a2 (fun b2=>intK .i64 a3 (fun b3=>qQl a4 (fun b4=>cond b4 (
k (.tuple #[(.slice none 0 0),(.string (ByteArray.mk #[])),(.int .i64 223)]) b0) (
one (.int .i64 b3)=true∧0<1∧qQy b0 1 [(.int .i64 b3)] (fun b5 b6=>qXe b1 (some b2) none (fun b7=>loop33_14 D [a0,(.string b7),(.int .i64 b3),b5,(.int .i64 0)] b6 (fun b8 b9 ba=>xs b8 (strW (nth b9 1) (fun bb=>intK .i64 (nth b9 2) (fun bc=>k (.tuple #[(nth b9 0),(.string bb),(.int .i64 bc)]) ba))) (fun bd=>cond (Nat.beq bd 0) (
strW (nth b9 1) (fun be=>intK .i64 (nth b9 2) (fun bf=>qQj (nth b9 0) bf 2 (fun bg=>∃ bh:Int,rd ba (Addr.add bg 1)=some (.int .i64 bh)∧cond (bh==0) (
k (.tuple #[(nth b9 3),(.string be),(.int .i64 0)]) ba) (
cond (!((be.size:Int)==0)) (
qXt be 0 (fun bi=>j33__29 D k kp (.string be) (nth b9 3) (.bool (bi != 41)) ba)) (
j33__29 D k kp (.string be) (nth b9 3) (.bool true) ba)))))) (False)) (fun c=>kp c ba)))))))))
def j33__2 (D:Orc) (k:Kv) (kp:Kp) (a0 a1 a2:Value) (h2:H):Prop :=
strW a1 (fun s3=>qQl a2 (fun t4=>cond t4 (
qXe s3 (some 1) none (fun s5=>D 76 [(.string s5)] h2 (fun v6 h7=>∃ x8:Int,v6=(.int .i64 x8)∧qXe s3 (some 1) (some (IntKind.i64.wrap (1+x8))) (fun s9=>D 77 [(.string s9),(.int .i64 1048575)] h7 (fun b8 b9=>∃ ba:Int,∃ bb:Bool,b8=(.tuple #[(.int .i64 ba),(.bool bb)])∧cond (!bb) (
k (.tuple #[(.slice none 0 0),(.string (ByteArray.mk #[])),(.int .i64 225)]) b9) (
one (.int .i64 (IntKind.i64.wrap (-1 - ba)))=true∧0<1∧qQy b9 1 [(.int .i64 (IntKind.i64.wrap (-1 - ba)))] (fun bc bd=>qXe s3 (some (IntKind.i64.wrap (1+x8))) none (fun be=>k (.tuple #[bc,(.string be),(.int .i64 0)]) bd)))) kp)) kp)) (
D 78 [(.string s3)] h2 (fun bf bg=>∃ bh:Int,bf=(.int .i64 bh)∧qXe s3 none (some bh) (fun bi=>D 79 [a0,(.string bi)] bg (fun bj bk=>∃ bl:Int,bj=(.int .i64 bl)∧cond (!(bh==0)) (
j33__10 D k kp a0 (.string s3) (.int .i64 bh) (.int .i64 bl) (.bool (decide (bl<(0:Int)))) bk) (
j33__10 D k kp a0 (.string s3) (.int .i64 bh) (.int .i64 bl) (.bool true) bk)) kp)) kp)))
def L33 (D:Orc):Lor:=Lsel [(14,loop33_14 D)]
def F33 (D:Orc) (a0 a1:Value) (h:H) (k:Kv) (kp:Kp):Prop :=
strW a1 (fun s0=>cond (decide ((s0.size:Int)>0)) (
qXt s0 0 (fun x1=>j33__2 D k kp a0 (.string s0) (.bool (x1==95)) h)) (
j33__2 D k kp a0 (.string s0) (.bool false) h))
def Cl33 (D:Orc):Prop:=∀ a0 a1 h k kp,F33 D a0 a1 h k kp→D 33 [a0,a1] h k kp
theorem cl33:Cl33 (CS Tryz.prog):=fun _ _ _ _ _ hk=>fnL wide lv33 L33 (fn:=Tryz.f33) (by kernel_rfl) (by kernel_rfl) (by kernel_rfl) (l:=[nthC (qQh (qQs Tryz.f33)) 0]) (by kernel_rfl) ⟨fun _ _ _ hk I H=>hk I fun _ _ _ _ _ _ hr=>H _ _ (cast (by kernel_rfl) hr),trivial⟩ (cast (by kernel_rfl) hk)
def lv45:=lvM 36 [.str,.int .u8] [(4,[kS 0,(1,.int .u8),kR 5,kI 6,kI 7])] [(4,[(0,[kR 5])])] [kR 4] [(5,[kS 0,(1,.int .u8),kR 5,kI 6,kI 7]),(7,[kS 0,(1,.int .u8),kR 5,kI 6,kI 7,kB 25])]
def j45_4_5 (D:Orc) (I:List Value→H→Prop) (K:Kl) (a0 a1 a2 a3 a4:Value) (b0:H):Prop :=
strW a0 (fun b1=>intK .u8 a1 (fun b2=>intK .i64 a3 (fun b3=>intK .i64 a4 (fun b4=>I [(.string b1),(.int .u8 b2),a2,(.int .i64 b3),(.int .i64 (IntKind.i64.wrap (b4+1)))] b0))))
def j45_4_7 (D:Orc) (I:List Value→H→Prop) (K:Kl) (a0 a1 a2 a3 a4 a5:Value) (b0:H):Prop :=
strW a0 (fun b1=>intK .u8 a1 (fun b2=>intK .i64 a3 (fun b3=>intK .i64 a4 (fun b4=>qQl a5 (fun b5=>cond b5 (
qXe b1 (some b3) (some b4) (fun b6=>one (.string b6)=true∧0<1∧qQy b0 1 [(.string b6)] (fun b7 b8=>qXg b7 (fun b9=>srcW b8 1 b7 (b9) (fun ba=>apW b8 1 16 [(.string (ByteArray.mk #[]))] a2 (b9) ba (fun bb bc=>j45_4_5 D I K (.string b1) (.int .u8 b2) bb (.int .i64 (IntKind.i64.wrap (b4+1))) (.int .i64 b4) bc)))))) (
j45_4_5 D I K (.string b1) (.int .u8 b2) a2 (.int .i64 b3) (.int .i64 b4) b0))))))
def round45_4 (D:Orc) (I:List Value→H→Prop) (K:Kl) (a0 a1 a2 a3 a4:Value) (h4:H):Prop :=
strW a0 (fun s5=>intK .u8 a1 (fun x6=>intK .i64 a3 (fun x7=>intK .i64 a4 (fun x8=>cond (decide (x8≤(s5.size:Int))) (
cond (!(x8==(s5.size:Int))) (
qXt s5 x8 (fun x9=>j45_4_7 D I K (.string s5) (.int .u8 x6) a2 (.int .i64 x7) (.int .i64 x8) (.bool (x9==x6)) h4)) (
j45_4_7 D I K (.string s5) (.int .u8 x6) a2 (.int .i64 x7) (.int .i64 x8) (.bool true) h4)) (
K (X.e 0) [a2] h4)))))
def loop45_4 (D:Orc):=Lp5 (round45_4 D)
def L45 (D:Orc):Lor:=Lsel [(4,loop45_4 D)]
def F45 (D:Orc) (a0 a1:Value) (h:H) (k:Kv) (kp:Kp):Prop :=
strW a0 (fun s0=>intK .u8 a1 (fun x1=>qQy h 0 [] (fun s2 h3=>loop45_4 D [(.string s0),(.int .u8 x1),s2,(.int .i64 0),(.int .i64 0)] h3 (fun b4 b5 b6=>xs b4 (k (nth b5 0) b6) (fun b7=>cond (Nat.beq b7 0) (
k (nth b5 0) b6) (False)) (fun c=>kp c b6)))))
def Cl45 (D:Orc):Prop:=∀ a0 a1 h k kp,F45 D a0 a1 h k kp→D 45 [a0,a1] h k kp
theorem cl45:Cl45 (CS Tryz.prog):=fun _ _ _ _ _ hk=>fnL wide lv45 L45 (fn:=Tryz.f45) (by kernel_rfl) (by kernel_rfl) (by kernel_rfl) (l:=[nthC (qQh (qQs Tryz.f45)) 0]) (by kernel_rfl) ⟨fun _ _ _ hk I H=>hk I fun _ _ _ _ _ _ hr=>H _ _ (cast (by kernel_rfl) hr),trivial⟩ (cast (by kernel_rfl) hk)
def lv46:=lvM 28 [.str] [(4,[kR 3,kR 4,kI 5])] [(4,[(0,[kR 4])])] [kR 2] [(5,[kR 3,kR 4,kI 5])]
def j46_4_5 (D:Orc) (I:List Value→H→Prop) (K:Kl) (a0 a1 a2:Value) (b0:H):Prop :=
intK .i64 a2 (fun b1=>I [a0,a1,(.int .i64 (IntKind.i64.wrap (b1+1)))] b0)
def round46_4 (D:Orc) (I:List Value→H→Prop) (K:Kl) (a0 a1 a2:Value) (h6:H):Prop :=
intK .i64 a2 (fun x7=>lenW a0 (fun n8=>cond (decide (x7<(n8:Int))) (
qQj a0 x7 1 (fun b3=>∃ b4:ByteArray,rd h6 b3=some (.string b4)∧cond (!(b4.toList==(ByteArray.mk #[]).toList)) (
qQj a0 x7 1 (fun b5=>∃ b6:ByteArray,rd h6 b5=some (.string b6)∧one (.string b6)=true∧0<1∧qQy h6 1 [(.string b6)] (fun b7 b8=>qXg b7 (fun b9=>srcW b8 1 b7 (b9) (fun ba=>apW b8 1 16 [(.string (ByteArray.mk #[]))] a1 (b9) ba (fun bb bc=>j46_4_5 D I K a0 bb (.int .i64 x7) bc)))))) (
j46_4_5 D I K a0 a1 (.int .i64 x7) h6))) (
K (X.e 0) [a1] h6)))
def loop46_4 (D:Orc):=Lp3 (round46_4 D)
def L46 (D:Orc):Lor:=Lsel [(4,loop46_4 D)]
def F46 (D:Orc) (a0:Value) (h:H) (k:Kv) (kp:Kp):Prop :=
strW a0 (fun s0=>D 45 [(.string s0),(.int .u8 32)] h (fun v1 h2=>∃ v3:Value,v1=v3∧qQy h2 0 [] (fun s4 h5=>loop46_4 D [v3,s4,(.int .i64 0)] h5 (fun b6 b7 b8=>xs b6 (k (nth b7 0) b8) (fun b9=>cond (Nat.beq b9 0) (
k (nth b7 0) b8) (False)) (fun c=>kp c b8)))) kp)
def Cl46 (D:Orc):Prop:=∀ a0 h k kp,F46 D a0 h k kp→D 46 [a0] h k kp
theorem cl46:Cl46 (CS Tryz.prog):=fun _ _ _ _ hk=>fnL wide lv46 L46 (fn:=Tryz.f46) (by kernel_rfl) (by kernel_rfl) (by kernel_rfl) (l:=[nthC (qQh (qQs Tryz.f46)) 0]) (by kernel_rfl) ⟨fun _ _ _ hk I H=>hk I fun _ _ _ _ hr=>H _ _ (cast (by kernel_rfl) hr),trivial⟩ (cast (by kernel_rfl) hk)
def lv47:=lvM 98 [.raw,.bool,.raw] [(5,[kB 1,kR 2,kR 3,kS 7,kI 8])] [(5,[(0,[kB 1,kR 2,kR 3])])] [kB 6] [(3,[kB 1,kR 2,kR 3,kS 7,kB 36]),(8,[kB 1,kR 2,kR 3,kS 7,kI 8,kB 68]),(15,[kR 3,kI 9,kS 74,kB 78])]
def j47_5_8 (D:Orc) (I:List Value→H→Prop) (K:Kl) (a0 a1 a2 a3 a4 a5:Value) (b0:H):Prop :=
qQl a0 (fun b1=>strW a3 (fun b2=>intK .i64 a4 (fun b3=>qQl a5 (fun b4=>cond b4 (
K X.r [(.bool false)] b0) (
I [(.bool b1),a1,a2,(.string b2),(.int .i64 (IntKind.i64.wrap (b3+1)))] b0)))))
def round47_5 (D:Orc) (I:List Value→H→Prop) (K:Kl) (a0 a1 a2 a3 a4:Value) (b0:H):Prop :=
qQl a0 (fun b1=>strW a3 (fun b2=>intK .i64 a4 (fun b3=>cond (decide (b3<(b2.size:Int))) (
qXt b2 b3 (fun b4=>cond (b4==62) (
qQj a1 (IntKind.i64.wrap (b3+1)) 1 (fun b5=>∃ b6:ByteArray,rd b0 b5=some (.string b6)∧cond (!(!(b6.toList==(ByteArray.mk #[45,62]).toList))) (
qXt b2 b3 (fun b7=>cond (b7==61) (
qQj a1 (IntKind.i64.wrap (b3+1)) 1 (fun b8=>∃ b9:ByteArray,rd b0 b8=some (.string b9)∧j47_5_8 D I K (.bool b1) a1 a2 (.string b2) (.int .i64 b3) (.bool (!(b9.toList==(ByteArray.mk #[61]).toList))) b0)) (
j47_5_8 D I K (.bool b1) a1 a2 (.string b2) (.int .i64 b3) (.bool false) b0))) (
j47_5_8 D I K (.bool b1) a1 a2 (.string b2) (.int .i64 b3) (.bool true) b0))) (
qXt b2 b3 (fun ba=>cond (ba==61) (
qQj a1 (IntKind.i64.wrap (b3+1)) 1 (fun bb=>∃ bc:ByteArray,rd b0 bb=some (.string bc)∧j47_5_8 D I K (.bool b1) a1 a2 (.string b2) (.int .i64 b3) (.bool (!(bc.toList==(ByteArray.mk #[61]).toList))) b0)) (
j47_5_8 D I K (.bool b1) a1 a2 (.string b2) (.int .i64 b3) (.bool false) b0))))) (
K (X.e 0) [(.bool b1),a1,a2] b0))))
def loop47_5 (D:Orc):=Lp5 (round47_5 D)
def j47__15 (D:Orc) (k:Kv) (kp:Kp) (a0 a1 a2 a3:Value) (b0:H):Prop :=
intK .i64 a1 (fun b1=>strW a2 (fun b2=>qQl a3 (fun b3=>cond b3 (
k (.bool (decide (b1>0))) b0) (
cond (b2.toList==(ByteArray.mk #[109,111,110,111]).toList) (
cond (decide (b1>0)) (
ptrW a0 (fun b4=>∃ b5:Value,rd b0 (Addr.add b4 4)=some b5∧qQj b5 (IntKind.i64.wrap (b1 - 1)) 4 (fun b6=>∃ b7:Value,rd b0 (Addr.add b6 2)=some b7∧lenW b7 (fun b8=>k (.bool (decide ((b8:Int)>0))) b0)))) (
k (.bool false) b0)) (
k (.bool true) b0)))))
def j47__3 (D:Orc) (k:Kv) (kp:Kp) (a0 a1 a2 a3 a4:Value) (b0:H):Prop :=
qQl a0 (fun b1=>strW a3 (fun b2=>qQl a4 (fun b3=>cond b3 (
k (.bool false) b0) (
loop47_5 D [(.bool b1),a1,a2,(.string b2),(.int .i64 0)] b0 (fun b4 b5 b6=>xs b4 (qQl (nth b5 0) (fun b7=>k (.bool b7) b6)) (fun b8=>cond (Nat.beq b8 0) (
qQl (nth b5 0) (fun b9=>ptrW (nth b5 2) (fun ba=>∃ bb:Value,rd b6 (Addr.add ba 4)=some bb∧lenW bb (fun bc=>qQj (nth b5 1) 0 1 (fun bd=>∃ be:ByteArray,rd b6 bd=some (.string be)∧cond (be.toList==(ByteArray.mk #[115,121,109]).toList) (
k (.bool b9) b6) (
cond (be.toList==(ByteArray.mk #[111,118,101,114]).toList) (
j47__15 D k kp (nth b5 2) (.int .i64 (bc:Int)) (.string be) (.bool (be.toList==(ByteArray.mk #[111,118,101,114]).toList)) b6) (
j47__15 D k kp (nth b5 2) (.int .i64 (bc:Int)) (.string be) (.bool (be.toList==(ByteArray.mk #[115,101,116]).toList)) b6))))))) (False)) (fun c=>kp c b6))))))
def L47 (D:Orc):Lor:=Lsel [(5,loop47_5 D)]
def F47 (D:Orc) (a0 a1 a2:Value) (h:H) (k:Kv) (kp:Kp):Prop :=
qQl a1 (fun t0=>aggW a0 (fun l1=>newW h l1 (fun p2 h3=>qQj a2 0 1 (fun b4=>∃ s5:ByteArray,rd h3 b4=some (.string s5)∧D 96 [(.string s5)] h3 (fun v6 h7=>∃ s8:ByteArray,v6=(.string s8)∧cond (!(s8.toList==(ByteArray.mk #[120]).toList)) (
cond (s8.toList==(ByteArray.mk #[99,42]).toList) (
lenW a2 (fun n9=>cond (!(decide ((n9:Int)<(2:Int)))) (
cond (!(s8.toList==(ByteArray.mk #[99,42]).toList)) (
lenW a2 (fun ba=>j47__3 D k kp (.bool t0) a2 p2 (.string s8) (.bool ((ba:Int) != (IntKind.i64.wrap ((s8.size:Int)+1)))) h7)) (
j47__3 D k kp (.bool t0) a2 p2 (.string s8) (.bool false) h7)) (
j47__3 D k kp (.bool t0) a2 p2 (.string s8) (.bool true) h7))) (
cond (!(s8.toList==(ByteArray.mk #[99,42]).toList)) (
lenW a2 (fun bb=>j47__3 D k kp (.bool t0) a2 p2 (.string s8) (.bool ((bb:Int) != (IntKind.i64.wrap ((s8.size:Int)+1)))) h7)) (
j47__3 D k kp (.bool t0) a2 p2 (.string s8) (.bool false) h7))) (
j47__3 D k kp (.bool t0) a2 p2 (.string s8) (.bool true) h7)) kp))))
def Cl47 (D:Orc):Prop:=∀ a0 a1 a2 h k kp,F47 D a0 a1 a2 h k kp→D 47 [a0,a1,a2] h k kp
theorem cl47:Cl47 (CS Tryz.prog):=fun _ _ _ _ _ _ hk=>fnL wide lv47 L47 (fn:=Tryz.f47) (by kernel_rfl) (by kernel_rfl) (by kernel_rfl) (l:=[nthC (qQh (qQs Tryz.f47)) 0]) (by kernel_rfl) ⟨fun _ _ _ hk I H=>hk I fun _ _ _ _ _ _ hr=>H _ _ (cast (by kernel_rfl) hr),trivial⟩ (cast (by kernel_rfl) hk)
def lv48:=lvM 328 [.raw,.raw] [(4,[kR 0,kR 1,kS 5,kR 6,kI 7])] [(4,[(0,[kR 0,kR 1,kR 6])])] [kI 4] [(9,[kR 0,kR 1,kS 5,kR 6,kI 7,(8,.int .u8)]),(8,[kR 0,kR 1,kS 5,kR 6,kI 7,(8,.int .u8),kB 35]),(32,[kR 0]),(33,[kB 327])]
def j48_4_9 (D:Orc) (I:List Value→H→Prop) (K:Kl) (a0 a1 a2 a3 a4 a5:Value) (b0:H):Prop :=
strW a2 (fun b1=>intK .i64 a4 (fun b2=>intK .u8 a5 (fun b3=>qQe a0=true∧ptrW a0 (fun b4=>∃ b5 b6 b7 b8 b9 ba:Value,rdN b0 b4 6=some [b5,b6,b7,b8,b9,ba]∧qQj a1 b2 1 (fun bb=>∃ bc:ByteArray,rd b0 bb=some (.string bc)∧qQj a1 0 1 (fun bd=>∃ be:ByteArray,rd b0 bd=some (.string be)∧D 97 [(.agg #[b5,b6,b7,b8,b9,ba]),(.string bc),(.int .u8 b3),(.string be),a3] b0 (fun bf bg=>∃ bh:Int,bf=(.int .i64 bh)∧cond (bh != 0) (
K X.r [(.int .i64 bh)] bg) (
I [a0,a1,(.string b1),a3,(.int .i64 (IntKind.i64.wrap (b2+1)))] bg)) (fun c h=>K (X.p c) [] h)))))))
def j48_4_8 (D:Orc) (I:List Value→H→Prop) (K:Kl) (a0 a1 a2 a3 a4 a5 a6:Value) (b0:H):Prop :=
strW a2 (fun b1=>intK .i64 a4 (fun b2=>intK .u8 a5 (fun b3=>qQl a6 (fun b4=>cond b4 (
qXt b1 (IntKind.i64.wrap (b2 - 1)) (fun b5=>j48_4_9 D I K a0 a1 (.string b1) a3 (.int .i64 b2) (.int .u8 b5) b0)) (
j48_4_9 D I K a0 a1 (.string b1) a3 (.int .i64 b2) (.int .u8 b3) b0)))))
def round48_4 (D:Orc) (I:List Value→H→Prop) (K:Kl) (a0 a1 a2 a3 a4:Value) (h7:H):Prop :=
strW a2 (fun s8=>intK .i64 a4 (fun x9=>lenW a1 (fun b3=>cond (decide (x9<(b3:Int))) (
cond (decide ((IntKind.i64.wrap (x9 - 1))<(s8.size:Int))) (
qXt s8 (IntKind.i64.wrap (x9 - 1)) (fun b4=>j48_4_8 D I K a0 a1 (.string s8) a3 (.int .i64 x9) (.int .u8 105) (.bool (b4 != 42)) h7)) (
j48_4_8 D I K a0 a1 (.string s8) a3 (.int .i64 x9) (.int .u8 105) (.bool false) h7)) (
K (X.e 0) [a0,a1,a3] h7))))
def loop48_4 (D:Orc):=Lp5 (round48_4 D)
def j48__33 (D:Orc) (k:Kv) (kp:Kp) (a0:Value) (b0:H):Prop :=
qQl a0 (fun b1=>cond b1 (
k (.int .i64 226) b0) (
k (.int .i64 0) b0))
def j48__32 (D:Orc) (k:Kv) (kp:Kp) (a0:Value) (b0:H):Prop :=
qQe a0=true∧ptrW a0 (fun b1=>∃ b2:Value,rd b0 (Addr.add b1 0)=some b2∧lenW b2 (fun b3=>cond (!(decide ((b3:Int)>64))) (
qQe a0=true∧ptrW a0 (fun b4=>∃ b5:Value,rd b0 (Addr.add b4 1)=some b5∧lenW b5 (fun b6=>cond (!(decide ((b6:Int)>64))) (
qQe a0=true∧ptrW a0 (fun b7=>∃ b8:Value,rd b0 (Addr.add b7 2)=some b8∧lenW b8 (fun b9=>j48__33 D k kp (.bool (decide ((b9:Int)>64))) b0))) (
j48__33 D k kp (.bool true) b0)))) (
j48__33 D k kp (.bool true) b0)))
def L48 (D:Orc):Lor:=Lsel [(4,loop48_4 D)]
def F48 (D:Orc) (a0 a1:Value) (h:H) (k:Kv) (kp:Kp):Prop :=
qQj a1 0 1 (fun b0=>∃ s1:ByteArray,rd h b0=some (.string s1)∧D 96 [(.string s1)] h (fun v2 h3=>∃ s4:ByteArray,v2=(.string s4)∧newW h3 [(.slice none 0 0),(.slice none 0 0),(.slice none 0 0),(.slice none 0 0),(.slice none 0 0)] (fun p5 h6=>loop48_4 D [a0,a1,(.string s4),p5,(.int .i64 1)] h6 (fun b7 b8 b9=>xs b7 (intK .i64 (nth b8 0) (fun ba=>k (.int .i64 ba) b9)) (fun bb=>cond (Nat.beq bb 0) (
qQe (nth b8 0)=true∧ptrW (nth b8 0) (fun bc=>∃ bd:Value,rd b9 (Addr.add bc 4)=some bd∧lenW bd (fun be=>qQj (nth b8 1) 0 1 (fun bf=>∃ bg:ByteArray,rd b9 bf=some (.string bg)∧cond (bg.toList==(ByteArray.mk #[115,121,109]).toList) (
qQe (nth b8 0)=true∧ptrW (nth b8 0) (fun bh=>∃ bi:Value,rd b9 (Addr.add bh 0)=some bi∧qQe (nth b8 2)=true∧ptrW (nth b8 2) (fun bj=>∃ bk:Value,rd b9 (Addr.add bj 0)=some bk∧qQj bk 0 1 (fun bl=>∃ bm:ByteArray,rd b9 bl=some (.string bm)∧qQe (nth b8 2)=true∧ptrW (nth b8 2) (fun bn=>∃ bo:Value,rd b9 (Addr.add bn 3)=some bo∧qQj bo 0 1 (fun bp=>∃ bq:Int,rd b9 bp=some (.int .i64 bq)∧one (.string bm)=true∧0<2∧one (.int .i64 bq)=true∧1<2∧2=2∧0+2≤2∧qQy b9 1 [(.string bm),(.int .i64 bq)] (fun br bs=>qXg br (fun bt=>srcW bs 2 br (bt) (fun bu=>apW bs 2 24 [(.string (ByteArray.mk #[])),(.int .i64 0)] bi (bt) bu (fun bv bw=>qQe (nth b8 0)=true∧ptrW (nth b8 0) (fun bx=>one bv=true∧1=1∧∃ bz,wr1 bw (Addr.add bx 0) bv=some bz∧j48__32 D k kp (nth b8 0) bz))))))))))) (
cond (bg.toList==(ByteArray.mk #[114,117,108,101]).toList) (
qQe (nth b8 0)=true∧ptrW (nth b8 0) (fun c0=>∃ c1:Value,rd b9 (Addr.add c0 1)=some c1∧qQe (nth b8 2)=true∧ptrW (nth b8 2) (fun c2=>∃ c3:Value,rd b9 (Addr.add c2 2)=some c3∧qQj c3 0 1 (fun c4=>∃ c5:Value,rd b9 c4=some c5∧qQe (nth b8 2)=true∧ptrW (nth b8 2) (fun c6=>∃ c7:Value,rd b9 (Addr.add c6 2)=some c7∧qQj c7 1 1 (fun c8=>∃ c9:Value,rd b9 c8=some c9∧one c5=true∧0<2∧one c9=true∧1<2∧2=2∧0+2≤2∧qQy b9 1 [c5,c9] (fun ca cb=>qXg ca (fun cc=>srcW cb 2 ca (cc) (fun cd=>apW cb 2 48 [(.slice none 0 0),(.slice none 0 0)] c1 (cc) cd (fun ce cf=>qQe (nth b8 0)=true∧ptrW (nth b8 0) (fun cg=>one ce=true∧1=1∧∃ ch,wr1 cf (Addr.add cg 1) ce=some ch∧j48__32 D k kp (nth b8 0) ch))))))))))) (
cond (bg.toList==(ByteArray.mk #[101,113]).toList) (
qQe (nth b8 0)=true∧ptrW (nth b8 0) (fun ci=>∃ cj:Value,rd b9 (Addr.add ci 2)=some cj∧qQe (nth b8 2)=true∧ptrW (nth b8 2) (fun ck=>∃ cl:Value,rd b9 (Addr.add ck 2)=some cl∧qQj cl 0 1 (fun cm=>∃ cn:Value,rd b9 cm=some cn∧qQe (nth b8 2)=true∧ptrW (nth b8 2) (fun co=>∃ cp:Value,rd b9 (Addr.add co 2)=some cp∧qQj cp 1 1 (fun cq=>∃ cr:Value,rd b9 cq=some cr∧one cn=true∧0<2∧one cr=true∧1<2∧2=2∧0+2≤2∧qQy b9 1 [cn,cr] (fun cs ct=>qXg cs (fun cu=>srcW ct 2 cs (cu) (fun cv=>apW ct 2 48 [(.slice none 0 0),(.slice none 0 0)] cj (cu) cv (fun cw cx=>qQe (nth b8 0)=true∧ptrW (nth b8 0) (fun cy=>one cw=true∧1=1∧∃ cz,wr1 cx (Addr.add cy 2) cw=some cz∧j48__32 D k kp (nth b8 0) cz))))))))))) (
cond (bg.toList==(ByteArray.mk #[97,98,111,118,101]).toList) (
qQe (nth b8 0)=true∧ptrW (nth b8 0) (fun d0=>∃ d1:Value,rd b9 (Addr.add d0 3)=some d1∧qQe (nth b8 2)=true∧ptrW (nth b8 2) (fun d2=>∃ d3:Value,rd b9 (Addr.add d2 1)=some d3∧qQj d3 0 1 (fun d4=>∃ d5:Int,rd b9 d4=some (.int .i64 d5)∧qQe (nth b8 2)=true∧ptrW (nth b8 2) (fun d6=>∃ d7:Value,rd b9 (Addr.add d6 1)=some d7∧qQj d7 1 1 (fun d8=>∃ d9:Int,rd b9 d8=some (.int .i64 d9)∧one (.int .i64 d5)=true∧0<2∧one (.int .i64 d9)=true∧1<2∧2=2∧0+2≤2∧qQy b9 1 [(.int .i64 d5),(.int .i64 d9)] (fun da db=>qXg da (fun dc=>srcW db 2 da (dc) (fun dd=>apW db 2 16 [(.int .i64 0),(.int .i64 0)] d1 (dc) dd (fun de df=>qQe (nth b8 0)=true∧ptrW (nth b8 0) (fun dg=>one de=true∧1=1∧∃ dh,wr1 df (Addr.add dg 3) de=some dh∧j48__32 D k kp (nth b8 0) dh))))))))))) (
cond (bg.toList==(ByteArray.mk #[110,111,100,101]).toList) (
qQe (nth b8 0)=true∧ptrW (nth b8 0) (fun di=>∃ dj:Value,rd b9 (Addr.add di 4)=some dj∧qQe (nth b8 2)=true∧ptrW (nth b8 2) (fun dk=>∃ dl:Value,rd b9 (Addr.add dk 1)=some dl∧qQj dl 0 1 (fun dm=>∃ dn:Int,rd b9 dm=some (.int .i64 dn)∧qQe (nth b8 2)=true∧ptrW (nth b8 2) (fun dp=>∃ dq:Value,rd b9 (Addr.add dp 3)=some dq∧qQj dq 0 1 (fun dr=>∃ ds:Int,rd b9 dr=some (.int .i64 ds)∧one (.int .i64 dn)=true∧0<4∧one (.int .i64 ds)=true∧3<4∧4=4∧0+4≤4∧qQy b9 1 [(.int .i64 dn),(.slice none 0 0),(.slice none 0 0),(.int .i64 ds)] (fun dt du=>qXg dt (fun dv=>srcW du 4 dt (dv) (fun dw=>apW du 4 64 [(.int .i64 0),(.slice none 0 0),(.slice none 0 0),(.int .i64 0)] dj (dv) dw (fun dx dy=>qQe (nth b8 0)=true∧ptrW (nth b8 0) (fun dz=>one dx=true∧1=1∧∃ e0,wr1 dy (Addr.add dz 4) dx=some e0∧j48__32 D k kp (nth b8 0) e0))))))))))) (
cond (bg.toList==(ByteArray.mk #[111,118,101,114]).toList) (
qQe (nth b8 0)=true∧ptrW (nth b8 0) (fun e1=>∃ e2:Value,rd b9 (Addr.add e1 4)=some e2∧qQe (nth b8 0)=true∧ptrW (nth b8 0) (fun e3=>∃ e4:Value,rd b9 (Addr.add e3 4)=some e4∧qQj e4 (IntKind.i64.wrap ((be:Int) - 1)) 4 (fun e5=>∃ e6:Value,rd b9 (Addr.add e5 1)=some e6∧qQe (nth b8 2)=true∧ptrW (nth b8 2) (fun e7=>∃ e8:Value,rd b9 (Addr.add e7 1)=some e8∧qQj e8 0 1 (fun e9=>∃ ea:Int,rd b9 e9=some (.int .i64 ea)∧qQe (nth b8 2)=true∧ptrW (nth b8 2) (fun eb=>∃ ec:Value,rd b9 (Addr.add eb 1)=some ec∧qQj ec 1 1 (fun ed=>∃ ee:Int,rd b9 ed=some (.int .i64 ee)∧one (.int .i64 ea)=true∧0<2∧one (.int .i64 ee)=true∧1<2∧2=2∧0+2≤2∧qQy b9 1 [(.int .i64 ea),(.int .i64 ee)] (fun ef eg=>qXg ef (fun eh=>srcW eg 2 ef (eh) (fun ei=>apW eg 2 16 [(.int .i64 0),(.int .i64 0)] e6 (eh) ei (fun ej ek=>(rd ek (Addr.add e1 4)=some e2)∧qQj e2 (IntKind.i64.wrap ((be:Int) - 1)) 4 (fun el=>one ej=true∧1=1∧∃ em,wr1 ek (Addr.add el 1) ej=some em∧j48__32 D k kp (nth b8 0) em))))))))))))) (
cond (bg.toList==(ByteArray.mk #[115,101,116]).toList) (
qQe (nth b8 0)=true∧ptrW (nth b8 0) (fun en=>∃ eo:Value,rd b9 (Addr.add en 4)=some eo∧qQe (nth b8 0)=true∧ptrW (nth b8 0) (fun ep=>∃ eq:Value,rd b9 (Addr.add ep 4)=some eq∧qQj eq (IntKind.i64.wrap ((be:Int) - 1)) 4 (fun er=>∃ es:Value,rd b9 (Addr.add er 2)=some es∧qQe (nth b8 2)=true∧ptrW (nth b8 2) (fun et=>∃ eu:Value,rd b9 (Addr.add et 1)=some eu∧qQj eu 0 1 (fun ew=>∃ ex:Int,rd b9 ew=some (.int .i64 ex)∧one (.int .i64 ex)=true∧0<2∧2=2∧0+2≤2∧qQy b9 1 [(.int .i64 ex),(.slice none 0 0)] (fun ey ez=>qXg ey (fun f0=>srcW ez 2 ey (f0) (fun f1=>apW ez 2 32 [(.int .i64 0),(.slice none 0 0)] es (f0) f1 (fun f2 f3=>(rd f3 (Addr.add en 4)=some eo)∧qQj eo (IntKind.i64.wrap ((be:Int) - 1)) 4 (fun f4=>one f2=true∧1=1∧∃ f5,wr1 f3 (Addr.add f4 2) f2=some f5∧j48__32 D k kp (nth b8 0) f5))))))))))) (
cond (bg.toList==(ByteArray.mk #[109,111,110,111]).toList) (
qQe (nth b8 0)=true∧ptrW (nth b8 0) (fun f6=>∃ f7:Value,rd b9 (Addr.add f6 4)=some f7∧qQj f7 (IntKind.i64.wrap ((be:Int) - 1)) 4 (fun f8=>∃ f9:Value,rd b9 (Addr.add f8 2)=some f9∧lenW f9 (fun fa=>qQe (nth b8 0)=true∧ptrW (nth b8 0) (fun fb=>∃ fc:Value,rd b9 (Addr.add fb 4)=some fc∧qQj fc (IntKind.i64.wrap ((be:Int) - 1)) 4 (fun fd=>∃ fe:Value,rd b9 (Addr.add fd 2)=some fe∧qQe (nth b8 0)=true∧ptrW (nth b8 0) (fun ff=>∃ fg:Value,rd b9 (Addr.add ff 4)=some fg∧qQj fg (IntKind.i64.wrap ((be:Int) - 1)) 4 (fun fh=>∃ fi:Value,rd b9 (Addr.add fh 2)=some fi∧qQj fi (IntKind.i64.wrap ((fa:Int) - 1)) 2 (fun fj=>∃ fk:Value,rd b9 (Addr.add fj 1)=some fk∧qQe (nth b8 2)=true∧ptrW (nth b8 2) (fun fl=>∃ fm:Value,rd b9 (Addr.add fl 4)=some fm∧qQe (nth b8 2)=true∧ptrW (nth b8 2) (fun fn=>∃ fo:Value,rd b9 (Addr.add fn 3)=some fo∧one fm=true∧0<2∧one fo=true∧1<2∧2=2∧0+2≤2∧qQy b9 1 [fm,fo] (fun fp fq=>qXg fp (fun fr=>srcW fq 2 fp (fr) (fun fs=>apW fq 2 48 [(.slice none 0 0),(.slice none 0 0)] fk (fr) fs (fun ft fu=>(rd fu (Addr.add fd 2)=some fe)∧(rd fu (Addr.add fb 4)=some fc)∧qQj fe (IntKind.i64.wrap ((fa:Int) - 1)) 2 (fun fv=>one ft=true∧1=1∧∃ fw,wr1 fu (Addr.add fv 1) ft=some fw∧j48__32 D k kp (nth b8 0) fw)))))))))))))))) (
qQe (nth b8 0)=true∧ptrW (nth b8 0) (fun fx=>∃ fy:Value,rd b9 (Addr.add fx 5)=some fy∧qQj (nth b8 1) 0 1 (fun fz=>∃ g0:ByteArray,rd b9 fz=some (.string g0)∧qQe (nth b8 2)=true∧ptrW (nth b8 2) (fun g1=>∃ g2:Value,rd b9 (Addr.add g1 2)=some g2∧one (.string g0)=true∧0<2∧one g2=true∧1<2∧2=2∧0+2≤2∧qQy b9 1 [(.string g0),g2] (fun g3 g4=>qXg g3 (fun g5=>srcW g4 2 g3 (g5) (fun g6=>apW g4 2 40 [(.string (ByteArray.mk #[])),(.slice none 0 0)] fy (g5) g6 (fun g7 g8=>qQe (nth b8 0)=true∧ptrW (nth b8 0) (fun g9=>one g7=true∧1=1∧∃ ga,wr1 g8 (Addr.add g9 5) g7=some ga∧j48__32 D k kp (nth b8 0) ga)))))))))))))))))))) (False)) (fun c=>kp c b9)))) kp)
def Cl48 (D:Orc):Prop:=∀ a0 a1 h k kp,F48 D a0 a1 h k kp→D 48 [a0,a1] h k kp
theorem cl48:Cl48 (CS Tryz.prog):=fun _ _ _ _ _ hk=>fnL wide lv48 L48 (fn:=Tryz.f48) (by kernel_rfl) (by kernel_rfl) (by kernel_rfl) (l:=[nthC (qQh (qQs Tryz.f48)) 0]) (by kernel_rfl) ⟨fun _ _ _ hk I H=>hk I fun _ _ _ _ _ _ hr=>H _ _ (cast (by kernel_rfl) hr),trivial⟩ (cast (by kernel_rfl) hk)
def lv61:=lvM 35 [.str] [(4,[kR 18])] [(4,[(0,[])])] [kB 2] [(2,[kS 0,kB 16]),(7,[kR 18,kB 34])]
def j61_4_7 (D:Orc) (I:List Value→H→Prop) (K:Kl) (a0 a1:Value) (b0:H):Prop :=
qQl a1 (fun b1=>cond b1 (
K X.r [(.bool false)] b0) (
I [a0] b0))
def round61_4 (D:Orc) (I:List Value→H→Prop) (K:Kl) (a0:Value) (h9:H):Prop :=
ptrW a0 (fun b1=>qRs h9 b1 (fun b2 b3=>qXu b2 0 (fun b4=>qQl b4 (fun b5=>cond b5 (
qXu b2 1 (fun b6=>qXu b2 2 (fun b7=>intK .i64 b6 (fun b8=>cond (b8==0) (
D 104 [b7] b3 (fun b9 ba=>∃ bb:Bool,b9=(.bool bb)∧cond (!(!bb)) (
D 105 [b7] ba (fun bc bd=>∃ be:Bool,bc=(.bool be)∧j61_4_7 D I K a0 (.bool (!be)) bd) (fun c h=>K (X.p c) [] h)) (
j61_4_7 D I K a0 (.bool true) ba)) (fun c h=>K (X.p c) [] h)) (
D 105 [b7] b3 (fun bf bg=>∃ bh:Bool,bf=(.bool bh)∧j61_4_7 D I K a0 (.bool (!bh)) bg) (fun c h=>K (X.p c) [] h)))))) (
K (X.e 0) [] b3)))))
def loop61_4 (D:Orc):=Lp1 (round61_4 D)
def j61__2 (D:Orc) (k:Kv) (kp:Kp) (a0 a1:Value) (h4:H):Prop :=
strW a0 (fun s5=>qQl a1 (fun t6=>cond t6 (
k (.bool false) h4) (
xQe h4 s5 (fun p7 h8=>loop61_4 D [p7] h8 (fun b5 b6 b7=>xs b5 (qQl (nth b6 0) (fun b8=>k (.bool b8) b7)) (fun b9=>cond (Nat.beq b9 0) (
k (.bool true) b7) (False)) (fun c=>kp c b7))))))
def L61 (D:Orc):Lor:=Lsel [(4,loop61_4 D)]
def F61 (D:Orc) (a0:Value) (h:H) (k:Kv) (kp:Kp):Prop :=
strW a0 (fun s0=>cond (!(s0.toList==(ByteArray.mk #[]).toList)) (
cond (!(decide ((s0.size:Int)>32))) (
D 103 [(.string s0)] h (fun v1 h2=>∃ t3:Bool,v1=(.bool t3)∧j61__2 D k kp (.string s0) (.bool (!t3)) h2) kp) (
j61__2 D k kp (.string s0) (.bool true) h)) (
j61__2 D k kp (.string s0) (.bool true) h))
def Cl61 (D:Orc):Prop:=∀ a0 h k kp,F61 D a0 h k kp→D 61 [a0] h k kp
theorem cl61:Cl61 (CS Tryz.prog):=fun _ _ _ _ hk=>fnL wide lv61 L61 (fn:=Tryz.f61) (by kernel_rfl) (by kernel_rfl) (by kernel_rfl) (l:=[nthC (qQh (qQs Tryz.f61)) 0]) (by kernel_rfl) ⟨fun _ _ _ hk I H=>hk I fun _ _ hr=>H _ _ (cast (by kernel_rfl) hr),trivial⟩ (cast (by kernel_rfl) hk)
def lv75:=lvM 22 [.str] [] [] [kB 2] []
def F75 (D:Orc) (a0:Value) (h:H) (k:Kv) (kp:Kp):Prop :=
strW a0 (fun s0=>cond (decide ((s0.size:Int)>0)) (
qXt s0 (IntKind.i64.wrap ((s0.size:Int) - 1)) (fun x1=>cond (x1==35) (
qXe s0 none (some (IntKind.i64.wrap ((s0.size:Int) - 1))) (fun s2=>D 61 [(.string s2)] h (fun v3 h4=>∃ t5:Bool,v3=(.bool t5)∧k (.bool t5) h4) kp)) (
k (.bool false) h))) (
k (.bool false) h))
def Cl75 (D:Orc):Prop:=∀ a0 h k kp,F75 D a0 h k kp→D 75 [a0] h k kp
theorem cl75:Cl75 (CS Tryz.prog):=fun _ _ _ _ hk=>fn0 wide lv75 (fn:=Tryz.f75) (by kernel_rfl) (by kernel_rfl) (by kernel_rfl) (by kernel_rfl) (cast (by kernel_rfl) hk)
def lv76:=lvM 23 [.str] [(2,[kS 0,kI 3])] [(2,[(0,[kI 3])])] [kI 2] []
def round76_2 (D:Orc) (I:List Value→H→Prop) (K:Kl) (a0 a1:Value) (h1:H):Prop :=
strW a0 (fun s2=>intK .i64 a1 (fun x3=>cond (decide (x3<(s2.size:Int))) (
qXt s2 x3 (fun x4=>cond (decide (x4≥48)) (
qXt s2 x3 (fun x5=>cond (decide (x5≤(57:Int))) (
I [(.string s2),(.int .i64 (IntKind.i64.wrap (x3+1)))] h1) (
K (X.e 0) [(.int .i64 x3)] h1))) (
K (X.e 0) [(.int .i64 x3)] h1))) (
K (X.e 0) [(.int .i64 x3)] h1)))
def loop76_2 (D:Orc):=Lp2 (round76_2 D)
def L76 (D:Orc):Lor:=Lsel [(2,loop76_2 D)]
def F76 (D:Orc) (a0:Value) (h:H) (k:Kv) (kp:Kp):Prop :=
strW a0 (fun s0=>loop76_2 D [(.string s0),(.int .i64 0)] h (fun x7 b2 h6=>xs x7 (intK .i64 (nth b2 0) (fun b4=>k (.int .i64 b4) h6)) (fun i9=>cond (Nat.beq i9 0) (
intK .i64 (nth b2 0) (fun b6=>k (.int .i64 b6) h6)) (False)) (fun c=>kp c h6)))
def Cl76 (D:Orc):Prop:=∀ a0 h k kp,F76 D a0 h k kp→D 76 [a0] h k kp
theorem cl76:Cl76 (CS Tryz.prog):=fun _ _ _ _ hk=>fnL wide lv76 L76 (fn:=Tryz.f76) (by kernel_rfl) (by kernel_rfl) (by kernel_rfl) (l:=[nthC (qQh (qQs Tryz.f76)) 0]) (by kernel_rfl) ⟨fun _ _ _ hk I H=>hk I fun _ _ _ hr=>H _ _ (cast (by kernel_rfl) hr),trivial⟩ (cast (by kernel_rfl) hk)
def lv77:=lvM 51 [.str,.int .i64] [(5,[kS 0,kI 1,kI 6,kI 7])] [(5,[(0,[kI 1,kI 6])])] [kI 4,kB 5] [(2,[kS 0,kI 1,kB 32])]
def round77_5 (D:Orc) (I:List Value→H→Prop) (K:Kl) (a0 a1 a2 a3:Value) (b0:H):Prop :=
strW a0 (fun b1=>intK .i64 a1 (fun b2=>intK .i64 a2 (fun b3=>intK .i64 a3 (fun b4=>cond (decide (b4<(b1.size:Int))) (
qXt b1 b4 (fun b5=>I [(.string b1),(.int .i64 b2),(.int .i64 (IntKind.i64.wrap ((IntKind.i64.wrap (10*b3))+(IntKind.i64.wrap (IntKind.u8.wrap (b5 - 48)))))),(.int .i64 (IntKind.i64.wrap (b4+1)))] b0)) (
K (X.e 0) [(.int .i64 b2),(.int .i64 b3)] b0)))))
def loop77_5 (D:Orc):=Lp4 (round77_5 D)
def j77__2 (D:Orc) (k:Kv) (kp:Kp) (a0 a1 a2:Value) (h6:H):Prop :=
strW a0 (fun s7=>intK .i64 a1 (fun x8=>qQl a2 (fun t9=>cond t9 (
k (.tuple #[(.int .i64 0),(.bool false)]) h6) (
loop77_5 D [(.string s7),(.int .i64 x8),(.int .i64 0),(.int .i64 0)] h6 (fun b4 b5 b6=>xs b4 (intK .i64 (nth b5 0) (fun b7=>qQl (nth b5 1) (fun b8=>k (.tuple #[(.int .i64 b7),(.bool b8)]) b6))) (fun b9=>cond (Nat.beq b9 0) (
intK .i64 (nth b5 0) (fun ba=>intK .i64 (nth b5 1) (fun bb=>k (.tuple #[(.int .i64 bb),(.bool (decide (bb≤ba)))]) b6))) (False)) (fun c=>kp c b6))))))
def L77 (D:Orc):Lor:=Lsel [(5,loop77_5 D)]
def F77 (D:Orc) (a0 a1:Value) (h:H) (k:Kv) (kp:Kp):Prop :=
strW a0 (fun s0=>intK .i64 a1 (fun x1=>cond (!((s0.size:Int)==0)) (
D 76 [(.string s0)] h (fun v2 h3=>∃ x4:Int,v2=(.int .i64 x4)∧cond (!(x4 != (s0.size:Int))) (
cond (decide ((s0.size:Int)>1)) (
qXt s0 0 (fun x5=>cond (!(x5==48)) (
j77__2 D k kp (.string s0) (.int .i64 x1) (.bool (decide ((s0.size:Int)>18))) h3) (
j77__2 D k kp (.string s0) (.int .i64 x1) (.bool true) h3))) (
j77__2 D k kp (.string s0) (.int .i64 x1) (.bool (decide ((s0.size:Int)>18))) h3)) (
j77__2 D k kp (.string s0) (.int .i64 x1) (.bool true) h3)) kp) (
j77__2 D k kp (.string s0) (.int .i64 x1) (.bool true) h)))
def Cl77 (D:Orc):Prop:=∀ a0 a1 h k kp,F77 D a0 a1 h k kp→D 77 [a0,a1] h k kp
theorem cl77:Cl77 (CS Tryz.prog):=fun _ _ _ _ _ hk=>fnL wide lv77 L77 (fn:=Tryz.f77) (by kernel_rfl) (by kernel_rfl) (by kernel_rfl) (l:=[nthC (qQh (qQs Tryz.f77)) 0]) (by kernel_rfl) ⟨fun _ _ _ hk I H=>hk I fun _ _ _ _ _ hr=>H _ _ (cast (by kernel_rfl) hr),trivial⟩ (cast (by kernel_rfl) hk)
def lv78:=lvM 76 [.str] [(3,[kS 0,kI 3,kR 11])] [(3,[(0,[kS 0,kI 3])])] [kI 2] [(6,[kS 0,kI 3,kI 4,(5,.int .i32),kB 6,kR 11]),(7,[kS 0,kI 3,kI 4,kB 6,kB 7,kR 11]),(8,[kS 0,kI 3,kI 4,kR 11,kB 57]),(11,[kI 3]),(10,[kI 3,kB 72])]
def j78_3_8 (D:Orc) (I:List Value→H→Prop) (K:Kl) (a0 a1 a2 a3 a4:Value) (b0:H):Prop :=
strW a0 (fun b1=>intK .i64 a1 (fun b2=>intK .i64 a2 (fun b3=>qQl a4 (fun b4=>cond b4 (
K (X.e 0) [(.string b1),(.int .i64 b3)] b0) (
I [(.string b1),(.int .i64 b2),a3] b0)))))
def j78_3_7 (D:Orc) (I:List Value→H→Prop) (K:Kl) (a0 a1 a2 a3 a4 a5:Value) (b0:H):Prop :=
strW a0 (fun b1=>intK .i64 a1 (fun b2=>intK .i64 a2 (fun b3=>qQl a3 (fun b4=>qQl a4 (fun b5=>cond (!b4) (
j78_3_8 D I K (.string b1) (.int .i64 b2) (.int .i64 b3) a5 (.bool (!b5)) b0) (
j78_3_8 D I K (.string b1) (.int .i64 b2) (.int .i64 b3) a5 (.bool false) b0))))))
def j78_3_6 (D:Orc) (I:List Value→H→Prop) (K:Kl) (a0 a1 a2 a3 a4 a5:Value) (b0:H):Prop :=
strW a0 (fun b1=>intK .i64 a1 (fun b2=>intK .i64 a2 (fun b3=>intK .i32 a3 (fun b4=>qQl a4 (fun b5=>cond (decide (b3>0)) (
cond (decide (b4≥48)) (
cond (!(decide (b4≤(57:Int)))) (
cond (!(b4==95)) (
j78_3_7 D I K (.string b1) (.int .i64 b2) (.int .i64 b3) (.bool b5) (.bool (b4==39)) a5 b0) (
j78_3_7 D I K (.string b1) (.int .i64 b2) (.int .i64 b3) (.bool b5) (.bool true) a5 b0)) (
j78_3_7 D I K (.string b1) (.int .i64 b2) (.int .i64 b3) (.bool b5) (.bool true) a5 b0)) (
cond (!(b4==95)) (
j78_3_7 D I K (.string b1) (.int .i64 b2) (.int .i64 b3) (.bool b5) (.bool (b4==39)) a5 b0) (
j78_3_7 D I K (.string b1) (.int .i64 b2) (.int .i64 b3) (.bool b5) (.bool true) a5 b0))) (
j78_3_7 D I K (.string b1) (.int .i64 b2) (.int .i64 b3) (.bool b5) (.bool false) a5 b0))))))
def round78_3 (D:Orc) (I:List Value→H→Prop) (K:Kl) (a0 a1 a2:Value) (h3:H):Prop :=
strW a0 (fun s4=>intK .i64 a1 (fun x5=>ptrW a2 (fun b3=>qRs h3 b3 (fun v7 h8=>qXu v7 0 (fun v9=>qQl v9 (fun b7=>cond b7 (
qXu v7 1 (fun b8=>qXu v7 2 (fun b9=>intK .i32 b9 (fun ba=>cond (decide (ba≥97)) (
intK .i32 b9 (fun bb=>cond (!(decide (bb≤(122:Int)))) (
intK .i32 b9 (fun bc=>cond (decide (bc≥65)) (
intK .i32 b9 (fun bd=>cond (!(decide (bd≤(90:Int)))) (
intK .i32 b9 (fun be=>j78_3_6 D I K (.string s4) (.int .i64 x5) b8 b9 (.bool (decide (be≥128))) a2 h8)) (
j78_3_6 D I K (.string s4) (.int .i64 x5) b8 b9 (.bool true) a2 h8))) (
intK .i32 b9 (fun bf=>j78_3_6 D I K (.string s4) (.int .i64 x5) b8 b9 (.bool (decide (bf≥128))) a2 h8)))) (
j78_3_6 D I K (.string s4) (.int .i64 x5) b8 b9 (.bool true) a2 h8))) (
intK .i32 b9 (fun bg=>cond (decide (bg≥65)) (
intK .i32 b9 (fun bh=>cond (!(decide (bh≤(90:Int)))) (
intK .i32 b9 (fun bi=>j78_3_6 D I K (.string s4) (.int .i64 x5) b8 b9 (.bool (decide (bi≥128))) a2 h8)) (
j78_3_6 D I K (.string s4) (.int .i64 x5) b8 b9 (.bool true) a2 h8))) (
intK .i32 b9 (fun bj=>j78_3_6 D I K (.string s4) (.int .i64 x5) b8 b9 (.bool (decide (bj≥128))) a2 h8)))))))) (
K (X.e 0) [(.string s4),(.int .i64 x5)] h8)))))))
def loop78_3 (D:Orc):=Lp3 (round78_3 D)
def j78__11 (D:Orc) (k:Kv) (kp:Kp) (a0:Value) (b0:H):Prop :=
intK .i64 a0 (fun b1=>k (.int .i64 b1) b0)
def j78__10 (D:Orc) (k:Kv) (kp:Kp) (a0 a1:Value) (b0:H):Prop :=
intK .i64 a0 (fun b1=>qQl a1 (fun b2=>cond b2 (
j78__11 D k kp (.int .i64 (IntKind.i64.wrap (b1+1))) b0) (
j78__11 D k kp (.int .i64 b1) b0)))
def L78 (D:Orc):Lor:=Lsel [(3,loop78_3 D)]
def F78 (D:Orc) (a0:Value) (h:H) (k:Kv) (kp:Kp):Prop :=
strW a0 (fun s0=>xQe h s0 (fun p1 h2=>loop78_3 D [(.string s0),(.int .i64 (s0.size:Int)),p1] h2 (fun b3 b4 b5=>xs b3 (intK .i64 (nth b4 0) (fun b6=>k (.int .i64 b6) b5)) (fun b7=>cond (Nat.beq b7 0) (
strW (nth b4 0) (fun b8=>intK .i64 (nth b4 1) (fun b9=>cond (decide (b9>0)) (
cond (decide (b9<(b8.size:Int))) (
qXt b8 b9 (fun ba=>j78__10 D k kp (.int .i64 b9) (.bool (ba==35)) b5)) (
j78__10 D k kp (.int .i64 b9) (.bool false) b5)) (
j78__10 D k kp (.int .i64 b9) (.bool false) b5)))) (False)) (fun c=>kp c b5))))
def Cl78 (D:Orc):Prop:=∀ a0 h k kp,F78 D a0 h k kp→D 78 [a0] h k kp
theorem cl78:Cl78 (CS Tryz.prog):=fun _ _ _ _ hk=>fnL wide lv78 L78 (fn:=Tryz.f78) (by kernel_rfl) (by kernel_rfl) (by kernel_rfl) (l:=[nthC (qQh (qQs Tryz.f78)) 0]) (by kernel_rfl) ⟨fun _ _ _ hk I H=>hk I fun _ _ _ _ hr=>H _ _ (cast (by kernel_rfl) hr),trivial⟩ (cast (by kernel_rfl) hk)
def lv79:=lvM 20 [.raw,.str] [(2,[kR 0,kS 1,kI 5])] [(2,[(0,[])])] [kI 4] []
def round79_2 (D:Orc) (I:List Value→H→Prop) (K:Kl) (a0 a1 a2:Value) (h1:H):Prop :=
strW a1 (fun s2=>intK .i64 a2 (fun x3=>lenW a0 (fun n4=>cond (decide (x3<(n4:Int))) (
qQj a0 x3 2 (fun b4=>∃ s6:ByteArray,rd h1 (Addr.add b4 0)=some (.string s6)∧cond (s6.toList==s2.toList) (
K X.r [(.int .i64 x3)] h1) (
I [a0,(.string s2),(.int .i64 (IntKind.i64.wrap (x3+1)))] h1))) (
K (X.e 0) [] h1))))
def loop79_2 (D:Orc):=Lp3 (round79_2 D)
def L79 (D:Orc):Lor:=Lsel [(2,loop79_2 D)]
def F79 (D:Orc) (a0 a1:Value) (h:H) (k:Kv) (kp:Kp):Prop :=
strW a1 (fun s0=>loop79_2 D [a0,(.string s0),(.int .i64 0)] h (fun x8 b2 h7=>xs x8 (intK .i64 (nth b2 0) (fun b4=>k (.int .i64 b4) h7)) (fun b5=>cond (Nat.beq b5 0) (
k (.int .i64 (-1)) h7) (False)) (fun c=>kp c h7)))
def Cl79 (D:Orc):Prop:=∀ a0 a1 h k kp,F79 D a0 a1 h k kp→D 79 [a0,a1] h k kp
theorem cl79:Cl79 (CS Tryz.prog):=fun _ _ _ _ _ hk=>fnL wide lv79 L79 (fn:=Tryz.f79) (by kernel_rfl) (by kernel_rfl) (by kernel_rfl) (l:=[nthC (qQh (qQs Tryz.f79)) 0]) (by kernel_rfl) ⟨fun _ _ _ hk I H=>hk I fun _ _ _ _ hr=>H _ _ (cast (by kernel_rfl) hr),trivial⟩ (cast (by kernel_rfl) hk)
def lv96:=lvM 29 [.str] [] [] [kS 2] [(8,[kS 3,kB 8]),(26,[kB 23])]
def j96__26 (D:Orc) (k:Kv) (kp:Kp) (a0:Value) (h4:H):Prop :=
qQl a0 (fun t5=>cond t5 (
k (.string (ByteArray.mk #[])) h4) (
k (.string (ByteArray.mk #[120])) h4))
def j96__8 (D:Orc) (k:Kv) (kp:Kp) (a0 a1:Value) (h1:H):Prop :=
strW a0 (fun s2=>qQl a1 (fun t3=>cond t3 (
k (.string (ByteArray.mk #[116,61,116])) h1) (
cond (s2.toList==(ByteArray.mk #[97,98,111,118,101]).toList) (
k (.string (ByteArray.mk #[110,110])) h1) (
cond (s2.toList==(ByteArray.mk #[110,111,100,101]).toList) (
k (.string (ByteArray.mk #[107,105])) h1) (
cond (s2.toList==(ByteArray.mk #[111,118,101,114]).toList) (
k (.string (ByteArray.mk #[109,109])) h1) (
cond (s2.toList==(ByteArray.mk #[115,101,116]).toList) (
k (.string (ByteArray.mk #[109])) h1) (
cond (s2.toList==(ByteArray.mk #[109,111,110,111]).toList) (
k (.string (ByteArray.mk #[99,42])) h1) (
cond (s2.toList==(ByteArray.mk #[110,111,114,109,97,108]).toList) (
k (.string (ByteArray.mk #[116])) h1) (
cond (s2.toList==(ByteArray.mk #[99,104,101,99,107]).toList) (
j96__26 D k kp (.bool (s2.toList==(ByteArray.mk #[99,104,101,99,107]).toList)) h1) (
cond (s2.toList==(ByteArray.mk #[99,114,105,116,105,99,97,108]).toList) (
j96__26 D k kp (.bool (s2.toList==(ByteArray.mk #[99,114,105,116,105,99,97,108]).toList)) h1) (
cond (s2.toList==(ByteArray.mk #[106,111,105,110]).toList) (
j96__26 D k kp (.bool (s2.toList==(ByteArray.mk #[106,111,105,110]).toList)) h1) (
cond (s2.toList==(ByteArray.mk #[112,97,105,114,115]).toList) (
j96__26 D k kp (.bool (s2.toList==(ByteArray.mk #[112,97,105,114,115]).toList)) h1) (
j96__26 D k kp (.bool (s2.toList==(ByteArray.mk #[99,111,109,112,108,101,116,101]).toList)) h1)))))))))))))
def F96 (D:Orc) (a0:Value) (h:H) (k:Kv) (kp:Kp):Prop :=
strW a0 (fun s0=>cond (s0.toList==(ByteArray.mk #[115,121,109]).toList) (
k (.string (ByteArray.mk #[110,105])) h) (
cond (s0.toList==(ByteArray.mk #[114,117,108,101]).toList) (
k (.string (ByteArray.mk #[116,62,116])) h) (
cond (s0.toList==(ByteArray.mk #[101,113]).toList) (
j96__8 D k kp (.string s0) (.bool (s0.toList==(ByteArray.mk #[101,113]).toList)) h) (
j96__8 D k kp (.string s0) (.bool (s0.toList==(ByteArray.mk #[101,113,117,97,108]).toList)) h))))
def Cl96 (D:Orc):Prop:=∀ a0 h k kp,F96 D a0 h k kp→D 96 [a0] h k kp
theorem cl96:Cl96 (CS Tryz.prog):=fun _ _ _ _ hk=>fn0 wide lv96 (fn:=Tryz.f96) (by kernel_rfl) (by kernel_rfl) (by kernel_rfl) (by kernel_rfl) (cast (by kernel_rfl) hk)
def lv97:=lvM 198 [.raw,.str,.int .u8,.str,.raw] [(20,[kS 1,kR 4,kR 13,kI 14])] [(20,[(1,[])])] [kI 10] [(44,[]),(5,[kS 1,kR 4,kI 11,kB 47]),(14,[kR 4,kI 12]),(11,[kS 1,kR 4,kR 5,kI 12,kB 88]),(40,[kS 1,kR 4,kI 19])]
def j97__44 (D:Orc) (k:Kv) (kp:Kp) (b0:H):Prop :=
k (.int .i64 0) b0
def j97__5 (D:Orc) (k:Kv) (kp:Kp) (a0 a1 a2 a3:Value) (b0:H):Prop :=
strW a0 (fun b1=>intK .i64 a2 (fun b2=>qQl a3 (fun b3=>cond b3 (
k (.int .i64 223) b0) (
qQe a1=true∧ptrW a1 (fun b4=>∃ b5:Value,rd b0 (Addr.add b4 0)=some b5∧one (.string b1)=true∧0<1∧qQy b0 1 [(.string b1)] (fun b6 b7=>qXg b6 (fun b8=>srcW b7 1 b6 (b8) (fun b9=>apW b7 1 16 [(.string (ByteArray.mk #[]))] b5 (b8) b9 (fun ba bb=>qQe a1=true∧ptrW a1 (fun bc=>one ba=true∧1=1∧∃ bd,wr1 bb (Addr.add bc 0) ba=some bd∧qQe a1=true∧ptrW a1 (fun be=>∃ bf:Value,rd bd (Addr.add be 1)=some bf∧one (.int .i64 b2)=true∧0<1∧qQy bd 1 [(.int .i64 b2)] (fun bg bh=>qXg bg (fun bi=>srcW bh 1 bg (bi) (fun bj=>apW bh 1 8 [(.int .i64 0)] bf (bi) bj (fun bk bl=>qQe a1=true∧ptrW a1 (fun bm=>one bk=true∧1=1∧∃ bn,wr1 bl (Addr.add bm 1) bk=some bn∧j97__44 D k kp  bn))))))))))))))))
def j97__14 (D:Orc) (k:Kv) (kp:Kp) (a0 a1:Value) (b0:H):Prop :=
intK .i64 a1 (fun b1=>cond (decide (b1<(0:Int))) (
k (.int .i64 223) b0) (
qQe a0=true∧ptrW a0 (fun b2=>∃ b3:Value,rd b0 (Addr.add b2 1)=some b3∧one (.int .i64 b1)=true∧0<1∧qQy b0 1 [(.int .i64 b1)] (fun b4 b5=>qXg b4 (fun b6=>srcW b5 1 b4 (b6) (fun b7=>apW b5 1 8 [(.int .i64 0)] b3 (b6) b7 (fun b8 b9=>qQe a0=true∧ptrW a0 (fun ba=>one b8=true∧1=1∧∃ bb,wr1 b9 (Addr.add ba 1) b8=some bb∧j97__44 D k kp  bb))))))))
def j97__11 (D:Orc) (k:Kv) (kp:Kp) (a0 a1 a2 a3 a4:Value) (b0:H):Prop :=
strW a0 (fun b1=>intK .i64 a3 (fun b2=>qQl a4 (fun b3=>cond b3 (
ptrW a2 (fun b4=>∃ b5:Value,rd b0 (Addr.add b4 0)=some b5∧qXe b1 none (some (IntKind.i64.wrap ((b1.size:Int) - 1))) (fun b6=>D 79 [b5,(.string b6)] b0 (fun b7 b8=>∃ b9:Int,b7=(.int .i64 b9)∧cond (decide (b9≥0)) (
ptrW a2 (fun ba=>∃ bb:Value,rd b8 (Addr.add ba 0)=some bb∧lenW bb (fun bc=>j97__14 D k kp a1 (.int .i64 (IntKind.i64.wrap (b9+(bc:Int)))) b8))) (
j97__14 D k kp a1 (.int .i64 b9) b8)) kp))) (
j97__14 D k kp a1 (.int .i64 b2) b0))))
def round97_20 (D:Orc) (I:List Value→H→Prop) (K:Kl) (a0 a1 a2 a3:Value) (b0:H):Prop :=
strW a0 (fun b1=>intK .i64 a3 (fun b2=>lenW a2 (fun b3=>cond (decide (b2<(b3:Int))) (
qQj a2 b2 1 (fun b4=>∃ b5:ByteArray,rd b0 b4=some (.string b5)∧cond (b5.toList==b1.toList) (
qQe a1=true∧ptrW a1 (fun b6=>∃ b7:Value,rd b0 (Addr.add b6 1)=some b7∧one (.int .i64 b2)=true∧0<1∧qQy b0 1 [(.int .i64 b2)] (fun b8 b9=>qXg b8 (fun ba=>srcW b9 1 b8 (ba) (fun bb=>apW b9 1 8 [(.int .i64 0)] b7 (ba) bb (fun bc bd=>qQe a1=true∧ptrW a1 (fun be=>one bc=true∧1=1∧∃ bf,wr1 bd (Addr.add be 1) bc=some bf∧K X.r [(.int .i64 0)] bf))))))) (
I [(.string b1),a1,a2,(.int .i64 (IntKind.i64.wrap (b2+1)))] b0))) (
K (X.e 1) [] b0))))
def loop97_20 (D:Orc):=Lp4 (round97_20 D)
def j97__40 (D:Orc) (k:Kv) (kp:Kp) (a0 a1 a2:Value) (b0:H):Prop :=
strW a0 (fun b1=>intK .i64 a2 (fun b2=>D 77 [(.string b1),(.int .i64 b2)] b0 (fun b3 b4=>∃ b5:Int,∃ b6:Bool,b3=(.tuple #[(.int .i64 b5),(.bool b6)])∧cond (!b6) (
k (.int .i64 225) b4) (
qQe a1=true∧ptrW a1 (fun b7=>∃ b8:Value,rd b4 (Addr.add b7 3)=some b8∧one (.int .i64 b5)=true∧0<1∧qQy b4 1 [(.int .i64 b5)] (fun b9 ba=>qXg b9 (fun bb=>srcW ba 1 b9 (bb) (fun bc=>apW ba 1 8 [(.int .i64 0)] b8 (bb) bc (fun bd be=>qQe a1=true∧ptrW a1 (fun bf=>one bd=true∧1=1∧∃ bg,wr1 be (Addr.add bf 3) bd=some bg∧j97__44 D k kp  bg)))))))) kp))
def L97 (D:Orc):Lor:=Lsel [(20,loop97_20 D)]
def F97 (D:Orc) (a0 a1 a2 a3 a4:Value) (h:H) (k:Kv) (kp:Kp):Prop :=
strW a1 (fun s0=>intK .u8 a2 (fun x1=>strW a3 (fun s2=>aggW a0 (fun l3=>newW h l3 (fun p4 h5=>cond (x1==110) (
ptrW p4 (fun b6=>∃ v7:Value,rd h5 (Addr.add b6 0)=some v7∧D 79 [v7,(.string s0)] h5 (fun v8 h9=>∃ ba:Int,v8=(.int .i64 ba)∧cond (s2.toList==(ByteArray.mk #[115,121,109]).toList) (
D 61 [(.string s0)] h9 (fun bb bc=>∃ bd:Bool,bb=(.bool bd)∧cond (!(!bd)) (
cond (!(decide (ba≥0))) (
cond (!(s2.toList==(ByteArray.mk #[115,121,109]).toList)) (
j97__5 D k kp (.string s0) a4 (.int .i64 ba) (.bool (decide (ba<(0:Int)))) bc) (
j97__5 D k kp (.string s0) a4 (.int .i64 ba) (.bool false) bc)) (
j97__5 D k kp (.string s0) a4 (.int .i64 ba) (.bool true) bc)) (
j97__5 D k kp (.string s0) a4 (.int .i64 ba) (.bool true) bc)) kp) (
cond (!(s2.toList==(ByteArray.mk #[115,121,109]).toList)) (
j97__5 D k kp (.string s0) a4 (.int .i64 ba) (.bool (decide (ba<(0:Int)))) h9) (
j97__5 D k kp (.string s0) a4 (.int .i64 ba) (.bool false) h9))) kp)) (
cond (x1==109) (
ptrW p4 (fun be=>∃ bf:Value,rd h5 (Addr.add be 0)=some bf∧D 79 [bf,(.string s0)] h5 (fun bg bh=>∃ bi:Int,bg=(.int .i64 bi)∧cond (decide (bi<(0:Int))) (
cond (decide ((s0.size:Int)>0)) (
qXt s0 (IntKind.i64.wrap ((s0.size:Int) - 1)) (fun bj=>j97__11 D k kp (.string s0) a4 p4 (.int .i64 bi) (.bool (bj==35)) bh)) (
j97__11 D k kp (.string s0) a4 p4 (.int .i64 bi) (.bool false) bh)) (
j97__11 D k kp (.string s0) a4 p4 (.int .i64 bi) (.bool false) bh)) kp)) (
cond (x1==107) (
D 107 [] h5 (fun bk bl=>∃ bm:Value,bk=bm∧loop97_20 D [(.string s0),a4,bm,(.int .i64 1)] bl (fun bn bo bp=>xs bn (intK .i64 (nth bo 0) (fun bq=>k (.int .i64 bq) bp)) (fun br=>cond (Nat.beq br 1) (
k (.int .i64 223) bp) (False)) (fun c=>kp c bp))) kp) (
cond (x1==116) (
ptrW p4 (fun bs=>∃ bt:Value,rd h5 (Addr.add bs 0)=some bt∧D 13 [bt,(.string s0)] h5 (fun bu bv=>∃ bw:Value,∃ bx:Int,bu=(.tuple #[bw,(.int .i64 bx)])∧cond (bx != 0) (
k (.int .i64 bx) bv) (
qQe a4=true∧ptrW a4 (fun bz=>∃ c0:Value,rd bv (Addr.add bz 2)=some c0∧one bw=true∧0<1∧qQy bv 1 [bw] (fun c1 c2=>qXg c1 (fun c3=>srcW c2 1 c1 (c3) (fun c4=>apW c2 1 24 [(.slice none 0 0)] c0 (c3) c4 (fun c5 c6=>qQe a4=true∧ptrW a4 (fun c7=>one c5=true∧1=1∧∃ c8,wr1 c6 (Addr.add c7 2) c5=some c8∧j97__44 D k kp  c8)))))))) kp)) (
cond (x1==99) (
D 128 [(.string s0)] h5 (fun c9 ca=>∃ cb:Value,∃ cc:Int,c9=(.tuple #[cb,(.int .i64 cc)])∧cond (cc != 0) (
k (.int .i64 225) ca) (
qQe a4=true∧ptrW a4 (fun cd=>one cb=true∧1=1∧∃ ce,wr1 ca (Addr.add cd 4) cb=some ce∧j97__44 D k kp  ce))) kp) (
cond (x1==105) (
cond (s2.toList==(ByteArray.mk #[115,121,109]).toList) (
j97__40 D k kp (.string s0) a4 (.int .i64 8) h5) (
j97__40 D k kp (.string s0) a4 (.int .i64 2147483647) h5)) (
j97__44 D k kp  h5)))))))))))
def Cl97 (D:Orc):Prop:=∀ a0 a1 a2 a3 a4 h k kp,F97 D a0 a1 a2 a3 a4 h k kp→D 97 [a0,a1,a2,a3,a4] h k kp
theorem cl97:Cl97 (CS Tryz.prog):=fun _ _ _ _ _ _ _ _ hk=>fnL wide lv97 L97 (fn:=Tryz.f97) (by kernel_rfl) (by kernel_rfl) (by kernel_rfl) (l:=[nthC (qQh (qQs Tryz.f97)) 0]) (by kernel_rfl) ⟨fun _ _ _ hk I H=>hk I fun _ _ _ _ _ hr=>H _ _ (cast (by kernel_rfl) hr),trivial⟩ (cast (by kernel_rfl) hk)
def lv103:=lvM 18 [.str] [(3,[kS 0,kS 3,kR 7])] [(3,[(0,[kS 0,kS 3])])] [kB 2] []
def round103_3 (D:Orc) (I:List Value→H→Prop) (K:Kl) (a0 a1 a2:Value) (h3:H):Prop :=
strW a0 (fun s4=>strW a1 (fun s5=>ptrW a2 (fun b3=>qRs h3 b3 (fun v7 h8=>qXu v7 0 (fun v9=>qQl v9 (fun b7=>cond b7 (
qXu v7 2 (fun b8=>intW b8 (fun _ b9=>s5.size+(Utf8.encode b9).size≤9223372036854775807∧I [(.string s4),(.string (s5++(Utf8.encode b9))),a2] h8))) (
K (X.e 0) [(.string s4),(.string s5)] h8)))))))
def loop103_3 (D:Orc):=Lp3 (round103_3 D)
def L103 (D:Orc):Lor:=Lsel [(3,loop103_3 D)]
def F103 (D:Orc) (a0:Value) (h:H) (k:Kv) (kp:Kp):Prop :=
strW a0 (fun s0=>xQe h s0 (fun p1 h2=>loop103_3 D [(.string s0),(.string (ByteArray.mk #[])),p1] h2 (fun b3 b4 b5=>xs b3 (qQl (nth b4 0) (fun b6=>k (.bool b6) b5)) (fun b7=>cond (Nat.beq b7 0) (
strW (nth b4 0) (fun b8=>strW (nth b4 1) (fun b9=>k (.bool (b9.toList==b8.toList)) b5))) (False)) (fun c=>kp c b5))))
def Cl103 (D:Orc):Prop:=∀ a0 h k kp,F103 D a0 h k kp→D 103 [a0] h k kp
theorem cl103:Cl103 (CS Tryz.prog):=fun _ _ _ _ hk=>fnL wide lv103 L103 (fn:=Tryz.f103) (by kernel_rfl) (by kernel_rfl) (by kernel_rfl) (l:=[nthC (qQh (qQs Tryz.f103)) 0]) (by kernel_rfl) ⟨fun _ _ _ hk I H=>hk I fun _ _ _ _ hr=>H _ _ (cast (by kernel_rfl) hr),trivial⟩ (cast (by kernel_rfl) hk)
def lv104:=lvM 21 [.int .i32] [] [] [kB 2] []
def F104 (D:Orc) (a0:Value) (h:H) (k:Kv) (kp:Kp):Prop :=
intK .i32 a0 (fun x0=>cond (decide (x0≥97)) (
cond (!(decide (x0≤(122:Int)))) (
cond (decide (x0≥65)) (
cond (!(decide (x0≤(90:Int)))) (
k (.bool (decide (x0≥128))) h) (
k (.bool true) h)) (
k (.bool (decide (x0≥128))) h)) (
k (.bool true) h)) (
cond (decide (x0≥65)) (
cond (!(decide (x0≤(90:Int)))) (
k (.bool (decide (x0≥128))) h) (
k (.bool true) h)) (
k (.bool (decide (x0≥128))) h)))
def Cl104 (D:Orc):Prop:=∀ a0 h k kp,F104 D a0 h k kp→D 104 [a0] h k kp
theorem cl104:Cl104 (CS Tryz.prog):=fun _ _ _ _ hk=>fn0 wide lv104 (fn:=Tryz.f104) (by kernel_rfl) (by kernel_rfl) (by kernel_rfl) (by kernel_rfl) (cast (by kernel_rfl) hk)
def lv105:=lvM 21 [.int .i32] [] [] [kB 2] []
def F105 (D:Orc) (a0:Value) (h:H) (k:Kv) (kp:Kp):Prop :=
intK .i32 a0 (fun x0=>D 104 [(.int .i32 x0)] h (fun v1 h2=>∃ t3:Bool,v1=(.bool t3)∧cond (!t3) (
cond (decide (x0≥48)) (
cond (!(decide (x0≤(57:Int)))) (
cond (!(x0==95)) (
k (.bool (x0==39)) h2) (
k (.bool true) h2)) (
k (.bool true) h2)) (
cond (!(x0==95)) (
k (.bool (x0==39)) h2) (
k (.bool true) h2))) (
k (.bool true) h2)) kp)
def Cl105 (D:Orc):Prop:=∀ a0 h k kp,F105 D a0 h k kp→D 105 [a0] h k kp
theorem cl105:Cl105 (CS Tryz.prog):=fun _ _ _ _ hk=>fn0 wide lv105 (fn:=Tryz.f105) (by kernel_rfl) (by kernel_rfl) (by kernel_rfl) (by kernel_rfl) (cast (by kernel_rfl) hk)
def lv107:=lvM 2 [] [] [] [kR 0] []
def F107 (D:Orc) (h:H) (k:Kv) (kp:Kp):Prop :=
one (.string (ByteArray.mk #[]))=true∧0<6∧one (.string (ByteArray.mk #[108,112,111]))=true∧1<6∧one (.string (ByteArray.mk #[112,111,108,121]))=true∧2<6∧one (.string (ByteArray.mk #[112,97,105,114,115]))=true∧3<6∧one (.string (ByteArray.mk #[100,114,111,112,108,112,111]))=true∧4<6∧one (.string (ByteArray.mk #[100,114,111,112,112,111,108,121]))=true∧5<6∧qQy h 6 [(.string (ByteArray.mk #[])),(.string (ByteArray.mk #[108,112,111])),(.string (ByteArray.mk #[112,111,108,121])),(.string (ByteArray.mk #[112,97,105,114,115])),(.string (ByteArray.mk #[100,114,111,112,108,112,111])),(.string (ByteArray.mk #[100,114,111,112,112,111,108,121]))] (fun s0 h1=>k s0 h1)
def Cl107 (D:Orc):Prop:=∀  h k kp,F107 D  h k kp→D 107 [] h k kp
theorem cl107:Cl107 (CS Tryz.prog):=fun  _ _ _ hk=>fn0 wide lv107 (fn:=Tryz.f107) (by kernel_rfl) (by kernel_rfl) (by kernel_rfl) (by kernel_rfl) (cast (by kernel_rfl) hk)
def lv128:=lvM 82 [.str] [(4,[kS 0,kI 4]),(10,[kS 0,kR 5,kI 6]),(14,[kS 0,kR 5,kI 6,(7,.int .u64),kI 8])] [(4,[(0,[kS 0])]),(10,[(2,[kR 5])]),(14,[(4,[kS 0,kR 5,kI 6,(7,.int .u64)])])] [kR 2,kI 3] [(2,[kS 0,kB 21]),(7,[kS 0,kI 4,kB 37]),(21,[kS 0,kR 5,kI 6])]
def j128_4_7 (D:Orc) (I:List Value→H→Prop) (K:Kl) (a0 a1 a2:Value) (b0:H):Prop :=
strW a0 (fun b1=>intK .i64 a1 (fun b2=>qQl a2 (fun b3=>cond b3 (
K X.r [(.slice none 0 0),(.int .i64 11)] b0) (
I [(.string b1),(.int .i64 (IntKind.i64.wrap (b2+1)))] b0))))
def round128_4 (D:Orc) (I:List Value→H→Prop) (K:Kl) (a0 a1:Value) (h5:H):Prop :=
strW a0 (fun s6=>intK .i64 a1 (fun x7=>cond (decide (x7<(s6.size:Int))) (
qXt s6 x7 (fun x8=>cond (!(decide (x8<(48:Int)))) (
qXt s6 x7 (fun x9=>j128_4_7 D I K (.string s6) (.int .i64 x7) (.bool (decide (x9>57))) h5)) (
j128_4_7 D I K (.string s6) (.int .i64 x7) (.bool true) h5))) (
K (X.e 0) [(.string s6)] h5)))
def loop128_4 (D:Orc):=Lp2 (round128_4 D)
def round128_14 (D:Orc) (I:List Value→H→Prop) (K:Kl) (a0 a1 a2 a3 a4:Value) (b0:H):Prop :=
strW a0 (fun b1=>intK .i64 a2 (fun b2=>intK .u64 a3 (fun b3=>intK .i64 a4 (fun b4=>lenW a1 (fun b5=>cond (decide (b4<(b5:Int))) (
qQj a1 b4 1 (fun b6=>∃ b7:Int,rd b0 b6=some (.int .u32 b7)∧qQj a1 b4 1 (fun b8=>one (.int .u32 (IntKind.u32.wrap (IntKind.u64.wrap (b3+(IntKind.u64.wrap (10*(IntKind.wrap IntKind.u64 b7)))))))=true∧1=1∧∃ b9,wr1 b0 b8 (.int .u32 (IntKind.u32.wrap (IntKind.u64.wrap (b3+(IntKind.u64.wrap (10*(IntKind.wrap IntKind.u64 b7)))))))=some b9∧0≤(32:Int)∧I [(.string b1),a1,(.int .i64 b2),(.int .u64 (Int.fdiv (IntKind.u64.wrap (b3+(IntKind.u64.wrap (10*(IntKind.wrap IntKind.u64 b7))))) (2 ^ (min (Int.toNat 32) (IntKind.bits IntKind.u64))))),(.int .i64 (IntKind.i64.wrap (b4+1)))] b9))) (
K (X.e 4) [(.string b1),a1,(.int .i64 b2),(.int .u64 b3)] b0))))))
def loop128_14 (D:Orc):=Lp5 (round128_14 D)
def j128_10_21 (D:Orc) (I:List Value→H→Prop) (K:Kl) (a0 a1 a2:Value) (b0:H):Prop :=
strW a0 (fun b1=>intK .i64 a2 (fun b2=>lenW a1 (fun b3=>cond (decide ((b3:Int)>64)) (
K X.r [(.slice none 0 0),(.int .i64 2)] b0) (
I [(.string b1),a1,(.int .i64 (IntKind.i64.wrap (b2+1)))] b0))))
def round128_10 (D:Orc) (I:List Value→H→Prop) (K:Kl) (a0 a1 a2:Value) (b0:H):Prop :=
strW a0 (fun b1=>intK .i64 a2 (fun b2=>cond (decide (b2<(b1.size:Int))) (
qXt b1 b2 (fun b3=>loop128_14 D [(.string b1),a1,(.int .i64 b2),(.int .u64 (IntKind.u64.wrap (IntKind.u8.wrap (b3 - 48)))),(.int .i64 0)] b0 (fun b4 b5 b6=>xs b4 (intK .i64 (nth b5 1) (fun b7=>K X.r [(nth b5 0),(.int .i64 b7)] b6)) (fun b8=>cond (Nat.beq b8 4) (
strW (nth b5 0) (fun b9=>intK .i64 (nth b5 2) (fun ba=>intK .u64 (nth b5 3) (fun bb=>cond (decide (bb>0)) (
one (.int .u32 (IntKind.wrap IntKind.u32 bb))=true∧0<1∧qQy b6 1 [(.int .u32 (IntKind.wrap IntKind.u32 bb))] (fun bc bd=>qXg bc (fun be=>srcW bd 1 bc (be) (fun bf=>apW bd 1 4 [(.int .u32 0)] (nth b5 1) (be) bf (fun bg bh=>j128_10_21 D I K (.string b9) bg (.int .i64 ba) bh))))) (
j128_10_21 D I K (.string b9) (nth b5 1) (.int .i64 ba) b6))))) (False)) (fun c=>(fun c h=>K (X.p c) [] h) c b6)))) (
K (X.e 2) [a1] b0)))
def loop128_10 (D:Orc):=Lp3 (round128_10 D)
def j128__2 (D:Orc) (k:Kv) (kp:Kp) (a0 a1:Value) (h2:H):Prop :=
strW a0 (fun s3=>qQl a1 (fun t4=>cond t4 (
k (.tuple #[(.slice none 0 0),(.int .i64 11)]) h2) (
loop128_4 D [(.string s3),(.int .i64 0)] h2 (fun b3 b4 b5=>xs b3 (intK .i64 (nth b4 1) (fun b6=>k (.tuple #[(nth b4 0),(.int .i64 b6)]) b5)) (fun b7=>cond (Nat.beq b7 0) (
strW (nth b4 0) (fun b8=>qQy b5 0 [] (fun b9 ba=>loop128_10 D [(.string b8),b9,(.int .i64 0)] ba (fun bb bc bd=>xs bb (intK .i64 (nth bc 1) (fun be=>k (.tuple #[(nth bc 0),(.int .i64 be)]) bd)) (fun bf=>cond (Nat.beq bf 2) (
k (.tuple #[(nth bc 0),(.int .i64 0)]) bd) (False)) (fun c=>kp c bd))))) (False)) (fun c=>kp c b5)))))
def L128 (D:Orc):Lor:=Lsel [(4,loop128_4 D),(10,loop128_10 D),(14,loop128_14 D)]
def F128 (D:Orc) (a0:Value) (h:H) (k:Kv) (kp:Kp):Prop :=
strW a0 (fun s0=>cond (!((s0.size:Int)==0)) (
cond (decide ((s0.size:Int)>1)) (
qXt s0 0 (fun x1=>j128__2 D k kp (.string s0) (.bool (x1==48)) h)) (
j128__2 D k kp (.string s0) (.bool false) h)) (
j128__2 D k kp (.string s0) (.bool true) h))
def Cl128 (D:Orc):Prop:=∀ a0 h k kp,F128 D a0 h k kp→D 128 [a0] h k kp
theorem cl128:Cl128 (CS Tryz.prog):=fun _ _ _ _ hk=>fnL wide lv128 L128 (fn:=Tryz.f128) (by kernel_rfl) (by kernel_rfl) (by kernel_rfl) (l:=[nthC (qQh (qQs Tryz.f128)) 0,nthC (qQh (qQs Tryz.f128)) 1,nthC (qQh (qQs Tryz.f128)) 2]) (by kernel_rfl) ⟨fun _ _ _ hk I H=>hk I fun _ _ _ hr=>H _ _ (cast (by kernel_rfl) hr),fun _ _ _ hk I H=>hk I fun _ _ _ _ hr=>H _ _ (cast (by kernel_rfl) hr),fun _ _ _ hk I H=>hk I fun _ _ _ _ _ _ hr=>H _ _ (cast (by kernel_rfl) hr),trivial⟩ (cast (by kernel_rfl) hk)
def lv133:=lvM 20 [.raw] [] [] [kB 2] []
def F133 (D:Orc) (a0:Value) (h:H) (k:Kv) (kp:Kp):Prop :=
lenW a0 (fun n0=>cond (decide ((n0:Int)≤(64:Int))) (
lenW a0 (fun n1=>cond (!((n1:Int)==0)) (
lenW a0 (fun n2=>qQj a0 (IntKind.i64.wrap ((n2:Int) - 1)) 1 (fun b3=>∃ x4:Int,rd h b3=some (.int .u32 x4)∧k (.bool (x4 != 0)) h))) (
k (.bool true) h))) (
k (.bool false) h))
def Cl133 (D:Orc):Prop:=∀ a0 h k kp,F133 D a0 h k kp→D 133 [a0] h k kp
theorem cl133:Cl133 (CS Tryz.prog):=fun _ _ _ _ hk=>fn0 wide lv133 (fn:=Tryz.f133) (by kernel_rfl) (by kernel_rfl) (by kernel_rfl) (by kernel_rfl) (cast (by kernel_rfl) hk)
end Go.Proofs.YtkdneddcocggdaaGreatDoor.Am
