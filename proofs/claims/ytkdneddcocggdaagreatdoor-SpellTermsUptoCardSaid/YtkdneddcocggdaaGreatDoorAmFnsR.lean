/-
  Packed:  The functions.
-/
import Derived.Test.YtkdneddcocggdaaGreatDoorAmFnsP
set_option linter.unusedVariables false
set_option linter.unusedSimpArgs false
set_option linter.unnecessarySimpa false
namespace Go.Proofs.YtkdneddcocggdaaGreatDoor.Am
open Go Go.Proofs
set_option maxRecDepth 100000
set_option linter.unusedVariables false
def lv13:=lvM 37 [.raw,.str] [] [] [kR 4,kI 5] [(11,[kI 6,kR 7]),(10,[kI 6,kR 7,kB 32])]
def j13__11 (D:Orc) (k:Kv) (kp:Kp) (a0 a1:Value) (b0:H):Prop :=
intK .i64 a0 (fun b1=>cond (b1 != 0) (
k (.tuple #[(.slice none 0 0),(.int .i64 b1)]) b0) (
k (.tuple #[a1,(.int .i64 0)]) b0))
def j13__10 (D:Orc) (k:Kv) (kp:Kp) (a0 a1 a2:Value) (b0:H):Prop :=
intK .i64 a0 (fun b1=>boolW a2 (fun b2=>cond b2 (
j13__11 D k kp (.int .i64 224) a1 b0) (
j13__11 D k kp (.int .i64 b1) a1 b0)))
def F13 (D:Orc) (a0 a1:Value) (h:H) (k:Kv) (kp:Kp):Prop :=
strW a1 (fun s0=>D 31 [a0] h (fun v1 h2=>∃ x3:Int,v1=(.int .i64 x3)∧cond (x3 != 0) (
k (.tuple #[(.slice none 0 0),(.int .i64 x3)]) h2) (
cond (decide ((s0.size:Int)>65536)) (
k (.tuple #[(.slice none 0 0),(.int .i64 220)]) h2) (
D 32 [(.string s0)] h2 (fun v4 h5=>∃ t6:Bool,v4=(.bool t6)∧cond (!t6) (
k (.tuple #[(.slice none 0 0),(.int .i64 221)]) h5) (
D 33 [a0,(.string s0)] h5 (fun v7 h8=>∃ v9:Value,∃ ba:ByteArray,∃ bb:Int,v7=(.tuple #[v9,(.string ba),(.int .i64 bb)])∧cond (bb==0) (
j13__10 D k kp (.int .i64 bb) v9 (.bool (!(ba.toList==(ByteArray.mk #[]).toList))) h8) (
j13__10 D k kp (.int .i64 bb) v9 (.bool false) h8)) kp)) kp))) kp)
def Cl13 (D:Orc):Prop:=∀ a0 a1 h k kp,F13 D a0 a1 h k kp→D 13 [a0,a1] h k kp
theorem cl13:Cl13 (CS Tryz.prog):=fun _ _ _ _ _ hk=>fn0 wide lv13 (fn:=Tryz.f13) (by kernel_rfl) (by kernel_rfl) (by kernel_rfl) (by kernel_rfl) (cast (by kernel_rfl) hk)
def lv16:=lvM 27 [.raw,.raw] [] [] [kS 4,kI 5] []
def F16 (D:Orc) (a0 a1:Value) (h:H) (k:Kv) (kp:Kp):Prop :=
D 22 [a0,a1] h (fun v0 h1=>∃ x2:Int,v0=(.int .i64 x2)∧cond (x2 != 0) (
k (.tuple #[(.string (ByteArray.mk #[])),(.int .i64 x2)]) h1) (
newSl h1 0 [] (fun s3 h4=>D 38 [a0,a1,s3] h4 (fun v5 h6=>∃ v7 v8:Value,v5=(.tuple #[v7,v8])∧lenW v7 (fun n9=>cond (decide ((n9:Int)>65536)) (
k (.tuple #[(.string (ByteArray.mk #[])),(.int .i64 220)]) h6) (
bsW h6 v7 (fun ba=>k (.tuple #[(.string ba),(.int .i64 0)]) h6)))) kp))) kp
def Cl16 (D:Orc):Prop:=∀ a0 a1 h k kp,F16 D a0 a1 h k kp→D 16 [a0,a1] h k kp
theorem cl16:Cl16 (CS Tryz.prog):=fun _ _ _ _ _ hk=>fn0 wide lv16 (fn:=Tryz.f16) (by kernel_rfl) (by kernel_rfl) (by kernel_rfl) (by kernel_rfl) (cast (by kernel_rfl) hk)
def lv22:=lvM 14 [.raw,.raw] [] [] [kI 4] []
def F22 (D:Orc) (a0 a1:Value) (h:H) (k:Kv) (kp:Kp):Prop :=
D 31 [a0] h (fun v0 h1=>∃ x2:Int,v0=(.int .i64 x2)∧cond (x2 != 0) (
k (.int .i64 x2) h1) (
D 69 [a0,a1] h1 (fun v3 h4=>∃ x5:Int,v3=(.int .i64 x5)∧k (.int .i64 x5) h4) kp)) kp
def Cl22 (D:Orc):Prop:=∀ a0 a1 h k kp,F22 D a0 a1 h k kp→D 22 [a0,a1] h k kp
theorem cl22:Cl22 (CS Tryz.prog):=fun _ _ _ _ _ hk=>fn0 wide lv22 (fn:=Tryz.f22) (by kernel_rfl) (by kernel_rfl) (by kernel_rfl) (by kernel_rfl) (cast (by kernel_rfl) hk)
def lv31:=lvM 60 [.raw] [(4,[kR 0,kI 3]),(11,[kR 0,kI 3,kI 4])] [(4,[(0,[])]),(11,[(2,[kR 0,kI 3])])] [kI 2] [(7,[kR 0,kI 3,kB 29]),(9,[kR 0,kI 3,kB 43])]
def round31_11 (D:Orc) (I:List Value→H→Prop) (K:Kl) (a0 a1 a2:Value) (b0:H):Prop :=
intK .i64 a1 (fun b1=>intK .i64 a2 (fun b2=>cond (decide (b2<b1)) (
slAtW a0 b2 2 (fun b3=>∃ b4:ByteArray,rd b0 (Addr.add b3 0)=some (.string b4)∧slAtW a0 b1 2 (fun b5=>∃ b6:ByteArray,rd b0 (Addr.add b5 0)=some (.string b6)∧cond (b4.toList==b6.toList) (
K X.r [(.int .i64 36)] b0) (
I [a0,(.int .i64 b1),(.int .i64 (IntKind.i64.wrap (b2+1)))] b0)))) (
K (X.e 2) [a0,(.int .i64 b1)] b0)))
def loop31_11 (D:Orc):=Lp3 (round31_11 D)
def j31_4_9 (D:Orc) (I:List Value→H→Prop) (K:Kl) (a0 a1 a2:Value) (b0:H):Prop :=
intK .i64 a1 (fun b1=>boolW a2 (fun b2=>cond b2 (
K X.r [(.int .i64 35)] b0) (
loop31_11 D [a0,(.int .i64 b1),(.int .i64 0)] b0 (fun b3 b4 b5=>xs b3 (intK .i64 (nth b4 0) (fun b6=>K X.r [(.int .i64 b6)] b5)) (fun b7=>cond (Nat.beq b7 2) (
intK .i64 (nth b4 1) (fun b8=>I [(nth b4 0),(.int .i64 (IntKind.i64.wrap (b8+1)))] b5)) (False)) (fun c=>(fun c h=>K (X.p c) [] h) c b5)))))
def j31_4_7 (D:Orc) (I:List Value→H→Prop) (K:Kl) (a0 a1 a2:Value) (b0:H):Prop :=
intK .i64 a1 (fun b1=>boolW a2 (fun b2=>cond b2 (
K X.r [(.int .i64 34)] b0) (
slAtW a0 b1 2 (fun b3=>∃ b4:Int,rd b0 (Addr.add b3 1)=some (.int .i64 b4)∧cond (!(decide (b4<(0:Int)))) (
slAtW a0 b1 2 (fun b5=>∃ b6:Int,rd b0 (Addr.add b5 1)=some (.int .i64 b6)∧j31_4_9 D I K a0 (.int .i64 b1) (.bool (decide (b6>8))) b0)) (
j31_4_9 D I K a0 (.int .i64 b1) (.bool true) b0)))))
def round31_4 (D:Orc) (I:List Value→H→Prop) (K:Kl) (a0 a1:Value) (h1:H):Prop :=
intK .i64 a1 (fun x2=>lenW a0 (fun n3=>cond (decide (x2<(n3:Int))) (
slAtW a0 x2 2 (fun b3=>∃ s5:ByteArray,rd h1 (Addr.add b3 0)=some (.string s5)∧D 61 [(.string s5)] h1 (fun v6 h7=>∃ t8:Bool,v6=(.bool t8)∧cond (!t8) (
slAtW a0 x2 2 (fun b8=>∃ b9:ByteArray,rd h7 (Addr.add b8 0)=some (.string b9)∧D 75 [(.string b9)] h7 (fun ba bb=>∃ bc:Bool,ba=(.bool bc)∧j31_4_7 D I K a0 (.int .i64 x2) (.bool (!bc)) bb) (fun c h=>K (X.p c) [] h))) (
j31_4_7 D I K a0 (.int .i64 x2) (.bool false) h7)) (fun c h=>K (X.p c) [] h))) (
K (X.e 0) [] h1)))
def loop31_4 (D:Orc):=Lp2 (round31_4 D)
def L31 (D:Orc):Lor:=Lsel [(4,loop31_4 D),(11,loop31_11 D)]
def F31 (D:Orc) (a0:Value) (h:H) (k:Kv) (kp:Kp):Prop :=
lenW a0 (fun n0=>cond (decide ((n0:Int)>128)) (
k (.int .i64 37) h) (
loop31_4 D [a0,(.int .i64 0)] h (fun b1 b2 b3=>xs b1 (intK .i64 (nth b2 0) (fun b4=>k (.int .i64 b4) b3)) (fun b5=>cond (Nat.beq b5 0) (
k (.int .i64 0) b3) (False)) (fun c=>kp c b3))))
def Cl31 (D:Orc):Prop:=∀ a0 h k kp,F31 D a0 h k kp→D 31 [a0] h k kp
theorem cl31:Cl31 (CS Tryz.prog):=fun _ _ _ _ hk=>fnL wide lv31 L31 (fn:=Tryz.f31) (by kernel_rfl) (by kernel_rfl) (by kernel_rfl) (l:=[nthC (allLoops (bodyOf Tryz.f31)) 0,nthC (allLoops (bodyOf Tryz.f31)) 1]) (by kernel_rfl) ⟨fun _ _ _ hk I H=>hk I fun _ _ _ hr=>H _ _ (cast (by kernel_rfl) hr),fun _ _ _ hk I H=>hk I fun _ _ _ _ hr=>H _ _ (cast (by kernel_rfl) hr),trivial⟩ (cast (by kernel_rfl) hk)
def lv32:=lvM 28 [.str] [(2,[kS 0,kR 6])] [(2,[(0,[])])] [kB 2] [(5,[kS 0,kR 6,kB 27])]
def j32_2_5 (D:Orc) (I:List Value→H→Prop) (K:Kl) (a0 a1 a2:Value) (b0:H):Prop :=
strW a0 (fun b1=>boolW a2 (fun b2=>cond b2 (
K X.r [(.bool false)] b0) (
I [(.string b1),a1] b0)))
def round32_2 (D:Orc) (I:List Value→H→Prop) (K:Kl) (a0 a1:Value) (h3:H):Prop :=
strW a0 (fun s4=>ptrW a1 (fun b2=>nextW h3 b2 (fun v6 h7=>extractW v6 0 (fun v8=>boolW v8 (fun t9=>cond t9 (
extractW v6 1 (fun b7=>extractW v6 2 (fun b8=>intK .i32 b8 (fun b9=>cond (b9==65533) (
intK .i64 b7 (fun ba=>cond (!(decide ((IntKind.i64.wrap (ba+3))>(s4.size:Int)))) (
intK .i64 b7 (fun bb=>optI (some b7) (fun bc=>strCutW s4 bc (some (IntKind.i64.wrap (bb+3))) (fun bd=>j32_2_5 D I K (.string s4) a1 (.bool (!(bd.toList==(ByteArray.mk #[239,191,189]).toList))) h7)))) (
j32_2_5 D I K (.string s4) a1 (.bool true) h7))) (
j32_2_5 D I K (.string s4) a1 (.bool false) h7))))) (
K (X.e 0) [] h7))))))
def loop32_2 (D:Orc):=Lp2 (round32_2 D)
def L32 (D:Orc):Lor:=Lsel [(2,loop32_2 D)]
def F32 (D:Orc) (a0:Value) (h:H) (k:Kv) (kp:Kp):Prop :=
strW a0 (fun s0=>newIt h s0 (fun p1 h2=>loop32_2 D [(.string s0),p1] h2 (fun b3 b4 b5=>xs b3 (boolW (nth b4 0) (fun b6=>k (.bool b6) b5)) (fun b7=>cond (Nat.beq b7 0) (
k (.bool true) b5) (False)) (fun c=>kp c b5))))
def Cl32 (D:Orc):Prop:=∀ a0 h k kp,F32 D a0 h k kp→D 32 [a0] h k kp
theorem cl32:Cl32 (CS Tryz.prog):=fun _ _ _ _ hk=>fnL wide lv32 L32 (fn:=Tryz.f32) (by kernel_rfl) (by kernel_rfl) (by kernel_rfl) (l:=[nthC (allLoops (bodyOf Tryz.f32)) 0]) (by kernel_rfl) ⟨fun _ _ _ hk I H=>hk I fun _ _ _ hr=>H _ _ (cast (by kernel_rfl) hr),trivial⟩ (cast (by kernel_rfl) hk)
def lv33:=lvM 118 [.raw,.str] [(14,[kR 0,kS 1,kI 11,kR 12,kI 13])] [(14,[(0,[kR 0,kS 1,kI 11,kR 12])])] [kR 4,kS 5,kI 6] [(2,[kR 0,kS 1,kB 25]),(10,[kR 0,kS 1,kI 10,kI 11,kB 58]),(19,[kR 0,kS 1,kI 11,kR 12,kI 13,(14,.int .u8)]),(20,[kR 0,kS 1,kI 11,kR 12,kI 13,kB 83]),(29,[kS 1,kR 12,kB 114])]
def j33_14_20 (D:Orc) (I:List Value→H→Prop) (K:Kl) (a0 a1 a2 a3 a4 a5:Value) (b0:H):Prop :=
strW a1 (fun b1=>intK .i64 a2 (fun b2=>intK .i64 a4 (fun b3=>boolW a5 (fun b4=>cond b4 (
K X.r [(.slice none 0 0),(.string (ByteArray.mk #[])),(.int .i64 224)] b0) (
strCutW b1 (some 1) none (fun b5=>D 33 [a0,(.string b5)] b0 (fun b6 b7=>∃ b8:Value,∃ b9:ByteArray,∃ ba:Int,b6=(.tuple #[b8,(.string b9),(.int .i64 ba)])∧cond (ba != 0) (
K X.r [(.slice none 0 0),(.string (ByteArray.mk #[])),(.int .i64 ba)] b7) (
slenW b8 (fun bb=>srcW b7 1 b8 (bb) (fun bc=>apW b7 1 8 [(.int .i64 0)] a3 (bb) bc (fun bd be=>I [a0,(.string b9),(.int .i64 b2),bd,(.int .i64 (IntKind.i64.wrap (b3+1)))] be))))) (fun c h=>K (X.p c) [] h)))))))
def j33_14_19 (D:Orc) (I:List Value→H→Prop) (K:Kl) (a0 a1 a2 a3 a4 a5:Value) (b0:H):Prop :=
strW a1 (fun b1=>intK .i64 a2 (fun b2=>intK .i64 a4 (fun b3=>intK .u8 a5 (fun b4=>cond (!((b1.size:Int)==0)) (
strAtW b1 0 (fun b5=>j33_14_20 D I K a0 (.string b1) (.int .i64 b2) a3 (.int .i64 b3) (.bool (b5 != b4)) b0)) (
j33_14_20 D I K a0 (.string b1) (.int .i64 b2) a3 (.int .i64 b3) (.bool true) b0)))))
def round33_14 (D:Orc) (I:List Value→H→Prop) (K:Kl) (a0 a1 a2 a3 a4:Value) (b0:H):Prop :=
strW a1 (fun b1=>intK .i64 a2 (fun b2=>intK .i64 a4 (fun b3=>slAtW a0 b2 2 (fun b4=>∃ b5:Int,rd b0 (Addr.add b4 1)=some (.int .i64 b5)∧cond (decide (b3<b5)) (
cond (b3==0) (
j33_14_19 D I K a0 (.string b1) (.int .i64 b2) a3 (.int .i64 b3) (.int .u8 40) b0) (
j33_14_19 D I K a0 (.string b1) (.int .i64 b2) a3 (.int .i64 b3) (.int .u8 44) b0)) (
K (X.e 0) [a0,(.string b1),(.int .i64 b2),a3] b0)))))
def loop33_14 (D:Orc):=Lp5 (round33_14 D)
def j33__29 (D:Orc) (k:Kv) (kp:Kp) (a0 a1 a2:Value) (b0:H):Prop :=
strW a0 (fun b1=>boolW a2 (fun b2=>cond b2 (
k (.tuple #[(.slice none 0 0),(.string (ByteArray.mk #[])),(.int .i64 224)]) b0) (
strCutW b1 (some 1) none (fun b3=>k (.tuple #[a1,(.string b3),(.int .i64 0)]) b0))))
def j33__10 (D:Orc) (k:Kv) (kp:Kp) (a0 a1 a2 a3 a4:Value) (b0:H):Prop :=
strW a1 (fun b1=>intK .i64 a2 (fun b2=>intK .i64 a3 (fun b3=>boolW a4 (fun b4=>cond b4 (
k (.tuple #[(.slice none 0 0),(.string (ByteArray.mk #[])),(.int .i64 223)]) b0) (
one (.int .i64 b3)=true∧0<1∧newSl b0 1 [(.int .i64 b3)] (fun b5 b6=>strCutW b1 (some b2) none (fun b7=>loop33_14 D [a0,(.string b7),(.int .i64 b3),b5,(.int .i64 0)] b6 (fun b8 b9 ba=>xs b8 (strW (nth b9 1) (fun bb=>intK .i64 (nth b9 2) (fun bc=>k (.tuple #[(nth b9 0),(.string bb),(.int .i64 bc)]) ba))) (fun bd=>cond (Nat.beq bd 0) (
strW (nth b9 1) (fun be=>intK .i64 (nth b9 2) (fun bf=>slAtW (nth b9 0) bf 2 (fun bg=>∃ bh:Int,rd ba (Addr.add bg 1)=some (.int .i64 bh)∧cond (bh==0) (
k (.tuple #[(nth b9 3),(.string be),(.int .i64 0)]) ba) (
cond (!((be.size:Int)==0)) (
strAtW be 0 (fun bi=>j33__29 D k kp (.string be) (nth b9 3) (.bool (bi != 41)) ba)) (
j33__29 D k kp (.string be) (nth b9 3) (.bool true) ba)))))) (False)) (fun c=>kp c ba)))))))))
def j33__2 (D:Orc) (k:Kv) (kp:Kp) (a0 a1 a2:Value) (h2:H):Prop :=
strW a1 (fun s3=>boolW a2 (fun t4=>cond t4 (
strCutW s3 (some 1) none (fun s5=>D 76 [(.string s5)] h2 (fun v6 h7=>∃ x8:Int,v6=(.int .i64 x8)∧strCutW s3 (some 1) (some (IntKind.i64.wrap (1+x8))) (fun s9=>D 77 [(.string s9),(.int .i64 1048575)] h7 (fun b8 b9=>∃ ba:Int,∃ bb:Bool,b8=(.tuple #[(.int .i64 ba),(.bool bb)])∧cond (!bb) (
k (.tuple #[(.slice none 0 0),(.string (ByteArray.mk #[])),(.int .i64 225)]) b9) (
one (.int .i64 (IntKind.i64.wrap (-1 - ba)))=true∧0<1∧newSl b9 1 [(.int .i64 (IntKind.i64.wrap (-1 - ba)))] (fun bc bd=>strCutW s3 (some (IntKind.i64.wrap (1+x8))) none (fun be=>k (.tuple #[bc,(.string be),(.int .i64 0)]) bd)))) kp)) kp)) (
D 78 [(.string s3)] h2 (fun bf bg=>∃ bh:Int,bf=(.int .i64 bh)∧strCutW s3 none (some bh) (fun bi=>D 79 [a0,(.string bi)] bg (fun bj bk=>∃ bl:Int,bj=(.int .i64 bl)∧cond (!(bh==0)) (
j33__10 D k kp a0 (.string s3) (.int .i64 bh) (.int .i64 bl) (.bool (decide (bl<(0:Int)))) bk) (
j33__10 D k kp a0 (.string s3) (.int .i64 bh) (.int .i64 bl) (.bool true) bk)) kp)) kp)))
def L33 (D:Orc):Lor:=Lsel [(14,loop33_14 D)]
def F33 (D:Orc) (a0 a1:Value) (h:H) (k:Kv) (kp:Kp):Prop :=
strW a1 (fun s0=>cond (decide ((s0.size:Int)>0)) (
strAtW s0 0 (fun x1=>j33__2 D k kp a0 (.string s0) (.bool (x1==95)) h)) (
j33__2 D k kp a0 (.string s0) (.bool false) h))
def Cl33 (D:Orc):Prop:=∀ a0 a1 h k kp,F33 D a0 a1 h k kp→D 33 [a0,a1] h k kp
theorem cl33:Cl33 (CS Tryz.prog):=fun _ _ _ _ _ hk=>fnL wide lv33 L33 (fn:=Tryz.f33) (by kernel_rfl) (by kernel_rfl) (by kernel_rfl) (l:=[nthC (allLoops (bodyOf Tryz.f33)) 0]) (by kernel_rfl) ⟨fun _ _ _ hk I H=>hk I fun _ _ _ _ _ _ hr=>H _ _ (cast (by kernel_rfl) hr),trivial⟩ (cast (by kernel_rfl) hk)
def lv38:=lvM 66 [.raw,.raw,.raw] [(7,[kR 0,kR 1,kR 2,kR 8,kI 9])] [(7,[(0,[kR 1,kR 2,kR 8])])] [kR 6,kR 7] [(12,[kR 0,kR 1,kR 2,kR 8,kI 9]),(15,[kR 1,kR 2])]
def j38_7_12 (D:Orc) (I:List Value→H→Prop) (K:Kl) (a0 a1 a2 a3 a4:Value) (b0:H):Prop :=
intK .i64 a4 (fun b1=>D 38 [a0,a1,a2] b0 (fun b2 b3=>∃ b4 b5:Value,b2=(.tuple #[b4,b5])∧I [a0,b5,b4,a3,(.int .i64 (IntKind.i64.wrap (b1+1)))] b3) (fun c h=>K (X.p c) [] h))
def round38_7 (D:Orc) (I:List Value→H→Prop) (K:Kl) (a0 a1 a2 a3 a4:Value) (b0:H):Prop :=
intK .i64 a4 (fun b1=>ptrW a3 (fun b2=>∃ b3:Int,rd b0 (Addr.add b2 1)=some (.int .i64 b3)∧cond (decide (b1<b3)) (
cond (b1==0) (
one (.int .u8 40)=true∧0<1∧newSl b0 1 [(.int .u8 40)] (fun b4 b5=>slenW b4 (fun b6=>srcW b5 1 b4 (b6) (fun b7=>apX false 5 b5 1 [(.int .u8 0)] a2 (b6) b7 (fun b8 b9=>j38_7_12 D I K a0 a1 b8 a3 (.int .i64 b1) b9))))) (
one (.int .u8 44)=true∧0<1∧newSl b0 1 [(.int .u8 44)] (fun ba bb=>slenW ba (fun bc=>srcW bb 1 ba (bc) (fun bd=>apX false 5 bb 1 [(.int .u8 0)] a2 (bc) bd (fun be bf=>j38_7_12 D I K a0 a1 be a3 (.int .i64 b1) bf)))))) (
K (X.e 0) [a1,a2,a3] b0)))
def loop38_7 (D:Orc):=Lp5 (round38_7 D)
def j38__15 (D:Orc) (k:Kv) (kp:Kp) (a0 a1:Value) (b0:H):Prop :=
k (.tuple #[a1,a0]) b0
def L38 (D:Orc):Lor:=Lsel [(7,loop38_7 D)]
def F38 (D:Orc) (a0 a1 a2:Value) (h:H) (k:Kv) (kp:Kp):Prop :=
slAtW a1 0 1 (fun b0=>∃ x1:Int,rd h b0=some (.int .i64 x1)∧cond (decide (x1<(0:Int))) (
one (.int .u8 95)=true∧0<1∧newSl h 1 [(.int .u8 95)] (fun s2 h3=>slAtW a1 0 1 (fun b4=>∃ x5:Int,rd h3 b4=some (.int .i64 x5)∧slCutW a1 (some 1) none none 1 (fun s6=>slenW s2 (fun n7=>srcW h3 1 s2 (n7) (fun w8=>apX false 5 h3 1 [(.int .u8 0)] a2 (n7) w8 (fun s9 ba=>(rd ba b4=some (.int .i64 x5))∧D 83 [(.int .i64 (IntKind.i64.wrap (-1 - x5)))] ba (fun bb bc=>∃ bd:ByteArray,bb=(.string bd)∧srcW bc 1 (.string bd) (bd.size) (fun be=>apX true 5 bc 1 [(.int .u8 0)] s9 (bd.size) be (fun bf bg=>k (.tuple #[bf,s6]) bg))) kp))))))) (
slAtW a1 0 1 (fun bh=>∃ bi:Int,rd h bh=some (.int .i64 bi)∧slAtW a0 bi 2 (fun bj=>∃ bk:ByteArray,∃ bl:Int,rdN h bj 2=some [(.string bk),(.int .i64 bl)]∧newW h [(.string (ByteArray.mk #[])),(.int .i64 0)] (fun bm bn=>ptrW bm (fun bo=>2=2∧List.all [(.string bk),(.int .i64 bl)] one=true∧∃ bp,wr bn bo [(.string bk),(.int .i64 bl)]=some bp∧ptrW bm (fun bq=>∃ br:ByteArray,rd bp (Addr.add bq 0)=some (.string br)∧srcW bp 1 (.string br) (br.size) (fun bs=>apX true 5 bp 1 [(.int .u8 0)] a2 (br.size) bs (fun bt bu=>slCutW a1 (some 1) none none 1 (fun bv=>loop38_7 D [a0,bv,bt,bm,(.int .i64 0)] bu (fun bw bx bz=>xs bw (k (.tuple #[(nth bx 0),(nth bx 1)]) bz) (fun c0=>cond (Nat.beq c0 0) (
ptrW (nth bx 2) (fun c1=>∃ c2:Int,rd bz (Addr.add c1 1)=some (.int .i64 c2)∧cond (decide (c2>0)) (
one (.int .u8 41)=true∧0<1∧newSl bz 1 [(.int .u8 41)] (fun c3 c4=>slenW c3 (fun c5=>srcW c4 1 c3 (c5) (fun c6=>apX false 5 c4 1 [(.int .u8 0)] (nth bx 1) (c5) c6 (fun c7 c8=>j38__15 D k kp (nth bx 0) c7 c8))))) (
j38__15 D k kp (nth bx 0) (nth bx 1) bz))) (False)) (fun c=>kp c bz))))))))))))
def Cl38 (D:Orc):Prop:=∀ a0 a1 a2 h k kp,F38 D a0 a1 a2 h k kp→D 38 [a0,a1,a2] h k kp
theorem cl38:Cl38 (CS Tryz.prog):=fun _ _ _ _ _ _ hk=>fnL wide lv38 L38 (fn:=Tryz.f38) (by kernel_rfl) (by kernel_rfl) (by kernel_rfl) (l:=[nthC (allLoops (bodyOf Tryz.f38)) 0]) (by kernel_rfl) ⟨fun _ _ _ hk I H=>hk I fun _ _ _ _ _ _ hr=>H _ _ (cast (by kernel_rfl) hr),trivial⟩ (cast (by kernel_rfl) hk)
def lv61:=lvM 35 [.str] [(4,[kR 18])] [(4,[(0,[])])] [kB 2] [(2,[kS 0,kB 16]),(7,[kR 18,kB 34])]
def j61_4_7 (D:Orc) (I:List Value→H→Prop) (K:Kl) (a0 a1:Value) (b0:H):Prop :=
boolW a1 (fun b1=>cond b1 (
K X.r [(.bool false)] b0) (
I [a0] b0))
def round61_4 (D:Orc) (I:List Value→H→Prop) (K:Kl) (a0:Value) (h9:H):Prop :=
ptrW a0 (fun b1=>nextW h9 b1 (fun b2 b3=>extractW b2 0 (fun b4=>boolW b4 (fun b5=>cond b5 (
extractW b2 1 (fun b6=>extractW b2 2 (fun b7=>intK .i64 b6 (fun b8=>cond (b8==0) (
D 104 [b7] b3 (fun b9 ba=>∃ bb:Bool,b9=(.bool bb)∧cond (!(!bb)) (
D 105 [b7] ba (fun bc bd=>∃ be:Bool,bc=(.bool be)∧j61_4_7 D I K a0 (.bool (!be)) bd) (fun c h=>K (X.p c) [] h)) (
j61_4_7 D I K a0 (.bool true) ba)) (fun c h=>K (X.p c) [] h)) (
D 105 [b7] b3 (fun bf bg=>∃ bh:Bool,bf=(.bool bh)∧j61_4_7 D I K a0 (.bool (!bh)) bg) (fun c h=>K (X.p c) [] h)))))) (
K (X.e 0) [] b3)))))
def loop61_4 (D:Orc):=Lp1 (round61_4 D)
def j61__2 (D:Orc) (k:Kv) (kp:Kp) (a0 a1:Value) (h4:H):Prop :=
strW a0 (fun s5=>boolW a1 (fun t6=>cond t6 (
k (.bool false) h4) (
newIt h4 s5 (fun p7 h8=>loop61_4 D [p7] h8 (fun b5 b6 b7=>xs b5 (boolW (nth b6 0) (fun b8=>k (.bool b8) b7)) (fun b9=>cond (Nat.beq b9 0) (
k (.bool true) b7) (False)) (fun c=>kp c b7))))))
def L61 (D:Orc):Lor:=Lsel [(4,loop61_4 D)]
def F61 (D:Orc) (a0:Value) (h:H) (k:Kv) (kp:Kp):Prop :=
strW a0 (fun s0=>cond (!(s0.toList==(ByteArray.mk #[]).toList)) (
cond (!(decide ((s0.size:Int)>32))) (
D 103 [(.string s0)] h (fun v1 h2=>∃ t3:Bool,v1=(.bool t3)∧j61__2 D k kp (.string s0) (.bool (!t3)) h2) kp) (
j61__2 D k kp (.string s0) (.bool true) h)) (
j61__2 D k kp (.string s0) (.bool true) h))
def Cl61 (D:Orc):Prop:=∀ a0 h k kp,F61 D a0 h k kp→D 61 [a0] h k kp
theorem cl61:Cl61 (CS Tryz.prog):=fun _ _ _ _ hk=>fnL wide lv61 L61 (fn:=Tryz.f61) (by kernel_rfl) (by kernel_rfl) (by kernel_rfl) (l:=[nthC (allLoops (bodyOf Tryz.f61)) 0]) (by kernel_rfl) ⟨fun _ _ _ hk I H=>hk I fun _ _ hr=>H _ _ (cast (by kernel_rfl) hr),trivial⟩ (cast (by kernel_rfl) hk)
def lv69:=lvM 55 [.raw,.raw] [(3,[kR 0,kR 1,kI 5,kI 6])] [(3,[(0,[])])] [kI 4] [(8,[kR 0,kR 1,kI 5,kI 6,kB 28]),(12,[kR 0,kR 1,kI 5,kI 6]),(13,[kR 0,kR 1,kI 5,kI 6,kB 54])]
def j69_3_13 (D:Orc) (I:List Value→H→Prop) (K:Kl) (a0 a1 a2 a3 a4:Value) (b0:H):Prop :=
intK .i64 a2 (fun b1=>intK .i64 a3 (fun b2=>boolW a4 (fun b3=>cond b3 (
K X.r [(.int .i64 32)] b0) (
I [a0,a1,(.int .i64 b1),(.int .i64 (IntKind.i64.wrap (b2+1)))] b0))))
def j69_3_12 (D:Orc) (I:List Value→H→Prop) (K:Kl) (a0 a1 a2 a3:Value) (b0:H):Prop :=
intK .i64 a2 (fun b1=>intK .i64 a3 (fun b2=>cond (b1==0) (
lenW a1 (fun b3=>j69_3_13 D I K a0 a1 (.int .i64 b1) (.int .i64 b2) (.bool (decide ((IntKind.i64.wrap (b2+1))<(b3:Int)))) b0)) (
j69_3_13 D I K a0 a1 (.int .i64 b1) (.int .i64 b2) (.bool false) b0)))
def j69_3_8 (D:Orc) (I:List Value→H→Prop) (K:Kl) (a0 a1 a2 a3 a4:Value) (h9:H):Prop :=
intK .i64 a2 (fun b1=>intK .i64 a3 (fun b2=>boolW a4 (fun b3=>cond b3 (
K X.r [(.int .i64 30)] h9) (
slAtW a1 b2 1 (fun b4=>∃ b5:Int,rd h9 b4=some (.int .i64 b5)∧cond (decide (b5≥0)) (
slAtW a1 b2 1 (fun b6=>∃ b7:Int,rd h9 b6=some (.int .i64 b7)∧slAtW a0 b7 2 (fun b8=>∃ b9:Int,rd h9 (Addr.add b8 1)=some (.int .i64 b9)∧j69_3_12 D I K a0 a1 (.int .i64 (IntKind.i64.wrap ((IntKind.i64.wrap (b1 - 1))+b9))) (.int .i64 b2) h9))) (
j69_3_12 D I K a0 a1 (.int .i64 (IntKind.i64.wrap (b1 - 1))) (.int .i64 b2) h9))))))
def round69_3 (D:Orc) (I:List Value→H→Prop) (K:Kl) (a0 a1 a2 a3:Value) (h0:H):Prop :=
intK .i64 a2 (fun x1=>intK .i64 a3 (fun x2=>cond (decide (x1>0)) (
lenW a1 (fun n3=>cond (x2==(n3:Int)) (
K X.r [(.int .i64 31)] h0) (
slAtW a1 x2 1 (fun b4=>∃ x5:Int,rd h0 b4=some (.int .i64 x5)∧lenW a0 (fun n6=>cond (!(decide (x5≥(n6:Int)))) (
slAtW a1 x2 1 (fun b7=>∃ x8:Int,rd h0 b7=some (.int .i64 x8)∧j69_3_8 D I K a0 a1 (.int .i64 x1) (.int .i64 x2) (.bool (decide (x8<(-1048576:Int)))) h0)) (
j69_3_8 D I K a0 a1 (.int .i64 x1) (.int .i64 x2) (.bool true) h0)))))) (
K (X.e 0) [] h0)))
def loop69_3 (D:Orc):=Lp4 (round69_3 D)
def L69 (D:Orc):Lor:=Lsel [(3,loop69_3 D)]
def F69 (D:Orc) (a0 a1:Value) (h:H) (k:Kv) (kp:Kp):Prop :=
loop69_3 D [a0,a1,(.int .i64 1),(.int .i64 0)] h (fun b0 b1 b2=>xs b0 (intK .i64 (nth b1 0) (fun b3=>k (.int .i64 b3) b2)) (fun b4=>cond (Nat.beq b4 0) (
k (.int .i64 0) b2) (False)) (fun c=>kp c b2))
def Cl69 (D:Orc):Prop:=∀ a0 a1 h k kp,F69 D a0 a1 h k kp→D 69 [a0,a1] h k kp
theorem cl69:Cl69 (CS Tryz.prog):=fun _ _ _ _ _ hk=>fnL wide lv69 L69 (fn:=Tryz.f69) (by kernel_rfl) (by kernel_rfl) (by kernel_rfl) (l:=[nthC (allLoops (bodyOf Tryz.f69)) 0]) (by kernel_rfl) ⟨fun _ _ _ hk I H=>hk I fun _ _ _ _ _ hr=>H _ _ (cast (by kernel_rfl) hr),trivial⟩ (cast (by kernel_rfl) hk)
def lv75:=lvM 22 [.str] [] [] [kB 2] []
def F75 (D:Orc) (a0:Value) (h:H) (k:Kv) (kp:Kp):Prop :=
strW a0 (fun s0=>cond (decide ((s0.size:Int)>0)) (
strAtW s0 (IntKind.i64.wrap ((s0.size:Int) - 1)) (fun x1=>cond (x1==35) (
strCutW s0 none (some (IntKind.i64.wrap ((s0.size:Int) - 1))) (fun s2=>D 61 [(.string s2)] h (fun v3 h4=>∃ t5:Bool,v3=(.bool t5)∧k (.bool t5) h4) kp)) (
k (.bool false) h))) (
k (.bool false) h))
def Cl75 (D:Orc):Prop:=∀ a0 h k kp,F75 D a0 h k kp→D 75 [a0] h k kp
theorem cl75:Cl75 (CS Tryz.prog):=fun _ _ _ _ hk=>fn0 wide lv75 (fn:=Tryz.f75) (by kernel_rfl) (by kernel_rfl) (by kernel_rfl) (by kernel_rfl) (cast (by kernel_rfl) hk)
def lv76:=lvM 23 [.str] [(2,[kS 0,kI 3])] [(2,[(0,[kI 3])])] [kI 2] []
def round76_2 (D:Orc) (I:List Value→H→Prop) (K:Kl) (a0 a1:Value) (h1:H):Prop :=
strW a0 (fun s2=>intK .i64 a1 (fun x3=>cond (decide (x3<(s2.size:Int))) (
strAtW s2 x3 (fun x4=>cond (decide (x4≥48)) (
strAtW s2 x3 (fun x5=>cond (decide (x5≤(57:Int))) (
I [(.string s2),(.int .i64 (IntKind.i64.wrap (x3+1)))] h1) (
K (X.e 0) [(.int .i64 x3)] h1))) (
K (X.e 0) [(.int .i64 x3)] h1))) (
K (X.e 0) [(.int .i64 x3)] h1)))
def loop76_2 (D:Orc):=Lp2 (round76_2 D)
def L76 (D:Orc):Lor:=Lsel [(2,loop76_2 D)]
def F76 (D:Orc) (a0:Value) (h:H) (k:Kv) (kp:Kp):Prop :=
strW a0 (fun s0=>loop76_2 D [(.string s0),(.int .i64 0)] h (fun x7 b2 h6=>xs x7 (intK .i64 (nth b2 0) (fun b4=>k (.int .i64 b4) h6)) (fun i9=>cond (Nat.beq i9 0) (
intK .i64 (nth b2 0) (fun b6=>k (.int .i64 b6) h6)) (False)) (fun c=>kp c h6)))
def Cl76 (D:Orc):Prop:=∀ a0 h k kp,F76 D a0 h k kp→D 76 [a0] h k kp
theorem cl76:Cl76 (CS Tryz.prog):=fun _ _ _ _ hk=>fnL wide lv76 L76 (fn:=Tryz.f76) (by kernel_rfl) (by kernel_rfl) (by kernel_rfl) (l:=[nthC (allLoops (bodyOf Tryz.f76)) 0]) (by kernel_rfl) ⟨fun _ _ _ hk I H=>hk I fun _ _ _ hr=>H _ _ (cast (by kernel_rfl) hr),trivial⟩ (cast (by kernel_rfl) hk)
def lv77:=lvM 51 [.str,.int .i64] [(5,[kS 0,kI 1,kI 6,kI 7])] [(5,[(0,[kI 1,kI 6])])] [kI 4,kB 5] [(2,[kS 0,kI 1,kB 32])]
def round77_5 (D:Orc) (I:List Value→H→Prop) (K:Kl) (a0 a1 a2 a3:Value) (b0:H):Prop :=
strW a0 (fun b1=>intK .i64 a1 (fun b2=>intK .i64 a2 (fun b3=>intK .i64 a3 (fun b4=>cond (decide (b4<(b1.size:Int))) (
strAtW b1 b4 (fun b5=>I [(.string b1),(.int .i64 b2),(.int .i64 (IntKind.i64.wrap ((IntKind.i64.wrap (10*b3))+(IntKind.i64.wrap (IntKind.u8.wrap (b5 - 48)))))),(.int .i64 (IntKind.i64.wrap (b4+1)))] b0)) (
K (X.e 0) [(.int .i64 b2),(.int .i64 b3)] b0)))))
def loop77_5 (D:Orc):=Lp4 (round77_5 D)
def j77__2 (D:Orc) (k:Kv) (kp:Kp) (a0 a1 a2:Value) (h6:H):Prop :=
strW a0 (fun s7=>intK .i64 a1 (fun x8=>boolW a2 (fun t9=>cond t9 (
k (.tuple #[(.int .i64 0),(.bool false)]) h6) (
loop77_5 D [(.string s7),(.int .i64 x8),(.int .i64 0),(.int .i64 0)] h6 (fun b4 b5 b6=>xs b4 (intK .i64 (nth b5 0) (fun b7=>boolW (nth b5 1) (fun b8=>k (.tuple #[(.int .i64 b7),(.bool b8)]) b6))) (fun b9=>cond (Nat.beq b9 0) (
intK .i64 (nth b5 0) (fun ba=>intK .i64 (nth b5 1) (fun bb=>k (.tuple #[(.int .i64 bb),(.bool (decide (bb≤ba)))]) b6))) (False)) (fun c=>kp c b6))))))
def L77 (D:Orc):Lor:=Lsel [(5,loop77_5 D)]
def F77 (D:Orc) (a0 a1:Value) (h:H) (k:Kv) (kp:Kp):Prop :=
strW a0 (fun s0=>intK .i64 a1 (fun x1=>cond (!((s0.size:Int)==0)) (
D 76 [(.string s0)] h (fun v2 h3=>∃ x4:Int,v2=(.int .i64 x4)∧cond (!(x4 != (s0.size:Int))) (
cond (decide ((s0.size:Int)>1)) (
strAtW s0 0 (fun x5=>cond (!(x5==48)) (
j77__2 D k kp (.string s0) (.int .i64 x1) (.bool (decide ((s0.size:Int)>18))) h3) (
j77__2 D k kp (.string s0) (.int .i64 x1) (.bool true) h3))) (
j77__2 D k kp (.string s0) (.int .i64 x1) (.bool (decide ((s0.size:Int)>18))) h3)) (
j77__2 D k kp (.string s0) (.int .i64 x1) (.bool true) h3)) kp) (
j77__2 D k kp (.string s0) (.int .i64 x1) (.bool true) h)))
def Cl77 (D:Orc):Prop:=∀ a0 a1 h k kp,F77 D a0 a1 h k kp→D 77 [a0,a1] h k kp
theorem cl77:Cl77 (CS Tryz.prog):=fun _ _ _ _ _ hk=>fnL wide lv77 L77 (fn:=Tryz.f77) (by kernel_rfl) (by kernel_rfl) (by kernel_rfl) (l:=[nthC (allLoops (bodyOf Tryz.f77)) 0]) (by kernel_rfl) ⟨fun _ _ _ hk I H=>hk I fun _ _ _ _ _ hr=>H _ _ (cast (by kernel_rfl) hr),trivial⟩ (cast (by kernel_rfl) hk)
def lv78:=lvM 76 [.str] [(3,[kS 0,kI 3,kR 11])] [(3,[(0,[kS 0,kI 3])])] [kI 2] [(6,[kS 0,kI 3,kI 4,(5,.int .i32),kB 6,kR 11]),(7,[kS 0,kI 3,kI 4,kB 6,kB 7,kR 11]),(8,[kS 0,kI 3,kI 4,kR 11,kB 57]),(11,[kI 3]),(10,[kI 3,kB 72])]
def j78_3_8 (D:Orc) (I:List Value→H→Prop) (K:Kl) (a0 a1 a2 a3 a4:Value) (b0:H):Prop :=
strW a0 (fun b1=>intK .i64 a1 (fun b2=>intK .i64 a2 (fun b3=>boolW a4 (fun b4=>cond b4 (
K (X.e 0) [(.string b1),(.int .i64 b3)] b0) (
I [(.string b1),(.int .i64 b2),a3] b0)))))
def j78_3_7 (D:Orc) (I:List Value→H→Prop) (K:Kl) (a0 a1 a2 a3 a4 a5:Value) (b0:H):Prop :=
strW a0 (fun b1=>intK .i64 a1 (fun b2=>intK .i64 a2 (fun b3=>boolW a3 (fun b4=>boolW a4 (fun b5=>cond (!b4) (
j78_3_8 D I K (.string b1) (.int .i64 b2) (.int .i64 b3) a5 (.bool (!b5)) b0) (
j78_3_8 D I K (.string b1) (.int .i64 b2) (.int .i64 b3) a5 (.bool false) b0))))))
def j78_3_6 (D:Orc) (I:List Value→H→Prop) (K:Kl) (a0 a1 a2 a3 a4 a5:Value) (b0:H):Prop :=
strW a0 (fun b1=>intK .i64 a1 (fun b2=>intK .i64 a2 (fun b3=>intK .i32 a3 (fun b4=>boolW a4 (fun b5=>cond (decide (b3>0)) (
cond (decide (b4≥48)) (
cond (!(decide (b4≤(57:Int)))) (
cond (!(b4==95)) (
j78_3_7 D I K (.string b1) (.int .i64 b2) (.int .i64 b3) (.bool b5) (.bool (b4==39)) a5 b0) (
j78_3_7 D I K (.string b1) (.int .i64 b2) (.int .i64 b3) (.bool b5) (.bool true) a5 b0)) (
j78_3_7 D I K (.string b1) (.int .i64 b2) (.int .i64 b3) (.bool b5) (.bool true) a5 b0)) (
cond (!(b4==95)) (
j78_3_7 D I K (.string b1) (.int .i64 b2) (.int .i64 b3) (.bool b5) (.bool (b4==39)) a5 b0) (
j78_3_7 D I K (.string b1) (.int .i64 b2) (.int .i64 b3) (.bool b5) (.bool true) a5 b0))) (
j78_3_7 D I K (.string b1) (.int .i64 b2) (.int .i64 b3) (.bool b5) (.bool false) a5 b0))))))
def round78_3 (D:Orc) (I:List Value→H→Prop) (K:Kl) (a0 a1 a2:Value) (h3:H):Prop :=
strW a0 (fun s4=>intK .i64 a1 (fun x5=>ptrW a2 (fun b3=>nextW h3 b3 (fun v7 h8=>extractW v7 0 (fun v9=>boolW v9 (fun b7=>cond b7 (
extractW v7 1 (fun b8=>extractW v7 2 (fun b9=>intK .i32 b9 (fun ba=>cond (decide (ba≥97)) (
intK .i32 b9 (fun bb=>cond (!(decide (bb≤(122:Int)))) (
intK .i32 b9 (fun bc=>cond (decide (bc≥65)) (
intK .i32 b9 (fun bd=>cond (!(decide (bd≤(90:Int)))) (
intK .i32 b9 (fun be=>j78_3_6 D I K (.string s4) (.int .i64 x5) b8 b9 (.bool (decide (be≥128))) a2 h8)) (
j78_3_6 D I K (.string s4) (.int .i64 x5) b8 b9 (.bool true) a2 h8))) (
intK .i32 b9 (fun bf=>j78_3_6 D I K (.string s4) (.int .i64 x5) b8 b9 (.bool (decide (bf≥128))) a2 h8)))) (
j78_3_6 D I K (.string s4) (.int .i64 x5) b8 b9 (.bool true) a2 h8))) (
intK .i32 b9 (fun bg=>cond (decide (bg≥65)) (
intK .i32 b9 (fun bh=>cond (!(decide (bh≤(90:Int)))) (
intK .i32 b9 (fun bi=>j78_3_6 D I K (.string s4) (.int .i64 x5) b8 b9 (.bool (decide (bi≥128))) a2 h8)) (
j78_3_6 D I K (.string s4) (.int .i64 x5) b8 b9 (.bool true) a2 h8))) (
intK .i32 b9 (fun bj=>j78_3_6 D I K (.string s4) (.int .i64 x5) b8 b9 (.bool (decide (bj≥128))) a2 h8)))))))) (
K (X.e 0) [(.string s4),(.int .i64 x5)] h8)))))))
def loop78_3 (D:Orc):=Lp3 (round78_3 D)
def j78__11 (D:Orc) (k:Kv) (kp:Kp) (a0:Value) (b0:H):Prop :=
intK .i64 a0 (fun b1=>k (.int .i64 b1) b0)
def j78__10 (D:Orc) (k:Kv) (kp:Kp) (a0 a1:Value) (b0:H):Prop :=
intK .i64 a0 (fun b1=>boolW a1 (fun b2=>cond b2 (
j78__11 D k kp (.int .i64 (IntKind.i64.wrap (b1+1))) b0) (
j78__11 D k kp (.int .i64 b1) b0)))
def L78 (D:Orc):Lor:=Lsel [(3,loop78_3 D)]
def F78 (D:Orc) (a0:Value) (h:H) (k:Kv) (kp:Kp):Prop :=
strW a0 (fun s0=>newIt h s0 (fun p1 h2=>loop78_3 D [(.string s0),(.int .i64 (s0.size:Int)),p1] h2 (fun b3 b4 b5=>xs b3 (intK .i64 (nth b4 0) (fun b6=>k (.int .i64 b6) b5)) (fun b7=>cond (Nat.beq b7 0) (
strW (nth b4 0) (fun b8=>intK .i64 (nth b4 1) (fun b9=>cond (decide (b9>0)) (
cond (decide (b9<(b8.size:Int))) (
strAtW b8 b9 (fun ba=>j78__10 D k kp (.int .i64 b9) (.bool (ba==35)) b5)) (
j78__10 D k kp (.int .i64 b9) (.bool false) b5)) (
j78__10 D k kp (.int .i64 b9) (.bool false) b5)))) (False)) (fun c=>kp c b5))))
def Cl78 (D:Orc):Prop:=∀ a0 h k kp,F78 D a0 h k kp→D 78 [a0] h k kp
theorem cl78:Cl78 (CS Tryz.prog):=fun _ _ _ _ hk=>fnL wide lv78 L78 (fn:=Tryz.f78) (by kernel_rfl) (by kernel_rfl) (by kernel_rfl) (l:=[nthC (allLoops (bodyOf Tryz.f78)) 0]) (by kernel_rfl) ⟨fun _ _ _ hk I H=>hk I fun _ _ _ _ hr=>H _ _ (cast (by kernel_rfl) hr),trivial⟩ (cast (by kernel_rfl) hk)
def lv79:=lvM 20 [.raw,.str] [(2,[kR 0,kS 1,kI 5])] [(2,[(0,[])])] [kI 4] []
def round79_2 (D:Orc) (I:List Value→H→Prop) (K:Kl) (a0 a1 a2:Value) (h1:H):Prop :=
strW a1 (fun s2=>intK .i64 a2 (fun x3=>lenW a0 (fun n4=>cond (decide (x3<(n4:Int))) (
slAtW a0 x3 2 (fun b4=>∃ s6:ByteArray,rd h1 (Addr.add b4 0)=some (.string s6)∧cond (s6.toList==s2.toList) (
K X.r [(.int .i64 x3)] h1) (
I [a0,(.string s2),(.int .i64 (IntKind.i64.wrap (x3+1)))] h1))) (
K (X.e 0) [] h1))))
def loop79_2 (D:Orc):=Lp3 (round79_2 D)
def L79 (D:Orc):Lor:=Lsel [(2,loop79_2 D)]
def F79 (D:Orc) (a0 a1:Value) (h:H) (k:Kv) (kp:Kp):Prop :=
strW a1 (fun s0=>loop79_2 D [a0,(.string s0),(.int .i64 0)] h (fun x8 b2 h7=>xs x8 (intK .i64 (nth b2 0) (fun b4=>k (.int .i64 b4) h7)) (fun b5=>cond (Nat.beq b5 0) (
k (.int .i64 (-1)) h7) (False)) (fun c=>kp c h7)))
def Cl79 (D:Orc):Prop:=∀ a0 a1 h k kp,F79 D a0 a1 h k kp→D 79 [a0,a1] h k kp
theorem cl79:Cl79 (CS Tryz.prog):=fun _ _ _ _ _ hk=>fnL wide lv79 L79 (fn:=Tryz.f79) (by kernel_rfl) (by kernel_rfl) (by kernel_rfl) (l:=[nthC (allLoops (bodyOf Tryz.f79)) 0]) (by kernel_rfl) ⟨fun _ _ _ hk I H=>hk I fun _ _ _ _ hr=>H _ _ (cast (by kernel_rfl) hr),trivial⟩ (cast (by kernel_rfl) hk)
def lv83:=lvM 13 [.int .i64] [] [] [kS 2] []
def F83 (D:Orc) (a0:Value) (h:H) (k:Kv) (kp:Kp):Prop :=
intK .i64 a0 (fun x0=>D 118 [(.int .u64 (IntKind.wrap IntKind.u64 x0))] h (fun v1 h2=>∃ v3:Value,v1=v3∧D 108 [v3] h2 (fun v4 h5=>∃ s6:ByteArray,∃ x7:Int,v4=(.tuple #[(.string s6),(.int .i64 x7)])∧k (.string s6) h5) kp) kp)
def Cl83 (D:Orc):Prop:=∀ a0 h k kp,F83 D a0 h k kp→D 83 [a0] h k kp
theorem cl83:Cl83 (CS Tryz.prog):=fun _ _ _ _ hk=>fn0 wide lv83 (fn:=Tryz.f83) (by kernel_rfl) (by kernel_rfl) (by kernel_rfl) (by kernel_rfl) (cast (by kernel_rfl) hk)
def lv103:=lvM 18 [.str] [(3,[kS 0,kS 3,kR 7])] [(3,[(0,[kS 0,kS 3])])] [kB 2] []
def round103_3 (D:Orc) (I:List Value→H→Prop) (K:Kl) (a0 a1 a2:Value) (h3:H):Prop :=
strW a0 (fun s4=>strW a1 (fun s5=>ptrW a2 (fun b3=>nextW h3 b3 (fun v7 h8=>extractW v7 0 (fun v9=>boolW v9 (fun b7=>cond b7 (
extractW v7 2 (fun b8=>intW b8 (fun _ b9=>s5.size+(Utf8.encode b9).size≤9223372036854775807∧I [(.string s4),(.string (s5++(Utf8.encode b9))),a2] h8))) (
K (X.e 0) [(.string s4),(.string s5)] h8)))))))
def loop103_3 (D:Orc):=Lp3 (round103_3 D)
def L103 (D:Orc):Lor:=Lsel [(3,loop103_3 D)]
def F103 (D:Orc) (a0:Value) (h:H) (k:Kv) (kp:Kp):Prop :=
strW a0 (fun s0=>newIt h s0 (fun p1 h2=>loop103_3 D [(.string s0),(.string (ByteArray.mk #[])),p1] h2 (fun b3 b4 b5=>xs b3 (boolW (nth b4 0) (fun b6=>k (.bool b6) b5)) (fun b7=>cond (Nat.beq b7 0) (
strW (nth b4 0) (fun b8=>strW (nth b4 1) (fun b9=>k (.bool (b9.toList==b8.toList)) b5))) (False)) (fun c=>kp c b5))))
def Cl103 (D:Orc):Prop:=∀ a0 h k kp,F103 D a0 h k kp→D 103 [a0] h k kp
theorem cl103:Cl103 (CS Tryz.prog):=fun _ _ _ _ hk=>fnL wide lv103 L103 (fn:=Tryz.f103) (by kernel_rfl) (by kernel_rfl) (by kernel_rfl) (l:=[nthC (allLoops (bodyOf Tryz.f103)) 0]) (by kernel_rfl) ⟨fun _ _ _ hk I H=>hk I fun _ _ _ _ hr=>H _ _ (cast (by kernel_rfl) hr),trivial⟩ (cast (by kernel_rfl) hk)
def lv104:=lvM 21 [.int .i32] [] [] [kB 2] []
def F104 (D:Orc) (a0:Value) (h:H) (k:Kv) (kp:Kp):Prop :=
intK .i32 a0 (fun x0=>cond (decide (x0≥97)) (
cond (!(decide (x0≤(122:Int)))) (
cond (decide (x0≥65)) (
cond (!(decide (x0≤(90:Int)))) (
k (.bool (decide (x0≥128))) h) (
k (.bool true) h)) (
k (.bool (decide (x0≥128))) h)) (
k (.bool true) h)) (
cond (decide (x0≥65)) (
cond (!(decide (x0≤(90:Int)))) (
k (.bool (decide (x0≥128))) h) (
k (.bool true) h)) (
k (.bool (decide (x0≥128))) h)))
def Cl104 (D:Orc):Prop:=∀ a0 h k kp,F104 D a0 h k kp→D 104 [a0] h k kp
theorem cl104:Cl104 (CS Tryz.prog):=fun _ _ _ _ hk=>fn0 wide lv104 (fn:=Tryz.f104) (by kernel_rfl) (by kernel_rfl) (by kernel_rfl) (by kernel_rfl) (cast (by kernel_rfl) hk)
def lv105:=lvM 21 [.int .i32] [] [] [kB 2] []
def F105 (D:Orc) (a0:Value) (h:H) (k:Kv) (kp:Kp):Prop :=
intK .i32 a0 (fun x0=>D 104 [(.int .i32 x0)] h (fun v1 h2=>∃ t3:Bool,v1=(.bool t3)∧cond (!t3) (
cond (decide (x0≥48)) (
cond (!(decide (x0≤(57:Int)))) (
cond (!(x0==95)) (
k (.bool (x0==39)) h2) (
k (.bool true) h2)) (
k (.bool true) h2)) (
cond (!(x0==95)) (
k (.bool (x0==39)) h2) (
k (.bool true) h2))) (
k (.bool true) h2)) kp)
def Cl105 (D:Orc):Prop:=∀ a0 h k kp,F105 D a0 h k kp→D 105 [a0] h k kp
theorem cl105:Cl105 (CS Tryz.prog):=fun _ _ _ _ hk=>fn0 wide lv105 (fn:=Tryz.f105) (by kernel_rfl) (by kernel_rfl) (by kernel_rfl) (by kernel_rfl) (cast (by kernel_rfl) hk)
def lv108:=lvM 53 [.raw] [(7,[kR 4,kS 5]),(10,[kR 4,kS 5,(6,.int .u64),kI 7])] [(7,[(0,[kS 5])]),(10,[(2,[kR 4,kS 5,(6,.int .u64)])])] [kS 2,kI 3] []
def round108_10 (D:Orc) (I:List Value→H→Prop) (K:Kl) (a0 a1 a2 a3:Value) (b0:H):Prop :=
strW a1 (fun b1=>intK .u64 a2 (fun b2=>intK .i64 a3 (fun b3=>cond (decide (b3≥0)) (
0≤(32:Int)∧slAtW a0 b3 1 (fun b4=>∃ b5:Int,rd b0 b4=some (.int .u32 b5)∧(10:Int)≠0∧slAtW a0 b3 1 (fun b6=>one (.int .u32 (IntKind.u32.wrap (IntKind.u64.wrap (Int.tdiv (IntKind.u64.wrap ((IntKind.u64.wrap (b2*2 ^ (min (Int.toNat 32) (IntKind.bits IntKind.u64))))+(IntKind.wrap IntKind.u64 b5))) 10))))=true∧1=1∧∃ b7,wr1 b0 b6 (.int .u32 (IntKind.u32.wrap (IntKind.u64.wrap (Int.tdiv (IntKind.u64.wrap ((IntKind.u64.wrap (b2*2 ^ (min (Int.toNat 32) (IntKind.bits IntKind.u64))))+(IntKind.wrap IntKind.u64 b5))) 10))))=some b7∧(10:Int)≠0∧I [a0,(.string b1),(.int .u64 (Int.tmod (IntKind.u64.wrap ((IntKind.u64.wrap (b2*2 ^ (min (Int.toNat 32) (IntKind.bits IntKind.u64))))+(IntKind.wrap IntKind.u64 b5))) 10)),(.int .i64 (IntKind.i64.wrap (b3 - 1)))] b7))) (
K (X.e 2) [a0,(.string b1),(.int .u64 b2)] b0))))
def loop108_10 (D:Orc):=Lp4 (round108_10 D)
def round108_7 (D:Orc) (I:List Value→H→Prop) (K:Kl) (a0 a1:Value) (b0:H):Prop :=
strW a1 (fun b1=>lenW a0 (fun b2=>cond (decide ((b2:Int)>0)) (
lenW a0 (fun b3=>loop108_10 D [a0,(.string b1),(.int .u64 0),(.int .i64 (IntKind.i64.wrap ((b3:Int) - 1)))] b0 (fun b4 b5 b6=>xs b4 (strW (nth b5 0) (fun b7=>intK .i64 (nth b5 1) (fun b8=>K X.r [(.string b7),(.int .i64 b8)] b6))) (fun b9=>cond (Nat.beq b9 2) (
strW (nth b5 1) (fun ba=>intK .u64 (nth b5 2) (fun bb=>one (.int .u8 (IntKind.u8.wrap (IntKind.u64.wrap (48+bb))))=true∧0<1∧newSl b6 1 [(.int .u8 (IntKind.u8.wrap (IntKind.u64.wrap (48+bb))))] (fun bc bd=>bsW bd bc (fun be=>be.size+ba.size≤9223372036854775807∧D 134 [(nth b5 0)] bd (fun bf bg=>∃ bh:Value,bf=bh∧I [bh,(.string (be++ba))] bg) (fun c h=>K (X.p c) [] h)))))) (False)) (fun c=>(fun c h=>K (X.p c) [] h) c b6)))) (
K (X.e 0) [(.string b1)] b0)))
def loop108_7 (D:Orc):=Lp2 (round108_7 D)
def L108 (D:Orc):Lor:=Lsel [(7,loop108_7 D),(10,loop108_10 D)]
def F108 (D:Orc) (a0:Value) (h:H) (k:Kv) (kp:Kp):Prop :=
D 133 [a0] h (fun v0 h1=>∃ t2:Bool,v0=(.bool t2)∧cond (!t2) (
k (.tuple #[(.string (ByteArray.mk #[])),(.int .i64 10)]) h1) (
lenW a0 (fun n3=>cond ((n3:Int)==0) (
k (.tuple #[(.string (ByteArray.mk #[48])),(.int .i64 0)]) h1) (
newSl h1 0 [] (fun s4 h5=>slenW a0 (fun n6=>srcW h5 1 a0 (n6) (fun w7=>apW h5 1 4 [(.int .u32 0)] s4 (n6) w7 (fun s8 h9=>loop108_7 D [s8,(.string (ByteArray.mk #[]))] h9 (fun ba bb bc=>xs ba (strW (nth bb 0) (fun bd=>intK .i64 (nth bb 1) (fun be=>k (.tuple #[(.string bd),(.int .i64 be)]) bc))) (fun bf=>cond (Nat.beq bf 0) (
strW (nth bb 0) (fun bg=>k (.tuple #[(.string bg),(.int .i64 0)]) bc)) (False)) (fun c=>kp c bc)))))))))) kp
def Cl108 (D:Orc):Prop:=∀ a0 h k kp,F108 D a0 h k kp→D 108 [a0] h k kp
theorem cl108:Cl108 (CS Tryz.prog):=fun _ _ _ _ hk=>fnL wide lv108 L108 (fn:=Tryz.f108) (by kernel_rfl) (by kernel_rfl) (by kernel_rfl) (l:=[nthC (allLoops (bodyOf Tryz.f108)) 0,nthC (allLoops (bodyOf Tryz.f108)) 1]) (by kernel_rfl) ⟨fun _ _ _ hk I H=>hk I fun _ _ _ hr=>H _ _ (cast (by kernel_rfl) hr),fun _ _ _ hk I H=>hk I fun _ _ _ _ _ hr=>H _ _ (cast (by kernel_rfl) hr),trivial⟩ (cast (by kernel_rfl) hk)
def lv118:=lvM 10 [.int .u64] [] [] [kR 2] []
def F118 (D:Orc) (a0:Value) (h:H) (k:Kv) (kp:Kp):Prop :=
intK .u64 a0 (fun x0=>0≤(32:Int)∧one (.int .u32 (IntKind.wrap IntKind.u32 x0))=true∧0<2∧one (.int .u32 (IntKind.u32.wrap (Int.fdiv x0 (2 ^ (min (Int.toNat 32) (IntKind.bits IntKind.u64))))))=true∧1<2∧newSl h 2 [(.int .u32 (IntKind.wrap IntKind.u32 x0)),(.int .u32 (IntKind.u32.wrap (Int.fdiv x0 (2 ^ (min (Int.toNat 32) (IntKind.bits IntKind.u64))))))] (fun s1 h2=>D 134 [s1] h2 (fun v3 h4=>∃ v5:Value,v3=v5∧k v5 h4) kp))
def Cl118 (D:Orc):Prop:=∀ a0 h k kp,F118 D a0 h k kp→D 118 [a0] h k kp
theorem cl118:Cl118 (CS Tryz.prog):=fun _ _ _ _ hk=>fn0 wide lv118 (fn:=Tryz.f118) (by kernel_rfl) (by kernel_rfl) (by kernel_rfl) (by kernel_rfl) (cast (by kernel_rfl) hk)
def lv133:=lvM 20 [.raw] [] [] [kB 2] []
def F133 (D:Orc) (a0:Value) (h:H) (k:Kv) (kp:Kp):Prop :=
lenW a0 (fun n0=>cond (decide ((n0:Int)≤(64:Int))) (
lenW a0 (fun n1=>cond (!((n1:Int)==0)) (
lenW a0 (fun n2=>slAtW a0 (IntKind.i64.wrap ((n2:Int) - 1)) 1 (fun b3=>∃ x4:Int,rd h b3=some (.int .u32 x4)∧k (.bool (x4 != 0)) h))) (
k (.bool true) h))) (
k (.bool false) h))
def Cl133 (D:Orc):Prop:=∀ a0 h k kp,F133 D a0 h k kp→D 133 [a0] h k kp
theorem cl133:Cl133 (CS Tryz.prog):=fun _ _ _ _ hk=>fn0 wide lv133 (fn:=Tryz.f133) (by kernel_rfl) (by kernel_rfl) (by kernel_rfl) (by kernel_rfl) (cast (by kernel_rfl) hk)
def lv134:=lvM 21 [.raw] [(1,[kR 0])] [(1,[(0,[kR 0])])] [kR 2] []
def round134_1 (D:Orc) (I:List Value→H→Prop) (K:Kl) (a0:Value) (h0:H):Prop :=
lenW a0 (fun n1=>cond (decide ((n1:Int)>0)) (
lenW a0 (fun n2=>slAtW a0 (IntKind.i64.wrap ((n2:Int) - 1)) 1 (fun b3=>∃ x4:Int,rd h0 b3=some (.int .u32 x4)∧cond (x4==0) (
lenW a0 (fun n5=>slCutW a0 none (some (IntKind.i64.wrap ((n5:Int) - 1))) none 1 (fun s6=>I [s6] h0))) (
K (X.e 0) [a0] h0)))) (
K (X.e 0) [a0] h0))
def loop134_1 (D:Orc):=Lp1 (round134_1 D)
def L134 (D:Orc):Lor:=Lsel [(1,loop134_1 D)]
def F134 (D:Orc) (a0:Value) (h:H) (k:Kv) (kp:Kp):Prop :=
loop134_1 D [a0] h (fun x8 b1 h7=>xs x8 (k (nth b1 0) h7) (fun b3=>cond (Nat.beq b3 0) (
k (nth b1 0) h7) (False)) (fun c=>kp c h7))
def Cl134 (D:Orc):Prop:=∀ a0 h k kp,F134 D a0 h k kp→D 134 [a0] h k kp
theorem cl134:Cl134 (CS Tryz.prog):=fun _ _ _ _ hk=>fnL wide lv134 L134 (fn:=Tryz.f134) (by kernel_rfl) (by kernel_rfl) (by kernel_rfl) (l:=[nthC (allLoops (bodyOf Tryz.f134)) 0]) (by kernel_rfl) ⟨fun _ _ _ hk I H=>hk I fun _ _ hr=>H _ _ (cast (by kernel_rfl) hr),trivial⟩ (cast (by kernel_rfl) hk)
end Go.Proofs.YtkdneddcocggdaaGreatDoor.Am


