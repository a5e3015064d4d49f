/-
  Packed: 
-/
import Derived.Test.YtkdneddcocggdaaGreatDoorPkB
import Derived.Test.YtkdneddcocggdaaGreatDoorProg
set_option linter.unusedVariables false
set_option linter.unusedSimpArgs false
set_option linter.unnecessarySimpa false
namespace Go.Proofs.YtkdneddcocggdaaGreatDoor.Am
open Go Go.Proofs
set_option maxRecDepth 100000
theorem wide:Tryz.prog.follows .mixedOrders=true:=by kernel_rfl
def lv11:=lvM 118 [] [] [] [kB 0] [(10,[kR 1,kS 3,kR 9,kI 10,kI 13,kR 15,kS 16,kB 93])]
def j11__10 (D:Orc) (k:Kv) (kp:Kp) (a0 a1 a2 a3 a4 a5 a6 a7:Value) (b0:H):Prop :=
strW a1 (fun b1=>intK .i64 a3 (fun b2=>intK .i64 a4 (fun b3=>strW a6 (fun b4=>qQp a7 (fun b5=>cond b5 (
k (.bool false) b0) (
one (.int .i64 2)=true∧0<4∧one (.int .i64 1)=true∧1<4∧one (.int .i64 (-1))=true∧2<4∧one (.int .i64 0)=true∧3<4∧qQz b0 4 [(.int .i64 2),(.int .i64 1),(.int .i64 (-1)),(.int .i64 0)] (fun b6 b7=>D 14 [a0,b6] b7 (fun b8 b9=>∃ ba:Bool,b8=(.bool ba)∧cond ba (
cond (b1.toList==(ByteArray.mk #[112,108,117,115,40,115,40,95,48,41,44,122,101,114,111,41]).toList) (
ptrW a2 (fun bb=>∃ bc bd be bf bg bh:Value,rdN b9 bb 6=some [bc,bd,be,bf,bg,bh]∧ptrW a5 (fun bi=>∃ bj bk bl bm bn bo:Value,rdN b9 bi 6=some [bj,bk,bl,bm,bn,bo]∧D 19 [(.agg #[bc,bd,be,bf,bg,bh]),(.agg #[bj,bk,bl,bm,bn,bo])] b9 (fun bp bq=>∃ br:Bool,bp=(.bool br)∧cond br (
cond (b2==0) (
cond (b3==2) (
k (.bool (b4.toList==(ByteArray.mk #[115,121,109,32,122,101,114,111,32,48,10,115,121,109,32,115,32,49,10,115,121,109,32,112,108,117,115,32,50,10,114,117,108,101,32,112,108,117,115,40,122,101,114,111,44,95,48,41,32,45,62,32,95,48,10,110,111,100,101,32,108,112,111,32,48,10,111,118,101,114,32,112,108,117,115,32,115,10,110,111,114,109,97,108,32,115,40,122,101,114,111,41,10]).toList)) bq) (
k (.bool false) bq)) (
k (.bool false) bq)) (
k (.bool false) bq)) kp))) (
k (.bool false) b9)) (
k (.bool false) b9)) kp)))))))
def F11 (D:Orc) (h:H) (k:Kv) (kp:Kp):Prop :=
D 24 [] h (fun v0 h1=>∃ v2:Value,v0=v2∧D 12 [v2,(.string (ByteArray.mk #[112,108,117,115,40,115,40,95,48,41,44,122,101,114,111,41]))] h1 (fun v3 h4=>∃ v5:Value,∃ x6:Int,v3=(.tuple #[v5,(.int .i64 x6)])∧D 24 [] h4 (fun v7 h8=>∃ v9:Value,v7=v9∧one (.int .i64 2)=true∧0<4∧one (.int .i64 1)=true∧1<4∧one (.int .i64 (-1))=true∧2<4∧one (.int .i64 0)=true∧3<4∧qQz h8 4 [(.int .i64 2),(.int .i64 1),(.int .i64 (-1)),(.int .i64 0)] (fun ba bb=>D 15 [v9,ba] bb (fun bc bd=>∃ be:ByteArray,∃ bf:Int,bc=(.tuple #[(.string be),(.int .i64 bf)])∧D 24 [] bd (fun bg bh=>∃ bi:Value,bg=bi∧D 12 [bi,(.string (ByteArray.mk #[122,101,114,111,40,41]))] bh (fun bj bk=>∃ bl:Value,∃ bm:Int,bj=(.tuple #[bl,(.int .i64 bm)])∧D 24 [] bk (fun bn bo=>∃ bp:Value,bn=bp∧D 12 [bp,(.string (ByteArray.mk #[95,48,49]))] bo (fun bq br=>∃ bs:Value,∃ bt:Int,bq=(.tuple #[bs,(.int .i64 bt)])∧D 17 [(.string (ByteArray.mk #[115,121,109,32,122,101,114,111,32,48,10,115,121,109,32,115,32,49,10,115,121,109,32,112,108,117,115,32,50,10,114,117,108,101,32,112,108,117,115,40,122,101,114,111,44,95,48,41,32,45,62,32,95,48,10,110,111,100,101,32,108,112,111,32,48,10,111,118,101,114,32,112,108,117,115,32,115,10,110,111,114,109,97,108,32,115,40,122,101,114,111,41]))] br (fun bu bv=>∃ bw bx bz c0 c1 c2:Value,∃ c3 c4:Int,bu=(.tuple #[(.agg #[bw,bx,bz,c0,c1,c2]),(.int .i64 c3),(.int .i64 c4)])∧newW bv [(.slice none 0 0),(.slice none 0 0),(.slice none 0 0),(.slice none 0 0),(.slice none 0 0),(.slice none 0 0)] (fun c5 c6=>ptrW c5 (fun c7=>6=6∧List.all [bw,bx,bz,c0,c1,c2] one=true∧∃ c8,wr c6 c7 [bw,bx,bz,c0,c1,c2]=some c8∧D 17 [(.string (ByteArray.mk #[99,104,101,99,107,10,115,121,109,32,102,32,49]))] c8 (fun c9 ca=>∃ cb cc cd ce cf cg:Value,∃ ch ci:Int,c9=(.tuple #[(.agg #[cb,cc,cd,ce,cf,cg]),(.int .i64 ch),(.int .i64 ci)])∧newW ca [(.slice none 0 0),(.slice none 0 0),(.slice none 0 0),(.slice none 0 0),(.slice none 0 0),(.slice none 0 0)] (fun cj ck=>ptrW cj (fun cl=>6=6∧List.all [cb,cc,cd,ce,cf,cg] one=true∧∃ cm,wr ck cl [cb,cc,cd,ce,cf,cg]=some cm∧D 24 [] cm (fun cn co=>∃ cp:Value,cn=cp∧one (.int .i64 2)=true∧0<3∧one (.int .i64 0)=true∧1<3∧one (.int .i64 (-1))=true∧2<3∧qQz co 3 [(.int .i64 2),(.int .i64 0),(.int .i64 (-1))] (fun cq cr=>one (.int .i64 (-1))=true∧0<1∧qQz cr 1 [(.int .i64 (-1))] (fun cs ct=>one cq=true∧0<2∧one cs=true∧1<2∧2=2∧0+2≤2∧qQz ct 1 [cq,cs] (fun cu cv=>one (.int .i64 2)=true∧0<2∧one (.int .i64 1)=true∧1<2∧2=2∧0+2≤2∧qQz cv 1 [(.int .i64 2),(.int .i64 1)] (fun cw cx=>one (.int .i64 1)=true∧0<4∧one cw=true∧1<4∧4=4∧0+4≤4∧qQz cx 1 [(.int .i64 1),cw,(.slice none 0 0),(.int .i64 0)] (fun cy cz=>one (.int .i64 1)=true∧0<2∧one (.int .i64 0)=true∧1<2∧qQz cz 2 [(.int .i64 1),(.int .i64 0)] (fun d0 d1=>one d0=true∧0<1∧qQz d1 1 [d0] (fun d2 d3=>one (.string (ByteArray.mk #[110,111,114,109,97,108]))=true∧0<2∧one d2=true∧1<2∧2=2∧0+2≤2∧qQz d3 1 [(.string (ByteArray.mk #[110,111,114,109,97,108])),d2] (fun d4 d5=>one cp=true∧0<6∧one cu=true∧1<6∧one cy=true∧4<6∧one d4=true∧5<6∧newW d5 [(.slice none 0 0),(.slice none 0 0),(.slice none 0 0),(.slice none 0 0),(.slice none 0 0),(.slice none 0 0)] (fun d6 d7=>ptrW d6 (fun d8=>6=6∧List.all [cp,cu,(.slice none 0 0),(.slice none 0 0),cy,d4] one=true∧∃ d9,wr d7 d8 [cp,cu,(.slice none 0 0),(.slice none 0 0),cy,d4]=some d9∧ptrW d6 (fun da=>∃ db dc dd de df dg:Value,rdN d9 da 6=some [db,dc,dd,de,df,dg]∧D 20 [(.agg #[db,dc,dd,de,df,dg])] d9 (fun dh di=>∃ dj:ByteArray,∃ dk:Int,dh=(.tuple #[(.string dj),(.int .i64 dk)])∧cond (!(x6 != 0)) (
cond (!(bf != 0)) (
cond (!(bm != 224)) (
cond (!(bt != 225)) (
cond (!(c4 != 0)) (
cond (!(ci != 222)) (
j11__10 D k kp v5 (.string be) c5 (.int .i64 c3) (.int .i64 ch) d6 (.string dj) (.bool (dk != 0)) di) (
j11__10 D k kp v5 (.string be) c5 (.int .i64 c3) (.int .i64 ch) d6 (.string dj) (.bool true) di)) (
j11__10 D k kp v5 (.string be) c5 (.int .i64 c3) (.int .i64 ch) d6 (.string dj) (.bool true) di)) (
j11__10 D k kp v5 (.string be) c5 (.int .i64 c3) (.int .i64 ch) d6 (.string dj) (.bool true) di)) (
j11__10 D k kp v5 (.string be) c5 (.int .i64 c3) (.int .i64 ch) d6 (.string dj) (.bool true) di)) (
j11__10 D k kp v5 (.string be) c5 (.int .i64 c3) (.int .i64 ch) d6 (.string dj) (.bool true) di)) (
j11__10 D k kp v5 (.string be) c5 (.int .i64 c3) (.int .i64 ch) d6 (.string dj) (.bool true) di)) kp)))))))))))) kp))) kp))) kp) kp) kp) kp) kp) kp)) kp) kp) kp
def Cl11 (D:Orc):Prop:=∀  h k kp,F11 D  h k kp→D 11 [] h k kp
theorem cl11:Cl11 (CS Tryz.prog):=fun  _ _ _ hk=>fn0 wide lv11 (fn:=Tryz.f11) (by kernel_rfl) (by kernel_rfl) (by kernel_rfl) (by kernel_rfl) (cast (by kernel_rfl) hk)
def lv12:=lvM 23 [.raw,.str] [] [] [kR 4,kR 5] []
def F12 (D:Orc) (E:Dorc) (a0 a1:Value) (h:H) (k:Kv) (kp:Kp):Prop :=
strW a1 (fun s0=>newW h [(.int .i64 0)] (fun p1 h2=>D 27 [a0] h2 (fun v9 b4=>∃ b5:Int,v9=(.int .i64 b5)∧cond (b5 != 0) (
ptrW p1 (fun b6=>one (.int .i64 b5)=true∧1=1∧∃ b7,wr1 b4 b6 (.int .i64 b5)=some b7∧qQu Tryz.prog E (fun h=>ptrW p1 (fun b8=>∃ b9:Int,rd h b8=some (.int .i64 b9)∧k (.tuple #[(.slice none 0 0),(.int .i64 b9)]) h)) kp (Deferred.mk (Target.fn (Fn.func 25) #[p1]) (#[]++[].toArray)::[]) FrameMode.returning b7)) (
D 28 [(.bool (decide ((s0.size:Int)≤(65536:Int)))),(.int .i64 220)] b4 (fun ba bb=>ba=(.tuple #[])∧D 29 [(.string s0)] bb (fun bc bd=>∃ be:Bool,bc=(.bool be)∧D 28 [(.bool be),(.int .i64 221)] bd (fun bf bg=>bf=(.tuple #[])∧D 30 [a0,(.string s0)] bg (fun bh bi=>∃ bj:Value,bh=bj∧ptrW p1 (fun bk=>one (.int .i64 0)=true∧1=1∧∃ bl,wr1 bi bk (.int .i64 0)=some bl∧qQu Tryz.prog E (fun h=>ptrW p1 (fun bm=>∃ bn:Int,rd h bm=some (.int .i64 bn)∧k (.tuple #[bj,(.int .i64 bn)]) h)) kp (Deferred.mk (Target.fn (Fn.func 25) #[p1]) (#[]++[].toArray)::[]) FrameMode.returning bl)) (fun c h=>qQu Tryz.prog E (fun h=>ptrW p1 (fun bo=>∃ bp:Int,rd h bo=some (.int .i64 bp)∧k (.tuple #[(.slice none 0 0),(.int .i64 bp)]) h)) kp (Deferred.mk (Target.fn (Fn.func 25) #[p1]) (#[]++[].toArray)::[]) (FrameMode.panicking c) h)) (fun c h=>qQu Tryz.prog E (fun h=>ptrW p1 (fun bq=>∃ br:Int,rd h bq=some (.int .i64 br)∧k (.tuple #[(.slice none 0 0),(.int .i64 br)]) h)) kp (Deferred.mk (Target.fn (Fn.func 25) #[p1]) (#[]++[].toArray)::[]) (FrameMode.panicking c) h)) (fun c h=>qQu Tryz.prog E (fun h=>ptrW p1 (fun bs=>∃ bt:Int,rd h bs=some (.int .i64 bt)∧k (.tuple #[(.slice none 0 0),(.int .i64 bt)]) h)) kp (Deferred.mk (Target.fn (Fn.func 25) #[p1]) (#[]++[].toArray)::[]) (FrameMode.panicking c) h)) (fun c h=>qQu Tryz.prog E (fun h=>ptrW p1 (fun bu=>∃ bv:Int,rd h bu=some (.int .i64 bv)∧k (.tuple #[(.slice none 0 0),(.int .i64 bv)]) h)) kp (Deferred.mk (Target.fn (Fn.func 25) #[p1]) (#[]++[].toArray)::[]) (FrameMode.panicking c) h))) (fun c h=>qQu Tryz.prog E (fun h=>ptrW p1 (fun bw=>∃ x8:Int,rd h bw=some (.int .i64 x8)∧k (.tuple #[(.slice none 0 0),(.int .i64 x8)]) h)) kp (Deferred.mk (Target.fn (Fn.func 25) #[p1]) (#[]++[].toArray)::[]) (FrameMode.panicking c) h)))
def Cl12 (D:Orc) (E:Dorc):Prop:=∀ a0 a1 h k kp,F12 D E a0 a1 h k kp→D 12 [a0,a1] h k kp
theorem cl12:Cl12 (CS Tryz.prog) (DS Tryz.prog):=fun _ _ _ _ _ hk=>fnDL wide lv12 (fun _=>L0) (fn:=Tryz.f12) (by kernel_rfl) (by kernel_rfl) (by kernel_rfl) (l:=[]) (by kernel_rfl) trivial (cast (by kernel_rfl) hk)
def lv14:=lvM 26 [.raw,.raw] [(4,[kR 0,kR 1,kI 5])] [(4,[(0,[])])] [kB 4] []
def round14_4 (D:Orc) (I:List Value→H→Prop) (K:Kl) (a0 a1 a2:Value) (h2:H):Prop :=
intK .i64 a2 (fun x3=>lenW a0 (fun n4=>cond (decide (x3<(n4:Int))) (
qQm a0 x3 1 (fun b3=>∃ x6:Int,rd h2 b3=some (.int .i64 x6)∧qQm a1 x3 1 (fun b5=>∃ x8:Int,rd h2 b5=some (.int .i64 x8)∧cond (x6 != x8) (
K X.r [(.bool false)] h2) (
I [a0,a1,(.int .i64 (IntKind.i64.wrap (x3+1)))] h2)))) (
K (X.e 0) [] h2)))
def loop14_4 (D:Orc):=Lp3 (round14_4 D)
def L14 (D:Orc):Lor:=Lsel [(4,loop14_4 D)]
def F14 (D:Orc) (a0 a1:Value) (h:H) (k:Kv) (kp:Kp):Prop :=
lenW a0 (fun n0=>lenW a1 (fun n1=>cond ((n0:Int) != (n1:Int)) (
k (.bool false) h) (
loop14_4 D [a0,a1,(.int .i64 0)] h (fun b2 b3 h9=>xs b2 (qQp (nth b3 0) (fun b5=>k (.bool b5) h9)) (fun b6=>cond (Nat.beq b6 0) (
k (.bool true) h9) (False)) (fun c=>kp c h9)))))
def Cl14 (D:Orc):Prop:=∀ a0 a1 h k kp,F14 D a0 a1 h k kp→D 14 [a0,a1] h k kp
theorem cl14:Cl14 (CS Tryz.prog):=fun _ _ _ _ _ hk=>fnL wide lv14 L14 (fn:=Tryz.f14) (by kernel_rfl) (by kernel_rfl) (by kernel_rfl) (l:=[nthC (qQi (qQs Tryz.f14)) 0]) (by kernel_rfl) ⟨fun _ _ _ hk I H=>hk I fun _ _ _ _ hr=>H _ _ (cast (by kernel_rfl) hr),trivial⟩ (cast (by kernel_rfl) hk)
def lv15:=lvM 20 [.raw,.raw] [] [] [kS 4,kI 5] []
def F15 (D:Orc) (a0 a1:Value) (h:H) (k:Kv) (kp:Kp):Prop :=
D 34 [a0,a1] h (fun v0 h1=>∃ x2:Int,v0=(.int .i64 x2)∧cond (x2 != 0) (
k (.tuple #[(.string (ByteArray.mk #[])),(.int .i64 x2)]) h1) (
newA Tryz.prog 69 h1 [(.pointer none),(.slice none 0 0)] (fun p3 h4=>D 35 [p3,a0,a1] h4 (fun v5 h6=>∃ v7:Value,v5=v7∧D 36 [p3] h6 (fun v8 h9=>∃ ba:Int,v8=(.int .i64 ba)∧cond (decide (ba>65536)) (
k (.tuple #[(.string (ByteArray.mk #[])),(.int .i64 220)]) h9) (
D 37 [p3] h9 (fun bb bc=>∃ bd:ByteArray,bb=(.string bd)∧k (.tuple #[(.string bd),(.int .i64 0)]) bc) kp)) kp) kp))) kp
def Cl15 (D:Orc):Prop:=∀ a0 a1 h k kp,F15 D a0 a1 h k kp→D 15 [a0,a1] h k kp
theorem cl15:Cl15 (CS Tryz.prog):=fun _ _ _ _ _ hk=>fn0 wide lv15 (fn:=Tryz.f15) (by kernel_rfl) (by kernel_rfl) (by kernel_rfl) (by kernel_rfl) (cast (by kernel_rfl) hk)
def lv17:=lvM 48 [.str] [] [] [kR 2,kR 3,kR 4] [(2,[kS 0,kR 2,kR 3,kR 4,kB 15]),(8,[kR 3,kR 5]),(12,[kR 5,kR 7,kB 40])]
def j17_r_12 (D:Orc) (l:Nat) (q:LoopQ) (e:Env) (k:Kv) (kp:Kp) (a0 a1 a2:Value) (b0:H):Prop :=
qQp a2 (fun b1=>cond b1 (
ptrW a0 (fun b2=>∃ b3:Value,rd b0 b2=some b3∧D 44 [b3,a1] b0 (fun b4 b5=>b4=(.tuple #[])∧b5 l=some (VObj.lp LoopState.busy none e q)∧k (.bool true) (H.set b5 l (VObj.lp LoopState.ready none e q))) kp)) (
b0 l=some (VObj.lp LoopState.busy none e q)∧k (.bool true) (H.set b0 l (VObj.lp LoopState.ready none e q))))
def xIw (D:Orc) (l:Nat) (q:LoopQ) (e:Env) (a0 a1 y0:Value) (h:H) (k:Kv) (kp:Kp):Prop :=
h l=some (VObj.lp LoopState.ready none e q)∧ptrW a0 (fun b1=>∃ b2:Int,rd (H.set h l (VObj.lp LoopState.busy none e q)) b1=some (.int .i64 b2)∧ptrW a0 (fun b3=>one (.int .i64 (IntKind.i64.wrap (b2+1)))=true∧1=1∧∃ b4,wr1 (H.set h l (VObj.lp LoopState.busy none e q)) b3 (.int .i64 (IntKind.i64.wrap (b2+1)))=some b4∧D 42 [y0,(.func (.func 43) #[] #[])] b4 (fun b5 b6=>∃ b7:Value,b5=b7∧lenW b7 (fun b8=>cond (decide ((b8:Int)>0)) (
qQm b7 0 1 (fun b9=>∃ ba:ByteArray,rd b6 b9=some (.string ba)∧qZc ba 0 (fun bb=>j17_r_12 D l q e k kp a1 b7 (.bool (bb != 35)) b6))) (
j17_r_12 D l q e k kp a1 b7 (.bool false) b6))) kp))
def Rn17 (D:Orc):Prop:=∀ l f r a0 a1 y0 h k kp,fnOk Tryz.prog f=true→h l=some (VObj.lp LoopState.ready none (qZu 48 [kR 3,kR 5] [a0,a1] 0) (rgQ Tryz.f17 f r))→xIw D l (rgQ Tryz.f17 f r) (qZu 48 [kR 3,kR 5] [a0,a1] 0) a0 a1 y0 h k kp→D (Tryz.prog.funcs.size+l) [y0] h k kp
theorem rn17:Rn17 (CS Tryz.prog):=fun _ _ _ _ _ _ _ _ _ hf hl hk=>qSa (L:=L0) (lv:=lv17) wide hf (by kernel_rfl) (by kernel_rfl) (by kernel_rfl) (by kernel_rfl) hl (cast (by kernel_rfl) hk)
def j17__2 (D:Orc) (E:Dorc) (ds:List Deferred) (k:Kv) (kp:Kp) (a0 a1 a2 a3 a4:Value) (b0:H):Prop :=
strW a0 (fun b1=>qQp a4 (fun b2=>cond b2 (
ptrW a1 (fun b3=>6=6∧List.all [(.slice none 0 0),(.slice none 0 0),(.slice none 0 0),(.slice none 0 0),(.slice none 0 0),(.slice none 0 0)] one=true∧∃ b4,wr b0 b3 [(.slice none 0 0),(.slice none 0 0),(.slice none 0 0),(.slice none 0 0),(.slice none 0 0),(.slice none 0 0)]=some b4∧ptrW a2 (fun b5=>one (.int .i64 0)=true∧1=1∧∃ b6,wr1 b4 b5 (.int .i64 0)=some b6∧ptrW a3 (fun b7=>one (.int .i64 220)=true∧1=1∧∃ b8,wr1 b6 b7 (.int .i64 220)=some b8∧qQu Tryz.prog E (fun h=>ptrW a1 (fun b9=>∃ ba bb bc bd be bf:Value,rdN h b9 6=some [ba,bb,bc,bd,be,bf]∧ptrW a2 (fun bg=>∃ bh:Int,rd h bg=some (.int .i64 bh)∧ptrW a3 (fun bi=>∃ bj:Int,rd h bi=some (.int .i64 bj)∧k (.tuple #[(.agg #[ba,bb,bc,bd,be,bf]),(.int .i64 bh),(.int .i64 bj)]) h)))) kp ds FrameMode.returning b8)))) (
D 29 [(.string b1)] b0 (fun bk bl=>∃ bm:Bool,bk=(.bool bm)∧cond (!bm) (
ptrW a1 (fun bn=>6=6∧List.all [(.slice none 0 0),(.slice none 0 0),(.slice none 0 0),(.slice none 0 0),(.slice none 0 0),(.slice none 0 0)] one=true∧∃ bo,wr bl bn [(.slice none 0 0),(.slice none 0 0),(.slice none 0 0),(.slice none 0 0),(.slice none 0 0),(.slice none 0 0)]=some bo∧ptrW a2 (fun bp=>one (.int .i64 0)=true∧1=1∧∃ bq,wr1 bo bp (.int .i64 0)=some bq∧ptrW a3 (fun br=>one (.int .i64 221)=true∧1=1∧∃ bs,wr1 bq br (.int .i64 221)=some bs∧qQu Tryz.prog E (fun h=>ptrW a1 (fun bt=>∃ bu bv bw bx bz c0:Value,rdN h bt 6=some [bu,bv,bw,bx,bz,c0]∧ptrW a2 (fun c1=>∃ c2:Int,rd h c1=some (.int .i64 c2)∧ptrW a3 (fun c3=>∃ c4:Int,rd h c3=some (.int .i64 c4)∧k (.tuple #[(.agg #[bu,bv,bw,bx,bz,c0]),(.int .i64 c2),(.int .i64 c4)]) h)))) kp ds FrameMode.returning bs)))) (
newW bl [(.slice none 0 0),(.slice none 0 0),(.slice none 0 0),(.slice none 0 0),(.slice none 0 0),(.slice none 0 0),(.bool false)] (fun c5 c6=>newW c6 [(.pointer none)] (fun c7 c8=>ptrW c7 (fun c9=>one c5=true∧1=1∧∃ ca,wr1 c8 c9 c5=some ca∧D 41 [(.string b1),(.string (ByteArray.mk #[10]))] ca (fun cb cc=>∃ cd:Value,cb=cd∧xQl Tryz.prog D cd (qZu 48 [kR 3,kR 5] [a2,c7] 0) (rgQ Tryz.f17 0 0).params (rgQ Tryz.f17 0 0).assign (rgQ Tryz.f17 0 0).body cc (fun ce cf=>ptrW c7 (fun cg=>∃ ch:Value,rd cf cg=some ch∧qQh ch=true∧ptrW ch (fun ci=>∃ cj ck cl cm cn co:Value,rdN cf (Addr.add ci 0) 6=some [cj,ck,cl,cm,cn,co]∧ptrW a1 (fun cp=>6=6∧List.all [cj,ck,cl,cm,cn,co] one=true∧∃ cq,wr cf cp [cj,ck,cl,cm,cn,co]=some cq∧ptrW a2 (fun cr=>one (.int .i64 0)=true∧1=1∧∃ cs,wr1 cq cr (.int .i64 0)=some cs∧ptrW a3 (fun ct=>one (.int .i64 0)=true∧1=1∧∃ cu,wr1 cs ct (.int .i64 0)=some cu∧qQu Tryz.prog E (fun h=>ptrW a1 (fun cv=>∃ cw cx cy cz d0 d1:Value,rdN h cv 6=some [cw,cx,cy,cz,d0,d1]∧ptrW a2 (fun d2=>∃ d3:Int,rd h d2=some (.int .i64 d3)∧ptrW a3 (fun d4=>∃ d5:Int,rd h d4=some (.int .i64 d5)∧k (.tuple #[(.agg #[cw,cx,cy,cz,d0,d1]),(.int .i64 d3),(.int .i64 d5)]) h)))) kp (mark ce::(Deferred.mk (Target.fn (Fn.func 40) #[a3,a1]) (#[]++[].toArray)::ds)) FrameMode.returning cu)))))) (fun c ce h=>(fun c h=>qQu Tryz.prog E (fun h=>ptrW a1 (fun d6=>∃ d7 d8 d9 da db dc:Value,rdN h d6 6=some [d7,d8,d9,da,db,dc]∧ptrW a2 (fun dd=>∃ de:Int,rd h dd=some (.int .i64 de)∧ptrW a3 (fun df=>∃ dg:Int,rd h df=some (.int .i64 dg)∧k (.tuple #[(.agg #[d7,d8,d9,da,db,dc]),(.int .i64 de),(.int .i64 dg)]) h)))) kp (mark ce::(Deferred.mk (Target.fn (Fn.func 40) #[a3,a1]) (#[]++[].toArray)::ds)) (FrameMode.panicking c) h) c h)) (fun c h=>qQu Tryz.prog E (fun h=>ptrW a1 (fun dh=>∃ di dj dk dl dm dn:Value,rdN h dh 6=some [di,dj,dk,dl,dm,dn]∧ptrW a2 (fun dp=>∃ dq:Int,rd h dp=some (.int .i64 dq)∧ptrW a3 (fun dr=>∃ dt:Int,rd h dr=some (.int .i64 dt)∧k (.tuple #[(.agg #[di,dj,dk,dl,dm,dn]),(.int .i64 dq),(.int .i64 dt)]) h)))) kp (Deferred.mk (Target.fn (Fn.func 40) #[a3,a1]) (#[]++[].toArray)::ds) (FrameMode.panicking c) h)))))) (fun c h=>qQu Tryz.prog E (fun h=>ptrW a1 (fun du=>∃ dv dw dx dy dz e0:Value,rdN h du 6=some [dv,dw,dx,dy,dz,e0]∧ptrW a2 (fun e1=>∃ e2:Int,rd h e1=some (.int .i64 e2)∧ptrW a3 (fun e3=>∃ e4:Int,rd h e3=some (.int .i64 e4)∧k (.tuple #[(.agg #[dv,dw,dx,dy,dz,e0]),(.int .i64 e2),(.int .i64 e4)]) h)))) kp ds (FrameMode.panicking c) h))))
def F17 (D:Orc) (E:Dorc) (a0:Value) (h:H) (k:Kv) (kp:Kp):Prop :=
strW a0 (fun s0=>newW h [(.slice none 0 0),(.slice none 0 0),(.slice none 0 0),(.slice none 0 0),(.slice none 0 0),(.slice none 0 0)] (fun p1 h2=>newW h2 [(.int .i64 0)] (fun b3 b4=>newW b4 [(.int .i64 0)] (fun b5 b6=>cond (!(decide ((s0.size:Int)>65536))) (
D 39 [(.string s0),(.string (ByteArray.mk #[10]))] b6 (fun b7 b8=>∃ b9:Int,b7=(.int .i64 b9)∧j17__2 D E [] k kp (.string s0) p1 b3 b5 (.bool (decide (b9≥4096))) b8) (fun c h=>qQu Tryz.prog E (fun h=>ptrW p1 (fun ba=>∃ bb bc bd be bf bg:Value,rdN h ba 6=some [bb,bc,bd,be,bf,bg]∧ptrW b3 (fun bh=>∃ bi:Int,rd h bh=some (.int .i64 bi)∧ptrW b5 (fun bj=>∃ bk:Int,rd h bj=some (.int .i64 bk)∧k (.tuple #[(.agg #[bb,bc,bd,be,bf,bg]),(.int .i64 bi),(.int .i64 bk)]) h)))) kp [] (FrameMode.panicking c) h)) (
j17__2 D E [] k kp (.string s0) p1 b3 b5 (.bool true) b6)))))
def Cl17 (D:Orc) (E:Dorc):Prop:=∀ a0 h k kp,F17 D E a0 h k kp→D 17 [a0] h k kp
theorem cl17:Cl17 (CS Tryz.prog) (DS Tryz.prog):=fun _ _ _ _ hk=>fnDL wide lv17 (fun _=>L0) (fn:=Tryz.f17) (by kernel_rfl) (by kernel_rfl) (by kernel_rfl) (l:=[]) (by kernel_rfl) trivial (cast (by kernel_rfl) hk)
def lv19:=lvM 147 [.raw,.raw] [(4,[kR 2,kR 3,kI 5]),(9,[kR 2,kR 3,kI 6]),(14,[kR 2,kR 3,kI 7]),(21,[kR 2,kR 3,kI 7,kR 8,kR 9,kI 10])] [(4,[(0,[kR 2,kR 3])]),(9,[(2,[kR 2,kR 3])]),(14,[(4,[])]),(21,[(6,[kR 2,kR 3,kI 7])])] [kB 4] [(2,[kR 2,kR 3,kB 59]),(19,[kR 2,kR 3,kI 7,kR 8,kR 9,kB 127])]
def round19_4 (D:Orc) (I:List Value→H→Prop) (K:Kl) (a0 a1 a2:Value) (b0:H):Prop :=
intK .i64 a2 (fun b1=>ptrW a0 (fun b2=>∃ b3:Value,rd b0 (Addr.add b2 0)=some b3∧lenW b3 (fun b4=>cond (decide (b1<(b4:Int))) (
ptrW a0 (fun b5=>∃ b6:Value,rd b0 (Addr.add b5 0)=some b6∧qQm b6 b1 2 (fun b7=>∃ b8:ByteArray,∃ b9:Int,rdN b0 b7 2=some [(.string b8),(.int .i64 b9)]∧ptrW a1 (fun ba=>∃ bb:Value,rd b0 (Addr.add ba 0)=some bb∧qQm bb b1 2 (fun bc=>∃ bd:ByteArray,∃ be:Int,rdN b0 bc 2=some [(.string bd),(.int .i64 be)]∧cond (!((b8.toList==bd.toList) && ((b9==be) && true))) (
K X.r [(.bool false)] b0) (
I [a0,a1,(.int .i64 (IntKind.i64.wrap (b1+1)))] b0)))))) (
K (X.e 0) [a0,a1] b0))))
def loop19_4 (D:Orc):=Lp3 (round19_4 D)
def round19_9 (D:Orc) (I:List Value→H→Prop) (K:Kl) (a0 a1 a2:Value) (b0:H):Prop :=
intK .i64 a2 (fun b1=>ptrW a0 (fun b2=>∃ b3:Value,rd b0 (Addr.add b2 4)=some b3∧lenW b3 (fun b4=>cond (decide (b1<(b4:Int))) (
ptrW a0 (fun b5=>∃ b6:Value,rd b0 (Addr.add b5 4)=some b6∧qQm b6 b1 4 (fun b7=>∃ b8:Int,∃ b9 ba:Value,∃ bb:Int,rdN b0 b7 4=some [(.int .i64 b8),b9,ba,(.int .i64 bb)]∧ptrW a1 (fun bc=>∃ bd:Value,rd b0 (Addr.add bc 4)=some bd∧qQm bd b1 4 (fun be=>∃ bf:Int,∃ bg bh:Value,∃ bi:Int,rdN b0 be 4=some [(.int .i64 bf),bg,bh,(.int .i64 bi)]∧D 51 [(.agg #[(.int .i64 b8),b9,ba,(.int .i64 bb)]),(.agg #[(.int .i64 bf),bg,bh,(.int .i64 bi)])] b0 (fun bj bk=>∃ bl:Bool,bj=(.bool bl)∧cond (!bl) (
K X.r [(.bool false)] bk) (
I [a0,a1,(.int .i64 (IntKind.i64.wrap (b1+1)))] bk)) (fun c h=>K (X.p c) [] h)))))) (
K (X.e 2) [a0,a1] b0))))
def loop19_9 (D:Orc):=Lp3 (round19_9 D)
def round19_21 (D:Orc) (I:List Value→H→Prop) (K:Kl) (a0 a1 a2 a3 a4 a5:Value) (b0:H):Prop :=
intK .i64 a2 (fun b1=>intK .i64 a5 (fun b2=>ptrW a3 (fun b3=>∃ b4:Value,rd b0 (Addr.add b3 1)=some b4∧lenW b4 (fun b5=>cond (decide (b2<(b5:Int))) (
ptrW a3 (fun b6=>∃ b7:Value,rd b0 (Addr.add b6 1)=some b7∧qQm b7 b2 1 (fun b8=>∃ b9:Value,rd b0 b8=some b9∧ptrW a4 (fun ba=>∃ bb:Value,rd b0 (Addr.add ba 1)=some bb∧qQm bb b2 1 (fun bc=>∃ bd:Value,rd b0 bc=some bd∧D 14 [b9,bd] b0 (fun be bf=>∃ bg:Bool,be=(.bool bg)∧cond (!bg) (
K X.r [(.bool false)] bf) (
I [a0,a1,(.int .i64 b1),a3,a4,(.int .i64 (IntKind.i64.wrap (b2+1)))] bf)) (fun c h=>K (X.p c) [] h)))))) (
K (X.e 6) [a0,a1,(.int .i64 b1)] b0)))))
def loop19_21 (D:Orc):=Lp6 (round19_21 D)
def j19_14_19 (D:Orc) (I:List Value→H→Prop) (K:Kl) (a0 a1 a2 a3 a4 a5:Value) (b0:H):Prop :=
intK .i64 a2 (fun b1=>qQp a5 (fun b2=>cond b2 (
K X.r [(.bool false)] b0) (
loop19_21 D [a0,a1,(.int .i64 b1),a3,a4,(.int .i64 0)] b0 (fun b3 b4 b5=>xs b3 (qQp (nth b4 0) (fun b6=>K X.r [(.bool b6)] b5)) (fun b7=>cond (Nat.beq b7 6) (
intK .i64 (nth b4 2) (fun b8=>I [(nth b4 0),(nth b4 1),(.int .i64 (IntKind.i64.wrap (b8+1)))] b5)) (False)) (fun c=>(fun c h=>K (X.p c) [] h) c b5)))))
def round19_14 (D:Orc) (I:List Value→H→Prop) (K:Kl) (a0 a1 a2:Value) (b0:H):Prop :=
intK .i64 a2 (fun b1=>ptrW a0 (fun b2=>∃ b3:Value,rd b0 (Addr.add b2 5)=some b3∧lenW b3 (fun b4=>cond (decide (b1<(b4:Int))) (
ptrW a0 (fun b5=>∃ b6:Value,rd b0 (Addr.add b5 5)=some b6∧qQm b6 b1 2 (fun b7=>∃ b8:ByteArray,∃ b9:Value,rdN b0 b7 2=some [(.string b8),b9]∧newW b0 [(.string (ByteArray.mk #[])),(.slice none 0 0)] (fun ba bb=>ptrW ba (fun bc=>2=2∧List.all [(.string b8),b9] one=true∧∃ bd,wr bb bc [(.string b8),b9]=some bd∧ptrW a1 (fun be=>∃ bf:Value,rd bd (Addr.add be 5)=some bf∧qQm bf b1 2 (fun bg=>∃ bh:ByteArray,∃ bi:Value,rdN bd bg 2=some [(.string bh),bi]∧newW bd [(.string (ByteArray.mk #[])),(.slice none 0 0)] (fun bj bk=>ptrW bj (fun bl=>2=2∧List.all [(.string bh),bi] one=true∧∃ bm,wr bk bl [(.string bh),bi]=some bm∧ptrW ba (fun bn=>∃ bo:ByteArray,rd bm (Addr.add bn 0)=some (.string bo)∧ptrW bj (fun bp=>∃ bq:ByteArray,rd bm (Addr.add bp 0)=some (.string bq)∧cond (!(!(bo.toList==bq.toList))) (
ptrW ba (fun br=>∃ bs:Value,rd bm (Addr.add br 1)=some bs∧lenW bs (fun bt=>ptrW bj (fun bu=>∃ bv:Value,rd bm (Addr.add bu 1)=some bv∧lenW bv (fun bw=>j19_14_19 D I K a0 a1 (.int .i64 b1) ba bj (.bool ((bt:Int) != (bw:Int))) bm))))) (
j19_14_19 D I K a0 a1 (.int .i64 b1) ba bj (.bool true) bm)))))))))))) (
K (X.e 4) [] b0))))
def loop19_14 (D:Orc):=Lp3 (round19_14 D)
def j19__2 (D:Orc) (k:Kv) (kp:Kp) (a0 a1 a2:Value) (b0:H):Prop :=
qQp a2 (fun b1=>cond b1 (
k (.bool false) b0) (
loop19_4 D [a0,a1,(.int .i64 0)] b0 (fun b2 b3 b4=>xs b2 (qQp (nth b3 0) (fun b5=>k (.bool b5) b4)) (fun b6=>cond (Nat.beq b6 0) (
loop19_9 D [(nth b3 0),(nth b3 1),(.int .i64 0)] b4 (fun b7 b8 b9=>xs b7 (qQp (nth b8 0) (fun ba=>k (.bool ba) b9)) (fun bb=>cond (Nat.beq bb 2) (
loop19_14 D [(nth b8 0),(nth b8 1),(.int .i64 0)] b9 (fun bc bd be=>xs bc (qQp (nth bd 0) (fun bf=>k (.bool bf) be)) (fun bg=>cond (Nat.beq bg 4) (
k (.bool true) be) (False)) (fun c=>kp c be))) (False)) (fun c=>kp c b9))) (False)) (fun c=>kp c b4))))
def L19 (D:Orc):Lor:=Lsel [(4,loop19_4 D),(9,loop19_9 D),(14,loop19_14 D),(21,loop19_21 D)]
def F19 (D:Orc) (a0 a1:Value) (h:H) (k:Kv) (kp:Kp):Prop :=
aggW a0 (fun l0=>newW h l0 (fun p1 h2=>aggW a1 (fun l3=>newW h2 l3 (fun p4 h5=>ptrW p1 (fun b6=>∃ v7:Value,rd h5 (Addr.add b6 0)=some v7∧lenW v7 (fun n8=>ptrW p4 (fun b9=>∃ ba:Value,rd h5 (Addr.add b9 0)=some ba∧lenW ba (fun bb=>cond (!((n8:Int) != (bb:Int))) (
ptrW p1 (fun bc=>∃ bd:Value,rd h5 (Addr.add bc 1)=some bd∧ptrW p4 (fun be=>∃ bf:Value,rd h5 (Addr.add be 1)=some bf∧D 49 [bd,bf] h5 (fun bg bh=>∃ bi:Bool,bg=(.bool bi)∧cond (!(!bi)) (
ptrW p1 (fun bj=>∃ bk:Value,rd bh (Addr.add bj 2)=some bk∧ptrW p4 (fun bl=>∃ bm:Value,rd bh (Addr.add bl 2)=some bm∧D 49 [bk,bm] bh (fun bn bo=>∃ bp:Bool,bn=(.bool bp)∧cond (!(!bp)) (
ptrW p1 (fun bq=>∃ br:Value,rd bo (Addr.add bq 3)=some br∧ptrW p4 (fun bs=>∃ bt:Value,rd bo (Addr.add bs 3)=some bt∧D 50 [br,bt] bo (fun bu bv=>∃ bw:Bool,bu=(.bool bw)∧cond (!(!bw)) (
ptrW p1 (fun bx=>∃ bz:Value,rd bv (Addr.add bx 4)=some bz∧lenW bz (fun c0=>ptrW p4 (fun c1=>∃ c2:Value,rd bv (Addr.add c1 4)=some c2∧lenW c2 (fun c3=>cond (!((c0:Int) != (c3:Int))) (
ptrW p1 (fun c4=>∃ c5:Value,rd bv (Addr.add c4 5)=some c5∧lenW c5 (fun c6=>ptrW p4 (fun c7=>∃ c8:Value,rd bv (Addr.add c7 5)=some c8∧lenW c8 (fun c9=>j19__2 D k kp p1 p4 (.bool ((c6:Int) != (c9:Int))) bv))))) (
j19__2 D k kp p1 p4 (.bool true) bv)))))) (
j19__2 D k kp p1 p4 (.bool true) bv)) kp))) (
j19__2 D k kp p1 p4 (.bool true) bo)) kp))) (
j19__2 D k kp p1 p4 (.bool true) bh)) kp))) (
j19__2 D k kp p1 p4 (.bool true) h5)))))))))
def Cl19 (D:Orc):Prop:=∀ a0 a1 h k kp,F19 D a0 a1 h k kp→D 19 [a0,a1] h k kp
theorem cl19:Cl19 (CS Tryz.prog):=fun _ _ _ _ _ hk=>fnL wide lv19 L19 (fn:=Tryz.f19) (by kernel_rfl) (by kernel_rfl) (by kernel_rfl) (l:=[nthC (qQi (qQs Tryz.f19)) 0,nthC (qQi (qQs Tryz.f19)) 1,nthC (qQi (qQs Tryz.f19)) 2,nthC (qQi (qQs Tryz.f19)) 3]) (by kernel_rfl) ⟨fun _ _ _ hk I H=>hk I fun _ _ _ _ hr=>H _ _ (cast (by kernel_rfl) hr),fun _ _ _ hk I H=>hk I fun _ _ _ _ hr=>H _ _ (cast (by kernel_rfl) hr),fun _ _ _ hk I H=>hk I fun _ _ _ _ hr=>H _ _ (cast (by kernel_rfl) hr),fun _ _ _ hk I H=>hk I fun _ _ _ _ _ _ _ hr=>H _ _ (cast (by kernel_rfl) hr),trivial⟩ (cast (by kernel_rfl) hk)
def lv20:=lvM 119 [.raw] [(8,[kR 1,kS 2,kR 3,kR 5,kR 31,kI 32,kI 33]),(16,[kR 1,kS 2,kR 3,kR 5,kR 61,kI 62,kI 63]),(21,[kR 1,kS 2,kR 3,kR 5,kR 80,kI 81,kI 82]),(26,[kS 2,kR 3,kR 5,kR 91,kI 92,kI 93])] [(8,[(0,[kR 1,kS 2,kR 3,kR 5])]),(16,[(2,[kR 1,kS 2,kR 3,kR 5])]),(21,[(4,[kR 1,kS 2,kR 3,kR 5])]),(26,[(6,[kS 2,kR 3,kR 5])])] [kS 2,kR 3] [(31,[kS 2,kR 3,kR 5])]
def round20_8 (D:Orc) (I:List Value→H→Prop) (K:Kl) (a0 a1 a2 a3 a4 a5 a6:Value) (b0:H):Prop :=
strW a1 (fun b1=>intK .i64 a5 (fun b2=>intK .i64 a6 (fun b3=>cond (decide (b3<b2)) (
qQm a4 b3 2 (fun b4=>∃ b5:ByteArray,∃ b6:Int,rdN b0 b4 2=some [(.string b5),(.int .i64 b6)]∧newW b0 [(.string (ByteArray.mk #[])),(.int .i64 0)] (fun b7 b8=>ptrW b7 (fun b9=>2=2∧List.all [(.string b5),(.int .i64 b6)] one=true∧∃ ba,wr b8 b9 [(.string b5),(.int .i64 b6)]=some ba∧ptrW b7 (fun bb=>∃ bc:ByteArray,rd ba (Addr.add bb 0)=some (.string bc)∧D 53 [(.string bc),(.string (ByteArray.mk #[35]))] ba (fun bd be=>∃ bf:Bool,bd=(.bool bf)∧D 28 [(.bool (!bf)),(.int .i64 223)] be (fun bg bh=>bg=(.tuple #[])∧ptrW b7 (fun bi=>∃ bj:ByteArray,rd bh (Addr.add bi 0)=some (.string bj)∧ptrW b7 (fun bk=>∃ bl:Int,rd bh (Addr.add bk 1)=some (.int .i64 bl)∧D 55 [a3,(.int .i64 bl)] bh (fun bm bn=>∃ bo:ByteArray,bm=(.string bo)∧(rd bn (Addr.add bi 0)=some (.string bj))∧one (.string (ByteArray.mk #[115,121,109]))=true∧0<3∧one (.string bj)=true∧1<3∧one (.string bo)=true∧2<3∧qQz bn 3 [(.string (ByteArray.mk #[115,121,109])),(.string bj),(.string bo)] (fun bp bq=>D 54 [a3,bp] bq (fun br bs=>br=(.tuple #[])∧I [a0,(.string b1),a2,a3,a4,(.int .i64 b2),(.int .i64 (IntKind.i64.wrap (b3+1)))] bs) (fun c h=>K (X.p c) [] h))) (fun c h=>K (X.p c) [] h)))) (fun c h=>K (X.p c) [] h)) (fun c h=>K (X.p c) [] h)))))) (
K (X.e 0) [a0,(.string b1),a2,a3] b0))))
def loop20_8 (D:Orc):=Lp7 (round20_8 D)
def round20_16 (D:Orc) (I:List Value→H→Prop) (K:Kl) (a0 a1 a2 a3 a4 a5 a6:Value) (b0:H):Prop :=
strW a1 (fun b1=>intK .i64 a5 (fun b2=>intK .i64 a6 (fun b3=>cond (decide (b3<b2)) (
qQm a4 b3 2 (fun b4=>∃ b5 b6:Int,rdN b0 b4 2=some [(.int .i64 b5),(.int .i64 b6)]∧newW b0 [(.int .i64 0),(.int .i64 0)] (fun b7 b8=>ptrW b7 (fun b9=>2=2∧List.all [(.int .i64 b5),(.int .i64 b6)] one=true∧∃ ba,wr b8 b9 [(.int .i64 b5),(.int .i64 b6)]=some ba∧ptrW b7 (fun bb=>0≤(0:Int)∧0<(2:Int)∧∃ bc:Int,rd ba (Addr.add bb (Int.toNat 0*1))=some (.int .i64 bc)∧ptrW b7 (fun bd=>0≤(1:Int)∧1<(2:Int)∧∃ be:Int,rd ba (Addr.add bd (Int.toNat 1*1))=some (.int .i64 be)∧D 57 [a3,(.int .i64 bc),(.bool false)] ba (fun bf bg=>∃ bh:ByteArray,bf=(.string bh)∧(rd bg (Addr.add bd (Int.toNat 1*1))=some (.int .i64 be))∧D 57 [a3,(.int .i64 be),(.bool false)] bg (fun bi bj=>∃ bk:ByteArray,bi=(.string bk)∧one (.string (ByteArray.mk #[97,98,111,118,101]))=true∧0<3∧one (.string bh)=true∧1<3∧one (.string bk)=true∧2<3∧qQz bj 3 [(.string (ByteArray.mk #[97,98,111,118,101])),(.string bh),(.string bk)] (fun bl bm=>D 54 [a3,bl] bm (fun bn bo=>bn=(.tuple #[])∧I [a0,(.string b1),a2,a3,a4,(.int .i64 b2),(.int .i64 (IntKind.i64.wrap (b3+1)))] bo) (fun c h=>K (X.p c) [] h))) (fun c h=>K (X.p c) [] h)) (fun c h=>K (X.p c) [] h))))))) (
K (X.e 2) [a0,(.string b1),a2,a3] b0))))
def loop20_16 (D:Orc):=Lp7 (round20_16 D)
def round20_21 (D:Orc) (I:List Value→H→Prop) (K:Kl) (a0 a1 a2 a3 a4 a5 a6:Value) (b0:H):Prop :=
strW a1 (fun b1=>intK .i64 a5 (fun b2=>intK .i64 a6 (fun b3=>cond (decide (b3<b2)) (
qQm a4 b3 4 (fun b4=>∃ b5:Int,∃ b6 b7:Value,∃ b8:Int,rdN b0 b4 4=some [(.int .i64 b5),b6,b7,(.int .i64 b8)]∧newW b0 [(.int .i64 0),(.slice none 0 0),(.slice none 0 0),(.int .i64 0)] (fun b9 ba=>ptrW b9 (fun bb=>4=4∧List.all [(.int .i64 b5),b6,b7,(.int .i64 b8)] one=true∧∃ bc,wr ba bb [(.int .i64 b5),b6,b7,(.int .i64 b8)]=some bc∧ptrW b9 (fun bd=>∃ be:Int,∃ bf bg:Value,∃ bh:Int,rdN bc bd 4=some [(.int .i64 be),bf,bg,(.int .i64 bh)]∧D 58 [a3,(.agg #[(.int .i64 be),bf,bg,(.int .i64 bh)])] bc (fun bi bj=>bi=(.tuple #[])∧I [a0,(.string b1),a2,a3,a4,(.int .i64 b2),(.int .i64 (IntKind.i64.wrap (b3+1)))] bj) (fun c h=>K (X.p c) [] h)))))) (
K (X.e 4) [a0,(.string b1),a2,a3] b0))))
def loop20_21 (D:Orc):=Lp7 (round20_21 D)
def round20_26 (D:Orc) (I:List Value→H→Prop) (K:Kl) (a0 a1 a2 a3 a4 a5:Value) (b0:H):Prop :=
strW a0 (fun b1=>intK .i64 a4 (fun b2=>intK .i64 a5 (fun b3=>cond (decide (b3<b2)) (
qQm a3 b3 2 (fun b4=>∃ b5:ByteArray,∃ b6:Value,rdN b0 b4 2=some [(.string b5),b6]∧newW b0 [(.string (ByteArray.mk #[])),(.slice none 0 0)] (fun b7 b8=>ptrW b7 (fun b9=>2=2∧List.all [(.string b5),b6] one=true∧∃ ba,wr b8 b9 [(.string b5),b6]=some ba∧ptrW b7 (fun bb=>∃ bc:ByteArray,∃ bd:Value,rdN ba bb 2=some [(.string bc),bd]∧D 59 [a2,(.agg #[(.string bc),bd])] ba (fun be bf=>be=(.tuple #[])∧I [(.string b1),a1,a2,a3,(.int .i64 b2),(.int .i64 (IntKind.i64.wrap (b3+1)))] bf) (fun c h=>K (X.p c) [] h)))))) (
K (X.e 6) [(.string b1),a1,a2] b0))))
def loop20_26 (D:Orc):=Lp6 (round20_26 D)
def j20__31 (D:Orc) (E:Dorc) (ds:List Deferred) (k:Kv) (kp:Kp) (a0 a1 a2:Value) (b0:H):Prop :=
strW a0 (fun b1=>qQh a2=true∧ptrW a2 (fun b2=>D 37 [(.pointer (some (Addr.add b2 0)))] b0 (fun b3 b4=>∃ b5:ByteArray,b3=(.string b5)∧ptrW a1 (fun b6=>one (.int .i64 0)=true∧1=1∧∃ b7,wr1 b4 b6 (.int .i64 0)=some b7∧qQu Tryz.prog E (fun h=>ptrW a1 (fun b8=>∃ b9:Int,rd h b8=some (.int .i64 b9)∧k (.tuple #[(.string b5),(.int .i64 b9)]) h)) kp ds FrameMode.returning b7)) (fun c h=>qQu Tryz.prog E (fun h=>ptrW a1 (fun ba=>∃ bb:Int,rd h ba=some (.int .i64 bb)∧k (.tuple #[(.string b1),(.int .i64 bb)]) h)) kp ds (FrameMode.panicking c) h)))
def L20 (D:Orc):Lor:=Lsel [(8,loop20_8 D),(16,loop20_16 D),(21,loop20_21 D),(26,loop20_26 D)]
def F20 (D:Orc) (E:Dorc) (a0:Value) (h:H) (k:Kv) (kp:Kp):Prop :=
aggW a0 (fun l0=>newW h l0 (fun p1 h2=>newW h2 [(.int .i64 0)] (fun p3 h4=>ptrW p1 (fun b5=>∃ b6:Value,rd h4 (Addr.add b5 0)=some b6∧D 27 [b6] h4 (fun b7 b8=>∃ b9:Int,b7=(.int .i64 b9)∧cond (b9 != 0) (
ptrW p3 (fun ba=>one (.int .i64 b9)=true∧1=1∧∃ bb,wr1 b8 ba (.int .i64 b9)=some bb∧qQu Tryz.prog E (fun h=>ptrW p3 (fun bc=>∃ bd:Int,rd h bc=some (.int .i64 bd)∧k (.tuple #[(.string (ByteArray.mk #[])),(.int .i64 bd)]) h)) kp (Deferred.mk (Target.fn (Fn.func 52) #[p3]) (#[]++[].toArray)::[]) FrameMode.returning bb)) (
ptrW p1 (fun be=>∃ bf:Value,rd b8 (Addr.add be 0)=some bf∧lenW bf (fun bg=>D 28 [(.bool (decide ((bg:Int)≤(64:Int)))),(.int .i64 226)] b8 (fun bh bi=>bh=(.tuple #[])∧ptrW p1 (fun bj=>∃ bk:Value,rd bi (Addr.add bj 0)=some bk∧one bk=true∧2<3∧newA Tryz.prog 98 bi [(.pointer none),(.slice none 0 0),bk] (fun bl bm=>ptrW p1 (fun bn=>∃ bo:Value,rd bm (Addr.add bn 0)=some bo∧lenW bo (fun bp=>loop20_8 D [p1,(.string (ByteArray.mk #[])),p3,bl,bo,(.int .i64 (bp:Int)),(.int .i64 0)] bm (fun bq br bs=>xs bq (strW (nth br 0) (fun bt=>qQu Tryz.prog E (fun h=>ptrW (nth br 1) (fun bu=>∃ bv:Int,rd h bu=some (.int .i64 bv)∧k (.tuple #[(.string bt),(.int .i64 bv)]) h)) kp (Deferred.mk (Target.fn (Fn.func 52) #[p3]) (#[]++[].toArray)::[]) FrameMode.returning bs)) (fun bw=>cond (Nat.beq bw 0) (
strW (nth br 1) (fun bx=>ptrW (nth br 0) (fun bz=>∃ c0:Value,rd bs (Addr.add bz 1)=some c0∧D 56 [(nth br 3),c0,(.string (ByteArray.mk #[114,117,108,101])),(.string (ByteArray.mk #[45,62]))] bs (fun c1 c2=>c1=(.tuple #[])∧ptrW (nth br 0) (fun c3=>∃ c4:Value,rd c2 (Addr.add c3 2)=some c4∧D 56 [(nth br 3),c4,(.string (ByteArray.mk #[101,113])),(.string (ByteArray.mk #[61]))] c2 (fun c5 c6=>c5=(.tuple #[])∧ptrW (nth br 0) (fun c7=>∃ c8:Value,rd c6 (Addr.add c7 3)=some c8∧lenW c8 (fun c9=>loop20_16 D [(nth br 0),(.string bx),(nth br 2),(nth br 3),c8,(.int .i64 (c9:Int)),(.int .i64 0)] c6 (fun ca cb cc=>xs ca (strW (nth cb 0) (fun cd=>qQu Tryz.prog E (fun h=>ptrW (nth cb 1) (fun ce=>∃ cf:Int,rd h ce=some (.int .i64 cf)∧k (.tuple #[(.string cd),(.int .i64 cf)]) h)) kp (Deferred.mk (Target.fn (Fn.func 52) #[p3]) (#[]++[].toArray)::[]) FrameMode.returning cc)) (fun cg=>cond (Nat.beq cg 2) (
strW (nth cb 1) (fun ch=>ptrW (nth cb 0) (fun ci=>∃ cj:Value,rd cc (Addr.add ci 4)=some cj∧lenW cj (fun ck=>loop20_21 D [(nth cb 0),(.string ch),(nth cb 2),(nth cb 3),cj,(.int .i64 (ck:Int)),(.int .i64 0)] cc (fun cl cm cn=>xs cl (strW (nth cm 0) (fun co=>qQu Tryz.prog E (fun h=>ptrW (nth cm 1) (fun cp=>∃ cq:Int,rd h cp=some (.int .i64 cq)∧k (.tuple #[(.string co),(.int .i64 cq)]) h)) kp (Deferred.mk (Target.fn (Fn.func 52) #[p3]) (#[]++[].toArray)::[]) FrameMode.returning cn)) (fun cr=>cond (Nat.beq cr 4) (
strW (nth cm 1) (fun cs=>ptrW (nth cm 0) (fun ct=>∃ cu:Value,rd cn (Addr.add ct 5)=some cu∧lenW cu (fun cv=>loop20_26 D [(.string cs),(nth cm 2),(nth cm 3),cu,(.int .i64 (cv:Int)),(.int .i64 0)] cn (fun cw cx cy=>xs cw (strW (nth cx 0) (fun cz=>qQu Tryz.prog E (fun h=>ptrW (nth cx 1) (fun d0=>∃ d1:Int,rd h d0=some (.int .i64 d1)∧k (.tuple #[(.string cz),(.int .i64 d1)]) h)) kp (Deferred.mk (Target.fn (Fn.func 52) #[p3]) (#[]++[].toArray)::[]) FrameMode.returning cy)) (fun d2=>cond (Nat.beq d2 6) (
strW (nth cx 0) (fun d3=>qQh (nth cx 2)=true∧ptrW (nth cx 2) (fun d4=>D 36 [(.pointer (some (Addr.add d4 0)))] cy (fun d5 d6=>∃ d7:Int,d5=(.int .i64 d7)∧cond (decide (d7≤(65536:Int))) (
qQh (nth cx 2)=true∧ptrW (nth cx 2) (fun d8=>D 37 [(.pointer (some (Addr.add d8 0)))] d6 (fun d9 da=>∃ db:ByteArray,d9=(.string db)∧D 39 [(.string db),(.string (ByteArray.mk #[10]))] da (fun dc dd=>∃ de:Int,dc=(.int .i64 de)∧D 28 [(.bool (decide (de<(4096:Int)))),(.int .i64 220)] dd (fun df dg=>df=(.tuple #[])∧j20__31 D E (Deferred.mk (Target.fn (Fn.func 52) #[p3]) (#[]++[].toArray)::[]) k kp (.string d3) (nth cx 1) (nth cx 2) dg) (fun c h=>qQu Tryz.prog E (fun h=>ptrW (nth cx 1) (fun dh=>∃ di:Int,rd h dh=some (.int .i64 di)∧k (.tuple #[(.string d3),(.int .i64 di)]) h)) kp (Deferred.mk (Target.fn (Fn.func 52) #[p3]) (#[]++[].toArray)::[]) (FrameMode.panicking c) h)) (fun c h=>qQu Tryz.prog E (fun h=>ptrW (nth cx 1) (fun dj=>∃ dk:Int,rd h dj=some (.int .i64 dk)∧k (.tuple #[(.string d3),(.int .i64 dk)]) h)) kp (Deferred.mk (Target.fn (Fn.func 52) #[p3]) (#[]++[].toArray)::[]) (FrameMode.panicking c) h)) (fun c h=>qQu Tryz.prog E (fun h=>ptrW (nth cx 1) (fun dl=>∃ dm:Int,rd h dl=some (.int .i64 dm)∧k (.tuple #[(.string d3),(.int .i64 dm)]) h)) kp (Deferred.mk (Target.fn (Fn.func 52) #[p3]) (#[]++[].toArray)::[]) (FrameMode.panicking c) h))) (
D 28 [(.bool false),(.int .i64 220)] d6 (fun dn dp=>dn=(.tuple #[])∧j20__31 D E (Deferred.mk (Target.fn (Fn.func 52) #[p3]) (#[]++[].toArray)::[]) k kp (.string d3) (nth cx 1) (nth cx 2) dp) (fun c h=>qQu Tryz.prog E (fun h=>ptrW (nth cx 1) (fun dq=>∃ dr:Int,rd h dq=some (.int .i64 dr)∧k (.tuple #[(.string d3),(.int .i64 dr)]) h)) kp (Deferred.mk (Target.fn (Fn.func 52) #[p3]) (#[]++[].toArray)::[]) (FrameMode.panicking c) h))) (fun c h=>qQu Tryz.prog E (fun h=>ptrW (nth cx 1) (fun ds=>∃ dt:Int,rd h ds=some (.int .i64 dt)∧k (.tuple #[(.string d3),(.int .i64 dt)]) h)) kp (Deferred.mk (Target.fn (Fn.func 52) #[p3]) (#[]++[].toArray)::[]) (FrameMode.panicking c) h)))) (False)) (fun c=>(fun c h=>qQu Tryz.prog E (fun h=>ptrW (nth cm 2) (fun du=>∃ dv:Int,rd h du=some (.int .i64 dv)∧k (.tuple #[(.string cs),(.int .i64 dv)]) h)) kp (Deferred.mk (Target.fn (Fn.func 52) #[p3]) (#[]++[].toArray)::[]) (FrameMode.panicking c) h) c cy)))))) (False)) (fun c=>(fun c h=>qQu Tryz.prog E (fun h=>ptrW (nth cb 2) (fun dw=>∃ dx:Int,rd h dw=some (.int .i64 dx)∧k (.tuple #[(.string ch),(.int .i64 dx)]) h)) kp (Deferred.mk (Target.fn (Fn.func 52) #[p3]) (#[]++[].toArray)::[]) (FrameMode.panicking c) h) c cn)))))) (False)) (fun c=>(fun c h=>qQu Tryz.prog E (fun h=>ptrW (nth br 2) (fun dy=>∃ dz:Int,rd h dy=some (.int .i64 dz)∧k (.tuple #[(.string bx),(.int .i64 dz)]) h)) kp (Deferred.mk (Target.fn (Fn.func 52) #[p3]) (#[]++[].toArray)::[]) (FrameMode.panicking c) h) c cc))))) (fun c h=>qQu Tryz.prog E (fun h=>ptrW (nth br 2) (fun e0=>∃ e1:Int,rd h e0=some (.int .i64 e1)∧k (.tuple #[(.string bx),(.int .i64 e1)]) h)) kp (Deferred.mk (Target.fn (Fn.func 52) #[p3]) (#[]++[].toArray)::[]) (FrameMode.panicking c) h))) (fun c h=>qQu Tryz.prog E (fun h=>ptrW (nth br 2) (fun e2=>∃ e3:Int,rd h e2=some (.int .i64 e3)∧k (.tuple #[(.string bx),(.int .i64 e3)]) h)) kp (Deferred.mk (Target.fn (Fn.func 52) #[p3]) (#[]++[].toArray)::[]) (FrameMode.panicking c) h)))) (False)) (fun c=>(fun c h=>qQu Tryz.prog E (fun h=>ptrW p3 (fun e4=>∃ e5:Int,rd h e4=some (.int .i64 e5)∧k (.tuple #[(.string (ByteArray.mk #[])),(.int .i64 e5)]) h)) kp (Deferred.mk (Target.fn (Fn.func 52) #[p3]) (#[]++[].toArray)::[]) (FrameMode.panicking c) h) c bs))))))) (fun c h=>qQu Tryz.prog E (fun h=>ptrW p3 (fun e6=>∃ e7:Int,rd h e6=some (.int .i64 e7)∧k (.tuple #[(.string (ByteArray.mk #[])),(.int .i64 e7)]) h)) kp (Deferred.mk (Target.fn (Fn.func 52) #[p3]) (#[]++[].toArray)::[]) (FrameMode.panicking c) h))))) (fun c h=>qQu Tryz.prog E (fun h=>ptrW p3 (fun e8=>∃ e9:Int,rd h e8=some (.int .i64 e9)∧k (.tuple #[(.string (ByteArray.mk #[])),(.int .i64 e9)]) h)) kp (Deferred.mk (Target.fn (Fn.func 52) #[p3]) (#[]++[].toArray)::[]) (FrameMode.panicking c) h)))))
def Cl20 (D:Orc) (E:Dorc):Prop:=∀ a0 h k kp,F20 D E a0 h k kp→D 20 [a0] h k kp
theorem cl20:Cl20 (CS Tryz.prog) (DS Tryz.prog):=fun _ _ _ _ hk=>fnDL wide lv20 L20 (fn:=Tryz.f20) (by kernel_rfl) (by kernel_rfl) (by kernel_rfl) (l:=[nthC (qQi (qQs Tryz.f20)) 0,nthC (qQi (qQs Tryz.f20)) 1,nthC (qQi (qQs Tryz.f20)) 2,nthC (qQi (qQs Tryz.f20)) 3]) (by kernel_rfl) ⟨fun _ _ _ hk I H=>hk I fun _ _ _ _ _ _ _ _ hr=>H _ _ (cast (by kernel_rfl) hr),fun _ _ _ hk I H=>hk I fun _ _ _ _ _ _ _ _ hr=>H _ _ (cast (by kernel_rfl) hr),fun _ _ _ hk I H=>hk I fun _ _ _ _ _ _ _ _ hr=>H _ _ (cast (by kernel_rfl) hr),fun _ _ _ hk I H=>hk I fun _ _ _ _ _ _ _ hr=>H _ _ (cast (by kernel_rfl) hr),trivial⟩ (cast (by kernel_rfl) hk)
def lv23:=lvM 18 [.str] [(3,[kS 0,kI 3,kI 4])] [(3,[(0,[kI 3])])] [kI 2] [(4,[kS 0,kI 3,kI 4])]
def j23_3_4 (D:Orc) (I:List Value→H→Prop) (K:Kl) (a0 a1 a2:Value) (h6:H):Prop :=
strW a0 (fun s7=>intK .i64 a1 (fun x8=>intK .i64 a2 (fun x9=>I [(.string s7),(.int .i64 x8),(.int .i64 (IntKind.i64.wrap (x9+1)))] h6)))
def round23_3 (D:Orc) (I:List Value→H→Prop) (K:Kl) (a0 a1 a2:Value) (h1:H):Prop :=
strW a0 (fun s2=>intK .i64 a1 (fun x3=>intK .i64 a2 (fun x4=>cond (decide (x4<(s2.size:Int))) (
qZc s2 x4 (fun x5=>cond (x5==10) (
j23_3_4 D I K (.string s2) (.int .i64 (IntKind.i64.wrap (x3+1))) (.int .i64 x4) h1) (
j23_3_4 D I K (.string s2) (.int .i64 x3) (.int .i64 x4) h1))) (
K (X.e 0) [(.int .i64 x3)] h1))))
def loop23_3 (D:Orc):=Lp3 (round23_3 D)
def L23 (D:Orc):Lor:=Lsel [(3,loop23_3 D)]
def F23 (D:Orc) (a0:Value) (h:H) (k:Kv) (kp:Kp):Prop :=
strW a0 (fun s0=>loop23_3 D [(.string s0),(.int .i64 1),(.int .i64 0)] h (fun b1 b2 b3=>xs b1 (intK .i64 (nth b2 0) (fun b4=>k (.int .i64 b4) b3)) (fun b5=>cond (Nat.beq b5 0) (
intK .i64 (nth b2 0) (fun b6=>k (.int .i64 b6) b3)) (False)) (fun c=>kp c b3)))
def Cl23 (D:Orc):Prop:=∀ a0 h k kp,F23 D a0 h k kp→D 23 [a0] h k kp
theorem cl23:Cl23 (CS Tryz.prog):=fun _ _ _ _ hk=>fnL wide lv23 L23 (fn:=Tryz.f23) (by kernel_rfl) (by kernel_rfl) (by kernel_rfl) (l:=[nthC (qQi (qQs Tryz.f23)) 0]) (by kernel_rfl) ⟨fun _ _ _ hk I H=>hk I fun _ _ _ _ hr=>H _ _ (cast (by kernel_rfl) hr),trivial⟩ (cast (by kernel_rfl) hk)
def lv24:=lvM 5 [] [] [] [kR 0] []
def F24 (D:Orc) (h:H) (k:Kv) (kp:Kp):Prop :=
one (.string (ByteArray.mk #[122,101,114,111]))=true∧0<2∧one (.string (ByteArray.mk #[115]))=true∧0<2∧one (.int .i64 1)=true∧1<2∧one (.string (ByteArray.mk #[112,108,117,115]))=true∧0<2∧one (.int .i64 2)=true∧1<2∧2=2∧0+2≤6∧2=2∧2+2≤6∧2=2∧4+2≤6∧qQz h 3 [(.string (ByteArray.mk #[122,101,114,111])),(.int .i64 0),(.string (ByteArray.mk #[115])),(.int .i64 1),(.string (ByteArray.mk #[112,108,117,115])),(.int .i64 2)] (fun s0 h1=>k s0 h1)
def Cl24 (D:Orc):Prop:=∀  h k kp,F24 D  h k kp→D 24 [] h k kp
theorem cl24:Cl24 (CS Tryz.prog):=fun  _ _ _ hk=>fn0 wide lv24 (fn:=Tryz.f24) (by kernel_rfl) (by kernel_rfl) (by kernel_rfl) (by kernel_rfl) (cast (by kernel_rfl) hk)
def lv25:=lvM 3 [] [] [] [] []
def F25 (D:Orc) (a0:Value) (u:FrameMode) (h:H) (k:FrameMode→H→Prop) (kp:List PanicEntry→FrameMode→H→Prop):Prop :=
recW u (fun v0 u1=>D 26 [v0,a0] h (fun v2 h3=>v2=(.tuple #[])∧k u1 h3) (fun c h=>kp c u1 h))
def Cl25 (D:Orc) (E:Dorc):Prop:=∀ a0 u h k kp,F25 D a0 u h k kp→E 25 [a0] u h k kp
theorem cl25:Cl25 (CS Tryz.prog) (DS Tryz.prog):=fun _ _ _ _ _ hk=>fnSL wide lv25 (fun _=>L0) (fn:=Tryz.f25) (by kernel_rfl) (by kernel_rfl) (by kernel_rfl) (l:=[]) (by kernel_rfl) trivial (cast (by kernel_rfl) hk)
def lv26:=lvM 20 [.raw,.raw] [] [] [] [(4,[kR 1,kR 4])]
def j26__4 (D:Orc) (k:Kv) (kp:Kp) (a0 a1:Value) (b0:H):Prop :=
ptrW a1 (fun b1=>∃ b2:Int,rd b0 (Addr.add b1 0)=some (.int .i64 b2)∧qQh a0=true∧ptrW a0 (fun b3=>one (.int .i64 b2)=true∧1=1∧∃ b4,wr1 b0 b3 (.int .i64 b2)=some b4∧k (.tuple #[]) b4))
def F26 (D:Orc) (a0 a1:Value) (h:H) (k:Kv) (kp:Kp):Prop :=
eqIf true a0 .nilIface (fun t0=>cond t0 (
k (.tuple #[]) h) (
qUk Tryz.prog a0 112 true (fun v1=>qZk v1 0 (fun v2=>qZk v1 1 (fun v3=>newW h [(.int .i64 0)] (fun p4 h5=>ptrW p4 (fun b6=>aggW v2 (fun l7=>l7.length=1∧List.all l7 one=true∧∃ h8,wr h5 b6 l7=some h8∧qQp v3 (fun t9=>cond (!t9) (
panW a0 h8 kp) (
j26__4 D k kp a1 p4 h8))))))))))
def Cl26 (D:Orc):Prop:=∀ a0 a1 h k kp,F26 D a0 a1 h k kp→D 26 [a0,a1] h k kp
theorem cl26:Cl26 (CS Tryz.prog):=fun _ _ _ _ _ hk=>fn0 wide lv26 (fn:=Tryz.f26) (by kernel_rfl) (by kernel_rfl) (by kernel_rfl) (by kernel_rfl) (cast (by kernel_rfl) hk)
def lv27:=lvM 61 [.raw] [(4,[kR 0,kR 9,kI 10,kI 11])] [(4,[(0,[])])] [kI 2] [(8,[kR 0,kI 3,kR 4,kR 9,kI 10,kI 11,kB 19]),(10,[kR 0,kI 3,kR 4,kR 9,kI 10,kI 11,kB 45])]
def j27_4_10 (D:Orc) (I:List Value→H→Prop) (K:Kl) (a0 a1 a2 a3 a4 a5 a6:Value) (b0:H):Prop :=
intK .i64 a1 (fun b1=>intK .i64 a4 (fun b2=>intK .i64 a5 (fun b3=>qQp a6 (fun b4=>cond b4 (
K X.r [(.int .i64 35)] b0) (
qXy a0 none (some b1) none 2 (fun b5=>D 71 [b5,(.func (.func 72) #[] #[a2])] b0 (fun b6 b7=>∃ b8:Bool,b6=(.bool b8)∧cond b8 (
K X.r [(.int .i64 36)] b7) (
I [a0,a3,(.int .i64 b2),(.int .i64 (IntKind.i64.wrap (b3+1)))] b7)) (fun c h=>K (X.p c) [] h)))))))
def j27_4_8 (D:Orc) (I:List Value→H→Prop) (K:Kl) (a0 a1 a2 a3 a4 a5 a6:Value) (b0:H):Prop :=
intK .i64 a1 (fun b1=>intK .i64 a4 (fun b2=>intK .i64 a5 (fun b3=>qQp a6 (fun b4=>cond b4 (
K X.r [(.int .i64 34)] b0) (
ptrW a2 (fun b5=>∃ b6:Int,rd b0 (Addr.add b5 1)=some (.int .i64 b6)∧cond (!(decide (b6<(0:Int)))) (
ptrW a2 (fun b7=>∃ b8:Int,rd b0 (Addr.add b7 1)=some (.int .i64 b8)∧j27_4_10 D I K a0 (.int .i64 b1) a2 a3 (.int .i64 b2) (.int .i64 b3) (.bool (decide (b8>8))) b0)) (
j27_4_10 D I K a0 (.int .i64 b1) a2 a3 (.int .i64 b2) (.int .i64 b3) (.bool true) b0)))))))
def round27_4 (D:Orc) (I:List Value→H→Prop) (K:Kl) (a0 a1 a2 a3:Value) (h2:H):Prop :=
intK .i64 a2 (fun x3=>intK .i64 a3 (fun x4=>cond (decide (x4<x3)) (
qQm a1 x4 2 (fun b3=>∃ s6:ByteArray,∃ x7:Int,rdN h2 b3 2=some [(.string s6),(.int .i64 x7)]∧newW h2 [(.string (ByteArray.mk #[])),(.int .i64 0)] (fun p8 h9=>ptrW p8 (fun b8=>2=2∧List.all [(.string s6),(.int .i64 x7)] one=true∧∃ b9,wr h9 b8 [(.string s6),(.int .i64 x7)]=some b9∧ptrW p8 (fun ba=>∃ bb:ByteArray,rd b9 (Addr.add ba 0)=some (.string bb)∧ptrW p8 (fun bc=>∃ bd:ByteArray,rd b9 (Addr.add bc 0)=some (.string bd)∧D 70 [(.string bd)] b9 (fun be bf=>∃ bg:Bool,be=(.bool bg)∧cond (!bg) (
cond (!((bb.size:Int)==0)) (
ptrW p8 (fun bh=>∃ bi:ByteArray,rd bf (Addr.add bh 0)=some (.string bi)∧qZc bi (IntKind.i64.wrap ((bb.size:Int) - 1)) (fun bj=>cond (!(bj != 35)) (
ptrW p8 (fun bk=>∃ bl:ByteArray,rd bf (Addr.add bk 0)=some (.string bl)∧qXm bl none (some (IntKind.i64.wrap ((bb.size:Int) - 1))) (fun bm=>D 70 [(.string bm)] bf (fun bn bo=>∃ bp:Bool,bn=(.bool bp)∧j27_4_8 D I K a0 (.int .i64 x4) p8 a1 (.int .i64 x3) (.int .i64 x4) (.bool (!bp)) bo) (fun c h=>K (X.p c) [] h)))) (
j27_4_8 D I K a0 (.int .i64 x4) p8 a1 (.int .i64 x3) (.int .i64 x4) (.bool true) bf)))) (
j27_4_8 D I K a0 (.int .i64 x4) p8 a1 (.int .i64 x3) (.int .i64 x4) (.bool true) bf)) (
j27_4_8 D I K a0 (.int .i64 x4) p8 a1 (.int .i64 x3) (.int .i64 x4) (.bool false) bf)) (fun c h=>K (X.p c) [] h))))))) (
K (X.e 0) [] h2)))
def loop27_4 (D:Orc):=Lp4 (round27_4 D)
def L27 (D:Orc):Lor:=Lsel [(4,loop27_4 D)]
def F27 (D:Orc) (a0:Value) (h:H) (k:Kv) (kp:Kp):Prop :=
lenW a0 (fun n0=>cond (decide ((n0:Int)>128)) (
k (.int .i64 37) h) (
lenW a0 (fun n1=>loop27_4 D [a0,a0,(.int .i64 (n1:Int)),(.int .i64 0)] h (fun b2 b3 b4=>xs b2 (intK .i64 (nth b3 0) (fun b5=>k (.int .i64 b5) b4)) (fun b6=>cond (Nat.beq b6 0) (
k (.int .i64 0) b4) (False)) (fun c=>kp c b4)))))
def Cl27 (D:Orc):Prop:=∀ a0 h k kp,F27 D a0 h k kp→D 27 [a0] h k kp
theorem cl27:Cl27 (CS Tryz.prog):=fun _ _ _ _ hk=>fnL wide lv27 L27 (fn:=Tryz.f27) (by kernel_rfl) (by kernel_rfl) (by kernel_rfl) (l:=[nthC (qQi (qQs Tryz.f27)) 0]) (by kernel_rfl) ⟨fun _ _ _ hk I H=>hk I fun _ _ _ _ _ hr=>H _ _ (cast (by kernel_rfl) hr),trivial⟩ (cast (by kernel_rfl) hk)
def lv28:=lvM 9 [.bool,.int .i64] [] [] [] []
def F28 (D:Orc) (a0 a1:Value) (h:H) (k:Kv) (kp:Kp):Prop :=
qQp a0 (fun t0=>intK .i64 a1 (fun x1=>cond (!t0) (
one (.int .i64 x1)=true∧0<1∧kp [PanicEntry.mk (.iface 112 (.agg #[(.int .i64 x1)])) false false] h) (
k (.tuple #[]) h)))
def Cl28 (D:Orc):Prop:=∀ a0 a1 h k kp,F28 D a0 a1 h k kp→D 28 [a0,a1] h k kp
theorem cl28:Cl28 (CS Tryz.prog):=fun _ _ _ _ _ hk=>fn0 wide lv28 (fn:=Tryz.f28) (by kernel_rfl) (by kernel_rfl) (by kernel_rfl) (by kernel_rfl) (cast (by kernel_rfl) hk)
def lv30:=lvM 22 [.raw,.str] [] [] [kR 4] []
def F30 (D:Orc) (a0 a1:Value) (h:H) (k:Kv) (kp:Kp):Prop :=
strW a1 (fun s0=>one a0=true∧0<3∧one (.string s0)=true∧1<3∧newW h [a0,(.string s0),(.slice none 0 0)] (fun p1 h2=>D 74 [p1] h2 (fun v3 h4=>v3=(.tuple #[])∧qQh p1=true∧ptrW p1 (fun b5=>∃ s6:ByteArray,rd h4 (Addr.add b5 1)=some (.string s6)∧D 28 [(.bool (s6.toList==(ByteArray.mk #[]).toList)),(.int .i64 224)] h4 (fun v7 h8=>v7=(.tuple #[])∧qQh p1=true∧ptrW p1 (fun b9=>∃ ba:Value,rd h8 (Addr.add b9 2)=some ba∧k ba h8)) kp)) kp))
def Cl30 (D:Orc):Prop:=∀ a0 a1 h k kp,F30 D a0 a1 h k kp→D 30 [a0,a1] h k kp
theorem cl30:Cl30 (CS Tryz.prog):=fun _ _ _ _ _ hk=>fn0 wide lv30 (fn:=Tryz.f30) (by kernel_rfl) (by kernel_rfl) (by kernel_rfl) (by kernel_rfl) (cast (by kernel_rfl) hk)
def lv34:=lvM 14 [.raw,.raw] [] [] [kI 4] []
def F34 (D:Orc) (a0 a1:Value) (h:H) (k:Kv) (kp:Kp):Prop :=
D 80 [a0,a1] h (fun v0 h1=>∃ v2:Value,∃ x3:Int,v0=(.tuple #[v2,(.int .i64 x3)])∧k (.int .i64 x3) h1) kp
def Cl34 (D:Orc):Prop:=∀ a0 a1 h k kp,F34 D a0 a1 h k kp→D 34 [a0,a1] h k kp
theorem cl34:Cl34 (CS Tryz.prog):=fun _ _ _ _ _ hk=>fn0 wide lv34 (fn:=Tryz.f34) (by kernel_rfl) (by kernel_rfl) (by kernel_rfl) (by kernel_rfl) (cast (by kernel_rfl) hk)
def lv35:=lvM 51 [.raw,.raw,.raw] [(8,[kR 0,kR 1,kR 8,kS 9,kI 35,kI 36])] [(8,[(0,[kR 0,kR 8,kS 9])])] [kR 6] [(15,[kR 8])]
def round35_8 (D:Orc) (I:List Value→H→Prop) (K:Kl) (a0 a1 a2 a3 a4 a5:Value) (b0:H):Prop :=
strW a3 (fun b1=>intK .i64 a4 (fun b2=>intK .i64 a5 (fun b3=>cond (decide (b3<b2)) (
D 81 [a0,(.string b1)] b0 (fun b4 b5=>∃ b6:Int,∃ b7:Value,b4=(.tuple #[(.int .i64 b6),b7])∧D 35 [a0,a1,a2] b5 (fun b8 b9=>∃ ba:Value,b8=ba∧I [a0,a1,ba,(.string (ByteArray.mk #[44])),(.int .i64 b2),(.int .i64 (IntKind.i64.wrap (b3+1)))] b9) (fun c h=>K (X.p c) [] h)) (fun c h=>K (X.p c) [] h)) (
K (X.e 0) [a0,a2,(.string b1)] b0))))
def loop35_8 (D:Orc):=Lp6 (round35_8 D)
def j35__15 (D:Orc) (k:Kv) (kp:Kp) (a0:Value) (b0:H):Prop :=
k a0 b0
def L35 (D:Orc):Lor:=Lsel [(8,loop35_8 D)]
def F35 (D:Orc) (a0 a1 a2:Value) (h:H) (k:Kv) (kp:Kp):Prop :=
qQm a2 0 1 (fun b0=>∃ x1:Int,rd h b0=some (.int .i64 x1)∧qXy a2 (some 1) none none 1 (fun s2=>cond (decide (x1<(0:Int))) (
D 82 [(.int .i64 (IntKind.i64.wrap (-1 - x1)))] h (fun v3 h4=>∃ s5:ByteArray,v3=(.string s5)∧(ByteArray.mk #[95]).size+s5.size≤9223372036854775807∧D 81 [a0,(.string ((ByteArray.mk #[95])++s5))] h4 (fun v6 h7=>∃ x8:Int,∃ v9:Value,v6=(.tuple #[(.int .i64 x8),v9])∧k s2 h7) kp) kp) (
qQm a1 x1 2 (fun ba=>∃ bb:ByteArray,rd h (Addr.add ba 0)=some (.string bb)∧D 81 [a0,(.string bb)] h (fun bc bd=>∃ be:Int,∃ bf:Value,bc=(.tuple #[(.int .i64 be),bf])∧qQm a1 x1 2 (fun bg=>∃ bh:Int,rd bd (Addr.add bg 1)=some (.int .i64 bh)∧loop35_8 D [a0,a1,s2,(.string (ByteArray.mk #[40])),(.int .i64 bh),(.int .i64 0)] bd (fun bi bj bk=>xs bi (k (nth bj 0) bk) (fun bl=>cond (Nat.beq bl 0) (
strW (nth bj 2) (fun bm=>cond (bm.toList==(ByteArray.mk #[44]).toList) (
D 81 [(nth bj 0),(.string (ByteArray.mk #[41]))] bk (fun bn bo=>∃ bp:Int,∃ bq:Value,bn=(.tuple #[(.int .i64 bp),bq])∧j35__15 D k kp (nth bj 1) bo) kp) (
j35__15 D k kp (nth bj 1) bk))) (False)) (fun c=>kp c bk)))) kp))))
def Cl35 (D:Orc):Prop:=∀ a0 a1 a2 h k kp,F35 D a0 a1 a2 h k kp→D 35 [a0,a1,a2] h k kp
theorem cl35:Cl35 (CS Tryz.prog):=fun _ _ _ _ _ _ hk=>fnL wide lv35 L35 (fn:=Tryz.f35) (by kernel_rfl) (by kernel_rfl) (by kernel_rfl) (l:=[nthC (qQi (qQs Tryz.f35)) 0]) (by kernel_rfl) ⟨fun _ _ _ hk I H=>hk I fun _ _ _ _ _ _ _ hr=>H _ _ (cast (by kernel_rfl) hr),trivial⟩ (cast (by kernel_rfl) hk)
def lv36:=lvM 8 [.raw] [] [] [kI 2] []
def F36 (D:Orc) (a0:Value) (h:H) (k:Kv) (kp:Kp):Prop :=
qQh a0=true∧ptrW a0 (fun b0=>∃ v1:Value,rd h (Addr.add b0 1)=some v1∧lenW v1 (fun n2=>k (.int .i64 (n2:Int)) h))
def Cl36 (D:Orc):Prop:=∀ a0 h k kp,F36 D a0 h k kp→D 36 [a0] h k kp
theorem cl36:Cl36 (CS Tryz.prog):=fun _ _ _ _ hk=>fn0 wide lv36 (fn:=Tryz.f36) (by kernel_rfl) (by kernel_rfl) (by kernel_rfl) (by kernel_rfl) (cast (by kernel_rfl) hk)
def lv81:=lvM 19 [.raw,.str] [] [] [kI 4,kR 5] []
def F81 (D:Orc) (a0 a1:Value) (h:H) (k:Kv) (kp:Kp):Prop :=
strW a1 (fun s0=>D 116 [a0] h (fun v1 h2=>v1=(.tuple #[])∧qQh a0=true∧ptrW a0 (fun b3=>∃ v4:Value,rd h2 (Addr.add b3 1)=some v4∧srcW h2 1 (.string s0) (s0.size) (fun w5=>apX true 5 h2 1 [(.int .u8 0)] v4 (s0.size) w5 (fun s6 h7=>qQh a0=true∧ptrW a0 (fun b8=>one s6=true∧1=1∧∃ h9,wr1 h7 (Addr.add b8 1) s6=some h9∧k (.tuple #[(.int .i64 (s0.size:Int)),.nilIface]) h9))))) kp)
def Cl81 (D:Orc):Prop:=∀ a0 a1 h k kp,F81 D a0 a1 h k kp→D 81 [a0,a1] h k kp
theorem cl81:Cl81 (CS Tryz.prog):=fun _ _ _ _ _ hk=>fn0 wide lv81 (fn:=Tryz.f81) (by kernel_rfl) (by kernel_rfl) (by kernel_rfl) (by kernel_rfl) (cast (by kernel_rfl) hk)
def lv40:=lvM 7 [] [] [] [] []
def F40 (D:Orc) (a0 a1:Value) (u:FrameMode) (h:H) (k:FrameMode→H→Prop) (kp:List PanicEntry→FrameMode→H→Prop):Prop :=
recW u (fun v0 u1=>D 26 [v0,a0] h (fun v2 h3=>v2=(.tuple #[])∧ptrW a0 (fun b4=>∃ x5:Int,rd h3 b4=some (.int .i64 x5)∧cond (x5 != 0) (
ptrW a1 (fun b6=>6=6∧List.all [(.slice none 0 0),(.slice none 0 0),(.slice none 0 0),(.slice none 0 0),(.slice none 0 0),(.slice none 0 0)] one=true∧∃ h7,wr h3 b6 [(.slice none 0 0),(.slice none 0 0),(.slice none 0 0),(.slice none 0 0),(.slice none 0 0),(.slice none 0 0)]=some h7∧k u1 h7)) (
k u1 h3))) (fun c h=>kp c u1 h))
def Cl40 (D:Orc) (E:Dorc):Prop:=∀ a0 a1 u h k kp,F40 D a0 a1 u h k kp→E 40 [a0,a1] u h k kp
theorem cl40:Cl40 (CS Tryz.prog) (DS Tryz.prog):=fun _ _ _ _ _ _ hk=>fnSL wide lv40 (fun _=>L0) (fn:=Tryz.f40) (by kernel_rfl) (by kernel_rfl) (by kernel_rfl) (l:=[]) (by kernel_rfl) trivial (cast (by kernel_rfl) hk)
def lv41:=lvM 8 [.str,.str] [] [] [kR 4] []
def F41 (D:Orc) (a0 a1:Value) (h:H) (k:Kv) (kp:Kp):Prop :=
strW a0 (fun s0=>strW a1 (fun s1=>D 87 [(.string s0),(.string s1),(.int .i64 0)] h (fun v2 h3=>∃ v4:Value,v2=v4∧k v4 h3) kp))
def Cl41 (D:Orc):Prop:=∀ a0 a1 h k kp,F41 D a0 a1 h k kp→D 41 [a0,a1] h k kp
theorem cl41:Cl41 (CS Tryz.prog):=fun _ _ _ _ _ hk=>fn0 wide lv41 (fn:=Tryz.f41) (by kernel_rfl) (by kernel_rfl) (by kernel_rfl) (by kernel_rfl) (cast (by kernel_rfl) hk)
def lv44:=lvM 311 [.raw,.raw] [] [] [] [(44,[kR 0]),(6,[kR 0,kR 1]),(36,[kR 0,kR 1,kS 9,kB 231])]
def j44__6 (D:Orc) (k:Kv) (kp:Kp) (a0 a1:Value) (b0:H):Prop :=
qQh a0=true∧ptrW a0 (fun b1=>∃ b2:Value,rd b0 (Addr.add (Addr.add b1 0) 0)=some b2∧qQm a1 1 1 (fun b3=>∃ b4:ByteArray,rd b0 b3=some (.string b4)∧qQm a1 2 1 (fun b5=>∃ b6:ByteArray,rd b0 b5=some (.string b6)∧D 90 [(.string b6),(.int .i64 8)] b0 (fun b7 b8=>∃ b9:Int,b7=(.int .i64 b9)∧(rd b8 b3=some (.string b4))∧(rd b8 (Addr.add (Addr.add b1 0) 0)=some b2)∧one (.string b4)=true∧0<2∧one (.int .i64 b9)=true∧1<2∧2=2∧0+2≤2∧qQz b8 1 [(.string b4),(.int .i64 b9)] (fun ba bb=>qXi ba (fun bc=>srcW bb 2 ba (bc) (fun bd=>apW bb 2 24 [(.string (ByteArray.mk #[])),(.int .i64 0)] b2 (bc) bd (fun be bf=>qQh a0=true∧ptrW a0 (fun bg=>one be=true∧1=1∧∃ bh,wr1 bf (Addr.add (Addr.add bg 0) 0) be=some bh∧qQh a0=true∧ptrW a0 (fun bi=>∃ bj:Value,rd bh (Addr.add (Addr.add bi 0) 0)=some bj∧lenW bj (fun bk=>D 28 [(.bool (decide ((bk:Int)≤(64:Int)))),(.int .i64 226)] bh (fun bl bm=>bl=(.tuple #[])∧k (.tuple #[]) bm) kp)))))))) kp)))
def j44__44 (D:Orc) (k:Kv) (kp:Kp) (a0:Value) (b0:H):Prop :=
qQh a0=true∧ptrW a0 (fun b1=>one (.bool true)=true∧1=1∧∃ b2,wr1 b0 (Addr.add b1 6) (.bool true)=some b2∧k (.tuple #[]) b2)
def j44__36 (D:Orc) (k:Kv) (kp:Kp) (a0 a1 a2 a3:Value) (b0:H):Prop :=
strW a2 (fun b1=>qQp a3 (fun b2=>cond b2 (
D 88 [a1,(.int .i64 1),(.string (ByteArray.mk #[]))] b0 (fun b3 b4=>b3=(.tuple #[])∧qQh a0=true∧ptrW a0 (fun b5=>∃ b6:Value,rd b4 (Addr.add (Addr.add b5 0) 5)=some b6∧qQm a1 0 1 (fun b7=>∃ b8:ByteArray,rd b4 b7=some (.string b8)∧one (.string b8)=true∧0<2∧2=2∧0+2≤2∧qQz b4 1 [(.string b8),(.slice none 0 0)] (fun b9 ba=>qXi b9 (fun bb=>srcW ba 2 b9 (bb) (fun bc=>apW ba 2 40 [(.string (ByteArray.mk #[])),(.slice none 0 0)] b6 (bb) bc (fun bd be=>qQh a0=true∧ptrW a0 (fun bf=>one bd=true∧1=1∧∃ bg,wr1 be (Addr.add (Addr.add bf 0) 5) bd=some bg∧j44__44 D k kp a0 bg)))))))) kp) (
cond (b1.toList==(ByteArray.mk #[110,111,114,109,97,108]).toList) (
D 88 [a1,(.int .i64 2),(.string (ByteArray.mk #[]))] b0 (fun bh bi=>bh=(.tuple #[])∧qQh a0=true∧ptrW a0 (fun bj=>∃ bk:Value,rd bi (Addr.add (Addr.add bj 0) 5)=some bk∧qQm a1 0 1 (fun bl=>∃ bm:ByteArray,rd bi bl=some (.string bm)∧qQh a0=true∧ptrW a0 (fun bn=>∃ bo:Value,rd bi (Addr.add (Addr.add bn 0) 0)=some bo∧qQm a1 1 1 (fun bp=>∃ bq:ByteArray,rd bi bp=some (.string bq)∧D 30 [bo,(.string bq)] bi (fun br bs=>∃ bt:Value,br=bt∧(rd bs bl=some (.string bm))∧(rd bs (Addr.add (Addr.add bj 0) 5)=some bk)∧one bt=true∧0<1∧qQz bs 1 [bt] (fun bu bv=>one (.string bm)=true∧0<2∧one bu=true∧1<2∧2=2∧0+2≤2∧qQz bv 1 [(.string bm),bu] (fun bw bx=>qXi bw (fun bz=>srcW bx 2 bw (bz) (fun c0=>apW bx 2 40 [(.string (ByteArray.mk #[])),(.slice none 0 0)] bk (bz) c0 (fun c1 c2=>qQh a0=true∧ptrW a0 (fun c3=>one c1=true∧1=1∧∃ c4,wr1 c2 (Addr.add (Addr.add c3 0) 5) c1=some c4∧j44__44 D k kp a0 c4))))))) kp))))) kp) (
cond (b1.toList==(ByteArray.mk #[101,113,117,97,108]).toList) (
D 91 [a0,a1,(.string (ByteArray.mk #[61]))] b0 (fun c5 c6=>∃ c7 c8:Value,c5=(.agg #[c7,c8])∧newW c6 [(.slice none 0 0),(.slice none 0 0)] (fun c9 ca=>ptrW c9 (fun cb=>2=2∧List.all [c7,c8] one=true∧∃ cc,wr ca cb [c7,c8]=some cc∧qQh a0=true∧ptrW a0 (fun cd=>∃ ce:Value,rd cc (Addr.add (Addr.add cd 0) 5)=some ce∧qQm a1 0 1 (fun cf=>∃ cg:ByteArray,rd cc cf=some (.string cg)∧ptrW c9 (fun ch=>∃ ci:Value,rd cc (Addr.add ch 0)=some ci∧ptrW c9 (fun cj=>∃ ck:Value,rd cc (Addr.add cj 1)=some ck∧one ci=true∧0<2∧one ck=true∧1<2∧qQz cc 2 [ci,ck] (fun cl cm=>one (.string cg)=true∧0<2∧one cl=true∧1<2∧2=2∧0+2≤2∧qQz cm 1 [(.string cg),cl] (fun cn co=>qXi cn (fun cp=>srcW co 2 cn (cp) (fun cq=>apW co 2 40 [(.string (ByteArray.mk #[])),(.slice none 0 0)] ce (cp) cq (fun cr cs=>qQh a0=true∧ptrW a0 (fun ct=>one cr=true∧1=1∧∃ cu,wr1 cs (Addr.add (Addr.add ct 0) 5) cr=some cu∧j44__44 D k kp a0 cu))))))))))))) kp) (
D 28 [(.bool false),(.int .i64 222)] b0 (fun cv cw=>cv=(.tuple #[])∧j44__44 D k kp a0 cw) kp)))))
def F44 (D:Orc) (a0 a1:Value) (h:H) (k:Kv) (kp:Kp):Prop :=
qQm a1 0 1 (fun b0=>∃ s1:ByteArray,rd h b0=some (.string s1)∧cond (s1.toList==(ByteArray.mk #[115,121,109]).toList) (
D 88 [a1,(.int .i64 3),(.string (ByteArray.mk #[]))] h (fun v2 h3=>v2=(.tuple #[])∧qQh a0=true∧ptrW a0 (fun b4=>∃ t5:Bool,rd h3 (Addr.add b4 6)=some (.bool t5)∧D 28 [(.bool (!t5)),(.int .i64 222)] h3 (fun v6 h7=>v6=(.tuple #[])∧qQm a1 1 1 (fun b8=>∃ s9:ByteArray,rd h7 b8=some (.string s9)∧one (.string s9)=true∧0<2∧2=2∧0+2≤2∧qQz h7 1 [(.string s9),(.int .i64 0)] (fun ba bb=>D 27 [ba] bb (fun bc bd=>∃ be:Int,bc=(.int .i64 be)∧cond (be==0) (
qQm a1 1 1 (fun bf=>∃ bg:ByteArray,rd bd bf=some (.string bg)∧D 53 [(.string bg),(.string (ByteArray.mk #[35]))] bd (fun bh bi=>∃ bj:Bool,bh=(.bool bj)∧cond (!bj) (
qQh a0=true∧ptrW a0 (fun bk=>∃ bl:Value,rd bi (Addr.add (Addr.add bk 0) 0)=some bl∧qQm a1 1 1 (fun bm=>∃ bn:ByteArray,rd bi bm=some (.string bn)∧D 89 [bl,(.string bn)] bi (fun bo bp=>∃ bq:Int,bo=(.int .i64 bq)∧D 28 [(.bool (decide (bq<(0:Int)))),(.int .i64 223)] bp (fun br bs=>br=(.tuple #[])∧j44__6 D k kp a0 a1 bs) kp) kp))) (
D 28 [(.bool false),(.int .i64 223)] bi (fun bt bu=>bt=(.tuple #[])∧j44__6 D k kp a0 a1 bu) kp)) kp)) (
D 28 [(.bool false),(.int .i64 223)] bd (fun bv bw=>bv=(.tuple #[])∧j44__6 D k kp a0 a1 bw) kp)) kp))) kp)) kp) (
cond (s1.toList==(ByteArray.mk #[114,117,108,101]).toList) (
qQh a0=true∧ptrW a0 (fun bx=>∃ bz:Value,rd h (Addr.add (Addr.add bx 0) 1)=some bz∧D 91 [a0,a1,(.string (ByteArray.mk #[45,62]))] h (fun c0 c1=>∃ c2 c3:Value,c0=(.agg #[c2,c3])∧(rd c1 (Addr.add (Addr.add bx 0) 1)=some bz)∧2=2∧0+2≤2∧qQz c1 1 [c2,c3] (fun c4 c5=>qXi c4 (fun c6=>srcW c5 2 c4 (c6) (fun c7=>apW c5 2 48 [(.slice none 0 0),(.slice none 0 0)] bz (c6) c7 (fun c8 c9=>qQh a0=true∧ptrW a0 (fun ca=>one c8=true∧1=1∧∃ cb,wr1 c9 (Addr.add (Addr.add ca 0) 1) c8=some cb∧qQh a0=true∧ptrW a0 (fun cc=>∃ cd:Value,rd cb (Addr.add (Addr.add cc 0) 1)=some cd∧lenW cd (fun ce=>D 28 [(.bool (decide ((ce:Int)≤(64:Int)))),(.int .i64 226)] cb (fun cf cg=>cf=(.tuple #[])∧j44__44 D k kp a0 cg) kp)))))))) kp)) (
cond (s1.toList==(ByteArray.mk #[101,113]).toList) (
qQh a0=true∧ptrW a0 (fun ch=>∃ ci:Value,rd h (Addr.add (Addr.add ch 0) 2)=some ci∧D 91 [a0,a1,(.string (ByteArray.mk #[61]))] h (fun cj ck=>∃ cl cm:Value,cj=(.agg #[cl,cm])∧(rd ck (Addr.add (Addr.add ch 0) 2)=some ci)∧2=2∧0+2≤2∧qQz ck 1 [cl,cm] (fun cn co=>qXi cn (fun cp=>srcW co 2 cn (cp) (fun cq=>apW co 2 48 [(.slice none 0 0),(.slice none 0 0)] ci (cp) cq (fun cr cs=>qQh a0=true∧ptrW a0 (fun ct=>one cr=true∧1=1∧∃ cu,wr1 cs (Addr.add (Addr.add ct 0) 2) cr=some cu∧qQh a0=true∧ptrW a0 (fun cv=>∃ cw:Value,rd cu (Addr.add (Addr.add cv 0) 2)=some cw∧lenW cw (fun cx=>D 28 [(.bool (decide ((cx:Int)≤(64:Int)))),(.int .i64 226)] cu (fun cy cz=>cy=(.tuple #[])∧j44__44 D k kp a0 cz) kp)))))))) kp)) (
cond (s1.toList==(ByteArray.mk #[97,98,111,118,101]).toList) (
D 88 [a1,(.int .i64 3),(.string (ByteArray.mk #[]))] h (fun d0 d1=>d0=(.tuple #[])∧qQh a0=true∧ptrW a0 (fun d2=>∃ d3:Value,rd d1 (Addr.add (Addr.add d2 0) 3)=some d3∧qQm a1 1 1 (fun d4=>∃ d5:ByteArray,rd d1 d4=some (.string d5)∧qQm a1 2 1 (fun d6=>∃ d7:ByteArray,rd d1 d6=some (.string d7)∧D 92 [a0,(.string d5),(.bool false)] d1 (fun d8 d9=>∃ da:Int,d8=(.int .i64 da)∧(rd d9 d6=some (.string d7))∧(rd d9 (Addr.add (Addr.add d2 0) 3)=some d3)∧D 92 [a0,(.string d7),(.bool false)] d9 (fun db dc=>∃ dd:Int,db=(.int .i64 dd)∧(rd dc (Addr.add (Addr.add d2 0) 3)=some d3)∧one (.int .i64 da)=true∧0<2∧one (.int .i64 dd)=true∧1<2∧2=2∧0+2≤2∧qQz dc 1 [(.int .i64 da),(.int .i64 dd)] (fun de df=>qXi de (fun dg=>srcW df 2 de (dg) (fun dh=>apW df 2 16 [(.int .i64 0),(.int .i64 0)] d3 (dg) dh (fun di dj=>qQh a0=true∧ptrW a0 (fun dk=>one di=true∧1=1∧∃ dl,wr1 dj (Addr.add (Addr.add dk 0) 3) di=some dl∧j44__44 D k kp a0 dl)))))) kp) kp)))) kp) (
cond (s1.toList==(ByteArray.mk #[110,111,100,101]).toList) (
D 88 [a1,(.int .i64 3),(.string (ByteArray.mk #[]))] h (fun dm dn=>dm=(.tuple #[])∧qQm a1 1 1 (fun dp=>∃ dq:ByteArray,rd dn dp=some (.string dq)∧D 93 [(.string dq)] dn (fun dr ds=>∃ dt:Int,dr=(.int .i64 dt)∧D 28 [(.bool (decide (dt>0))),(.int .i64 223)] ds (fun du dv=>du=(.tuple #[])∧qQh a0=true∧ptrW a0 (fun dw=>∃ dx:Value,rd dv (Addr.add (Addr.add dw 0) 4)=some dx∧qQm a1 1 1 (fun dy=>∃ dz:ByteArray,rd dv dy=some (.string dz)∧qQm a1 2 1 (fun e0=>∃ e1:ByteArray,rd dv e0=some (.string e1)∧D 93 [(.string dz)] dv (fun e2 e3=>∃ e4:Int,e2=(.int .i64 e4)∧(rd e3 e0=some (.string e1))∧(rd e3 (Addr.add (Addr.add dw 0) 4)=some dx)∧D 90 [(.string e1),(.int .i64 2147483647)] e3 (fun e5 e6=>∃ e7:Int,e5=(.int .i64 e7)∧(rd e6 (Addr.add (Addr.add dw 0) 4)=some dx)∧one (.int .i64 e4)=true∧0<4∧one (.int .i64 e7)=true∧3<4∧4=4∧0+4≤4∧qQz e6 1 [(.int .i64 e4),(.slice none 0 0),(.slice none 0 0),(.int .i64 e7)] (fun e8 e9=>qXi e8 (fun ea=>srcW e9 4 e8 (ea) (fun eb=>apW e9 4 64 [(.int .i64 0),(.slice none 0 0),(.slice none 0 0),(.int .i64 0)] dx (ea) eb (fun ec ed=>qQh a0=true∧ptrW a0 (fun ee=>one ec=true∧1=1∧∃ ef,wr1 ed (Addr.add (Addr.add ee 0) 4) ec=some ef∧j44__44 D k kp a0 ef)))))) kp) kp)))) kp) kp)) kp) (
cond (s1.toList==(ByteArray.mk #[111,118,101,114]).toList) (
D 88 [a1,(.int .i64 3),(.string (ByteArray.mk #[]))] h (fun eg eh=>eg=(.tuple #[])∧D 94 [a0] eh (fun ei ej=>∃ ek:Value,ei=ek∧qQh ek=true∧ptrW ek (fun el=>∃ em:Value,rd ej (Addr.add el 1)=some em∧qQm a1 1 1 (fun en=>∃ eo:ByteArray,rd ej en=some (.string eo)∧qQm a1 2 1 (fun ep=>∃ eq:ByteArray,rd ej ep=some (.string eq)∧D 92 [a0,(.string eo),(.bool true)] ej (fun er es=>∃ et:Int,er=(.int .i64 et)∧(rd es ep=some (.string eq))∧(rd es (Addr.add el 1)=some em)∧D 92 [a0,(.string eq),(.bool true)] es (fun eu ew=>∃ ex:Int,eu=(.int .i64 ex)∧(rd ew (Addr.add el 1)=some em)∧one (.int .i64 et)=true∧0<2∧one (.int .i64 ex)=true∧1<2∧2=2∧0+2≤2∧qQz ew 1 [(.int .i64 et),(.int .i64 ex)] (fun ey ez=>qXi ey (fun f0=>srcW ez 2 ey (f0) (fun f1=>apW ez 2 16 [(.int .i64 0),(.int .i64 0)] em (f0) f1 (fun f2 f3=>qQh ek=true∧ptrW ek (fun f4=>one f2=true∧1=1∧∃ f5,wr1 f3 (Addr.add f4 1) f2=some f5∧j44__44 D k kp a0 f5)))))) kp) kp)))) kp) kp) (
cond (s1.toList==(ByteArray.mk #[115,101,116]).toList) (
D 88 [a1,(.int .i64 2),(.string (ByteArray.mk #[]))] h (fun f6 f7=>f6=(.tuple #[])∧D 94 [a0] f7 (fun f8 f9=>∃ fa:Value,f8=fa∧qQh fa=true∧ptrW fa (fun fb=>∃ fc:Value,rd f9 (Addr.add fb 2)=some fc∧qQm a1 1 1 (fun fd=>∃ fe:ByteArray,rd f9 fd=some (.string fe)∧D 92 [a0,(.string fe),(.bool true)] f9 (fun ff fg=>∃ fh:Int,ff=(.int .i64 fh)∧(rd fg (Addr.add fb 2)=some fc)∧one (.int .i64 fh)=true∧0<2∧2=2∧0+2≤2∧qQz fg 1 [(.int .i64 fh),(.slice none 0 0)] (fun fi fj=>qXi fi (fun fk=>srcW fj 2 fi (fk) (fun fl=>apW fj 2 32 [(.int .i64 0),(.slice none 0 0)] fc (fk) fl (fun fm fn=>qQh fa=true∧ptrW fa (fun fo=>one fm=true∧1=1∧∃ fp,wr1 fn (Addr.add fo 2) fm=some fp∧j44__44 D k kp a0 fp)))))) kp))) kp) kp) (
cond (s1.toList==(ByteArray.mk #[109,111,110,111]).toList) (
D 95 [a0,a1] h (fun fq fr=>fq=(.tuple #[])∧j44__44 D k kp a0 fr) kp) (
cond (s1.toList==(ByteArray.mk #[99,104,101,99,107]).toList) (
j44__36 D k kp a0 a1 (.string s1) (.bool (s1.toList==(ByteArray.mk #[99,104,101,99,107]).toList)) h) (
cond (s1.toList==(ByteArray.mk #[99,114,105,116,105,99,97,108]).toList) (
j44__36 D k kp a0 a1 (.string s1) (.bool (s1.toList==(ByteArray.mk #[99,114,105,116,105,99,97,108]).toList)) h) (
cond (s1.toList==(ByteArray.mk #[106,111,105,110]).toList) (
j44__36 D k kp a0 a1 (.string s1) (.bool (s1.toList==(ByteArray.mk #[106,111,105,110]).toList)) h) (
cond (s1.toList==(ByteArray.mk #[112,97,105,114,115]).toList) (
j44__36 D k kp a0 a1 (.string s1) (.bool (s1.toList==(ByteArray.mk #[112,97,105,114,115]).toList)) h) (
j44__36 D k kp a0 a1 (.string s1) (.bool (s1.toList==(ByteArray.mk #[99,111,109,112,108,101,116,101]).toList)) h)))))))))))))
def Cl44 (D:Orc):Prop:=∀ a0 a1 h k kp,F44 D a0 a1 h k kp→D 44 [a0,a1] h k kp
theorem cl44:Cl44 (CS Tryz.prog):=fun _ _ _ _ _ hk=>fn0 wide lv44 (fn:=Tryz.f44) (by kernel_rfl) (by kernel_rfl) (by kernel_rfl) (by kernel_rfl) (cast (by kernel_rfl) hk)
def lv49:=lvM 43 [.raw,.raw] [(4,[kR 0,kR 1,kI 5])] [(4,[(0,[])])] [kB 4] [(7,[kR 0,kR 1,kI 5,kB 42])]
def j49_4_7 (D:Orc) (I:List Value→H→Prop) (K:Kl) (a0 a1 a2 a3:Value) (b0:H):Prop :=
intK .i64 a2 (fun b1=>qQp a3 (fun b2=>cond b2 (
K X.r [(.bool false)] b0) (
I [a0,a1,(.int .i64 (IntKind.i64.wrap (b1+1)))] b0)))
def round49_4 (D:Orc) (I:List Value→H→Prop) (K:Kl) (a0 a1 a2:Value) (h2:H):Prop :=
intK .i64 a2 (fun x3=>lenW a0 (fun n4=>cond (decide (x3<(n4:Int))) (
qQm a0 x3 2 (fun b3=>∃ v6:Value,rd h2 (Addr.add b3 0)=some v6∧qQm a1 x3 2 (fun b5=>∃ v8:Value,rd h2 (Addr.add b5 0)=some v8∧D 14 [v6,v8] h2 (fun v9 b8=>∃ b9:Bool,v9=(.bool b9)∧cond (!(!b9)) (
qQm a0 x3 2 (fun ba=>∃ bb:Value,rd b8 (Addr.add ba 1)=some bb∧qQm a1 x3 2 (fun bc=>∃ bd:Value,rd b8 (Addr.add bc 1)=some bd∧D 14 [bb,bd] b8 (fun be bf=>∃ bg:Bool,be=(.bool bg)∧j49_4_7 D I K a0 a1 (.int .i64 x3) (.bool (!bg)) bf) (fun c h=>K (X.p c) [] h)))) (
j49_4_7 D I K a0 a1 (.int .i64 x3) (.bool true) b8)) (fun c h=>K (X.p c) [] h)))) (
K (X.e 0) [] h2)))
def loop49_4 (D:Orc):=Lp3 (round49_4 D)
def L49 (D:Orc):Lor:=Lsel [(4,loop49_4 D)]
def F49 (D:Orc) (a0 a1:Value) (h:H) (k:Kv) (kp:Kp):Prop :=
lenW a0 (fun n0=>lenW a1 (fun n1=>cond ((n0:Int) != (n1:Int)) (
k (.bool false) h) (
loop49_4 D [a0,a1,(.int .i64 0)] h (fun b2 b3 b4=>xs b2 (qQp (nth b3 0) (fun b5=>k (.bool b5) b4)) (fun b6=>cond (Nat.beq b6 0) (
k (.bool true) b4) (False)) (fun c=>kp c b4)))))
def Cl49 (D:Orc):Prop:=∀ a0 a1 h k kp,F49 D a0 a1 h k kp→D 49 [a0,a1] h k kp
theorem cl49:Cl49 (CS Tryz.prog):=fun _ _ _ _ _ hk=>fnL wide lv49 L49 (fn:=Tryz.f49) (by kernel_rfl) (by kernel_rfl) (by kernel_rfl) (l:=[nthC (qQi (qQs Tryz.f49)) 0]) (by kernel_rfl) ⟨fun _ _ _ hk I H=>hk I fun _ _ _ _ hr=>H _ _ (cast (by kernel_rfl) hr),trivial⟩ (cast (by kernel_rfl) hk)
def lv50:=lvM 26 [.raw,.raw] [(4,[kR 0,kR 1,kI 5])] [(4,[(0,[])])] [kB 4] []
def round50_4 (D:Orc) (I:List Value→H→Prop) (K:Kl) (a0 a1 a2:Value) (h2:H):Prop :=
intK .i64 a2 (fun x3=>lenW a0 (fun n4=>cond (decide (x3<(n4:Int))) (
qQm a0 x3 2 (fun b3=>∃ x6 x7:Int,rdN h2 b3 2=some [(.int .i64 x6),(.int .i64 x7)]∧qQm a1 x3 2 (fun b6=>∃ x9 b8:Int,rdN h2 b6 2=some [(.int .i64 x9),(.int .i64 b8)]∧cond (!((x6==x9) && ((x7==b8) && true))) (
K X.r [(.bool false)] h2) (
I [a0,a1,(.int .i64 (IntKind.i64.wrap (x3+1)))] h2)))) (
K (X.e 0) [] h2)))
def loop50_4 (D:Orc):=Lp3 (round50_4 D)
def L50 (D:Orc):Lor:=Lsel [(4,loop50_4 D)]
def F50 (D:Orc) (a0 a1:Value) (h:H) (k:Kv) (kp:Kp):Prop :=
lenW a0 (fun n0=>lenW a1 (fun n1=>cond ((n0:Int) != (n1:Int)) (
k (.bool false) h) (
loop50_4 D [a0,a1,(.int .i64 0)] h (fun b2 b3 b4=>xs b2 (qQp (nth b3 0) (fun b5=>k (.bool b5) b4)) (fun b6=>cond (Nat.beq b6 0) (
k (.bool true) b4) (False)) (fun c=>kp c b4)))))
def Cl50 (D:Orc):Prop:=∀ a0 a1 h k kp,F50 D a0 a1 h k kp→D 50 [a0,a1] h k kp
theorem cl50:Cl50 (CS Tryz.prog):=fun _ _ _ _ _ hk=>fnL wide lv50 L50 (fn:=Tryz.f50) (by kernel_rfl) (by kernel_rfl) (by kernel_rfl) (l:=[nthC (qQi (qQs Tryz.f50)) 0]) (by kernel_rfl) ⟨fun _ _ _ hk I H=>hk I fun _ _ _ _ hr=>H _ _ (cast (by kernel_rfl) hr),trivial⟩ (cast (by kernel_rfl) hk)
def lv51:=lvM 104 [.raw,.raw] [(4,[kR 2,kR 3,kI 5]),(9,[kR 2,kR 3,kI 5,kI 6])] [(4,[(0,[])]),(9,[(2,[kR 2,kR 3,kI 5])])] [kB 4] [(2,[kR 2,kR 3,kB 35]),(7,[kR 2,kR 3,kI 5,kB 72])]
def round51_9 (D:Orc) (I:List Value→H→Prop) (K:Kl) (a0 a1 a2 a3:Value) (b0:H):Prop :=
intK .i64 a2 (fun b1=>intK .i64 a3 (fun b2=>ptrW a0 (fun b3=>∃ b4:Value,rd b0 (Addr.add b3 2)=some b4∧qQm b4 b1 2 (fun b5=>∃ b6:Value,rd b0 (Addr.add b5 1)=some b6∧lenW b6 (fun b7=>cond (decide (b2<(b7:Int))) (
ptrW a0 (fun b8=>∃ b9:Value,rd b0 (Addr.add b8 2)=some b9∧qQm b9 b1 2 (fun ba=>∃ bb:Value,rd b0 (Addr.add ba 1)=some bb∧qQm bb b2 2 (fun bc=>∃ bd be:Value,rdN b0 bc 2=some [bd,be]∧ptrW a1 (fun bf=>∃ bg:Value,rd b0 (Addr.add bf 2)=some bg∧qQm bg b1 2 (fun bh=>∃ bi:Value,rd b0 (Addr.add bh 1)=some bi∧qQm bi b2 2 (fun bj=>∃ bk bl:Value,rdN b0 bj 2=some [bk,bl]∧D 98 [(.agg #[bd,be]),(.agg #[bk,bl])] b0 (fun bm bn=>∃ bo:Bool,bm=(.bool bo)∧cond (!bo) (
K X.r [(.bool false)] bn) (
I [a0,a1,(.int .i64 b1),(.int .i64 (IntKind.i64.wrap (b2+1)))] bn)) (fun c h=>K (X.p c) [] h)))))))) (
K (X.e 2) [a0,a1,(.int .i64 b1)] b0))))))
def loop51_9 (D:Orc):=Lp4 (round51_9 D)
def j51_4_7 (D:Orc) (I:List Value→H→Prop) (K:Kl) (a0 a1 a2 a3:Value) (b0:H):Prop :=
intK .i64 a2 (fun b1=>qQp a3 (fun b2=>cond b2 (
K X.r [(.bool false)] b0) (
loop51_9 D [a0,a1,(.int .i64 b1),(.int .i64 0)] b0 (fun b3 b4 b5=>xs b3 (qQp (nth b4 0) (fun b6=>K X.r [(.bool b6)] b5)) (fun b7=>cond (Nat.beq b7 2) (
intK .i64 (nth b4 2) (fun b8=>I [(nth b4 0),(nth b4 1),(.int .i64 (IntKind.i64.wrap (b8+1)))] b5)) (False)) (fun c=>(fun c h=>K (X.p c) [] h) c b5)))))
def round51_4 (D:Orc) (I:List Value→H→Prop) (K:Kl) (a0 a1 a2:Value) (b0:H):Prop :=
intK .i64 a2 (fun b1=>ptrW a0 (fun b2=>∃ b3:Value,rd b0 (Addr.add b2 2)=some b3∧lenW b3 (fun b4=>cond (decide (b1<(b4:Int))) (
ptrW a0 (fun b5=>∃ b6:Value,rd b0 (Addr.add b5 2)=some b6∧qQm b6 b1 2 (fun b7=>∃ b8:Int,rd b0 (Addr.add b7 0)=some (.int .i64 b8)∧ptrW a1 (fun b9=>∃ ba:Value,rd b0 (Addr.add b9 2)=some ba∧qQm ba b1 2 (fun bb=>∃ bc:Int,rd b0 (Addr.add bb 0)=some (.int .i64 bc)∧cond (!(b8 != bc)) (
ptrW a0 (fun bd=>∃ be:Value,rd b0 (Addr.add bd 2)=some be∧qQm be b1 2 (fun bf=>∃ bg:Value,rd b0 (Addr.add bf 1)=some bg∧lenW bg (fun bh=>ptrW a1 (fun bi=>∃ bj:Value,rd b0 (Addr.add bi 2)=some bj∧qQm bj b1 2 (fun bk=>∃ bl:Value,rd b0 (Addr.add bk 1)=some bl∧lenW bl (fun bm=>j51_4_7 D I K a0 a1 (.int .i64 b1) (.bool ((bh:Int) != (bm:Int))) b0))))))) (
j51_4_7 D I K a0 a1 (.int .i64 b1) (.bool true) b0)))))) (
K (X.e 0) [] b0))))
def loop51_4 (D:Orc):=Lp3 (round51_4 D)
def j51__2 (D:Orc) (k:Kv) (kp:Kp) (a0 a1 a2:Value) (b0:H):Prop :=
qQp a2 (fun b1=>cond b1 (
k (.bool false) b0) (
loop51_4 D [a0,a1,(.int .i64 0)] b0 (fun b2 b3 b4=>xs b2 (qQp (nth b3 0) (fun b5=>k (.bool b5) b4)) (fun b6=>cond (Nat.beq b6 0) (
k (.bool true) b4) (False)) (fun c=>kp c b4))))
def L51 (D:Orc):Lor:=Lsel [(4,loop51_4 D),(9,loop51_9 D)]
def F51 (D:Orc) (a0 a1:Value) (h:H) (k:Kv) (kp:Kp):Prop :=
aggW a0 (fun l0=>newW h l0 (fun p1 h2=>aggW a1 (fun l3=>newW h2 l3 (fun p4 h5=>ptrW p1 (fun b6=>∃ x7:Int,rd h5 (Addr.add b6 0)=some (.int .i64 x7)∧ptrW p4 (fun b8=>∃ x9:Int,rd h5 (Addr.add b8 0)=some (.int .i64 x9)∧cond (!(x7 != x9)) (
ptrW p1 (fun ba=>∃ bb:Int,rd h5 (Addr.add ba 3)=some (.int .i64 bb)∧ptrW p4 (fun bc=>∃ bd:Int,rd h5 (Addr.add bc 3)=some (.int .i64 bd)∧cond (!(bb != bd)) (
ptrW p1 (fun be=>∃ bf:Value,rd h5 (Addr.add be 1)=some bf∧ptrW p4 (fun bg=>∃ bh:Value,rd h5 (Addr.add bg 1)=some bh∧D 50 [bf,bh] h5 (fun bi bj=>∃ bk:Bool,bi=(.bool bk)∧cond (!(!bk)) (
ptrW p1 (fun bl=>∃ bm:Value,rd bj (Addr.add bl 2)=some bm∧lenW bm (fun bn=>ptrW p4 (fun bo=>∃ bp:Value,rd bj (Addr.add bo 2)=some bp∧lenW bp (fun bq=>j51__2 D k kp p1 p4 (.bool ((bn:Int) != (bq:Int))) bj))))) (
j51__2 D k kp p1 p4 (.bool true) bj)) kp))) (
j51__2 D k kp p1 p4 (.bool true) h5)))) (
j51__2 D k kp p1 p4 (.bool true) h5)))))))
def Cl51 (D:Orc):Prop:=∀ a0 a1 h k kp,F51 D a0 a1 h k kp→D 51 [a0,a1] h k kp
theorem cl51:Cl51 (CS Tryz.prog):=fun _ _ _ _ _ hk=>fnL wide lv51 L51 (fn:=Tryz.f51) (by kernel_rfl) (by kernel_rfl) (by kernel_rfl) (l:=[nthC (qQi (qQs Tryz.f51)) 0,nthC (qQi (qQs Tryz.f51)) 1]) (by kernel_rfl) ⟨fun _ _ _ hk I H=>hk I fun _ _ _ _ hr=>H _ _ (cast (by kernel_rfl) hr),fun _ _ _ hk I H=>hk I fun _ _ _ _ _ hr=>H _ _ (cast (by kernel_rfl) hr),trivial⟩ (cast (by kernel_rfl) hk)
def lv52:=lvM 3 [] [] [] [] []
def F52 (D:Orc) (a0:Value) (u:FrameMode) (h:H) (k:FrameMode→H→Prop) (kp:List PanicEntry→FrameMode→H→Prop):Prop :=
recW u (fun v0 u1=>D 26 [v0,a0] h (fun v2 h3=>v2=(.tuple #[])∧k u1 h3) (fun c h=>kp c u1 h))
def Cl52 (D:Orc) (E:Dorc):Prop:=∀ a0 u h k kp,F52 D a0 u h k kp→E 52 [a0] u h k kp
theorem cl52:Cl52 (CS Tryz.prog) (DS Tryz.prog):=fun _ _ _ _ _ hk=>fnSL wide lv52 (fun _=>L0) (fn:=Tryz.f52) (by kernel_rfl) (by kernel_rfl) (by kernel_rfl) (l:=[]) (by kernel_rfl) trivial (cast (by kernel_rfl) hk)
def lv53:=lvM 8 [.str,.str] [] [] [kB 4] []
def F53 (D:Orc) (a0 a1:Value) (h:H) (k:Kv) (kp:Kp):Prop :=
strW a0 (fun s0=>strW a1 (fun s1=>D 99 [(.string s0),(.string s1)] h (fun v2 h3=>∃ t4:Bool,v2=(.bool t4)∧k (.bool t4) h3) kp))
def Cl53 (D:Orc):Prop:=∀ a0 a1 h k kp,F53 D a0 a1 h k kp→D 53 [a0,a1] h k kp
theorem cl53:Cl53 (CS Tryz.prog):=fun _ _ _ _ _ hk=>fn0 wide lv53 (fn:=Tryz.f53) (by kernel_rfl) (by kernel_rfl) (by kernel_rfl) (by kernel_rfl) (cast (by kernel_rfl) hk)
def lv54:=lvM 14 [.raw,.raw] [] [] [] []
def F54 (D:Orc) (a0 a1:Value) (h:H) (k:Kv) (kp:Kp):Prop :=
qQh a0=true∧ptrW a0 (fun b0=>D 100 [a1,(.string (ByteArray.mk #[32]))] h (fun v1 h2=>∃ s3:ByteArray,v1=(.string s3)∧D 81 [(.pointer (some (Addr.add b0 0))),(.string s3)] h2 (fun v4 h5=>∃ x6:Int,∃ v7:Value,v4=(.tuple #[(.int .i64 x6),v7])∧qQh a0=true∧ptrW a0 (fun b8=>D 81 [(.pointer (some (Addr.add b8 0))),(.string (ByteArray.mk #[10]))] h5 (fun v9 ba=>∃ bb:Int,∃ bc:Value,v9=(.tuple #[(.int .i64 bb),bc])∧k (.tuple #[]) ba) kp)) kp) kp)
def Cl54 (D:Orc):Prop:=∀ a0 a1 h k kp,F54 D a0 a1 h k kp→D 54 [a0,a1] h k kp
theorem cl54:Cl54 (CS Tryz.prog):=fun _ _ _ _ _ hk=>fn0 wide lv54 (fn:=Tryz.f54) (by kernel_rfl) (by kernel_rfl) (by kernel_rfl) (by kernel_rfl) (cast (by kernel_rfl) hk)
def lv55:=lvM 14 [.raw,.int .i64] [] [] [kS 4] [(2,[kI 1])]
def j55__2 (D:Orc) (k:Kv) (kp:Kp) (a0:Value) (h3:H):Prop :=
intK .i64 a0 (fun x4=>D 82 [(.int .i64 x4)] h3 (fun v5 h6=>∃ s7:ByteArray,v5=(.string s7)∧k (.string s7) h6) kp)
def F55 (D:Orc) (a0 a1:Value) (h:H) (k:Kv) (kp:Kp):Prop :=
intK .i64 a1 (fun x0=>cond (decide (x0≥0)) (
D 28 [(.bool (decide (x0≤(2147483647:Int)))),(.int .i64 225)] h (fun v1 h2=>v1=(.tuple #[])∧j55__2 D k kp (.int .i64 x0) h2) kp) (
D 28 [(.bool false),(.int .i64 225)] h (fun v8 h9=>v8=(.tuple #[])∧j55__2 D k kp (.int .i64 x0) h9) kp))
def Cl55 (D:Orc):Prop:=∀ a0 a1 h k kp,F55 D a0 a1 h k kp→D 55 [a0,a1] h k kp
theorem cl55:Cl55 (CS Tryz.prog):=fun _ _ _ _ _ hk=>fn0 wide lv55 (fn:=Tryz.f55) (by kernel_rfl) (by kernel_rfl) (by kernel_rfl) (by kernel_rfl) (cast (by kernel_rfl) hk)
def lv56:=lvM 34 [.raw,.raw,.str,.str] [(1,[kR 0,kR 1,kS 2,kS 3,kR 10,kI 11,kI 12])] [(1,[(0,[kR 1])])] [] []
def round56_1 (D:Orc) (I:List Value→H→Prop) (K:Kl) (a0 a1 a2 a3 a4 a5 a6:Value) (h3:H):Prop :=
strW a2 (fun s4=>strW a3 (fun s5=>intK .i64 a5 (fun x6=>intK .i64 a6 (fun x7=>cond (decide (x7<x6)) (
qQm a4 x7 2 (fun b5=>∃ v9 b7:Value,rdN h3 b5 2=some [v9,b7]∧newW h3 [(.slice none 0 0),(.slice none 0 0)] (fun b8 b9=>ptrW b8 (fun ba=>2=2∧List.all [v9,b7] one=true∧∃ bb,wr b9 ba [v9,b7]=some bb∧ptrW b8 (fun bc=>∃ bd:Value,rd bb (Addr.add bc 0)=some bd∧ptrW b8 (fun be=>∃ bf:Value,rd bb (Addr.add be 1)=some bf∧D 101 [a0,bd] bb (fun bg bh=>∃ bi:ByteArray,bg=(.string bi)∧(rd bh (Addr.add be 1)=some bf)∧D 101 [a0,bf] bh (fun bj bk=>∃ bl:ByteArray,bj=(.string bl)∧one (.string s4)=true∧0<4∧one (.string bi)=true∧1<4∧one (.string s5)=true∧2<4∧one (.string bl)=true∧3<4∧qQz bk 4 [(.string s4),(.string bi),(.string s5),(.string bl)] (fun bm bn=>D 54 [a0,bm] bn (fun bo bp=>bo=(.tuple #[])∧I [a0,a1,(.string s4),(.string s5),a4,(.int .i64 x6),(.int .i64 (IntKind.i64.wrap (x7+1)))] bp) (fun c h=>K (X.p c) [] h))) (fun c h=>K (X.p c) [] h)) (fun c h=>K (X.p c) [] h))))))) (
K (X.e 0) [a1] h3)))))
def loop56_1 (D:Orc):=Lp7 (round56_1 D)
def L56 (D:Orc):Lor:=Lsel [(1,loop56_1 D)]
def F56 (D:Orc) (a0 a1 a2 a3:Value) (h:H) (k:Kv) (kp:Kp):Prop :=
strW a2 (fun s0=>strW a3 (fun s1=>lenW a1 (fun n2=>loop56_1 D [a0,a1,(.string s0),(.string s1),a1,(.int .i64 (n2:Int)),(.int .i64 0)] h (fun b3 b4 b5=>xs b3 (k (.tuple #[]) b5) (fun b6=>cond (Nat.beq b6 0) (
lenW (nth b4 0) (fun b7=>D 28 [(.bool (decide ((b7:Int)≤(64:Int)))),(.int .i64 226)] b5 (fun b8 b9=>b8=(.tuple #[])∧k (.tuple #[]) b9) kp)) (False)) (fun c=>kp c b5)))))
def Cl56 (D:Orc):Prop:=∀ a0 a1 a2 a3 h k kp,F56 D a0 a1 a2 a3 h k kp→D 56 [a0,a1,a2,a3] h k kp
theorem cl56:Cl56 (CS Tryz.prog):=fun _ _ _ _ _ _ _ hk=>fnL wide lv56 L56 (fn:=Tryz.f56) (by kernel_rfl) (by kernel_rfl) (by kernel_rfl) (l:=[nthC (qQi (qQs Tryz.f56)) 0]) (by kernel_rfl) ⟨fun _ _ _ hk I H=>hk I fun _ _ _ _ _ _ _ _ hr=>H _ _ (cast (by kernel_rfl) hr),trivial⟩ (cast (by kernel_rfl) hk)
def lv57:=lvM 52 [.raw,.int .i64,.bool] [] [] [kS 6] [(3,[kR 0,kI 1,kI 7])]
def j57__3 (D:Orc) (k:Kv) (kp:Kp) (a0 a1 a2:Value) (h7:H):Prop :=
intK .i64 a1 (fun x8=>intK .i64 a2 (fun x9=>cond (decide (x8<x9)) (
qQh a0=true∧ptrW a0 (fun b3=>∃ b4:Value,rd h7 (Addr.add b3 2)=some b4∧qQm b4 x8 2 (fun b5=>∃ b6:ByteArray,rd h7 (Addr.add b5 0)=some (.string b6)∧k (.string b6) h7))) (
qQh a0=true∧ptrW a0 (fun b7=>∃ b8:Value,rd h7 (Addr.add b7 2)=some b8∧qQm b8 (IntKind.i64.wrap (x8 - x9)) 2 (fun b9=>∃ ba:ByteArray,rd h7 (Addr.add b9 0)=some (.string ba)∧ba.size+(ByteArray.mk #[35]).size≤9223372036854775807∧k (.string (ba++(ByteArray.mk #[35]))) h7)))))
def F57 (D:Orc) (a0 a1 a2:Value) (h:H) (k:Kv) (kp:Kp):Prop :=
intK .i64 a1 (fun x0=>qQp a2 (fun t1=>qQh a0=true∧ptrW a0 (fun b2=>∃ v3:Value,rd h (Addr.add b2 2)=some v3∧lenW v3 (fun n4=>cond (decide (x0≥0)) (
cond (!(decide (x0<(n4:Int)))) (
cond t1 (
D 28 [(.bool (decide (x0<(IntKind.i64.wrap (2*(n4:Int)))))),(.int .i64 223)] h (fun v5 h6=>v5=(.tuple #[])∧j57__3 D k kp a0 (.int .i64 x0) (.int .i64 (n4:Int)) h6) kp) (
D 28 [(.bool false),(.int .i64 223)] h (fun b7 b8=>b7=(.tuple #[])∧j57__3 D k kp a0 (.int .i64 x0) (.int .i64 (n4:Int)) b8) kp)) (
D 28 [(.bool true),(.int .i64 223)] h (fun b9 ba=>b9=(.tuple #[])∧j57__3 D k kp a0 (.int .i64 x0) (.int .i64 (n4:Int)) ba) kp)) (
D 28 [(.bool false),(.int .i64 223)] h (fun bb bc=>bb=(.tuple #[])∧j57__3 D k kp a0 (.int .i64 x0) (.int .i64 (n4:Int)) bc) kp)))))
def Cl57 (D:Orc):Prop:=∀ a0 a1 a2 h k kp,F57 D a0 a1 a2 h k kp→D 57 [a0,a1,a2] h k kp
theorem cl57:Cl57 (CS Tryz.prog):=fun _ _ _ _ _ _ hk=>fn0 wide lv57 (fn:=Tryz.f57) (by kernel_rfl) (by kernel_rfl) (by kernel_rfl) (by kernel_rfl) (cast (by kernel_rfl) hk)
def lv58:=lvM 110 [.raw,.raw] [(5,[kR 0,kR 3,kR 41,kI 42,kI 43]),(10,[kR 0,kR 60,kI 61,kI 62]),(14,[kR 0,kR 60,kI 61,kI 62,kR 74,kI 75,kI 76]),(20,[kR 0,kR 13,kR 60,kI 61,kI 62,kR 74,kI 75,kI 76,kR 92,kI 93,kI 94])] [(5,[(0,[kR 0,kR 3])]),(10,[(2,[])]),(14,[(4,[kR 0,kR 60,kI 61,kI 62])]),(20,[(6,[kR 0,kR 13,kR 60,kI 61,kI 62,kR 74,kI 75,kI 76])])] [] [(3,[kR 0,kR 3,kR 4])]
def round58_5 (D:Orc) (I:List Value→H→Prop) (K:Kl) (a0 a1 a2 a3 a4:Value) (b0:H):Prop :=
intK .i64 a3 (fun b1=>intK .i64 a4 (fun b2=>cond (decide (b2<b1)) (
qQm a2 b2 2 (fun b3=>∃ b4 b5:Int,rdN b0 b3 2=some [(.int .i64 b4),(.int .i64 b5)]∧newW b0 [(.int .i64 0),(.int .i64 0)] (fun b6 b7=>ptrW b6 (fun b8=>2=2∧List.all [(.int .i64 b4),(.int .i64 b5)] one=true∧∃ b9,wr b7 b8 [(.int .i64 b4),(.int .i64 b5)]=some b9∧ptrW b6 (fun ba=>0≤(0:Int)∧0<(2:Int)∧∃ bb:Int,rd b9 (Addr.add ba (Int.toNat 0*1))=some (.int .i64 bb)∧ptrW b6 (fun bc=>0≤(1:Int)∧1<(2:Int)∧∃ bd:Int,rd b9 (Addr.add bc (Int.toNat 1*1))=some (.int .i64 bd)∧D 57 [a0,(.int .i64 bb),(.bool true)] b9 (fun be bf=>∃ bg:ByteArray,be=(.string bg)∧(rd bf (Addr.add bc (Int.toNat 1*1))=some (.int .i64 bd))∧D 57 [a0,(.int .i64 bd),(.bool true)] bf (fun bh bi=>∃ bj:ByteArray,bh=(.string bj)∧one (.string (ByteArray.mk #[111,118,101,114]))=true∧0<3∧one (.string bg)=true∧1<3∧one (.string bj)=true∧2<3∧qQz bi 3 [(.string (ByteArray.mk #[111,118,101,114])),(.string bg),(.string bj)] (fun bk bl=>D 54 [a0,bk] bl (fun bm bn=>bm=(.tuple #[])∧I [a0,a1,a2,(.int .i64 b1),(.int .i64 (IntKind.i64.wrap (b2+1)))] bn) (fun c h=>K (X.p c) [] h))) (fun c h=>K (X.p c) [] h)) (fun c h=>K (X.p c) [] h))))))) (
K (X.e 0) [a0,a1] b0)))
def loop58_5 (D:Orc):=Lp5 (round58_5 D)
def round58_20 (D:Orc) (I:List Value→H→Prop) (K:Kl) (a0 a1 a2 a3 a4 a5 a6 a7 a8 a9 a10:Value) (b0:H):Prop :=
intK .i64 a3 (fun b1=>intK .i64 a4 (fun b2=>intK .i64 a6 (fun b3=>intK .i64 a7 (fun b4=>intK .i64 a9 (fun b5=>intK .i64 a10 (fun b6=>cond (decide (b6<b5)) (
qQm a8 b6 1 (fun b7=>∃ b8:Int,rd b0 b7=some (.int .i64 b8)∧D 55 [a0,(.int .i64 b8)] b0 (fun b9 ba=>∃ bb:ByteArray,b9=(.string bb)∧one (.string bb)=true∧0<1∧qQz ba 1 [(.string bb)] (fun bc bd=>qXi bc (fun be=>srcW bd 1 bc (be) (fun bf=>apW bd 1 16 [(.string (ByteArray.mk #[]))] a1 (be) bf (fun bg bh=>I [a0,bg,a2,(.int .i64 b1),(.int .i64 b2),a5,(.int .i64 b3),(.int .i64 b4),a8,(.int .i64 b5),(.int .i64 (IntKind.i64.wrap (b6+1)))] bh))))) (fun c h=>K (X.p c) [] h))) (
K (X.e 6) [a0,a1,a2,(.int .i64 b1),(.int .i64 b2),a5,(.int .i64 b3),(.int .i64 b4)] b0)))))))
def loop58_20 (D:Orc):=Lp11 (round58_20 D)
def round58_14 (D:Orc) (I:List Value→H→Prop) (K:Kl) (a0 a1 a2 a3 a4 a5 a6:Value) (b0:H):Prop :=
intK .i64 a2 (fun b1=>intK .i64 a3 (fun b2=>intK .i64 a5 (fun b3=>intK .i64 a6 (fun b4=>cond (decide (b4<b3)) (
qQm a4 b4 2 (fun b5=>∃ b6 b7:Value,rdN b0 b5 2=some [b6,b7]∧newW b0 [(.slice none 0 0),(.slice none 0 0)] (fun b8 b9=>ptrW b8 (fun ba=>2=2∧List.all [b6,b7] one=true∧∃ bb,wr b9 ba [b6,b7]=some bb∧ptrW b8 (fun bc=>∃ bd:Value,rd bb (Addr.add bc 0)=some bd∧D 102 [bd] bb (fun be bf=>∃ bg:ByteArray,∃ bh:Int,be=(.tuple #[(.string bg),(.int .i64 bh)])∧D 28 [(.bool (bh==0)),(.int .i64 225)] bf (fun bi bj=>bi=(.tuple #[])∧one (.string (ByteArray.mk #[109,111,110,111]))=true∧0<2∧one (.string bg)=true∧1<2∧qQz bj 2 [(.string (ByteArray.mk #[109,111,110,111])),(.string bg)] (fun bk bl=>ptrW b8 (fun bm=>∃ bn:Value,rd bl (Addr.add bm 1)=some bn∧lenW bn (fun bo=>loop58_20 D [a0,bk,a1,(.int .i64 b1),(.int .i64 b2),a4,(.int .i64 b3),(.int .i64 b4),bn,(.int .i64 (bo:Int)),(.int .i64 0)] bl (fun bp bq br=>xs bp (K X.r [] br) (fun bs=>cond (Nat.beq bs 6) (
intK .i64 (nth bq 3) (fun bt=>intK .i64 (nth bq 4) (fun bu=>intK .i64 (nth bq 6) (fun bv=>intK .i64 (nth bq 7) (fun bw=>D 54 [(nth bq 0),(nth bq 1)] br (fun bx bz=>bx=(.tuple #[])∧I [(nth bq 0),(nth bq 2),(.int .i64 bt),(.int .i64 bu),(nth bq 5),(.int .i64 bv),(.int .i64 (IntKind.i64.wrap (bw+1)))] bz) (fun c h=>K (X.p c) [] h)))))) (False)) (fun c=>(fun c h=>K (X.p c) [] h) c br)))))) (fun c h=>K (X.p c) [] h)) (fun c h=>K (X.p c) [] h)))))) (
K (X.e 4) [a0,a1,(.int .i64 b1),(.int .i64 b2)] b0)))))
def loop58_14 (D:Orc):=Lp7 (round58_14 D)
def round58_10 (D:Orc) (I:List Value→H→Prop) (K:Kl) (a0 a1 a2 a3:Value) (b0:H):Prop :=
intK .i64 a2 (fun b1=>intK .i64 a3 (fun b2=>cond (decide (b2<b1)) (
qQm a1 b2 2 (fun b3=>∃ b4:Int,∃ b5:Value,rdN b0 b3 2=some [(.int .i64 b4),b5]∧newW b0 [(.int .i64 0),(.slice none 0 0)] (fun b6 b7=>ptrW b6 (fun b8=>2=2∧List.all [(.int .i64 b4),b5] one=true∧∃ b9,wr b7 b8 [(.int .i64 b4),b5]=some b9∧ptrW b6 (fun ba=>∃ bb:Int,rd b9 (Addr.add ba 0)=some (.int .i64 bb)∧D 57 [a0,(.int .i64 bb),(.bool true)] b9 (fun bc bd=>∃ be:ByteArray,bc=(.string be)∧one (.string (ByteArray.mk #[115,101,116]))=true∧0<2∧one (.string be)=true∧1<2∧qQz bd 2 [(.string (ByteArray.mk #[115,101,116])),(.string be)] (fun bf bg=>D 54 [a0,bf] bg (fun bh bi=>bh=(.tuple #[])∧ptrW b6 (fun bj=>∃ bk:Value,rd bi (Addr.add bj 1)=some bk∧lenW bk (fun bl=>loop58_14 D [a0,a1,(.int .i64 b1),(.int .i64 b2),bk,(.int .i64 (bl:Int)),(.int .i64 0)] bi (fun bm bn bo=>xs bm (K X.r [] bo) (fun bp=>cond (Nat.beq bp 4) (
intK .i64 (nth bn 2) (fun bq=>intK .i64 (nth bn 3) (fun br=>I [(nth bn 0),(nth bn 1),(.int .i64 bq),(.int .i64 (IntKind.i64.wrap (br+1)))] bo))) (False)) (fun c=>(fun c h=>K (X.p c) [] h) c bo))))) (fun c h=>K (X.p c) [] h))) (fun c h=>K (X.p c) [] h)))))) (
K (X.e 2) [] b0)))
def loop58_10 (D:Orc):=Lp4 (round58_10 D)
def j58__3 (D:Orc) (k:Kv) (kp:Kp) (a0 a1 a2:Value) (b0:H):Prop :=
ptrW a1 (fun b1=>∃ b2:Int,rd b0 (Addr.add b1 0)=some (.int .i64 b2)∧qQm a2 b2 1 (fun b3=>∃ b4:ByteArray,rd b0 b3=some (.string b4)∧ptrW a1 (fun b5=>∃ b6:Int,rd b0 (Addr.add b5 3)=some (.int .i64 b6)∧D 55 [a0,(.int .i64 b6)] b0 (fun b7 b8=>∃ b9:ByteArray,b7=(.string b9)∧(rd b8 b3=some (.string b4))∧(rd b8 (Addr.add b1 0)=some (.int .i64 b2))∧one (.string (ByteArray.mk #[110,111,100,101]))=true∧0<3∧one (.string b4)=true∧1<3∧one (.string b9)=true∧2<3∧qQz b8 3 [(.string (ByteArray.mk #[110,111,100,101])),(.string b4),(.string b9)] (fun ba bb=>D 54 [a0,ba] bb (fun bc bd=>bc=(.tuple #[])∧ptrW a1 (fun be=>∃ bf:Value,rd bd (Addr.add be 1)=some bf∧lenW bf (fun bg=>loop58_5 D [a0,a1,bf,(.int .i64 (bg:Int)),(.int .i64 0)] bd (fun bh bi bj=>xs bh (k (.tuple #[]) bj) (fun bk=>cond (Nat.beq bk 0) (
ptrW (nth bi 1) (fun bl=>∃ bm:Value,rd bj (Addr.add bl 2)=some bm∧lenW bm (fun bn=>loop58_10 D [(nth bi 0),bm,(.int .i64 (bn:Int)),(.int .i64 0)] bj (fun bo bp bq=>xs bo (k (.tuple #[]) bq) (fun br=>cond (Nat.beq br 2) (
k (.tuple #[]) bq) (False)) (fun c=>kp c bq))))) (False)) (fun c=>kp c bj))))) kp)) kp)))
def L58 (D:Orc):Lor:=Lsel [(5,loop58_5 D),(10,loop58_10 D),(14,loop58_14 D),(20,loop58_20 D)]
def F58 (D:Orc) (a0 a1:Value) (h:H) (k:Kv) (kp:Kp):Prop :=
aggW a1 (fun l0=>newW h l0 (fun p1 h2=>one (.string (ByteArray.mk #[]))=true∧0<6∧one (.string (ByteArray.mk #[108,112,111]))=true∧1<6∧one (.string (ByteArray.mk #[112,111,108,121]))=true∧2<6∧one (.string (ByteArray.mk #[112,97,105,114,115]))=true∧3<6∧one (.string (ByteArray.mk #[100,114,111,112,108,112,111]))=true∧4<6∧one (.string (ByteArray.mk #[100,114,111,112,112,111,108,121]))=true∧5<6∧qQz h2 6 [(.string (ByteArray.mk #[])),(.string (ByteArray.mk #[108,112,111])),(.string (ByteArray.mk #[112,111,108,121])),(.string (ByteArray.mk #[112,97,105,114,115])),(.string (ByteArray.mk #[100,114,111,112,108,112,111])),(.string (ByteArray.mk #[100,114,111,112,112,111,108,121]))] (fun s3 h4=>ptrW p1 (fun b5=>∃ x6:Int,rd h4 (Addr.add b5 0)=some (.int .i64 x6)∧cond (decide (x6>0)) (
ptrW p1 (fun b7=>∃ x8:Int,rd h4 (Addr.add b7 0)=some (.int .i64 x8)∧lenW s3 (fun n9=>D 28 [(.bool (decide (x8<(n9:Int)))),(.int .i64 222)] h4 (fun ba bb=>ba=(.tuple #[])∧j58__3 D k kp a0 p1 s3 bb) kp))) (
D 28 [(.bool false),(.int .i64 222)] h4 (fun bc bd=>bc=(.tuple #[])∧j58__3 D k kp a0 p1 s3 bd) kp)))))
def Cl58 (D:Orc):Prop:=∀ a0 a1 h k kp,F58 D a0 a1 h k kp→D 58 [a0,a1] h k kp
theorem cl58:Cl58 (CS Tryz.prog):=fun _ _ _ _ _ hk=>fnL wide lv58 L58 (fn:=Tryz.f58) (by kernel_rfl) (by kernel_rfl) (by kernel_rfl) (l:=[nthC (qQi (qQs Tryz.f58)) 0,nthC (qQi (qQs Tryz.f58)) 1,nthC (qQi (qQs Tryz.f58)) 2,nthC (qQi (qQs Tryz.f58)) 3]) (by kernel_rfl) ⟨fun _ _ _ hk I H=>hk I fun _ _ _ _ _ _ hr=>H _ _ (cast (by kernel_rfl) hr),fun _ _ _ hk I H=>hk I fun _ _ _ _ _ hr=>H _ _ (cast (by kernel_rfl) hr),fun _ _ _ hk I H=>hk I fun _ _ _ _ _ _ _ _ hr=>H _ _ (cast (by kernel_rfl) hr),fun _ _ _ hk I H=>hk I fun _ _ _ _ _ _ _ _ _ _ _ _ hr=>H _ _ (cast (by kernel_rfl) hr),trivial⟩ (cast (by kernel_rfl) hk)
def lv59:=lvM 53 [.raw,.raw] [(16,[kR 0,kR 5,kR 31,kI 32,kI 33])] [(16,[(1,[kR 0,kR 5])])] [] [(13,[kR 0,kR 3,kI 4]),(9,[kR 0,kR 3,kI 4,kS 9,kB 11]),(20,[kR 0,kR 5,kR 7,kR 31,kI 32,kI 33])]
def j59_16_20 (D:Orc) (I:List Value→H→Prop) (K:Kl) (a0 a1 a2 a3 a4 a5:Value) (b0:H):Prop :=
intK .i64 a4 (fun b1=>intK .i64 a5 (fun b2=>D 101 [a0,a2] b0 (fun b3 b4=>∃ b5:ByteArray,b3=(.string b5)∧one (.string b5)=true∧0<1∧qQz b4 1 [(.string b5)] (fun b6 b7=>qXi b6 (fun b8=>srcW b7 1 b6 (b8) (fun b9=>apW b7 1 16 [(.string (ByteArray.mk #[]))] a1 (b8) b9 (fun ba bb=>I [a0,ba,a3,(.int .i64 b1),(.int .i64 (IntKind.i64.wrap (b2+1)))] bb))))) (fun c h=>K (X.p c) [] h)))
def round59_16 (D:Orc) (I:List Value→H→Prop) (K:Kl) (a0 a1 a2 a3 a4:Value) (b0:H):Prop :=
intK .i64 a3 (fun b1=>intK .i64 a4 (fun b2=>cond (decide (b2<b1)) (
qQm a2 b2 1 (fun b3=>∃ b4:Value,rd b0 b3=some b4∧cond (decide (b2>0)) (
one (.string (ByteArray.mk #[61]))=true∧0<1∧qQz b0 1 [(.string (ByteArray.mk #[61]))] (fun b5 b6=>qXi b5 (fun b7=>srcW b6 1 b5 (b7) (fun b8=>apW b6 1 16 [(.string (ByteArray.mk #[]))] a1 (b7) b8 (fun b9 ba=>j59_16_20 D I K a0 b9 b4 a2 (.int .i64 b1) (.int .i64 b2) ba))))) (
j59_16_20 D I K a0 a1 b4 a2 (.int .i64 b1) (.int .i64 b2) b0))) (
K (X.e 1) [a0,a1] b0)))
def loop59_16 (D:Orc):=Lp5 (round59_16 D)
def j59__13 (D:Orc) (k:Kv) (kp:Kp) (a0 a1 a2:Value) (h9:H):Prop :=
intK .i64 a2 (fun b1=>ptrW a1 (fun b2=>∃ b3:Value,rd h9 (Addr.add b2 1)=some b3∧lenW b3 (fun b4=>D 28 [(.bool ((b4:Int)==b1)),(.int .i64 224)] h9 (fun b5 b6=>b5=(.tuple #[])∧ptrW a1 (fun b7=>∃ b8:ByteArray,rd b6 (Addr.add b7 0)=some (.string b8)∧one (.string b8)=true∧0<1∧qQz b6 1 [(.string b8)] (fun b9 ba=>ptrW a1 (fun bb=>∃ bc:Value,rd ba (Addr.add bb 1)=some bc∧lenW bc (fun bd=>loop59_16 D [a0,b9,bc,(.int .i64 (bd:Int)),(.int .i64 0)] ba (fun be bf bg=>xs be (k (.tuple #[]) bg) (fun bh=>cond (Nat.beq bh 1) (
D 54 [(nth bf 0),(nth bf 1)] bg (fun bi bj=>bi=(.tuple #[])∧k (.tuple #[]) bj) kp) (False)) (fun c=>kp c bg))))))) kp)))
def j59__9 (D:Orc) (k:Kv) (kp:Kp) (a0 a1 a2 a3 a4:Value) (h5:H):Prop :=
intK .i64 a2 (fun x6=>strW a3 (fun s7=>qQp a4 (fun t8=>cond t8 (
j59__13 D k kp a0 a1 (.int .i64 x6) h5) (
cond (s7.toList==(ByteArray.mk #[110,111,114,109,97,108]).toList) (
j59__13 D k kp a0 a1 (.int .i64 1) h5) (
cond (s7.toList==(ByteArray.mk #[101,113,117,97,108]).toList) (
j59__13 D k kp a0 a1 (.int .i64 2) h5) (
D 28 [(.bool false),(.int .i64 222)] h5 (fun b4 b5=>b4=(.tuple #[])∧j59__13 D k kp a0 a1 (.int .i64 x6) b5) kp))))))
def L59 (D:Orc):Lor:=Lsel [(16,loop59_16 D)]
def F59 (D:Orc) (a0 a1:Value) (h:H) (k:Kv) (kp:Kp):Prop :=
aggW a1 (fun l0=>newW h l0 (fun p1 h2=>ptrW p1 (fun b3=>∃ s4:ByteArray,rd h2 (Addr.add b3 0)=some (.string s4)∧cond (s4.toList==(ByteArray.mk #[99,104,101,99,107]).toList) (
j59__9 D k kp a0 p1 (.int .i64 0) (.string s4) (.bool (s4.toList==(ByteArray.mk #[99,104,101,99,107]).toList)) h2) (
cond (s4.toList==(ByteArray.mk #[99,114,105,116,105,99,97,108]).toList) (
j59__9 D k kp a0 p1 (.int .i64 0) (.string s4) (.bool (s4.toList==(ByteArray.mk #[99,114,105,116,105,99,97,108]).toList)) h2) (
cond (s4.toList==(ByteArray.mk #[106,111,105,110]).toList) (
j59__9 D k kp a0 p1 (.int .i64 0) (.string s4) (.bool (s4.toList==(ByteArray.mk #[106,111,105,110]).toList)) h2) (
cond (s4.toList==(ByteArray.mk #[112,97,105,114,115]).toList) (
j59__9 D k kp a0 p1 (.int .i64 0) (.string s4) (.bool (s4.toList==(ByteArray.mk #[112,97,105,114,115]).toList)) h2) (
j59__9 D k kp a0 p1 (.int .i64 0) (.string s4) (.bool (s4.toList==(ByteArray.mk #[99,111,109,112,108,101,116,101]).toList)) h2)))))))
def Cl59 (D:Orc):Prop:=∀ a0 a1 h k kp,F59 D a0 a1 h k kp→D 59 [a0,a1] h k kp
theorem cl59:Cl59 (CS Tryz.prog):=fun _ _ _ _ _ hk=>fnL wide lv59 L59 (fn:=Tryz.f59) (by kernel_rfl) (by kernel_rfl) (by kernel_rfl) (l:=[nthC (qQi (qQs Tryz.f59)) 0]) (by kernel_rfl) ⟨fun _ _ _ hk I H=>hk I fun _ _ _ _ _ _ hr=>H _ _ (cast (by kernel_rfl) hr),trivial⟩ (cast (by kernel_rfl) hk)
def lv70:=lvM 45 [.str] [(4,[kR 18])] [(4,[(0,[])])] [kB 2] [(2,[kS 0,kB 16]),(6,[kR 18,kB 26])]
def j70_4_6 (D:Orc) (I:List Value→H→Prop) (K:Kl) (a0 a1:Value) (b0:H):Prop :=
qQp a1 (fun b1=>cond b1 (
I [a0] b0) (
K X.r [(.bool false)] b0))
def round70_4 (D:Orc) (I:List Value→H→Prop) (K:Kl) (a0:Value) (h9:H):Prop :=
ptrW a0 (fun b1=>xKz h9 b1 (fun b2 b3=>qZk b2 0 (fun b4=>qQp b4 (fun b5=>cond b5 (
qZk b2 1 (fun b6=>qZk b2 2 (fun b7=>D 109 [b7] b3 (fun b8 b9=>∃ ba:Bool,b8=(.bool ba)∧cond ba (
I [a0] b9) (
intK .i64 b6 (fun bb=>cond (decide (bb>0)) (
intK .i32 b7 (fun bc=>cond (decide (48≤bc)) (
intK .i32 b7 (fun bd=>cond (!(decide (bd≤(57:Int)))) (
intK .i32 b7 (fun be=>cond (!(be==95)) (
intK .i32 b7 (fun bf=>j70_4_6 D I K a0 (.bool (bf==39)) b9)) (
j70_4_6 D I K a0 (.bool true) b9))) (
j70_4_6 D I K a0 (.bool true) b9))) (
intK .i32 b7 (fun bg=>cond (!(bg==95)) (
intK .i32 b7 (fun bh=>j70_4_6 D I K a0 (.bool (bh==39)) b9)) (
j70_4_6 D I K a0 (.bool true) b9))))) (
j70_4_6 D I K a0 (.bool false) b9)))) (fun c h=>K (X.p c) [] h)))) (
K (X.e 0) [] b3)))))
def loop70_4 (D:Orc):=Lp1 (round70_4 D)
def j70__2 (D:Orc) (k:Kv) (kp:Kp) (a0 a1:Value) (h4:H):Prop :=
strW a0 (fun s5=>qQp a1 (fun t6=>cond t6 (
k (.bool false) h4) (
xFx h4 s5 (fun p7 h8=>loop70_4 D [p7] h8 (fun b5 b6 b7=>xs b5 (qQp (nth b6 0) (fun b8=>k (.bool b8) b7)) (fun b9=>cond (Nat.beq b9 0) (
k (.bool true) b7) (False)) (fun c=>kp c b7))))))
def L70 (D:Orc):Lor:=Lsel [(4,loop70_4 D)]
def F70 (D:Orc) (a0:Value) (h:H) (k:Kv) (kp:Kp):Prop :=
strW a0 (fun s0=>cond (!(s0.toList==(ByteArray.mk #[]).toList)) (
cond (!(decide ((s0.size:Int)>32))) (
D 29 [(.string s0)] h (fun v1 h2=>∃ t3:Bool,v1=(.bool t3)∧j70__2 D k kp (.string s0) (.bool (!t3)) h2) kp) (
j70__2 D k kp (.string s0) (.bool true) h)) (
j70__2 D k kp (.string s0) (.bool true) h))
def Cl70 (D:Orc):Prop:=∀ a0 h k kp,F70 D a0 h k kp→D 70 [a0] h k kp
theorem cl70:Cl70 (CS Tryz.prog):=fun _ _ _ _ hk=>fnL wide lv70 L70 (fn:=Tryz.f70) (by kernel_rfl) (by kernel_rfl) (by kernel_rfl) (l:=[nthC (qQi (qQs Tryz.f70)) 0]) (by kernel_rfl) ⟨fun _ _ _ hk I H=>hk I fun _ _ hr=>H _ _ (cast (by kernel_rfl) hr),trivial⟩ (cast (by kernel_rfl) hk)
def lv71:=lvM 9 [.raw,.raw] [] [] [kB 4] []
def F71 (D:Orc) (a0 a1:Value) (h:H) (k:Kv) (kp:Kp):Prop :=
D 110 [a0,a1] h (fun v0 h1=>∃ x2:Int,v0=(.int .i64 x2)∧k (.bool (decide (x2≥0))) h1) kp
def Cl71 (D:Orc):Prop:=∀ a0 a1 h k kp,F71 D a0 a1 h k kp→D 71 [a0,a1] h k kp
theorem cl71:Cl71 (CS Tryz.prog):=fun _ _ _ _ _ hk=>fn0 wide lv71 (fn:=Tryz.f71) (by kernel_rfl) (by kernel_rfl) (by kernel_rfl) (by kernel_rfl) (cast (by kernel_rfl) hk)
def lv72:=lvM 9 [.raw] [] [] [kB 3] []
def F72 (D:Orc) (a0 a1:Value) (h:H) (k:Kv) (kp:Kp):Prop :=
aggW a0 (fun l0=>newW h l0 (fun p1 h2=>ptrW p1 (fun b3=>∃ s4:ByteArray,rd h2 (Addr.add b3 0)=some (.string s4)∧ptrW a1 (fun b5=>∃ s6:ByteArray,rd h2 (Addr.add b5 0)=some (.string s6)∧k (.bool (s4.toList==s6.toList)) h2))))
def Cl72 (D:Orc):Prop:=∀ a0 a1 h k kp,F72 D a0 a1 h k kp→D 72 [a0,a1] h k kp
theorem cl72:Cl72 (CS Tryz.prog):=fun _ _ _ _ _ hk=>fn0 wide lv72 (fn:=Tryz.f72) (by kernel_rfl) (by kernel_rfl) (by kernel_rfl) (by kernel_rfl) (cast (by kernel_rfl) hk)
def lv74:=lvM 109 [.raw] [(11,[kR 0,kI 5,kI 84,kI 85])] [(11,[(0,[kR 0,kI 5])])] [] []
def round74_11 (D:Orc) (I:List Value→H→Prop) (K:Kl) (a0 a1 a2 a3:Value) (b0:H):Prop :=
intK .i64 a1 (fun b1=>intK .i64 a2 (fun b2=>intK .i64 a3 (fun b3=>cond (decide (b3<b2)) (
one (.string (ByteArray.mk #[40]))=true∧0<2∧one (.string (ByteArray.mk #[44]))=true∧1<2∧qQz b0 2 [(.string (ByteArray.mk #[40])),(.string (ByteArray.mk #[44]))] (fun b4 b5=>qKb false [(.int .i64 b3),(.int .i64 1)] (fun b6=>intW b6 (fun _ b7=>qQm b4 b7 1 (fun b8=>∃ b9:ByteArray,rd b5 b8=some (.string b9)∧D 114 [a0,(.string b9)] b5 (fun ba bb=>ba=(.tuple #[])∧D 74 [a0] bb (fun bc bd=>bc=(.tuple #[])∧I [a0,(.int .i64 b1),(.int .i64 b2),(.int .i64 (IntKind.i64.wrap (b3+1)))] bd) (fun c h=>K (X.p c) [] h)) (fun c h=>K (X.p c) [] h)))))) (
K (X.e 0) [a0,(.int .i64 b1)] b0))))
def loop74_11 (D:Orc):=Lp4 (round74_11 D)
def L74 (D:Orc):Lor:=Lsel [(11,loop74_11 D)]
def F74 (D:Orc) (a0:Value) (h:H) (k:Kv) (kp:Kp):Prop :=
qQh a0=true∧ptrW a0 (fun b0=>∃ s1:ByteArray,rd h (Addr.add b0 1)=some (.string s1)∧D 111 [(.string s1),(.string (ByteArray.mk #[95]))] h (fun v2 h3=>∃ t4:Bool,v2=(.bool t4)∧cond t4 (
qQh a0=true∧ptrW a0 (fun b5=>∃ s6:ByteArray,rd h3 (Addr.add b5 1)=some (.string s6)∧qXm s6 (some 1) none (fun s7=>D 112 [(.string s7),(.string (ByteArray.mk #[48,49,50,51,52,53,54,55,56,57]))] h3 (fun v8 h9=>∃ ba:ByteArray,v8=(.string ba)∧qQh a0=true∧ptrW a0 (fun bb=>∃ bc:Value,rd h9 (Addr.add bb 2)=some bc∧qXm s7 none (some (IntKind.i64.wrap ((s7.size:Int) - (ba.size:Int)))) (fun bd=>D 90 [(.string bd),(.int .i64 1048575)] h9 (fun be bf=>∃ bg:Int,be=(.int .i64 bg)∧(rd bf (Addr.add bb 2)=some bc)∧one (.int .i64 (IntKind.i64.wrap (-1 - bg)))=true∧0<1∧qQz bf 1 [(.int .i64 (IntKind.i64.wrap (-1 - bg)))] (fun bh bi=>qXi bh (fun bj=>srcW bi 1 bh (bj) (fun bk=>apW bi 1 8 [(.int .i64 0)] bc (bj) bk (fun bl bm=>qQh a0=true∧ptrW a0 (fun bn=>one bl=true∧1=1∧∃ bo,wr1 bm (Addr.add bn 2) bl=some bo∧qXm s7 (some (IntKind.i64.wrap ((s7.size:Int) - (ba.size:Int)))) none (fun bp=>qQh a0=true∧ptrW a0 (fun bq=>one (.string bp)=true∧1=1∧∃ br,wr1 bo (Addr.add bq 1) (.string bp)=some br∧k (.tuple #[]) br)))))))) kp))) kp))) (
qQh a0=true∧ptrW a0 (fun bs=>∃ bt:ByteArray,rd h3 (Addr.add bs 1)=some (.string bt)∧D 113 [(.string bt)] h3 (fun bu bv=>∃ bw:ByteArray,bu=(.string bw)∧qQh a0=true∧ptrW a0 (fun bx=>∃ bz:Value,rd bv (Addr.add bx 0)=some bz∧D 89 [bz,(.string bw)] bv (fun c0 c1=>∃ c2:Int,c0=(.int .i64 c2)∧D 28 [(.bool (decide (c2≥0))),(.int .i64 223)] c1 (fun c3 c4=>c3=(.tuple #[])∧qQh a0=true∧ptrW a0 (fun c5=>∃ c6:Value,rd c4 (Addr.add c5 2)=some c6∧one (.int .i64 c2)=true∧0<1∧qQz c4 1 [(.int .i64 c2)] (fun c7 c8=>qXi c7 (fun c9=>srcW c8 1 c7 (c9) (fun ca=>apW c8 1 8 [(.int .i64 0)] c6 (c9) ca (fun cb cc=>qQh a0=true∧ptrW a0 (fun cd=>one cb=true∧1=1∧∃ ce,wr1 cc (Addr.add cd 2) cb=some ce∧qQh a0=true∧ptrW a0 (fun cf=>∃ cg:ByteArray,rd ce (Addr.add cf 1)=some (.string cg)∧qXm cg (some (bw.size:Int)) none (fun ch=>qQh a0=true∧ptrW a0 (fun ci=>one (.string ch)=true∧1=1∧∃ cj,wr1 ce (Addr.add ci 1) (.string ch)=some cj∧qQh a0=true∧ptrW a0 (fun ck=>∃ cl:Value,rd cj (Addr.add ck 0)=some cl∧qQm cl c2 2 (fun cm=>∃ cn:Int,rd cj (Addr.add cm 1)=some (.int .i64 cn)∧loop74_11 D [a0,(.int .i64 c2),(.int .i64 cn),(.int .i64 0)] cj (fun co cp cq=>xs co (k (.tuple #[]) cq) (fun cr=>cond (Nat.beq cr 0) (
intK .i64 (nth cp 1) (fun cs=>qQh (nth cp 0)=true∧ptrW (nth cp 0) (fun ct=>∃ cu:Value,rd cq (Addr.add ct 0)=some cu∧qQm cu cs 2 (fun cv=>∃ cw:Int,rd cq (Addr.add cv 1)=some (.int .i64 cw)∧cond (decide (cw>0)) (
D 114 [(nth cp 0),(.string (ByteArray.mk #[41]))] cq (fun cx cy=>cx=(.tuple #[])∧k (.tuple #[]) cy) kp) (
k (.tuple #[]) cq))))) (False)) (fun c=>kp c cq)))))))))))))) kp) kp)) kp))) kp)
def Cl74 (D:Orc):Prop:=∀ a0 h k kp,F74 D a0 h k kp→D 74 [a0] h k kp
theorem cl74:Cl74 (CS Tryz.prog):=fun _ _ _ _ hk=>fnL wide lv74 L74 (fn:=Tryz.f74) (by kernel_rfl) (by kernel_rfl) (by kernel_rfl) (l:=[nthC (qQi (qQs Tryz.f74)) 0]) (by kernel_rfl) ⟨fun _ _ _ hk I H=>hk I fun _ _ _ _ _ hr=>H _ _ (cast (by kernel_rfl) hr),trivial⟩ (cast (by kernel_rfl) hk)
def lv80:=lvM 17 [.raw,.raw] [] [] [kR 4,kI 5] []
def F80 (D:Orc) (a0 a1:Value) (h:H) (k:Kv) (kp:Kp):Prop :=
D 27 [a0] h (fun v0 h1=>∃ x2:Int,v0=(.int .i64 x2)∧cond (x2 != 0) (
k (.tuple #[.nilIface,(.int .i64 x2)]) h1) (
D 115 [a0,a1] h1 (fun v3 h4=>∃ v5:Value,∃ x6:Int,v3=(.tuple #[v5,(.int .i64 x6)])∧k (.tuple #[v5,(.int .i64 x6)]) h4) kp)) kp
def Cl80 (D:Orc):Prop:=∀ a0 a1 h k kp,F80 D a0 a1 h k kp→D 80 [a0,a1] h k kp
theorem cl80:Cl80 (CS Tryz.prog):=fun _ _ _ _ _ hk=>fn0 wide lv80 (fn:=Tryz.f80) (by kernel_rfl) (by kernel_rfl) (by kernel_rfl) (by kernel_rfl) (cast (by kernel_rfl) hk)
def lv87:=lvM 8 [.str,.str,.int .i64] [] [] [kR 6] []
def F87 (D:Orc) (a0 a1 a2:Value) (h:H) (k:Kv) (kp:Kp):Prop :=
strW a0 (fun s0=>strW a1 (fun s1=>intK .i64 a2 (fun x2=>one (.string s0)=true∧newW h [(.string s0)] (fun p3 h4=>one (.string s1)=true∧newW h4 [(.string s1)] (fun p5 h6=>one (.int .i64 x2)=true∧newW h6 [(.int .i64 x2)] (fun p7 h8=>k (.func (.func 120) #[] #[p5,p3,p7]) h8))))))
def Cl87 (D:Orc):Prop:=∀ a0 a1 a2 h k kp,F87 D a0 a1 a2 h k kp→D 87 [a0,a1,a2] h k kp
theorem cl87:Cl87 (CS Tryz.prog):=fun _ _ _ _ _ _ hk=>fn0 wide lv87 (fn:=Tryz.f87) (by kernel_rfl) (by kernel_rfl) (by kernel_rfl) (by kernel_rfl) (cast (by kernel_rfl) hk)
def lv88:=lvM 22 [.raw,.int .i64,.str] [] [] [] []
def F88 (D:Orc) (a0 a1 a2:Value) (h:H) (k:Kv) (kp:Kp):Prop :=
intK .i64 a1 (fun x0=>strW a2 (fun s1=>lenW a0 (fun n2=>cond ((n2:Int)==x0) (
cond (!(s1.toList==(ByteArray.mk #[]).toList)) (
qQm a0 2 1 (fun b3=>∃ s4:ByteArray,rd h b3=some (.string s4)∧D 28 [(.bool (s4.toList==s1.toList)),(.int .i64 222)] h (fun v5 h6=>v5=(.tuple #[])∧k (.tuple #[]) h6) kp)) (
D 28 [(.bool true),(.int .i64 222)] h (fun v7 h8=>v7=(.tuple #[])∧k (.tuple #[]) h8) kp)) (
D 28 [(.bool false),(.int .i64 222)] h (fun v9 ba=>v9=(.tuple #[])∧k (.tuple #[]) ba) kp))))
def Cl88 (D:Orc):Prop:=∀ a0 a1 a2 h k kp,F88 D a0 a1 a2 h k kp→D 88 [a0,a1,a2] h k kp
theorem cl88:Cl88 (CS Tryz.prog):=fun _ _ _ _ _ _ hk=>fn0 wide lv88 (fn:=Tryz.f88) (by kernel_rfl) (by kernel_rfl) (by kernel_rfl) (by kernel_rfl) (cast (by kernel_rfl) hk)
def lv89:=lvM 8 [.raw,.str] [] [] [kI 4] []
def F89 (D:Orc) (a0 a1:Value) (h:H) (k:Kv) (kp:Kp):Prop :=
strW a1 (fun s0=>one (.string s0)=true∧newW h [(.string s0)] (fun p1 h2=>D 110 [a0,(.func (.func 122) #[] #[p1])] h2 (fun v3 h4=>∃ x5:Int,v3=(.int .i64 x5)∧k (.int .i64 x5) h4) kp))
def Cl89 (D:Orc):Prop:=∀ a0 a1 h k kp,F89 D a0 a1 h k kp→D 89 [a0,a1] h k kp
theorem cl89:Cl89 (CS Tryz.prog):=fun _ _ _ _ _ hk=>fn0 wide lv89 (fn:=Tryz.f89) (by kernel_rfl) (by kernel_rfl) (by kernel_rfl) (by kernel_rfl) (cast (by kernel_rfl) hk)
def lv90:=lvM 29 [.str,.int .i64] [] [] [kI 4] [(3,[(5,.int .u64)])]
def j90__3 (D:Orc) (k:Kv) (kp:Kp) (a0:Value) (b0:H):Prop :=
intK .u64 a0 (fun b1=>k (.int .i64 (IntKind.wrap IntKind.i64 b1)) b0)
def F90 (D:Orc) (a0 a1:Value) (h:H) (k:Kv) (kp:Kp):Prop :=
strW a0 (fun s0=>intK .i64 a1 (fun x1=>D 123 [(.string s0),(.int .i64 10),(.int .i64 62)] h (fun v2 h3=>∃ x4:Int,∃ v5:Value,v2=(.tuple #[(.int .u64 x4),v5])∧eqIf true v5 .nilIface (fun t6=>cond t6 (
D 124 [(.int .u64 x4),(.int .i64 10)] h3 (fun v7 h8=>∃ s9:ByteArray,v7=(.string s9)∧cond (s9.toList==s0.toList) (
D 28 [(.bool (decide (x4≤(IntKind.wrap IntKind.u64 x1)))),(.int .i64 225)] h8 (fun ba bb=>ba=(.tuple #[])∧j90__3 D k kp (.int .u64 x4) bb) kp) (
D 28 [(.bool false),(.int .i64 225)] h8 (fun bc bd=>bc=(.tuple #[])∧j90__3 D k kp (.int .u64 x4) bd) kp)) kp) (
D 28 [(.bool false),(.int .i64 225)] h3 (fun be bf=>be=(.tuple #[])∧j90__3 D k kp (.int .u64 x4) bf) kp))) kp))
def Cl90 (D:Orc):Prop:=∀ a0 a1 h k kp,F90 D a0 a1 h k kp→D 90 [a0,a1] h k kp
theorem cl90:Cl90 (CS Tryz.prog):=fun _ _ _ _ _ hk=>fn0 wide lv90 (fn:=Tryz.f90) (by kernel_rfl) (by kernel_rfl) (by kernel_rfl) (by kernel_rfl) (cast (by kernel_rfl) hk)
def lv91:=lvM 29 [.raw,.raw,.str] [] [] [kR 6] []
def F91 (D:Orc) (a0 a1 a2:Value) (h:H) (k:Kv) (kp:Kp):Prop :=
strW a2 (fun s0=>newW h [(.slice none 0 0),(.slice none 0 0)] (fun p1 h2=>D 88 [a1,(.int .i64 4),(.string s0)] h2 (fun v3 h4=>v3=(.tuple #[])∧qQh a0=true∧ptrW a0 (fun b5=>∃ v6:Value,rd h4 (Addr.add (Addr.add b5 0) 0)=some v6∧qQm a1 1 1 (fun b7=>∃ s8:ByteArray,rd h4 b7=some (.string s8)∧qQh a0=true∧ptrW a0 (fun b9=>∃ ba:Value,rd h4 (Addr.add (Addr.add b9 0) 0)=some ba∧qQm a1 3 1 (fun bb=>∃ bc:ByteArray,rd h4 bb=some (.string bc)∧D 30 [v6,(.string s8)] h4 (fun bd be=>∃ bf:Value,bd=bf∧(rd be bb=some (.string bc))∧(rd be (Addr.add (Addr.add b9 0) 0)=some ba)∧D 30 [ba,(.string bc)] be (fun bg bh=>∃ bi:Value,bg=bi∧one bf=true∧0<2∧one bi=true∧1<2∧ptrW p1 (fun bj=>2=2∧List.all [bf,bi] one=true∧∃ bk,wr bh bj [bf,bi]=some bk∧ptrW p1 (fun bl=>∃ bm bn:Value,rdN bk bl 2=some [bm,bn]∧k (.agg #[bm,bn]) bk))) kp) kp))))) kp))
def Cl91 (D:Orc):Prop:=∀ a0 a1 a2 h k kp,F91 D a0 a1 a2 h k kp→D 91 [a0,a1,a2] h k kp
theorem cl91:Cl91 (CS Tryz.prog):=fun _ _ _ _ _ _ hk=>fn0 wide lv91 (fn:=Tryz.f91) (by kernel_rfl) (by kernel_rfl) (by kernel_rfl) (by kernel_rfl) (cast (by kernel_rfl) hk)
def lv92:=lvM 51 [.raw,.str,.bool] [] [] [kI 6] [(7,[kI 7]),(4,[kR 0,kI 7,kS 8,kB 29])]
def j92__7 (D:Orc) (k:Kv) (kp:Kp) (a0:Value) (b0:H):Prop :=
intK .i64 a0 (fun b1=>D 28 [(.bool (decide (b1≥0))),(.int .i64 223)] b0 (fun b2 b3=>b2=(.tuple #[])∧k (.int .i64 b1) b3) kp)
def j92__4 (D:Orc) (k:Kv) (kp:Kp) (a0 a1 a2 a3:Value) (b0:H):Prop :=
intK .i64 a1 (fun b1=>strW a2 (fun b2=>qQp a3 (fun b3=>cond b3 (
qQh a0=true∧ptrW a0 (fun b4=>∃ b5:Value,rd b0 (Addr.add (Addr.add b4 0) 0)=some b5∧D 89 [b5,(.string b2)] b0 (fun b6 b7=>∃ b8:Int,b6=(.int .i64 b8)∧cond (decide (b8≥0)) (
qQh a0=true∧ptrW a0 (fun b9=>∃ ba:Value,rd b7 (Addr.add (Addr.add b9 0) 0)=some ba∧lenW ba (fun bb=>j92__7 D k kp (.int .i64 (IntKind.i64.wrap (b8+(bb:Int)))) b7))) (
j92__7 D k kp (.int .i64 b8) b7)) kp)) (
j92__7 D k kp (.int .i64 b1) b0))))
def F92 (D:Orc) (a0 a1 a2:Value) (h:H) (k:Kv) (kp:Kp):Prop :=
strW a1 (fun s0=>qQp a2 (fun t1=>qQh a0=true∧ptrW a0 (fun b2=>∃ v3:Value,rd h (Addr.add (Addr.add b2 0) 0)=some v3∧D 89 [v3,(.string s0)] h (fun v4 h5=>∃ x6:Int,v4=(.int .i64 x6)∧D 125 [(.string s0),(.string (ByteArray.mk #[35]))] h5 (fun v7 h8=>∃ s9:ByteArray,∃ ba:Bool,v7=(.tuple #[(.string s9),(.bool ba)])∧cond (decide (x6<(0:Int))) (
cond t1 (
j92__4 D k kp a0 (.int .i64 x6) (.string s9) (.bool ba) h8) (
j92__4 D k kp a0 (.int .i64 x6) (.string s9) (.bool false) h8)) (
j92__4 D k kp a0 (.int .i64 x6) (.string s9) (.bool false) h8)) kp) kp)))
def Cl92 (D:Orc):Prop:=∀ a0 a1 a2 h k kp,F92 D a0 a1 a2 h k kp→D 92 [a0,a1,a2] h k kp
theorem cl92:Cl92 (CS Tryz.prog):=fun _ _ _ _ _ _ hk=>fn0 wide lv92 (fn:=Tryz.f92) (by kernel_rfl) (by kernel_rfl) (by kernel_rfl) (by kernel_rfl) (cast (by kernel_rfl) hk)
def lv93:=lvM 6 [.str] [] [] [kI 2] []
def F93 (D:Orc) (a0:Value) (h:H) (k:Kv) (kp:Kp):Prop :=
strW a0 (fun s0=>one (.string (ByteArray.mk #[]))=true∧0<6∧one (.string (ByteArray.mk #[108,112,111]))=true∧1<6∧one (.string (ByteArray.mk #[112,111,108,121]))=true∧2<6∧one (.string (ByteArray.mk #[112,97,105,114,115]))=true∧3<6∧one (.string (ByteArray.mk #[100,114,111,112,108,112,111]))=true∧4<6∧one (.string (ByteArray.mk #[100,114,111,112,112,111,108,121]))=true∧5<6∧qQz h 6 [(.string (ByteArray.mk #[])),(.string (ByteArray.mk #[108,112,111])),(.string (ByteArray.mk #[112,111,108,121])),(.string (ByteArray.mk #[112,97,105,114,115])),(.string (ByteArray.mk #[100,114,111,112,108,112,111])),(.string (ByteArray.mk #[100,114,111,112,112,111,108,121]))] (fun s1 h2=>D 126 [s1,(.string s0)] h2 (fun v3 h4=>∃ x5:Int,v3=(.int .i64 x5)∧k (.int .i64 x5) h4) kp))
def Cl93 (D:Orc):Prop:=∀ a0 h k kp,F93 D a0 h k kp→D 93 [a0] h k kp
theorem cl93:Cl93 (CS Tryz.prog):=fun _ _ _ _ hk=>fn0 wide lv93 (fn:=Tryz.f93) (by kernel_rfl) (by kernel_rfl) (by kernel_rfl) (by kernel_rfl) (cast (by kernel_rfl) hk)
def lv94:=lvM 24 [.raw] [] [] [kR 2] []
def F94 (D:Orc) (a0:Value) (h:H) (k:Kv) (kp:Kp):Prop :=
qQh a0=true∧ptrW a0 (fun b0=>∃ v1:Value,rd h (Addr.add (Addr.add b0 0) 4)=some v1∧lenW v1 (fun n2=>D 28 [(.bool (decide ((n2:Int)>0))),(.int .i64 222)] h (fun v3 h4=>v3=(.tuple #[])∧qQh a0=true∧ptrW a0 (fun b5=>∃ v6:Value,rd h4 (Addr.add (Addr.add b5 0) 4)=some v6∧qQh a0=true∧ptrW a0 (fun b7=>∃ v8:Value,rd h4 (Addr.add (Addr.add b7 0) 4)=some v8∧lenW v8 (fun n9=>qQm v6 (IntKind.i64.wrap ((n9:Int) - 1)) 4 (fun ba=>k (.pointer (some ba)) h4))))) kp))
def Cl94 (D:Orc):Prop:=∀ a0 h k kp,F94 D a0 h k kp→D 94 [a0] h k kp
theorem cl94:Cl94 (CS Tryz.prog):=fun _ _ _ _ hk=>fn0 wide lv94 (fn:=Tryz.f94) (by kernel_rfl) (by kernel_rfl) (by kernel_rfl) (by kernel_rfl) (cast (by kernel_rfl) hk)
def lv95:=lvM 70 [.raw,.raw] [(8,[kR 4,kR 5,kR 35,kI 36,kI 37])] [(8,[(0,[kR 4,kR 5])])] [] []
def round95_8 (D:Orc) (I:List Value→H→Prop) (K:Kl) (a0 a1 a2 a3 a4:Value) (b0:H):Prop :=
intK .i64 a3 (fun b1=>intK .i64 a4 (fun b2=>cond (decide (b2<b1)) (
qQm a2 b2 1 (fun b3=>∃ b4:ByteArray,rd b0 b3=some (.string b4)∧ptrW a1 (fun b5=>∃ b6:Value,rd b0 (Addr.add b5 1)=some b6∧D 90 [(.string b4),(.int .i64 2147483647)] b0 (fun b7 b8=>∃ b9:Int,b7=(.int .i64 b9)∧(rd b8 (Addr.add b5 1)=some b6)∧one (.int .i64 b9)=true∧0<1∧qQz b8 1 [(.int .i64 b9)] (fun ba bb=>qXi ba (fun bc=>srcW bb 1 ba (bc) (fun bd=>apW bb 1 8 [(.int .i64 0)] b6 (bc) bd (fun be bf=>ptrW a1 (fun bg=>one be=true∧1=1∧∃ bh,wr1 bf (Addr.add bg 1) be=some bh∧I [a0,a1,a2,(.int .i64 b1),(.int .i64 (IntKind.i64.wrap (b2+1)))] bh)))))) (fun c h=>K (X.p c) [] h)))) (
K (X.e 0) [a0,a1] b0)))
def loop95_8 (D:Orc):=Lp5 (round95_8 D)
def L95 (D:Orc):Lor:=Lsel [(8,loop95_8 D)]
def F95 (D:Orc) (a0 a1:Value) (h:H) (k:Kv) (kp:Kp):Prop :=
lenW a1 (fun n0=>D 28 [(.bool (decide ((n0:Int)>1))),(.int .i64 222)] h (fun v1 h2=>v1=(.tuple #[])∧D 94 [a0] h2 (fun v3 h4=>∃ v5:Value,v3=v5∧qQh v5=true∧ptrW v5 (fun b6=>∃ v7:Value,rd h4 (Addr.add b6 2)=some v7∧lenW v7 (fun n8=>D 28 [(.bool (decide ((n8:Int)>0))),(.int .i64 222)] h4 (fun v9 ba=>v9=(.tuple #[])∧newW ba [(.slice none 0 0),(.slice none 0 0)] (fun bb bc=>qQm a1 1 1 (fun bd=>∃ be:ByteArray,rd bc bd=some (.string be)∧D 127 [(.string be)] bc (fun bf bg=>∃ bh:Value,∃ bi:Int,bf=(.tuple #[bh,(.int .i64 bi)])∧ptrW bb (fun bj=>one bh=true∧1=1∧∃ bk,wr1 bg (Addr.add bj 0) bh=some bk∧D 28 [(.bool (bi==0)),(.int .i64 225)] bk (fun bl bm=>bl=(.tuple #[])∧qXy a1 (some 2) none none 1 (fun bn=>lenW bn (fun bo=>loop95_8 D [v5,bb,bn,(.int .i64 (bo:Int)),(.int .i64 0)] bm (fun bp bq br=>xs bp (k (.tuple #[]) br) (fun bs=>cond (Nat.beq bs 0) (
qQh (nth bq 0)=true∧ptrW (nth bq 0) (fun bt=>∃ bu:Value,rd br (Addr.add bt 2)=some bu∧qQh (nth bq 0)=true∧ptrW (nth bq 0) (fun bv=>∃ bw:Value,rd br (Addr.add bv 2)=some bw∧lenW bw (fun bx=>qQm bu (IntKind.i64.wrap ((bx:Int) - 1)) 2 (fun bz=>qQh (.pointer (some bz))=true∧∃ c0:Value,rd br (Addr.add bz 1)=some c0∧ptrW (nth bq 1) (fun c1=>∃ c2 c3:Value,rdN br c1 2=some [c2,c3]∧2=2∧0+2≤2∧qQz br 1 [c2,c3] (fun c4 c5=>qXi c4 (fun c6=>srcW c5 2 c4 (c6) (fun c7=>apW c5 2 48 [(.slice none 0 0),(.slice none 0 0)] c0 (c6) c7 (fun c8 c9=>qQh (.pointer (some bz))=true∧one c8=true∧1=1∧∃ ca,wr1 c9 (Addr.add bz 1) c8=some ca∧k (.tuple #[]) ca)))))))))) (False)) (fun c=>kp c br))))) kp)) kp))) kp))) kp) kp)
def Cl95 (D:Orc):Prop:=∀ a0 a1 h k kp,F95 D a0 a1 h k kp→D 95 [a0,a1] h k kp
theorem cl95:Cl95 (CS Tryz.prog):=fun _ _ _ _ _ hk=>fnL wide lv95 L95 (fn:=Tryz.f95) (by kernel_rfl) (by kernel_rfl) (by kernel_rfl) (l:=[nthC (qQi (qQs Tryz.f95)) 0]) (by kernel_rfl) ⟨fun _ _ _ hk I H=>hk I fun _ _ _ _ _ _ hr=>H _ _ (cast (by kernel_rfl) hr),trivial⟩ (cast (by kernel_rfl) hk)
def lv98:=lvM 39 [.raw,.raw] [(4,[kR 2,kR 3,kI 5])] [(4,[(0,[])])] [kB 4] [(2,[kR 2,kR 3,kB 20])]
def round98_4 (D:Orc) (I:List Value→H→Prop) (K:Kl) (a0 a1 a2:Value) (b0:H):Prop :=
intK .i64 a2 (fun b1=>ptrW a0 (fun b2=>∃ b3:Value,rd b0 (Addr.add b2 0)=some b3∧lenW b3 (fun b4=>cond (decide (b1<(b4:Int))) (
ptrW a0 (fun b5=>∃ b6:Value,rd b0 (Addr.add b5 0)=some b6∧qQm b6 b1 1 (fun b7=>∃ b8:Int,rd b0 b7=some (.int .u32 b8)∧ptrW a1 (fun b9=>∃ ba:Value,rd b0 (Addr.add b9 0)=some ba∧qQm ba b1 1 (fun bb=>∃ bc:Int,rd b0 bb=some (.int .u32 bc)∧cond (b8 != bc) (
K X.r [(.bool false)] b0) (
I [a0,a1,(.int .i64 (IntKind.i64.wrap (b1+1)))] b0)))))) (
K (X.e 0) [] b0))))
def loop98_4 (D:Orc):=Lp3 (round98_4 D)
def j98__2 (D:Orc) (k:Kv) (kp:Kp) (a0 a1 a2:Value) (b0:H):Prop :=
qQp a2 (fun b1=>cond b1 (
k (.bool false) b0) (
loop98_4 D [a0,a1,(.int .i64 0)] b0 (fun b2 b3 b4=>xs b2 (qQp (nth b3 0) (fun b5=>k (.bool b5) b4)) (fun b6=>cond (Nat.beq b6 0) (
k (.bool true) b4) (False)) (fun c=>kp c b4))))
def L98 (D:Orc):Lor:=Lsel [(4,loop98_4 D)]
def F98 (D:Orc) (a0 a1:Value) (h:H) (k:Kv) (kp:Kp):Prop :=
aggW a0 (fun l0=>newW h l0 (fun p1 h2=>aggW a1 (fun l3=>newW h2 l3 (fun p4 h5=>ptrW p1 (fun b6=>∃ v7:Value,rd h5 (Addr.add b6 0)=some v7∧lenW v7 (fun n8=>ptrW p4 (fun b9=>∃ ba:Value,rd h5 (Addr.add b9 0)=some ba∧lenW ba (fun bb=>cond (!((n8:Int) != (bb:Int))) (
ptrW p1 (fun bc=>∃ bd:Value,rd h5 (Addr.add bc 1)=some bd∧ptrW p4 (fun be=>∃ bf:Value,rd h5 (Addr.add be 1)=some bf∧D 14 [bd,bf] h5 (fun bg bh=>∃ bi:Bool,bg=(.bool bi)∧j98__2 D k kp p1 p4 (.bool (!bi)) bh) kp))) (
j98__2 D k kp p1 p4 (.bool true) h5)))))))))
def Cl98 (D:Orc):Prop:=∀ a0 a1 h k kp,F98 D a0 a1 h k kp→D 98 [a0,a1] h k kp
theorem cl98:Cl98 (CS Tryz.prog):=fun _ _ _ _ _ hk=>fnL wide lv98 L98 (fn:=Tryz.f98) (by kernel_rfl) (by kernel_rfl) (by kernel_rfl) (l:=[nthC (qQi (qQs Tryz.f98)) 0]) (by kernel_rfl) ⟨fun _ _ _ hk I H=>hk I fun _ _ _ _ hr=>H _ _ (cast (by kernel_rfl) hr),trivial⟩ (cast (by kernel_rfl) hk)
def lv99:=lvM 21 [.str,.str] [] [] [kB 4] []
def F99 (D:Orc) (a0 a1:Value) (h:H) (k:Kv) (kp:Kp):Prop :=
strW a0 (fun s0=>strW a1 (fun s1=>cond (decide ((s0.size:Int)≥(s1.size:Int))) (
qXm s0 (some (IntKind.i64.wrap ((s0.size:Int) - (s1.size:Int)))) none (fun s2=>k (.bool (s2.toList==s1.toList)) h)) (
k (.bool false) h)))
def Cl99 (D:Orc):Prop:=∀ a0 a1 h k kp,F99 D a0 a1 h k kp→D 99 [a0,a1] h k kp
theorem cl99:Cl99 (CS Tryz.prog):=fun _ _ _ _ _ hk=>fn0 wide lv99 (fn:=Tryz.f99) (by kernel_rfl) (by kernel_rfl) (by kernel_rfl) (by kernel_rfl) (cast (by kernel_rfl) hk)
def lv101:=lvM 24 [.raw,.raw] [] [] [kS 4] []
def F101 (D:Orc) (a0 a1:Value) (h:H) (k:Kv) (kp:Kp):Prop :=
qQh a0=true∧ptrW a0 (fun b0=>∃ v1:Value,rd h (Addr.add b0 2)=some v1∧D 34 [v1,a1] h (fun v2 h3=>∃ x4:Int,v2=(.int .i64 x4)∧D 28 [(.bool (x4==0)),(.int .i64 x4)] h3 (fun v5 h6=>v5=(.tuple #[])∧newA Tryz.prog 69 h6 [(.pointer none),(.slice none 0 0)] (fun p7 h8=>qQh a0=true∧ptrW a0 (fun b9=>∃ ba:Value,rd h8 (Addr.add b9 2)=some ba∧D 35 [p7,ba,a1] h8 (fun bb bc=>∃ bd:Value,bb=bd∧D 37 [p7] bc (fun be bf=>∃ bg:ByteArray,be=(.string bg)∧k (.string bg) bf) kp) kp))) kp) kp)
def Cl101 (D:Orc):Prop:=∀ a0 a1 h k kp,F101 D a0 a1 h k kp→D 101 [a0,a1] h k kp
theorem cl101:Cl101 (CS Tryz.prog):=fun _ _ _ _ _ hk=>fn0 wide lv101 (fn:=Tryz.f101) (by kernel_rfl) (by kernel_rfl) (by kernel_rfl) (by kernel_rfl) (cast (by kernel_rfl) hk)
def lv102:=lvM 66 [.raw] [(6,[kR 4,kR 5]),(10,[kR 4,kR 5,(6,.int .u64),kI 7]),(16,[kR 4,kR 5,(6,.int .u64),kI 46])] [(6,[(0,[kR 4])]),(10,[(2,[kR 4,kR 5,(6,.int .u64)])]),(16,[(4,[kR 4,kR 5])])] [kS 2,kI 3] [(24,[kS 8])]
def round102_10 (D:Orc) (I:List Value→H→Prop) (K:Kl) (a0 a1 a2 a3:Value) (b0:H):Prop :=
intK .u64 a2 (fun b1=>intK .i64 a3 (fun b2=>cond (decide (b2≥0)) (
0≤(32:Int)∧qQm a1 b2 1 (fun b3=>∃ b4:Int,rd b0 b3=some (.int .u32 b4)∧(1000000000:Int)≠0∧qQm a1 b2 1 (fun b5=>one (.int .u32 (IntKind.u32.wrap (IntKind.u64.wrap (Int.tdiv (IntKind.u64.wrap ((BitVec.ofInt (IntKind.bits IntKind.u64) (IntKind.u64.wrap (b1*2 ^ (min (Int.toNat 32) (IntKind.bits IntKind.u64)))) ||| BitVec.ofInt (IntKind.bits IntKind.u64) (IntKind.wrap IntKind.u64 b4)).toNat:Int)) 1000000000))))=true∧1=1∧∃ b6,wr1 b0 b5 (.int .u32 (IntKind.u32.wrap (IntKind.u64.wrap (Int.tdiv (IntKind.u64.wrap ((BitVec.ofInt (IntKind.bits IntKind.u64) (IntKind.u64.wrap (b1*2 ^ (min (Int.toNat 32) (IntKind.bits IntKind.u64)))) ||| BitVec.ofInt (IntKind.bits IntKind.u64) (IntKind.wrap IntKind.u64 b4)).toNat:Int)) 1000000000))))=some b6∧(1000000000:Int)≠0∧I [a0,a1,(.int .u64 (Int.tmod (IntKind.u64.wrap ((BitVec.ofInt (IntKind.bits IntKind.u64) (IntKind.u64.wrap (b1*2 ^ (min (Int.toNat 32) (IntKind.bits IntKind.u64)))) ||| BitVec.ofInt (IntKind.bits IntKind.u64) (IntKind.wrap IntKind.u64 b4)).toNat:Int)) 1000000000)),(.int .i64 (IntKind.i64.wrap (b2 - 1)))] b6))) (
K (X.e 2) [a0,a1,(.int .u64 b1)] b0)))
def loop102_10 (D:Orc):=Lp4 (round102_10 D)
def round102_16 (D:Orc) (I:List Value→H→Prop) (K:Kl) (a0 a1 a2 a3:Value) (b0:H):Prop :=
intK .u64 a2 (fun b1=>intK .i64 a3 (fun b2=>cond (decide (b2<(9:Int))) (
(10:Int)≠0∧one (.int .u8 (IntKind.u8.wrap (IntKind.u64.wrap (48+(Int.tmod b1 10)))))=true∧0<1∧qQz b0 1 [(.int .u8 (IntKind.u8.wrap (IntKind.u64.wrap (48+(Int.tmod b1 10)))))] (fun b3 b4=>qXi b3 (fun b5=>srcW b4 1 b3 (b5) (fun b6=>apX false 5 b4 1 [(.int .u8 0)] a0 (b5) b6 (fun b7 b8=>(10:Int)≠0∧I [b7,a1,(.int .u64 (IntKind.u64.wrap (Int.tdiv b1 10))),(.int .i64 (IntKind.i64.wrap (b2+1)))] b8))))) (
K (X.e 4) [a0,a1] b0)))
def loop102_16 (D:Orc):=Lp4 (round102_16 D)
def round102_6 (D:Orc) (I:List Value→H→Prop) (K:Kl) (a0 a1:Value) (b0:H):Prop :=
lenW a1 (fun b1=>cond (decide ((b1:Int)>0)) (
lenW a1 (fun b2=>loop102_10 D [a0,a1,(.int .u64 0),(.int .i64 (IntKind.i64.wrap ((b2:Int) - 1)))] b0 (fun b3 b4 b5=>xs b3 (strW (nth b4 0) (fun b6=>intK .i64 (nth b4 1) (fun b7=>K X.r [(.string b6),(.int .i64 b7)] b5))) (fun b8=>cond (Nat.beq b8 2) (
intK .u64 (nth b4 2) (fun b9=>loop102_16 D [(nth b4 0),(nth b4 1),(.int .u64 b9),(.int .i64 0)] b5 (fun ba bb bc=>xs ba (strW (nth bb 0) (fun bd=>intK .i64 (nth bb 1) (fun be=>K X.r [(.string bd),(.int .i64 be)] bc))) (fun bf=>cond (Nat.beq bf 4) (
D 131 [(nth bb 1)] bc (fun bg bh=>∃ bi:Value,bg=bi∧I [(nth bb 0),bi] bh) (fun c h=>K (X.p c) [] h)) (False)) (fun c=>(fun c h=>K (X.p c) [] h) c bc)))) (False)) (fun c=>(fun c h=>K (X.p c) [] h) c b5)))) (
K (X.e 0) [a0] b0))
def loop102_6 (D:Orc):=Lp2 (round102_6 D)
def j102__24 (D:Orc) (k:Kv) (kp:Kp) (a0:Value) (b0:H):Prop :=
strW a0 (fun b1=>k (.tuple #[(.string b1),(.int .i64 0)]) b0)
def L102 (D:Orc):Lor:=Lsel [(6,loop102_6 D),(10,loop102_10 D),(16,loop102_16 D)]
def F102 (D:Orc) (a0:Value) (h:H) (k:Kv) (kp:Kp):Prop :=
D 130 [a0] h (fun v0 h1=>∃ t2:Bool,v0=(.bool t2)∧cond (!t2) (
k (.tuple #[(.string (ByteArray.mk #[])),(.int .i64 10)]) h1) (
lenW a0 (fun n3=>qKa h1 4 [(.int .u32 0)] (n3:Int) (n3:Int) (fun s4 h5=>qXi a0 (fun n6=>qXi s4 (fun n7=>srcW h5 1 a0 (min (n6) (n7)) (fun w8=>cpW h5 s4 (n6) w8 (fun v9 ba=>loop102_6 D [(.slice none 0 0),s4] ba (fun bb bc bd=>xs bb (strW (nth bc 0) (fun be=>intK .i64 (nth bc 1) (fun bf=>k (.tuple #[(.string be),(.int .i64 bf)]) bd))) (fun bg=>cond (Nat.beq bg 0) (
D 132 [(nth bc 0)] bd (fun bh bi=>bh=(.tuple #[])∧bsW bi (nth bc 0) (fun bj=>D 112 [(.string bj),(.string (ByteArray.mk #[48]))] bi (fun bk bl=>∃ bm:ByteArray,bk=(.string bm)∧cond (bm.toList==(ByteArray.mk #[]).toList) (
j102__24 D k kp (.string (ByteArray.mk #[48])) bl) (
j102__24 D k kp (.string bm) bl)) kp)) kp) (False)) (fun c=>kp c bd)))))))))) kp
def Cl102 (D:Orc):Prop:=∀ a0 h k kp,F102 D a0 h k kp→D 102 [a0] h k kp
theorem cl102:Cl102 (CS Tryz.prog):=fun _ _ _ _ hk=>fnL wide lv102 L102 (fn:=Tryz.f102) (by kernel_rfl) (by kernel_rfl) (by kernel_rfl) (l:=[nthC (qQi (qQs Tryz.f102)) 0,nthC (qQi (qQs Tryz.f102)) 1,nthC (qQi (qQs Tryz.f102)) 2]) (by kernel_rfl) ⟨fun _ _ _ hk I H=>hk I fun _ _ _ hr=>H _ _ (cast (by kernel_rfl) hr),fun _ _ _ hk I H=>hk I fun _ _ _ _ _ hr=>H _ _ (cast (by kernel_rfl) hr),fun _ _ _ hk I H=>hk I fun _ _ _ _ _ hr=>H _ _ (cast (by kernel_rfl) hr),trivial⟩ (cast (by kernel_rfl) hk)
def lv109:=lvM 21 [.int .i32] [] [] [kB 2] []
def F109 (D:Orc) (a0:Value) (h:H) (k:Kv) (kp:Kp):Prop :=
intK .i32 a0 (fun x0=>cond (decide (97≤x0)) (
cond (!(decide (x0≤(122:Int)))) (
cond (decide (65≤x0)) (
cond (!(decide (x0≤(90:Int)))) (
k (.bool (decide (x0≥128))) h) (
k (.bool true) h)) (
k (.bool (decide (x0≥128))) h)) (
k (.bool true) h)) (
cond (decide (65≤x0)) (
cond (!(decide (x0≤(90:Int)))) (
k (.bool (decide (x0≥128))) h) (
k (.bool true) h)) (
k (.bool (decide (x0≥128))) h)))
def Cl109 (D:Orc):Prop:=∀ a0 h k kp,F109 D a0 h k kp→D 109 [a0] h k kp
theorem cl109:Cl109 (CS Tryz.prog):=fun _ _ _ _ hk=>fn0 wide lv109 (fn:=Tryz.f109) (by kernel_rfl) (by kernel_rfl) (by kernel_rfl) (by kernel_rfl) (cast (by kernel_rfl) hk)
def lv110:=lvM 19 [.raw,.raw] [(2,[kR 0,kR 1,kI 7,kI 8])] [(2,[(0,[])])] [kI 4] []
def round110_2 (D:Orc) (I:List Value→H→Prop) (K:Kl) (a0 a1 a2 a3:Value) (h1:H):Prop :=
intK .i64 a2 (fun x2=>intK .i64 a3 (fun x3=>cond (decide (x3<x2)) (
qQm a0 x3 2 (fun b3=>∃ s5:ByteArray,∃ x6:Int,rdN h1 b3 2=some [(.string s5),(.int .i64 x6)]∧qBz Tryz.prog D 4 a1 [(.agg #[(.string s5),(.int .i64 x6)])] h1 (fun v7 h8=>qQp v7 (fun t9=>cond t9 (
K X.r [(.int .i64 x3)] h8) (
I [a0,a1,(.int .i64 x2),(.int .i64 (IntKind.i64.wrap (x3+1)))] h8))) (fun c h=>K (X.p c) [] h))) (
K (X.e 0) [] h1)))
def loop110_2 (D:Orc):=Lp4 (round110_2 D)
def L110 (D:Orc):Lor:=Lsel [(2,loop110_2 D)]
def F110 (D:Orc) (a0 a1:Value) (h:H) (k:Kv) (kp:Kp):Prop :=
lenW a0 (fun n0=>loop110_2 D [a0,a1,(.int .i64 (n0:Int)),(.int .i64 0)] h (fun b1 b2 b3=>xs b1 (intK .i64 (nth b2 0) (fun b4=>k (.int .i64 b4) b3)) (fun b5=>cond (Nat.beq b5 0) (
k (.int .i64 (-1)) b3) (False)) (fun c=>kp c b3)))
def Cl110 (D:Orc):Prop:=∀ a0 a1 h k kp,F110 D a0 a1 h k kp→D 110 [a0,a1] h k kp
theorem cl110:Cl110 (CS Tryz.prog):=fun _ _ _ _ _ hk=>fnL wide lv110 L110 (fn:=Tryz.f110) (by kernel_rfl) (by kernel_rfl) (by kernel_rfl) (l:=[nthC (qQi (qQs Tryz.f110)) 0]) (by kernel_rfl) ⟨fun _ _ _ hk I H=>hk I fun _ _ _ _ _ hr=>H _ _ (cast (by kernel_rfl) hr),trivial⟩ (cast (by kernel_rfl) hk)
def lv111:=lvM 8 [.str,.str] [] [] [kB 4] []
def F111 (D:Orc) (a0 a1:Value) (h:H) (k:Kv) (kp:Kp):Prop :=
strW a0 (fun s0=>strW a1 (fun s1=>D 135 [(.string s0),(.string s1)] h (fun v2 h3=>∃ t4:Bool,v2=(.bool t4)∧k (.bool t4) h3) kp))
def Cl111 (D:Orc):Prop:=∀ a0 a1 h k kp,F111 D a0 a1 h k kp→D 111 [a0,a1] h k kp
theorem cl111:Cl111 (CS Tryz.prog):=fun _ _ _ _ _ hk=>fn0 wide lv111 (fn:=Tryz.f111) (by kernel_rfl) (by kernel_rfl) (by kernel_rfl) (by kernel_rfl) (cast (by kernel_rfl) hk)
def lv112:=lvM 37 [.str,.str] [] [] [kS 4] [(2,[kS 0,kS 1,kB 12]),(4,[kS 0,kS 1,kB 21])]
def j112__4 (D:Orc) (k:Kv) (kp:Kp) (a0 a1 a2:Value) (h7:H):Prop :=
strW a0 (fun s8=>strW a1 (fun s9=>qQp a2 (fun b3=>cond b3 (
qZc s9 0 (fun b4=>D 136 [(.string s8),(.int .u8 b4)] h7 (fun b5 b6=>∃ b7:ByteArray,b5=(.string b7)∧k (.string b7) b6) kp)) (
D 137 [(.string s9)] h7 (fun b8 b9=>∃ ba:List Value,∃ bb:Bool,b8=(.tuple #[(.agg (ba).toArray),(.bool bb)])∧newW b9 [(.bool false),(.bool false),(.bool false),(.bool false),(.bool false),(.bool false),(.bool false),(.bool false),(.bool false),(.bool false),(.bool false),(.bool false),(.bool false),(.bool false),(.bool false),(.bool false),(.bool false),(.bool false),(.bool false),(.bool false),(.bool false),(.bool false),(.bool false),(.bool false),(.bool false),(.bool false),(.bool false),(.bool false),(.bool false),(.bool false),(.bool false),(.bool false),(.bool false),(.bool false),(.bool false),(.bool false),(.bool false),(.bool false),(.bool false),(.bool false),(.bool false),(.bool false),(.bool false),(.bool false),(.bool false),(.bool false),(.bool false),(.bool false),(.bool false),(.bool false),(.bool false),(.bool false),(.bool false),(.bool false),(.bool false),(.bool false),(.bool false),(.bool false),(.bool false),(.bool false),(.bool false),(.bool false),(.bool false),(.bool false),(.bool false),(.bool false),(.bool false),(.bool false),(.bool false),(.bool false),(.bool false),(.bool false),(.bool false),(.bool false),(.bool false),(.bool false),(.bool false),(.bool false),(.bool false),(.bool false),(.bool false),(.bool false),(.bool false),(.bool false),(.bool false),(.bool false),(.bool false),(.bool false),(.bool false),(.bool false),(.bool false),(.bool false),(.bool false),(.bool false),(.bool false),(.bool false),(.bool false),(.bool false),(.bool false),(.bool false),(.bool false),(.bool false),(.bool false),(.bool false),(.bool false),(.bool false),(.bool false),(.bool false),(.bool false),(.bool false),(.bool false),(.bool false),(.bool false),(.bool false),(.bool false),(.bool false),(.bool false),(.bool false),(.bool false),(.bool false),(.bool false),(.bool false),(.bool false),(.bool false),(.bool false),(.bool false),(.bool false),(.bool false),(.bool false),(.bool false),(.bool false),(.bool false),(.bool false),(.bool false),(.bool false),(.bool false),(.bool false),(.bool false),(.bool false),(.bool false),(.bool false),(.bool false),(.bool false),(.bool false),(.bool false),(.bool false),(.bool false),(.bool false),(.bool false),(.bool false),(.bool false),(.bool false),(.bool false),(.bool false),(.bool false),(.bool false),(.bool false),(.bool false),(.bool false),(.bool false),(.bool false),(.bool false),(.bool false),(.bool false),(.bool false),(.bool false),(.bool false),(.bool false),(.bool false),(.bool false),(.bool false),(.bool false),(.bool false),(.bool false),(.bool false),(.bool false),(.bool false),(.bool false),(.bool false),(.bool false),(.bool false),(.bool false),(.bool false),(.bool false),(.bool false),(.bool false),(.bool false),(.bool false),(.bool false),(.bool false),(.bool false),(.bool false),(.bool false),(.bool false),(.bool false),(.bool false),(.bool false),(.bool false),(.bool false),(.bool false),(.bool false),(.bool false),(.bool false),(.bool false),(.bool false),(.bool false),(.bool false),(.bool false),(.bool false),(.bool false),(.bool false),(.bool false),(.bool false),(.bool false),(.bool false),(.bool false),(.bool false),(.bool false),(.bool false),(.bool false),(.bool false),(.bool false),(.bool false),(.bool false),(.bool false),(.bool false),(.bool false),(.bool false),(.bool false),(.bool false),(.bool false),(.bool false),(.bool false),(.bool false),(.bool false),(.bool false),(.bool false),(.bool false),(.bool false),(.bool false),(.bool false),(.bool false),(.bool false),(.bool false),(.bool false),(.bool false),(.bool false),(.bool false),(.bool false),(.bool false),(.bool false),(.bool false),(.bool false),(.bool false),(.bool false),(.bool false)] (fun bc bd=>ptrW bc (fun be=>ba.length=256∧List.all ba one=true∧∃ bf,wr bd be ba=some bf∧cond bb (
D 138 [(.string s8),bc] bf (fun bg bh=>∃ bi:ByteArray,bg=(.string bi)∧k (.string bi) bh) kp) (
D 139 [(.string s8),(.string s9)] bf (fun bj bk=>∃ bl:ByteArray,bj=(.string bl)∧k (.string bl) bk) kp)))) kp))))
def j112__2 (D:Orc) (k:Kv) (kp:Kp) (a0 a1 a2:Value) (h2:H):Prop :=
strW a0 (fun s3=>strW a1 (fun s4=>qQp a2 (fun t5=>cond t5 (
k (.string s3) h2) (
cond ((s4.size:Int)==1) (
qZc s4 0 (fun x6=>j112__4 D k kp (.string s3) (.string s4) (.bool (decide (x6<(128:Int)))) h2)) (
j112__4 D k kp (.string s3) (.string s4) (.bool false) h2)))))
def F112 (D:Orc) (a0 a1:Value) (h:H) (k:Kv) (kp:Kp):Prop :=
strW a0 (fun s0=>strW a1 (fun s1=>cond (!(s0.toList==(ByteArray.mk #[]).toList)) (
j112__2 D k kp (.string s0) (.string s1) (.bool (s1.toList==(ByteArray.mk #[]).toList)) h) (
j112__2 D k kp (.string s0) (.string s1) (.bool true) h)))
def Cl112 (D:Orc):Prop:=∀ a0 a1 h k kp,F112 D a0 a1 h k kp→D 112 [a0,a1] h k kp
theorem cl112:Cl112 (CS Tryz.prog):=fun _ _ _ _ _ hk=>fn0 wide lv112 (fn:=Tryz.f112) (by kernel_rfl) (by kernel_rfl) (by kernel_rfl) (by kernel_rfl) (cast (by kernel_rfl) hk)
def lv113:=lvM 40 [.str] [(3,[kS 0,kI 3,kR 9])] [(3,[(0,[kS 0,kI 3])])] [kS 2] [(6,[kS 0,kI 3,kI 4,kR 9,kB 25]),(9,[kS 0,kI 3]),(8,[kS 0,kI 3,kB 34])]
def j113_3_6 (D:Orc) (I:List Value→H→Prop) (K:Kl) (a0 a1 a2 a3 a4:Value) (b0:H):Prop :=
strW a0 (fun b1=>intK .i64 a1 (fun b2=>intK .i64 a2 (fun b3=>qQp a4 (fun b4=>cond b4 (
K (X.e 0) [(.string b1),(.int .i64 b3)] b0) (
I [(.string b1),(.int .i64 b2),a3] b0)))))
def round113_3 (D:Orc) (I:List Value→H→Prop) (K:Kl) (a0 a1 a2:Value) (h3:H):Prop :=
strW a0 (fun s4=>intK .i64 a1 (fun x5=>ptrW a2 (fun b3=>xKz h3 b3 (fun v7 h8=>qZk v7 0 (fun v9=>qQp v9 (fun b7=>cond b7 (
qZk v7 1 (fun b8=>qZk v7 2 (fun b9=>intK .i64 b8 (fun ba=>cond (ba==0) (
D 140 [b9] h8 (fun bb bc=>∃ bd:Bool,bb=(.bool bd)∧cond (!(!bd)) (
D 141 [b9] bc (fun be bf=>∃ bg:Bool,be=(.bool bg)∧j113_3_6 D I K (.string s4) (.int .i64 x5) b8 a2 (.bool (!bg)) bf) (fun c h=>K (X.p c) [] h)) (
j113_3_6 D I K (.string s4) (.int .i64 x5) b8 a2 (.bool true) bc)) (fun c h=>K (X.p c) [] h)) (
D 141 [b9] h8 (fun bh bi=>∃ bj:Bool,bh=(.bool bj)∧j113_3_6 D I K (.string s4) (.int .i64 x5) b8 a2 (.bool (!bj)) bi) (fun c h=>K (X.p c) [] h)))))) (
K (X.e 0) [(.string s4),(.int .i64 x5)] h8)))))))
def loop113_3 (D:Orc):=Lp3 (round113_3 D)
def j113__9 (D:Orc) (k:Kv) (kp:Kp) (a0 a1:Value) (b0:H):Prop :=
strW a0 (fun b1=>intK .i64 a1 (fun b2=>qXm b1 none (some b2) (fun b3=>k (.string b3) b0)))
def j113__8 (D:Orc) (k:Kv) (kp:Kp) (a0 a1 a2:Value) (b0:H):Prop :=
strW a0 (fun b1=>intK .i64 a1 (fun b2=>qQp a2 (fun b3=>cond b3 (
j113__9 D k kp (.string b1) (.int .i64 (IntKind.i64.wrap (b2+1))) b0) (
j113__9 D k kp (.string b1) (.int .i64 b2) b0))))
def L113 (D:Orc):Lor:=Lsel [(3,loop113_3 D)]
def F113 (D:Orc) (a0:Value) (h:H) (k:Kv) (kp:Kp):Prop :=
strW a0 (fun s0=>xFx h s0 (fun p1 h2=>loop113_3 D [(.string s0),(.int .i64 (s0.size:Int)),p1] h2 (fun b3 b4 b5=>xs b3 (strW (nth b4 0) (fun b6=>k (.string b6) b5)) (fun b7=>cond (Nat.beq b7 0) (
strW (nth b4 0) (fun b8=>intK .i64 (nth b4 1) (fun b9=>cond (decide (b9>0)) (
qXm b8 (some b9) none (fun ba=>D 111 [(.string ba),(.string (ByteArray.mk #[35]))] b5 (fun bb bc=>∃ bd:Bool,bb=(.bool bd)∧j113__8 D k kp (.string b8) (.int .i64 b9) (.bool bd) bc) kp)) (
j113__8 D k kp (.string b8) (.int .i64 b9) (.bool false) b5)))) (False)) (fun c=>kp c b5))))
def Cl113 (D:Orc):Prop:=∀ a0 h k kp,F113 D a0 h k kp→D 113 [a0] h k kp
theorem cl113:Cl113 (CS Tryz.prog):=fun _ _ _ _ hk=>fnL wide lv113 L113 (fn:=Tryz.f113) (by kernel_rfl) (by kernel_rfl) (by kernel_rfl) (l:=[nthC (qQi (qQs Tryz.f113)) 0]) (by kernel_rfl) ⟨fun _ _ _ hk I H=>hk I fun _ _ _ _ hr=>H _ _ (cast (by kernel_rfl) hr),trivial⟩ (cast (by kernel_rfl) hk)
def lv114:=lvM 19 [.raw,.str] [] [] [] []
def F114 (D:Orc) (a0 a1:Value) (h:H) (k:Kv) (kp:Kp):Prop :=
strW a1 (fun s0=>qQh a0=true∧ptrW a0 (fun b1=>∃ s2:ByteArray,rd h (Addr.add b1 1)=some (.string s2)∧D 111 [(.string s2),(.string s0)] h (fun v3 h4=>∃ t5:Bool,v3=(.bool t5)∧D 28 [(.bool t5),(.int .i64 224)] h4 (fun v6 h7=>v6=(.tuple #[])∧qQh a0=true∧ptrW a0 (fun b8=>∃ s9:ByteArray,rd h7 (Addr.add b8 1)=some (.string s9)∧qXm s9 (some 1) none (fun ba=>qQh a0=true∧ptrW a0 (fun bb=>one (.string ba)=true∧1=1∧∃ bc,wr1 h7 (Addr.add bb 1) (.string ba)=some bc∧k (.tuple #[]) bc)))) kp) kp))
def Cl114 (D:Orc):Prop:=∀ a0 a1 h k kp,F114 D a0 a1 h k kp→D 114 [a0,a1] h k kp
theorem cl114:Cl114 (CS Tryz.prog):=fun _ _ _ _ _ hk=>fn0 wide lv114 (fn:=Tryz.f114) (by kernel_rfl) (by kernel_rfl) (by kernel_rfl) (by kernel_rfl) (cast (by kernel_rfl) hk)
def lv115:=lvM 36 [.raw,.raw] [] [] [kR 4,kI 5] [(5,[kR 6,kR 7]),(4,[kR 6,kR 7,kB 27])]
def j115__5 (D:Orc) (k:Kv) (kp:Kp) (a0 a1:Value) (b0:H):Prop :=
qQh a0=true∧ptrW a0 (fun b1=>∃ b2:Int,rd b0 (Addr.add b1 3)=some (.int .i64 b2)∧k (.tuple #[a1,(.int .i64 b2)]) b0)
def j115__4 (D:Orc) (k:Kv) (kp:Kp) (a0 a1 a2:Value) (b0:H):Prop :=
qQp a2 (fun b1=>cond b1 (
qQh a0=true∧ptrW a0 (fun b2=>one (.int .i64 32)=true∧1=1∧∃ b3,wr1 b0 (Addr.add b2 3) (.int .i64 32)=some b3∧j115__5 D k kp a0 a1 b3)) (
j115__5 D k kp a0 a1 b0))
def F115 (D:Orc) (a0 a1:Value) (h:H) (k:Kv) (kp:Kp):Prop :=
one a0=true∧0<4∧one a1=true∧1<4∧newW h [a0,a1,(.int .i64 0),(.int .i64 0)] (fun p0 h1=>D 142 [p0] h1 (fun v2 h3=>∃ v4:Value,v2=v4∧qQh p0=true∧ptrW p0 (fun b5=>∃ x6:Int,rd h3 (Addr.add b5 3)=some (.int .i64 x6)∧cond (x6==0) (
qQh p0=true∧ptrW p0 (fun b7=>∃ x8:Int,rd h3 (Addr.add b7 2)=some (.int .i64 x8)∧lenW a1 (fun n9=>j115__4 D k kp p0 v4 (.bool (decide (x8<(n9:Int)))) h3))) (
j115__4 D k kp p0 v4 (.bool false) h3))) kp)
def Cl115 (D:Orc):Prop:=∀ a0 a1 h k kp,F115 D a0 a1 h k kp→D 115 [a0,a1] h k kp
theorem cl115:Cl115 (CS Tryz.prog):=fun _ _ _ _ _ hk=>fn0 wide lv115 (fn:=Tryz.f115) (by kernel_rfl) (by kernel_rfl) (by kernel_rfl) (by kernel_rfl) (cast (by kernel_rfl) hk)
def lv120:=lvM 52 [.raw] [(1,[kR 0,kR 2]),(5,[kR 0,kR 1,kR 2,kR 3])] [(1,[(0,[])]),(5,[(2,[kR 0,kR 2])])] [] []
def round120_1 (D:Orc) (I:List Value→H→Prop) (K:Kl) (a0 a1:Value) (h2:H):Prop :=
ptrW a1 (fun b1=>∃ s4:ByteArray,rd h2 b1=some (.string s4)∧cond (decide ((s4.size:Int)>0)) (
ptrW a1 (fun b3=>∃ s6:ByteArray,rd h2 b3=some (.string s6)∧D 121 [(.string s6)] h2 (fun v7 h8=>∃ x9 b8:Int,v7=(.tuple #[(.int .i32 x9),(.int .i64 b8)])∧ptrW a1 (fun b9=>∃ ba:ByteArray,rd h8 b9=some (.string ba)∧qXm ba none (some b8) (fun bb=>qBz Tryz.prog D 4 a0 [(.string bb)] h8 (fun bc bd=>qQp bc (fun be=>cond (!be) (
K X.r [] bd) (
ptrW a1 (fun bf=>∃ bg:ByteArray,rd bd bf=some (.string bg)∧qXm bg (some b8) none (fun bh=>ptrW a1 (fun bi=>one (.string bh)=true∧1=1∧∃ bj,wr1 bd bi (.string bh)=some bj∧I [a0,a1] bj)))))) (fun c h=>K (X.p c) [] h)))) (fun c h=>K (X.p c) [] h))) (
K (X.e 0) [] h2))
def loop120_1 (D:Orc):=Lp2 (round120_1 D)
def round120_5 (D:Orc) (I:List Value→H→Prop) (K:Kl) (a0 a1 a2 a3:Value) (b0:H):Prop :=
ptrW a2 (fun b1=>∃ b2:ByteArray,rd b0 b1=some (.string b2)∧ptrW a1 (fun b3=>∃ b4:ByteArray,rd b0 b3=some (.string b4)∧D 86 [(.string b2),(.string b4)] b0 (fun b5 b6=>∃ b7:Int,b5=(.int .i64 b7)∧cond (decide (b7<(0:Int))) (
K (X.e 2) [a0,a2] b6) (
ptrW a2 (fun b8=>∃ b9:ByteArray,rd b6 b8=some (.string b9)∧ptrW a3 (fun ba=>∃ bb:Int,rd b6 ba=some (.int .i64 bb)∧qXm b9 none (some (IntKind.i64.wrap (b7+bb))) (fun bc=>qBz Tryz.prog D 4 a0 [(.string bc)] b6 (fun bd be=>qQp bd (fun bf=>cond (!bf) (
K X.r [] be) (
ptrW a2 (fun bg=>∃ bh:ByteArray,rd be bg=some (.string bh)∧ptrW a1 (fun bi=>∃ bj:ByteArray,rd be bi=some (.string bj)∧qXm bh (some (IntKind.i64.wrap (b7+(bj.size:Int)))) none (fun bk=>ptrW a2 (fun bl=>one (.string bk)=true∧1=1∧∃ bm,wr1 be bl (.string bk)=some bm∧I [a0,a1,a2,a3] bm))))))) (fun c h=>K (X.p c) [] h)))))) (fun c h=>K (X.p c) [] h)))
def loop120_5 (D:Orc):=Lp4 (round120_5 D)
def L120 (D:Orc):Lor:=Lsel [(1,loop120_1 D),(5,loop120_5 D)]
def F120 (D:Orc) (a0 a1 a2 a3:Value) (h:H) (k:Kv) (kp:Kp):Prop :=
ptrW a1 (fun b0=>∃ s1:ByteArray,rd h b0=some (.string s1)∧cond ((s1.size:Int)==0) (
loop120_1 D [a0,a2] h (fun b2 b3 b4=>xs b2 (k (.tuple #[]) b4) (fun b5=>cond (Nat.beq b5 0) (
k (.tuple #[]) b4) (False)) (fun c=>kp c b4))) (
loop120_5 D [a0,a1,a2,a3] h (fun b6 b7 b8=>xs b6 (k (.tuple #[]) b8) (fun b9=>cond (Nat.beq b9 2) (
ptrW (nth b7 1) (fun ba=>∃ bb:ByteArray,rd b8 ba=some (.string bb)∧qBz Tryz.prog D 4 (nth b7 0) [(.string bb)] b8 (fun bc bd=>k (.tuple #[]) bd) kp)) (False)) (fun c=>kp c b8))))
def Cl120 (D:Orc):Prop:=∀ a0 a1 a2 a3 h k kp,F120 D a0 a1 a2 a3 h k kp→D 120 [a0,a1,a2,a3] h k kp
theorem cl120:Cl120 (CS Tryz.prog):=fun _ _ _ _ _ _ _ hk=>fnL wide lv120 L120 (fn:=Tryz.f120) (by kernel_rfl) (by kernel_rfl) (by kernel_rfl) (l:=[nthC (qQi (qQs Tryz.f120)) 0,nthC (qQi (qQs Tryz.f120)) 1]) (by kernel_rfl) ⟨fun _ _ _ hk I H=>hk I fun _ _ _ hr=>H _ _ (cast (by kernel_rfl) hr),fun _ _ _ hk I H=>hk I fun _ _ _ _ _ hr=>H _ _ (cast (by kernel_rfl) hr),trivial⟩ (cast (by kernel_rfl) hk)
def lv122:=lvM 8 [.raw] [] [] [kB 3] []
def F122 (D:Orc) (a0 a1:Value) (h:H) (k:Kv) (kp:Kp):Prop :=
aggW a0 (fun l0=>newW h l0 (fun p1 h2=>ptrW p1 (fun b3=>∃ s4:ByteArray,rd h2 (Addr.add b3 0)=some (.string s4)∧ptrW a1 (fun b5=>∃ s6:ByteArray,rd h2 b5=some (.string s6)∧k (.bool (s4.toList==s6.toList)) h2))))
def Cl122 (D:Orc):Prop:=∀ a0 a1 h k kp,F122 D a0 a1 h k kp→D 122 [a0,a1] h k kp
theorem cl122:Cl122 (CS Tryz.prog):=fun _ _ _ _ _ hk=>fn0 wide lv122 (fn:=Tryz.f122) (by kernel_rfl) (by kernel_rfl) (by kernel_rfl) (by kernel_rfl) (cast (by kernel_rfl) hk)
def lv123:=lvM 26 [.str,.int .i64,.int .i64] [] [] [(6,.int .u64),kR 7] []
def F123 (D:Orc) (a0 a1 a2:Value) (h:H) (k:Kv) (kp:Kp):Prop :=
strW a0 (fun s0=>intK .i64 a1 (fun x1=>intK .i64 a2 (fun x2=>D 150 [(.string s0),(.int .i64 x1),(.int .i64 x2)] h (fun v3 h4=>∃ x5:Int,∃ v6:Value,v3=(.tuple #[(.int .u64 x5),v6])∧eqIf true v6 .nilIface (fun t7=>cond (!t7) (
D 151 [(.string (ByteArray.mk #[80,97,114,115,101,85,105,110,116])),(.string s0),(.int .i64 x1),(.int .i64 x2),v6] h4 (fun v8 h9=>∃ ba:Value,v8=ba∧k (.tuple #[(.int .u64 x5),ba]) h9) kp) (
k (.tuple #[(.int .u64 x5),.nilIface]) h4))) kp)))
def Cl123 (D:Orc):Prop:=∀ a0 a1 a2 h k kp,F123 D a0 a1 a2 h k kp→D 123 [a0,a1,a2] h k kp
theorem cl123:Cl123 (CS Tryz.prog):=fun _ _ _ _ _ _ hk=>fn0 wide lv123 (fn:=Tryz.f123) (by kernel_rfl) (by kernel_rfl) (by kernel_rfl) (by kernel_rfl) (cast (by kernel_rfl) hk)
def lv124:=lvM 8 [.int .u64,.int .i64] [] [] [kS 4] []
def F124 (D:Orc) (a0 a1:Value) (h:H) (k:Kv) (kp:Kp):Prop :=
intK .u64 a0 (fun x0=>intK .i64 a1 (fun x1=>D 152 [(.int .u64 x0),(.int .i64 x1)] h (fun v2 h3=>∃ s4:ByteArray,v2=(.string s4)∧k (.string s4) h3) kp))
def Cl124 (D:Orc):Prop:=∀ a0 a1 h k kp,F124 D a0 a1 h k kp→D 124 [a0,a1] h k kp
theorem cl124:Cl124 (CS Tryz.prog):=fun _ _ _ _ _ hk=>fn0 wide lv124 (fn:=Tryz.f124) (by kernel_rfl) (by kernel_rfl) (by kernel_rfl) (by kernel_rfl) (cast (by kernel_rfl) hk)
def lv125:=lvM 11 [.str,.str] [] [] [kS 4,kB 5] []
def F125 (D:Orc) (a0 a1:Value) (h:H) (k:Kv) (kp:Kp):Prop :=
strW a0 (fun s0=>strW a1 (fun s1=>D 153 [(.string s0),(.string s1)] h (fun v2 h3=>∃ s4:ByteArray,∃ t5:Bool,v2=(.tuple #[(.string s4),(.bool t5)])∧k (.tuple #[(.string s4),(.bool t5)]) h3) kp))
def Cl125 (D:Orc):Prop:=∀ a0 a1 h k kp,F125 D a0 a1 h k kp→D 125 [a0,a1] h k kp
theorem cl125:Cl125 (CS Tryz.prog):=fun _ _ _ _ _ hk=>fn0 wide lv125 (fn:=Tryz.f125) (by kernel_rfl) (by kernel_rfl) (by kernel_rfl) (by kernel_rfl) (cast (by kernel_rfl) hk)
def lv126:=lvM 19 [.raw,.str] [(2,[kR 0,kS 1,kI 7,kI 8])] [(2,[(0,[])])] [kI 4] []
def round126_2 (D:Orc) (I:List Value→H→Prop) (K:Kl) (a0 a1 a2 a3:Value) (h2:H):Prop :=
strW a1 (fun s3=>intK .i64 a2 (fun x4=>intK .i64 a3 (fun x5=>cond (decide (x5<x4)) (
qQm a0 x5 1 (fun b4=>∃ s7:ByteArray,rd h2 b4=some (.string s7)∧cond (s3.toList==s7.toList) (
K X.r [(.int .i64 x5)] h2) (
I [a0,(.string s3),(.int .i64 x4),(.int .i64 (IntKind.i64.wrap (x5+1)))] h2))) (
K (X.e 0) [] h2))))
def loop126_2 (D:Orc):=Lp4 (round126_2 D)
def L126 (D:Orc):Lor:=Lsel [(2,loop126_2 D)]
def F126 (D:Orc) (a0 a1:Value) (h:H) (k:Kv) (kp:Kp):Prop :=
strW a1 (fun s0=>lenW a0 (fun n1=>loop126_2 D [a0,(.string s0),(.int .i64 (n1:Int)),(.int .i64 0)] h (fun x9 b3 h8=>xs x9 (intK .i64 (nth b3 0) (fun b5=>k (.int .i64 b5) h8)) (fun b6=>cond (Nat.beq b6 0) (
k (.int .i64 (-1)) h8) (False)) (fun c=>kp c h8))))
def Cl126 (D:Orc):Prop:=∀ a0 a1 h k kp,F126 D a0 a1 h k kp→D 126 [a0,a1] h k kp
theorem cl126:Cl126 (CS Tryz.prog):=fun _ _ _ _ _ hk=>fnL wide lv126 L126 (fn:=Tryz.f126) (by kernel_rfl) (by kernel_rfl) (by kernel_rfl) (l:=[nthC (qQi (qQs Tryz.f126)) 0]) (by kernel_rfl) ⟨fun _ _ _ hk I H=>hk I fun _ _ _ _ _ hr=>H _ _ (cast (by kernel_rfl) hr),trivial⟩ (cast (by kernel_rfl) hk)
def lv127:=lvM 67 [.str] [(5,[kS 0,kR 4,kI 5]),(9,[kS 0,kR 4,kI 5,(6,.int .u64),kR 36,kI 37,kI 38])] [(5,[(0,[kR 4])]),(9,[(2,[kS 0,kR 4,kI 5,(6,.int .u64)])])] [kR 2,kI 3] [(2,[kS 0,kB 24]),(17,[kS 0,kR 4,kI 5])]
def round127_9 (D:Orc) (I:List Value→H→Prop) (K:Kl) (a0 a1 a2 a3 a4 a5 a6:Value) (b0:H):Prop :=
strW a0 (fun b1=>intK .i64 a2 (fun b2=>intK .u64 a3 (fun b3=>intK .i64 a5 (fun b4=>intK .i64 a6 (fun b5=>cond (decide (b5<b4)) (
qQm a4 b5 1 (fun b6=>∃ b7:Int,rd b0 b6=some (.int .u32 b7)∧qQm a1 b5 1 (fun b8=>one (.int .u32 (IntKind.u32.wrap (IntKind.u64.wrap (b3+(IntKind.u64.wrap (10*(IntKind.wrap IntKind.u64 b7)))))))=true∧1=1∧∃ b9,wr1 b0 b8 (.int .u32 (IntKind.u32.wrap (IntKind.u64.wrap (b3+(IntKind.u64.wrap (10*(IntKind.wrap IntKind.u64 b7)))))))=some b9∧0≤(32:Int)∧I [(.string b1),a1,(.int .i64 b2),(.int .u64 (Int.fdiv (IntKind.u64.wrap (b3+(IntKind.u64.wrap (10*(IntKind.wrap IntKind.u64 b7))))) (2 ^ (min (Int.toNat 32) (IntKind.bits IntKind.u64))))),a4,(.int .i64 b4),(.int .i64 (IntKind.i64.wrap (b5+1)))] b9))) (
K (X.e 2) [(.string b1),a1,(.int .i64 b2),(.int .u64 b3)] b0))))))
def loop127_9 (D:Orc):=Lp7 (round127_9 D)
def j127_5_17 (D:Orc) (I:List Value→H→Prop) (K:Kl) (a0 a1 a2:Value) (b0:H):Prop :=
strW a0 (fun b1=>intK .i64 a2 (fun b2=>lenW a1 (fun b3=>cond (decide ((b3:Int)>64)) (
K X.r [(.slice none 0 0),(.int .i64 2)] b0) (
I [(.string b1),a1,(.int .i64 (IntKind.i64.wrap (b2+1)))] b0))))
def round127_5 (D:Orc) (I:List Value→H→Prop) (K:Kl) (a0 a1 a2:Value) (h8:H):Prop :=
strW a0 (fun s9=>intK .i64 a2 (fun b2=>cond (decide (b2<(s9.size:Int))) (
qZc s9 b2 (fun b3=>lenW a1 (fun b4=>loop127_9 D [(.string s9),a1,(.int .i64 b2),(.int .u64 (IntKind.u64.wrap (IntKind.u8.wrap (b3 - 48)))),a1,(.int .i64 (b4:Int)),(.int .i64 0)] h8 (fun b5 b6 b7=>xs b5 (intK .i64 (nth b6 1) (fun b8=>K X.r [(nth b6 0),(.int .i64 b8)] b7)) (fun b9=>cond (Nat.beq b9 2) (
strW (nth b6 0) (fun ba=>intK .i64 (nth b6 2) (fun bb=>intK .u64 (nth b6 3) (fun bc=>cond (decide (bc>0)) (
one (.int .u32 (IntKind.wrap IntKind.u32 bc))=true∧0<1∧qQz b7 1 [(.int .u32 (IntKind.wrap IntKind.u32 bc))] (fun bd be=>qXi bd (fun bf=>srcW be 1 bd (bf) (fun bg=>apW be 1 4 [(.int .u32 0)] (nth b6 1) (bf) bg (fun bh bi=>j127_5_17 D I K (.string ba) bh (.int .i64 bb) bi))))) (
j127_5_17 D I K (.string ba) (nth b6 1) (.int .i64 bb) b7))))) (False)) (fun c=>(fun c h=>K (X.p c) [] h) c b7))))) (
K (X.e 0) [a1] h8)))
def loop127_5 (D:Orc):=Lp3 (round127_5 D)
def j127__2 (D:Orc) (k:Kv) (kp:Kp) (a0 a1:Value) (h5:H):Prop :=
strW a0 (fun s6=>qQp a1 (fun t7=>cond t7 (
k (.tuple #[(.slice none 0 0),(.int .i64 11)]) h5) (
loop127_5 D [(.string s6),(.slice none 0 0),(.int .i64 0)] h5 (fun b3 b4 b5=>xs b3 (intK .i64 (nth b4 1) (fun b6=>k (.tuple #[(nth b4 0),(.int .i64 b6)]) b5)) (fun b7=>cond (Nat.beq b7 0) (
k (.tuple #[(nth b4 0),(.int .i64 0)]) b5) (False)) (fun c=>kp c b5)))))
def L127 (D:Orc):Lor:=Lsel [(5,loop127_5 D),(9,loop127_9 D)]
def F127 (D:Orc) (a0:Value) (h:H) (k:Kv) (kp:Kp):Prop :=
strW a0 (fun s0=>cond (!(s0.toList==(ByteArray.mk #[]).toList)) (
qZc s0 0 (fun x1=>cond (x1==48) (
cond (!(!(s0.toList==(ByteArray.mk #[48]).toList))) (
D 154 [(.string s0),(.string (ByteArray.mk #[48,49,50,51,52,53,54,55,56,57]))] h (fun v2 h3=>∃ s4:ByteArray,v2=(.string s4)∧j127__2 D k kp (.string s0) (.bool (!(s4.toList==(ByteArray.mk #[]).toList))) h3) kp) (
j127__2 D k kp (.string s0) (.bool true) h)) (
D 154 [(.string s0),(.string (ByteArray.mk #[48,49,50,51,52,53,54,55,56,57]))] h (fun b5 b6=>∃ b7:ByteArray,b5=(.string b7)∧j127__2 D k kp (.string s0) (.bool (!(b7.toList==(ByteArray.mk #[]).toList))) b6) kp))) (
j127__2 D k kp (.string s0) (.bool true) h))
def Cl127 (D:Orc):Prop:=∀ a0 h k kp,F127 D a0 h k kp→D 127 [a0] h k kp
theorem cl127:Cl127 (CS Tryz.prog):=fun _ _ _ _ hk=>fnL wide lv127 L127 (fn:=Tryz.f127) (by kernel_rfl) (by kernel_rfl) (by kernel_rfl) (l:=[nthC (qQi (qQs Tryz.f127)) 0,nthC (qQi (qQs Tryz.f127)) 1]) (by kernel_rfl) ⟨fun _ _ _ hk I H=>hk I fun _ _ _ _ hr=>H _ _ (cast (by kernel_rfl) hr),fun _ _ _ hk I H=>hk I fun _ _ _ _ _ _ _ _ hr=>H _ _ (cast (by kernel_rfl) hr),trivial⟩ (cast (by kernel_rfl) hk)
def lv130:=lvM 20 [.raw] [] [] [kB 2] []
def F130 (D:Orc) (a0:Value) (h:H) (k:Kv) (kp:Kp):Prop :=
lenW a0 (fun n0=>cond (decide ((n0:Int)≤(64:Int))) (
cond (!((n0:Int)==0)) (
qQm a0 (IntKind.i64.wrap ((n0:Int) - 1)) 1 (fun b1=>∃ x2:Int,rd h b1=some (.int .u32 x2)∧k (.bool (x2 != 0)) h)) (
k (.bool true) h)) (
k (.bool false) h))
def Cl130 (D:Orc):Prop:=∀ a0 h k kp,F130 D a0 h k kp→D 130 [a0] h k kp
theorem cl130:Cl130 (CS Tryz.prog):=fun _ _ _ _ hk=>fn0 wide lv130 (fn:=Tryz.f130) (by kernel_rfl) (by kernel_rfl) (by kernel_rfl) (by kernel_rfl) (cast (by kernel_rfl) hk)
def lv131:=lvM 21 [.raw] [(2,[kR 0,kI 3])] [(2,[(0,[kR 0,kI 3])])] [kR 2] []
def round131_2 (D:Orc) (I:List Value→H→Prop) (K:Kl) (a0 a1:Value) (h1:H):Prop :=
intK .i64 a1 (fun x2=>cond (decide (x2>0)) (
qQm a0 (IntKind.i64.wrap (x2 - 1)) 1 (fun b2=>∃ x4:Int,rd h1 b2=some (.int .u32 x4)∧cond (x4==0) (
I [a0,(.int .i64 (IntKind.i64.wrap (x2 - 1)))] h1) (
K (X.e 0) [a0,(.int .i64 x2)] h1))) (
K (X.e 0) [a0,(.int .i64 x2)] h1))
def loop131_2 (D:Orc):=Lp2 (round131_2 D)
def L131 (D:Orc):Lor:=Lsel [(2,loop131_2 D)]
def F131 (D:Orc) (a0:Value) (h:H) (k:Kv) (kp:Kp):Prop :=
lenW a0 (fun n0=>loop131_2 D [a0,(.int .i64 (n0:Int))] h (fun x6 b2 h5=>xs x6 (k (nth b2 0) h5) (fun i8=>cond (Nat.beq i8 0) (
intK .i64 (nth b2 1) (fun x9=>qXy (nth b2 0) none (some x9) none 1 (fun b6=>k b6 h5))) (False)) (fun c=>kp c h5)))
def Cl131 (D:Orc):Prop:=∀ a0 h k kp,F131 D a0 h k kp→D 131 [a0] h k kp
theorem cl131:Cl131 (CS Tryz.prog):=fun _ _ _ _ hk=>fnL wide lv131 L131 (fn:=Tryz.f131) (by kernel_rfl) (by kernel_rfl) (by kernel_rfl) (l:=[nthC (qQi (qQs Tryz.f131)) 0]) (by kernel_rfl) ⟨fun _ _ _ hk I H=>hk I fun _ _ _ hr=>H _ _ (cast (by kernel_rfl) hr),trivial⟩ (cast (by kernel_rfl) hk)
def lv132:=lvM 28 [.raw] [(1,[kR 0,kI 2,kI 3])] [(1,[(0,[])])] [] []
def round132_1 (D:Orc) (I:List Value→H→Prop) (K:Kl) (a0 a1 a2:Value) (h1:H):Prop :=
intK .i64 a1 (fun x2=>intK .i64 a2 (fun x3=>cond (decide (x2<x3)) (
qQm a0 x3 1 (fun b3=>∃ x5:Int,rd h1 b3=some (.int .u8 x5)∧qQm a0 x2 1 (fun b5=>∃ x7:Int,rd h1 b5=some (.int .u8 x7)∧qQm a0 x2 1 (fun b7=>one (.int .u8 x5)=true∧1=1∧∃ h9,wr1 h1 b7 (.int .u8 x5)=some h9∧qQm a0 x3 1 (fun b9=>one (.int .u8 x7)=true∧1=1∧∃ ba,wr1 h9 b9 (.int .u8 x7)=some ba∧I [a0,(.int .i64 (IntKind.i64.wrap (x2+1))),(.int .i64 (IntKind.i64.wrap (x3 - 1)))] ba))))) (
K (X.e 0) [] h1)))
def loop132_1 (D:Orc):=Lp3 (round132_1 D)
def L132 (D:Orc):Lor:=Lsel [(1,loop132_1 D)]
def F132 (D:Orc) (a0:Value) (h:H) (k:Kv) (kp:Kp):Prop :=
lenW a0 (fun n0=>loop132_1 D [a0,(.int .i64 0),(.int .i64 (IntKind.i64.wrap ((n0:Int) - 1)))] h (fun b1 b2 b3=>xs b1 (k (.tuple #[]) b3) (fun b4=>cond (Nat.beq b4 0) (
k (.tuple #[]) b3) (False)) (fun c=>kp c b3)))
def Cl132 (D:Orc):Prop:=∀ a0 h k kp,F132 D a0 h k kp→D 132 [a0] h k kp
theorem cl132:Cl132 (CS Tryz.prog):=fun _ _ _ _ hk=>fnL wide lv132 L132 (fn:=Tryz.f132) (by kernel_rfl) (by kernel_rfl) (by kernel_rfl) (l:=[nthC (qQi (qQs Tryz.f132)) 0]) (by kernel_rfl) ⟨fun _ _ _ hk I H=>hk I fun _ _ _ _ hr=>H _ _ (cast (by kernel_rfl) hr),trivial⟩ (cast (by kernel_rfl) hk)
def lv135:=lvM 18 [.str,.str] [] [] [kB 4] []
def F135 (D:Orc) (a0 a1:Value) (h:H) (k:Kv) (kp:Kp):Prop :=
strW a0 (fun s0=>strW a1 (fun s1=>cond (decide ((s0.size:Int)≥(s1.size:Int))) (
qXm s0 none (some (s1.size:Int)) (fun s2=>k (.bool (s2.toList==s1.toList)) h)) (
k (.bool false) h)))
def Cl135 (D:Orc):Prop:=∀ a0 a1 h k kp,F135 D a0 a1 h k kp→D 135 [a0,a1] h k kp
theorem cl135:Cl135 (CS Tryz.prog):=fun _ _ _ _ _ hk=>fn0 wide lv135 (fn:=Tryz.f135) (by kernel_rfl) (by kernel_rfl) (by kernel_rfl) (by kernel_rfl) (cast (by kernel_rfl) hk)
def lv136:=lvM 17 [.str,.int .u8] [(1,[kS 0,(1,.int .u8)])] [(1,[(0,[kS 0])])] [kS 4] []
def round136_1 (D:Orc) (I:List Value→H→Prop) (K:Kl) (a0 a1:Value) (h2:H):Prop :=
strW a0 (fun s3=>intK .u8 a1 (fun x4=>cond (decide ((s3.size:Int)>0)) (
qZc s3 0 (fun x5=>cond (x5==x4) (
qXm s3 (some 1) none (fun s6=>I [(.string s6),(.int .u8 x4)] h2)) (
K (X.e 0) [(.string s3)] h2))) (
K (X.e 0) [(.string s3)] h2)))
def loop136_1 (D:Orc):=Lp2 (round136_1 D)
def L136 (D:Orc):Lor:=Lsel [(1,loop136_1 D)]
def F136 (D:Orc) (a0 a1:Value) (h:H) (k:Kv) (kp:Kp):Prop :=
strW a0 (fun s0=>intK .u8 a1 (fun x1=>loop136_1 D [(.string s0),(.int .u8 x1)] h (fun x8 b3 h7=>xs x8 (strW (nth b3 0) (fun b5=>k (.string b5) h7)) (fun b6=>cond (Nat.beq b6 0) (
strW (nth b3 0) (fun b7=>k (.string b7) h7)) (False)) (fun c=>kp c h7))))
def Cl136 (D:Orc):Prop:=∀ a0 a1 h k kp,F136 D a0 a1 h k kp→D 136 [a0,a1] h k kp
theorem cl136:Cl136 (CS Tryz.prog):=fun _ _ _ _ _ hk=>fnL wide lv136 L136 (fn:=Tryz.f136) (by kernel_rfl) (by kernel_rfl) (by kernel_rfl) (l:=[nthC (qQi (qQs Tryz.f136)) 0]) (by kernel_rfl) ⟨fun _ _ _ hk I H=>hk I fun _ _ _ hr=>H _ _ (cast (by kernel_rfl) hr),trivial⟩ (cast (by kernel_rfl) hk)
def lv137:=lvM 21 [.str] [(2,[kS 0,kR 2,kI 4])] [(2,[(0,[kR 2])])] [kR 2,kB 3] []
def round137_2 (D:Orc) (I:List Value→H→Prop) (K:Kl) (a0 a1 a2:Value) (h3:H):Prop :=
strW a0 (fun s4=>intK .i64 a2 (fun x5=>cond (decide (x5<(s4.size:Int))) (
qZc s4 x5 (fun x6=>cond (decide (x6≥128)) (
ptrW a1 (fun b4=>∃ b5:List Value,rdN h3 b4 256=some b5∧ptrW a1 (fun b6=>b5.length=256∧List.all b5 one=true∧∃ b7,wr h3 b6 b5=some b7∧K X.r [a1,(.bool false)] b7))) (
ptrW a1 (fun b8=>0≤x6∧x6<(256:Int)∧one (.bool true)=true∧1=1∧∃ b9,wr1 h3 (Addr.add b8 (Int.toNat x6*1)) (.bool true)=some b9∧I [(.string s4),a1,(.int .i64 (IntKind.i64.wrap (x5+1)))] b9)))) (
K (X.e 0) [a1] h3)))
def loop137_2 (D:Orc):=Lp3 (round137_2 D)
def L137 (D:Orc):Lor:=Lsel [(2,loop137_2 D)]
def F137 (D:Orc) (a0:Value) (h:H) (k:Kv) (kp:Kp):Prop :=
strW a0 (fun s0=>newW h [(.bool false),(.bool false),(.bool false),(.bool false),(.bool false),(.bool false),(.bool false),(.bool false),(.bool false),(.bool false),(.bool false),(.bool false),(.bool false),(.bool false),(.bool false),(.bool false),(.bool false),(.bool false),(.bool false),(.bool false),(.bool false),(.bool false),(.bool false),(.bool false),(.bool false),(.bool false),(.bool false),(.bool false),(.bool false),(.bool false),(.bool false),(.bool false),(.bool false),(.bool false),(.bool false),(.bool false),(.bool false),(.bool false),(.bool false),(.bool false),(.bool false),(.bool false),(.bool false),(.bool false),(.bool false),(.bool false),(.bool false),(.bool false),(.bool false),(.bool false),(.bool false),(.bool false),(.bool false),(.bool false),(.bool false),(.bool false),(.bool false),(.bool false),(.bool false),(.bool false),(.bool false),(.bool false),(.bool false),(.bool false),(.bool false),(.bool false),(.bool false),(.bool false),(.bool false),(.bool false),(.bool false),(.bool false),(.bool false),(.bool false),(.bool false),(.bool false),(.bool false),(.bool false),(.bool false),(.bool false),(.bool false),(.bool false),(.bool false),(.bool false),(.bool false),(.bool false),(.bool false),(.bool false),(.bool false),(.bool false),(.bool false),(.bool false),(.bool false),(.bool false),(.bool false),(.bool false),(.bool false),(.bool false),(.bool false),(.bool false),(.bool false),(.bool false),(.bool false),(.bool false),(.bool false),(.bool false),(.bool false),(.bool false),(.bool false),(.bool false),(.bool false),(.bool false),(.bool false),(.bool false),(.bool false),(.bool false),(.bool false),(.bool false),(.bool false),(.bool false),(.bool false),(.bool false),(.bool false),(.bool false),(.bool false),(.bool false),(.bool false),(.bool false),(.bool false),(.bool false),(.bool false),(.bool false),(.bool false),(.bool false),(.bool false),(.bool false),(.bool false),(.bool false),(.bool false),(.bool false),(.bool false),(.bool false),(.bool false),(.bool false),(.bool false),(.bool false),(.bool false),(.bool false),(.bool false),(.bool false),(.bool false),(.bool false),(.bool false),(.bool false),(.bool false),(.bool false),(.bool false),(.bool false),(.bool false),(.bool false),(.bool false),(.bool false),(.bool false),(.bool false),(.bool false),(.bool false),(.bool false),(.bool false),(.bool false),(.bool false),(.bool false),(.bool false),(.bool false),(.bool false),(.bool false),(.bool false),(.bool false),(.bool false),(.bool false),(.bool false),(.bool false),(.bool false),(.bool false),(.bool false),(.bool false),(.bool false),(.bool false),(.bool false),(.bool false),(.bool false),(.bool false),(.bool false),(.bool false),(.bool false),(.bool false),(.bool false),(.bool false),(.bool false),(.bool false),(.bool false),(.bool false),(.bool false),(.bool false),(.bool false),(.bool false),(.bool false),(.bool false),(.bool false),(.bool false),(.bool false),(.bool false),(.bool false),(.bool false),(.bool false),(.bool false),(.bool false),(.bool false),(.bool false),(.bool false),(.bool false),(.bool false),(.bool false),(.bool false),(.bool false),(.bool false),(.bool false),(.bool false),(.bool false),(.bool false),(.bool false),(.bool false),(.bool false),(.bool false),(.bool false),(.bool false),(.bool false),(.bool false),(.bool false),(.bool false),(.bool false),(.bool false),(.bool false),(.bool false),(.bool false),(.bool false),(.bool false),(.bool false),(.bool false),(.bool false),(.bool false),(.bool false),(.bool false),(.bool false),(.bool false),(.bool false),(.bool false)] (fun p1 h2=>loop137_2 D [(.string s0),p1,(.int .i64 0)] h2 (fun b3 b4 b5=>xs b3 (qQp (nth b4 1) (fun b6=>ptrW (nth b4 0) (fun b7=>∃ b8:List Value,rdN b5 b7 256=some b8∧k (.tuple #[(.agg (b8).toArray),(.bool b6)]) b5))) (fun b9=>cond (Nat.beq b9 0) (
ptrW (nth b4 0) (fun ba=>∃ bb:List Value,rdN b5 ba 256=some bb∧ptrW (nth b4 0) (fun bc=>bb.length=256∧List.all bb one=true∧∃ bd,wr b5 bc bb=some bd∧ptrW (nth b4 0) (fun be=>∃ bf:List Value,rdN bd be 256=some bf∧k (.tuple #[(.agg (bf).toArray),(.bool true)]) bd)))) (False)) (fun c=>kp c b5))))
def Cl137 (D:Orc):Prop:=∀ a0 h k kp,F137 D a0 h k kp→D 137 [a0] h k kp
theorem cl137:Cl137 (CS Tryz.prog):=fun _ _ _ _ hk=>fnL wide lv137 L137 (fn:=Tryz.f137) (by kernel_rfl) (by kernel_rfl) (by kernel_rfl) (l:=[nthC (qQi (qQs Tryz.f137)) 0]) (by kernel_rfl) ⟨fun _ _ _ hk I H=>hk I fun _ _ _ _ hr=>H _ _ (cast (by kernel_rfl) hr),trivial⟩ (cast (by kernel_rfl) hk)
def lv138:=lvM 16 [.str,.raw] [(1,[kS 0,kR 1])] [(1,[(0,[kS 0])])] [kS 4] []
def round138_1 (D:Orc) (I:List Value→H→Prop) (K:Kl) (a0 a1:Value) (h1:H):Prop :=
strW a0 (fun s2=>cond (decide ((s2.size:Int)>0)) (
qZc s2 0 (fun x3=>D 156 [a1,(.int .u8 x3)] h1 (fun v4 h5=>∃ t6:Bool,v4=(.bool t6)∧cond (!t6) (
K (X.e 0) [(.string s2)] h5) (
qXm s2 (some 1) none (fun s7=>I [(.string s7),a1] h5))) (fun c h=>K (X.p c) [] h))) (
K (X.e 0) [(.string s2)] h1))
def loop138_1 (D:Orc):=Lp2 (round138_1 D)
def L138 (D:Orc):Lor:=Lsel [(1,loop138_1 D)]
def F138 (D:Orc) (a0 a1:Value) (h:H) (k:Kv) (kp:Kp):Prop :=
strW a0 (fun s0=>loop138_1 D [(.string s0),a1] h (fun x9 b2 h8=>xs x9 (strW (nth b2 0) (fun b4=>k (.string b4) h8)) (fun b5=>cond (Nat.beq b5 0) (
strW (nth b2 0) (fun b6=>k (.string b6) h8)) (False)) (fun c=>kp c h8)))
def Cl138 (D:Orc):Prop:=∀ a0 a1 h k kp,F138 D a0 a1 h k kp→D 138 [a0,a1] h k kp
theorem cl138:Cl138 (CS Tryz.prog):=fun _ _ _ _ _ hk=>fnL wide lv138 L138 (fn:=Tryz.f138) (by kernel_rfl) (by kernel_rfl) (by kernel_rfl) (l:=[nthC (qQi (qQs Tryz.f138)) 0]) (by kernel_rfl) ⟨fun _ _ _ hk I H=>hk I fun _ _ _ hr=>H _ _ (cast (by kernel_rfl) hr),trivial⟩ (cast (by kernel_rfl) hk)
def lv140:=lvM 21 [.int .i32] [] [] [kB 2] []
def F140 (D:Orc) (a0:Value) (h:H) (k:Kv) (kp:Kp):Prop :=
intK .i32 a0 (fun x0=>cond (decide (x0≥97)) (
cond (!(decide (x0≤(122:Int)))) (
cond (decide (x0≥65)) (
cond (!(decide (x0≤(90:Int)))) (
k (.bool (decide (x0≥128))) h) (
k (.bool true) h)) (
k (.bool (decide (x0≥128))) h)) (
k (.bool true) h)) (
cond (decide (x0≥65)) (
cond (!(decide (x0≤(90:Int)))) (
k (.bool (decide (x0≥128))) h) (
k (.bool true) h)) (
k (.bool (decide (x0≥128))) h)))
def Cl140 (D:Orc):Prop:=∀ a0 h k kp,F140 D a0 h k kp→D 140 [a0] h k kp
theorem cl140:Cl140 (CS Tryz.prog):=fun _ _ _ _ hk=>fn0 wide lv140 (fn:=Tryz.f140) (by kernel_rfl) (by kernel_rfl) (by kernel_rfl) (by kernel_rfl) (cast (by kernel_rfl) hk)
def lv141:=lvM 21 [.int .i32] [] [] [kB 2] []
def F141 (D:Orc) (a0:Value) (h:H) (k:Kv) (kp:Kp):Prop :=
intK .i32 a0 (fun x0=>D 140 [(.int .i32 x0)] h (fun v1 h2=>∃ t3:Bool,v1=(.bool t3)∧cond (!t3) (
cond (decide (x0≥48)) (
cond (!(decide (x0≤(57:Int)))) (
cond (!(x0==95)) (
k (.bool (x0==39)) h2) (
k (.bool true) h2)) (
k (.bool true) h2)) (
cond (!(x0==95)) (
k (.bool (x0==39)) h2) (
k (.bool true) h2))) (
k (.bool true) h2)) kp)
def Cl141 (D:Orc):Prop:=∀ a0 h k kp,F141 D a0 h k kp→D 141 [a0] h k kp
theorem cl141:Cl141 (CS Tryz.prog):=fun _ _ _ _ hk=>fn0 wide lv141 (fn:=Tryz.f141) (by kernel_rfl) (by kernel_rfl) (by kernel_rfl) (by kernel_rfl) (cast (by kernel_rfl) hk)
def lv142:=lvM 114 [.raw] [(16,[kR 0,kR 4,kI 87,kI 88])] [(16,[(2,[kR 4])])] [kR 2] [(8,[kR 0,kI 3,kB 38])]
def round142_16 (D:Orc) (I:List Value→H→Prop) (K:Kl) (a0 a1 a2 a3:Value) (b0:H):Prop :=
intK .i64 a2 (fun b1=>intK .i64 a3 (fun b2=>cond (decide (b2<b1)) (
D 142 [a0] b0 (fun b3 b4=>∃ b5:Value,b3=b5∧qQh a1=true∧ptrW a1 (fun b6=>∃ b7:Value,rd b4 (Addr.add b6 2)=some b7∧one b5=true∧0<1∧qQz b4 1 [b5] (fun b8 b9=>qXi b8 (fun ba=>srcW b9 1 b8 (ba) (fun bb=>apW b9 1 16 [.nilIface] b7 (ba) bb (fun bc bd=>qQh a1=true∧ptrW a1 (fun be=>one bc=true∧1=1∧∃ bf,wr1 bd (Addr.add be 2) bc=some bf∧qQh a1=true∧ptrW a1 (fun bg=>∃ bh:Int,rd bf (Addr.add bg 1)=some (.int .i64 bh)∧invW Tryz.prog D 3 b5 "lodestone/term.size" [] bf (fun bi bj=>(rd bj (Addr.add bg 1)=some (.int .i64 bh))∧intK .i64 bi (fun bk=>qQh a1=true∧ptrW a1 (fun bl=>one (.int .i64 (IntKind.i64.wrap (bh+bk)))=true∧1=1∧∃ bm,wr1 bj (Addr.add bl 1) (.int .i64 (IntKind.i64.wrap (bh+bk)))=some bm∧I [a0,a1,(.int .i64 b1),(.int .i64 (IntKind.i64.wrap (b2+1)))] bm))) (fun c h=>K (X.p c) [] h))))))))) (fun c h=>K (X.p c) [] h)) (
K (X.e 2) [a1] b0)))
def loop142_16 (D:Orc):=Lp4 (round142_16 D)
def j142__8 (D:Orc) (k:Kv) (kp:Kp) (a0 a1 a2:Value) (b0:H):Prop :=
intK .i64 a1 (fun b1=>qQp a2 (fun b2=>cond b2 (
qQh a0=true∧ptrW a0 (fun b3=>one (.int .i64 30)=true∧1=1∧∃ b4,wr1 b0 (Addr.add b3 3) (.int .i64 30)=some b4∧k (.iface 203 (.int .i64 0)) b4)) (
cond (decide (b1<(0:Int))) (
qQh a0=true∧ptrW a0 (fun b5=>∃ b6:Int,rd b0 (Addr.add b5 2)=some (.int .i64 b6)∧qQh a0=true∧ptrW a0 (fun b7=>one (.int .i64 (IntKind.i64.wrap (b6+1)))=true∧1=1∧∃ b8,wr1 b0 (Addr.add b7 2) (.int .i64 (IntKind.i64.wrap (b6+1)))=some b8∧k (.iface 203 (.int .i64 (IntKind.i64.wrap (-1 - b1)))) b8))) (
qQh a0=true∧ptrW a0 (fun b9=>∃ ba:Int,rd b0 (Addr.add b9 2)=some (.int .i64 ba)∧one (.int .i64 ba)=true∧0<3∧one (.int .i64 1)=true∧1<3∧newW b0 [(.int .i64 ba),(.int .i64 1),(.slice none 0 0)] (fun bb bc=>qQh a0=true∧ptrW a0 (fun bd=>∃ be:Int,rd bc (Addr.add bd 2)=some (.int .i64 be)∧qQh a0=true∧ptrW a0 (fun bf=>one (.int .i64 (IntKind.i64.wrap (be+1)))=true∧1=1∧∃ bg,wr1 bc (Addr.add bf 2) (.int .i64 (IntKind.i64.wrap (be+1)))=some bg∧qQh a0=true∧ptrW a0 (fun bh=>∃ bi:Value,rd bg (Addr.add bh 0)=some bi∧qQm bi b1 2 (fun bj=>∃ bk:Int,rd bg (Addr.add bj 1)=some (.int .i64 bk)∧loop142_16 D [a0,bb,(.int .i64 bk),(.int .i64 0)] bg (fun bl bm bn=>xs bl (k (nth bm 0) bn) (fun bo=>cond (Nat.beq bo 2) (
k (.iface 204 (nth bm 0)) bn) (False)) (fun c=>kp c bn))))))))))))
def L142 (D:Orc):Lor:=Lsel [(16,loop142_16 D)]
def F142 (D:Orc) (a0:Value) (h:H) (k:Kv) (kp:Kp):Prop :=
qQh a0=true∧ptrW a0 (fun b0=>∃ x1:Int,rd h (Addr.add b0 3)=some (.int .i64 x1)∧cond (x1 != 0) (
k (.iface 203 (.int .i64 0)) h) (
qQh a0=true∧ptrW a0 (fun b2=>∃ x3:Int,rd h (Addr.add b2 2)=some (.int .i64 x3)∧qQh a0=true∧ptrW a0 (fun b4=>∃ v5:Value,rd h (Addr.add b4 1)=some v5∧lenW v5 (fun n6=>cond (x3==(n6:Int)) (
qQh a0=true∧ptrW a0 (fun b7=>one (.int .i64 31)=true∧1=1∧∃ h8,wr1 h (Addr.add b7 3) (.int .i64 31)=some h8∧k (.iface 203 (.int .i64 0)) h8)) (
qQh a0=true∧ptrW a0 (fun b9=>∃ ba:Value,rd h (Addr.add b9 1)=some ba∧qQh a0=true∧ptrW a0 (fun bb=>∃ bc:Int,rd h (Addr.add bb 2)=some (.int .i64 bc)∧qQm ba bc 1 (fun bd=>∃ be:Int,rd h bd=some (.int .i64 be)∧qQh a0=true∧ptrW a0 (fun bf=>∃ bg:Value,rd h (Addr.add bf 0)=some bg∧lenW bg (fun bh=>cond (!(decide (be≥(bh:Int)))) (
j142__8 D k kp a0 (.int .i64 be) (.bool (decide (be<(-1048576:Int)))) h) (
j142__8 D k kp a0 (.int .i64 be) (.bool true) h))))))))))))
def Cl142 (D:Orc):Prop:=∀ a0 h k kp,F142 D a0 h k kp→D 142 [a0] h k kp
theorem cl142:Cl142 (CS Tryz.prog):=fun _ _ _ _ hk=>fnL wide lv142 L142 (fn:=Tryz.f142) (by kernel_rfl) (by kernel_rfl) (by kernel_rfl) (l:=[nthC (qQi (qQs Tryz.f142)) 0]) (by kernel_rfl) ⟨fun _ _ _ hk I H=>hk I fun _ _ _ _ _ hr=>H _ _ (cast (by kernel_rfl) hr),trivial⟩ (cast (by kernel_rfl) hk)
def lv150:=lvM 172 [.str,.int .i64,.int .i64] [(36,[kI 1,kB 8,kS 9,(10,.int .u64),(11,.int .u64),kB 12,(13,.int .u64),kR 99,kI 100,kI 101])] [(36,[(3,[kS 9,kB 12,(13,.int .u64)])])] [(6,.int .u64),kR 7] [(21,[kS 0,kI 1,kI 2,kB 8,kS 9]),(7,[kS 0,kI 1,kI 2,kB 8,kS 9,kB 25]),(13,[kS 0,kI 2,kB 8,kS 9,kB 40]),(16,[kS 0,kI 2,kB 8,kS 9,kB 52]),(19,[kS 0,kI 2,kB 8,kS 9,kB 64]),(25,[kS 0,kI 1,kI 2,kB 8,kS 9]),(24,[kS 0,kI 1,kI 2,kB 8,kS 9,kB 83]),(32,[kS 0,kI 1,kI 2,kB 8,kS 9,(10,.int .u64)]),(55,[kI 1,kB 8,kS 9,(10,.int .u64),(11,.int .u64),kB 12,(13,.int .u64),kR 99,kI 100,kI 101]),(46,[kI 1,kB 8,kS 9,(10,.int .u64),(11,.int .u64),kB 12,(13,.int .u64),(16,.int .u8),kR 99,kI 100,kI 101]),(41,[kI 1,kB 8,kS 9,(10,.int .u64),(11,.int .u64),kB 12,(13,.int .u64),(15,.int .u8),kR 99,kI 100,kI 101,kB 106]),(43,[kI 1,kB 8,kS 9,(10,.int .u64),(11,.int .u64),kB 12,(13,.int .u64),(15,.int .u8),kR 99,kI 100,kI 101,kB 112]),(45,[kI 1,kB 8,kS 9,(10,.int .u64),(11,.int .u64),kB 12,(13,.int .u64),(15,.int .u8),kR 99,kI 100,kI 101,kB 121]),(53,[kI 1,kB 8,kS 9,(10,.int .u64),(11,.int .u64),kB 12,(17,.int .u64),kR 99,kI 100,kI 101,kB 159]),(57,[(13,.int .u64),kB 169])]
def j150_36_55 (D:Orc) (I:List Value→H→Prop) (K:Kl) (a0 a1 a2 a3 a4 a5 a6 a7 a8 a9:Value) (b0:H):Prop :=
intK .i64 a0 (fun b1=>qQp a1 (fun b2=>strW a2 (fun b3=>intK .u64 a3 (fun b4=>intK .u64 a4 (fun b5=>qQp a5 (fun b6=>intK .u64 a6 (fun b7=>intK .i64 a8 (fun b8=>intK .i64 a9 (fun b9=>I [(.int .i64 b1),(.bool b2),(.string b3),(.int .u64 b4),(.int .u64 b5),(.bool b6),(.int .u64 b7),a7,(.int .i64 b8),(.int .i64 (IntKind.i64.wrap (b9+1)))] b0)))))))))
def j150_36_53 (D:Orc) (I:List Value→H→Prop) (K:Kl) (a0 a1 a2 a3 a4 a5 a6 a7 a8 a9 a10:Value) (b0:H):Prop :=
intK .i64 a0 (fun b1=>qQp a1 (fun b2=>strW a2 (fun b3=>intK .u64 a3 (fun b4=>intK .u64 a4 (fun b5=>qQp a5 (fun b6=>intK .u64 a6 (fun b7=>intK .i64 a8 (fun b8=>intK .i64 a9 (fun b9=>qQp a10 (fun ba=>cond ba (
K X.r [(.int .u64 b5),(.iface 215 (.int .i64 1))] b0) (
j150_36_55 D I K (.int .i64 b1) (.bool b2) (.string b3) (.int .u64 b4) (.int .u64 b5) (.bool b6) (.int .u64 b7) a7 (.int .i64 b8) (.int .i64 b9) b0)))))))))))
def j150_36_46 (D:Orc) (I:List Value→H→Prop) (K:Kl) (a0 a1 a2 a3 a4 a5 a6 a7 a8 a9 a10:Value) (b0:H):Prop :=
intK .i64 a0 (fun b1=>qQp a1 (fun b2=>strW a2 (fun b3=>intK .u64 a3 (fun b4=>intK .u64 a4 (fun b5=>qQp a5 (fun b6=>intK .u64 a6 (fun b7=>intK .u8 a7 (fun b8=>intK .i64 a9 (fun b9=>intK .i64 a10 (fun ba=>cond (decide (b8≥(IntKind.wrap IntKind.u8 b1))) (
K X.r [(.int .u64 0),(.iface 215 (.int .i64 2))] b0) (
cond (decide (b7≥b4)) (
K X.r [(.int .u64 b5),(.iface 215 (.int .i64 1))] b0) (
cond (!(decide ((IntKind.u64.wrap ((IntKind.u64.wrap (b7*(IntKind.wrap IntKind.u64 b1)))+(IntKind.wrap IntKind.u64 b8)))<(IntKind.u64.wrap (b7*(IntKind.wrap IntKind.u64 b1)))))) (
j150_36_53 D I K (.int .i64 b1) (.bool b2) (.string b3) (.int .u64 b4) (.int .u64 b5) (.bool b6) (.int .u64 (IntKind.u64.wrap ((IntKind.u64.wrap (b7*(IntKind.wrap IntKind.u64 b1)))+(IntKind.wrap IntKind.u64 b8)))) a8 (.int .i64 b9) (.int .i64 ba) (.bool (decide ((IntKind.u64.wrap ((IntKind.u64.wrap (b7*(IntKind.wrap IntKind.u64 b1)))+(IntKind.wrap IntKind.u64 b8)))>b5))) b0) (
j150_36_53 D I K (.int .i64 b1) (.bool b2) (.string b3) (.int .u64 b4) (.int .u64 b5) (.bool b6) (.int .u64 (IntKind.u64.wrap ((IntKind.u64.wrap (b7*(IntKind.wrap IntKind.u64 b1)))+(IntKind.wrap IntKind.u64 b8)))) a8 (.int .i64 b9) (.int .i64 ba) (.bool true) b0)))))))))))))
def j150_36_45 (D:Orc) (I:List Value→H→Prop) (K:Kl) (a0 a1 a2 a3 a4 a5 a6 a7 a8 a9 a10 a11:Value) (b0:H):Prop :=
intK .i64 a0 (fun b1=>qQp a1 (fun b2=>strW a2 (fun b3=>intK .u64 a3 (fun b4=>intK .u64 a4 (fun b5=>qQp a5 (fun b6=>intK .u64 a6 (fun b7=>intK .u8 a7 (fun b8=>intK .i64 a9 (fun b9=>intK .i64 a10 (fun ba=>qQp a11 (fun bb=>cond bb (
D 164 [(.int .u8 b8)] b0 (fun bc bd=>∃ be:Int,bc=(.int .u8 be)∧j150_36_46 D I K (.int .i64 b1) (.bool b2) (.string b3) (.int .u64 b4) (.int .u64 b5) (.bool b6) (.int .u64 b7) (.int .u8 (IntKind.u8.wrap ((IntKind.u8.wrap (be - 97))+10))) a8 (.int .i64 b9) (.int .i64 ba) bd) (fun c h=>K (X.p c) [] h)) (
K X.r [(.int .u64 0),(.iface 215 (.int .i64 2))] b0))))))))))))
def j150_36_43 (D:Orc) (I:List Value→H→Prop) (K:Kl) (a0 a1 a2 a3 a4 a5 a6 a7 a8 a9 a10 a11:Value) (b0:H):Prop :=
intK .i64 a0 (fun b1=>qQp a1 (fun b2=>strW a2 (fun b3=>intK .u64 a3 (fun b4=>intK .u64 a4 (fun b5=>qQp a5 (fun b6=>intK .u64 a6 (fun b7=>intK .u8 a7 (fun b8=>intK .i64 a9 (fun b9=>intK .i64 a10 (fun ba=>qQp a11 (fun bb=>cond bb (
j150_36_46 D I K (.int .i64 b1) (.bool b2) (.string b3) (.int .u64 b4) (.int .u64 b5) (.bool b6) (.int .u64 b7) (.int .u8 (IntKind.u8.wrap (b8 - 48))) a8 (.int .i64 b9) (.int .i64 ba) b0) (
D 164 [(.int .u8 b8)] b0 (fun bc bd=>∃ be:Int,bc=(.int .u8 be)∧cond (decide (97≤be)) (
D 164 [(.int .u8 b8)] bd (fun bf bg=>∃ bh:Int,bf=(.int .u8 bh)∧j150_36_45 D I K (.int .i64 b1) (.bool b2) (.string b3) (.int .u64 b4) (.int .u64 b5) (.bool b6) (.int .u64 b7) (.int .u8 b8) a8 (.int .i64 b9) (.int .i64 ba) (.bool (decide (bh≤(122:Int)))) bg) (fun c h=>K (X.p c) [] h)) (
j150_36_45 D I K (.int .i64 b1) (.bool b2) (.string b3) (.int .u64 b4) (.int .u64 b5) (.bool b6) (.int .u64 b7) (.int .u8 b8) a8 (.int .i64 b9) (.int .i64 ba) (.bool false) bd)) (fun c h=>K (X.p c) [] h)))))))))))))
def j150_36_41 (D:Orc) (I:List Value→H→Prop) (K:Kl) (a0 a1 a2 a3 a4 a5 a6 a7 a8 a9 a10 a11:Value) (b0:H):Prop :=
intK .i64 a0 (fun b1=>qQp a1 (fun b2=>strW a2 (fun b3=>intK .u64 a3 (fun b4=>intK .u64 a4 (fun b5=>qQp a5 (fun b6=>intK .u64 a6 (fun b7=>intK .u8 a7 (fun b8=>intK .i64 a9 (fun b9=>intK .i64 a10 (fun ba=>qQp a11 (fun bb=>cond bb (
j150_36_55 D I K (.int .i64 b1) (.bool b2) (.string b3) (.int .u64 b4) (.int .u64 b5) (.bool true) (.int .u64 b7) a8 (.int .i64 b9) (.int .i64 ba) b0) (
cond (decide (48≤b8)) (
j150_36_43 D I K (.int .i64 b1) (.bool b2) (.string b3) (.int .u64 b4) (.int .u64 b5) (.bool b6) (.int .u64 b7) (.int .u8 b8) a8 (.int .i64 b9) (.int .i64 ba) (.bool (decide (b8≤(57:Int)))) b0) (
j150_36_43 D I K (.int .i64 b1) (.bool b2) (.string b3) (.int .u64 b4) (.int .u64 b5) (.bool b6) (.int .u64 b7) (.int .u8 b8) a8 (.int .i64 b9) (.int .i64 ba) (.bool false) b0)))))))))))))
def round150_36 (D:Orc) (I:List Value→H→Prop) (K:Kl) (a0 a1 a2 a3 a4 a5 a6 a7 a8 a9:Value) (b0:H):Prop :=
intK .i64 a0 (fun b1=>qQp a1 (fun b2=>strW a2 (fun b3=>intK .u64 a3 (fun b4=>intK .u64 a4 (fun b5=>qQp a5 (fun b6=>intK .u64 a6 (fun b7=>intK .i64 a8 (fun b8=>intK .i64 a9 (fun b9=>cond (decide (b9<b8)) (
qQm a7 b9 1 (fun ba=>∃ bb:Int,rd b0 ba=some (.int .u8 bb)∧cond (bb==95) (
j150_36_41 D I K (.int .i64 b1) (.bool b2) (.string b3) (.int .u64 b4) (.int .u64 b5) (.bool b6) (.int .u64 b7) (.int .u8 bb) a7 (.int .i64 b8) (.int .i64 b9) (.bool b2) b0) (
j150_36_41 D I K (.int .i64 b1) (.bool b2) (.string b3) (.int .u64 b4) (.int .u64 b5) (.bool b6) (.int .u64 b7) (.int .u8 bb) a7 (.int .i64 b8) (.int .i64 b9) (.bool false) b0))) (
K (X.e 3) [(.string b3),(.bool b6),(.int .u64 b7)] b0))))))))))
def loop150_36 (D:Orc):=Lp10 (round150_36 D)
def j150__57 (D:Orc) (k:Kv) (kp:Kp) (a0 a1:Value) (b0:H):Prop :=
intK .u64 a0 (fun b1=>qQp a1 (fun b2=>cond b2 (
k (.tuple #[(.int .u64 0),(.iface 215 (.int .i64 2))]) b0) (
k (.tuple #[(.int .u64 b1),.nilIface]) b0)))
def j150__32 (D:Orc) (k:Kv) (kp:Kp) (a0 a1 a2 a3 a4 a5:Value) (b0:H):Prop :=
strW a0 (fun b1=>intK .i64 a1 (fun b2=>intK .i64 a2 (fun b3=>qQp a3 (fun b4=>strW a4 (fun b5=>intK .u64 a5 (fun b6=>0≤(IntKind.wrap IntKind.u64 b3)∧sbW b0 b1 (fun b7 b8=>lenW b7 (fun b9=>loop150_36 D [(.int .i64 b2),(.bool b4),(.string b5),(.int .u64 b6),(.int .u64 (IntKind.u64.wrap ((IntKind.u64.wrap (1*2 ^ (min (Int.toNat (IntKind.wrap IntKind.u64 b3)) (IntKind.bits IntKind.u64)))) - 1))),(.bool false),(.int .u64 0),b7,(.int .i64 (b9:Int)),(.int .i64 0)] b8 (fun ba bb bc=>xs ba (intK .u64 (nth bb 0) (fun bd=>k (.tuple #[(.int .u64 bd),(nth bb 1)]) bc)) (fun be=>cond (Nat.beq be 3) (
strW (nth bb 0) (fun bf=>qQp (nth bb 1) (fun bg=>intK .u64 (nth bb 2) (fun bh=>cond bg (
D 165 [(.string bf)] bc (fun bi bj=>∃ bk:Bool,bi=(.bool bk)∧j150__57 D k kp (.int .u64 bh) (.bool (!bk)) bj) kp) (
j150__57 D k kp (.int .u64 bh) (.bool false) bc))))) (False)) (fun c=>kp c bc))))))))))
def j150__25 (D:Orc) (k:Kv) (kp:Kp) (a0 a1 a2 a3 a4:Value) (b0:H):Prop :=
strW a0 (fun b1=>intK .i64 a1 (fun b2=>intK .i64 a2 (fun b3=>qQp a3 (fun b4=>strW a4 (fun b5=>cond (b2==10) (
j150__32 D k kp (.string b1) (.int .i64 b2) (.int .i64 b3) (.bool b4) (.string b5) (.int .u64 1844674407370955162) b0) (
cond (b2==16) (
j150__32 D k kp (.string b1) (.int .i64 b2) (.int .i64 b3) (.bool b4) (.string b5) (.int .u64 1152921504606846976) b0) (
(IntKind.wrap IntKind.u64 b2)≠0∧j150__32 D k kp (.string b1) (.int .i64 b2) (.int .i64 b3) (.bool b4) (.string b5) (.int .u64 (IntKind.u64.wrap ((IntKind.u64.wrap (Int.tdiv 18446744073709551615 (IntKind.wrap IntKind.u64 b2)))+1))) b0)))))))
def j150__24 (D:Orc) (k:Kv) (kp:Kp) (a0 a1 a2 a3 a4 a5:Value) (b0:H):Prop :=
strW a0 (fun b1=>intK .i64 a1 (fun b2=>intK .i64 a2 (fun b3=>qQp a3 (fun b4=>strW a4 (fun b5=>qQp a5 (fun b6=>cond b6 (
k (.tuple #[(.int .u64 0),(.iface 215 (.int .i64 4))]) b0) (
j150__25 D k kp (.string b1) (.int .i64 b2) (.int .i64 b3) (.bool b4) (.string b5) b0)))))))
def j150__21 (D:Orc) (k:Kv) (kp:Kp) (a0 a1 a2 a3 a4:Value) (b0:H):Prop :=
strW a0 (fun b1=>intK .i64 a1 (fun b2=>intK .i64 a2 (fun b3=>qQp a3 (fun b4=>strW a4 (fun b5=>cond (b3==0) (
j150__25 D k kp (.string b1) (.int .i64 b2) (.int .i64 64) (.bool b4) (.string b5) b0) (
cond (!(decide (b3<(0:Int)))) (
j150__24 D k kp (.string b1) (.int .i64 b2) (.int .i64 b3) (.bool b4) (.string b5) (.bool (decide (b3>64))) b0) (
j150__24 D k kp (.string b1) (.int .i64 b2) (.int .i64 b3) (.bool b4) (.string b5) (.bool true) b0)))))))
def j150__19 (D:Orc) (k:Kv) (kp:Kp) (a0 a1 a2 a3 a4:Value) (b0:H):Prop :=
strW a0 (fun b1=>intK .i64 a1 (fun b2=>qQp a2 (fun b3=>strW a3 (fun b4=>qQp a4 (fun b5=>cond b5 (
qXm b1 (some 2) none (fun b6=>j150__21 D k kp (.string b6) (.int .i64 16) (.int .i64 b2) (.bool b3) (.string b4) b0)) (
qXm b1 (some 1) none (fun b7=>j150__21 D k kp (.string b7) (.int .i64 8) (.int .i64 b2) (.bool b3) (.string b4) b0)))))))
def j150__16 (D:Orc) (k:Kv) (kp:Kp) (a0 a1 a2 a3 a4:Value) (b0:H):Prop :=
strW a0 (fun b1=>intK .i64 a1 (fun b2=>qQp a2 (fun b3=>strW a3 (fun b4=>qQp a4 (fun b5=>cond b5 (
qXm b1 (some 2) none (fun b6=>j150__21 D k kp (.string b6) (.int .i64 8) (.int .i64 b2) (.bool b3) (.string b4) b0)) (
cond (decide ((b1.size:Int)≥3)) (
qZc b1 1 (fun b7=>D 164 [(.int .u8 b7)] b0 (fun b8 b9=>∃ ba:Int,b8=(.int .u8 ba)∧j150__19 D k kp (.string b1) (.int .i64 b2) (.bool b3) (.string b4) (.bool (ba==120)) b9) kp)) (
j150__19 D k kp (.string b1) (.int .i64 b2) (.bool b3) (.string b4) (.bool false) b0)))))))
def j150__13 (D:Orc) (k:Kv) (kp:Kp) (a0 a1 a2 a3 a4:Value) (b0:H):Prop :=
strW a0 (fun b1=>intK .i64 a1 (fun b2=>qQp a2 (fun b3=>strW a3 (fun b4=>qQp a4 (fun b5=>cond b5 (
qXm b1 (some 2) none (fun b6=>j150__21 D k kp (.string b6) (.int .i64 2) (.int .i64 b2) (.bool b3) (.string b4) b0)) (
cond (decide ((b1.size:Int)≥3)) (
qZc b1 1 (fun b7=>D 164 [(.int .u8 b7)] b0 (fun b8 b9=>∃ ba:Int,b8=(.int .u8 ba)∧j150__16 D k kp (.string b1) (.int .i64 b2) (.bool b3) (.string b4) (.bool (ba==111)) b9) kp)) (
j150__16 D k kp (.string b1) (.int .i64 b2) (.bool b3) (.string b4) (.bool false) b0)))))))
def j150__7 (D:Orc) (k:Kv) (kp:Kp) (a0 a1 a2 a3 a4 a5:Value) (h3:H):Prop :=
strW a0 (fun s4=>intK .i64 a1 (fun x5=>intK .i64 a2 (fun x6=>qQp a3 (fun t7=>strW a4 (fun s8=>qQp a5 (fun t9=>cond t9 (
j150__21 D k kp (.string s4) (.int .i64 x5) (.int .i64 x6) (.bool t7) (.string s8) h3) (
cond (x5==0) (
qZc s4 0 (fun b7=>cond (b7==48) (
cond (decide ((s4.size:Int)≥3)) (
qZc s4 1 (fun b8=>D 164 [(.int .u8 b8)] h3 (fun b9 ba=>∃ bb:Int,b9=(.int .u8 bb)∧j150__13 D k kp (.string s4) (.int .i64 x6) (.bool t7) (.string s8) (.bool (bb==98)) ba) kp)) (
j150__13 D k kp (.string s4) (.int .i64 x6) (.bool t7) (.string s8) (.bool false) h3)) (
j150__21 D k kp (.string s4) (.int .i64 10) (.int .i64 x6) (.bool t7) (.string s8) h3))) (
k (.tuple #[(.int .u64 0),(.iface 215 (.int .i64 3))]) h3))))))))
def L150 (D:Orc):Lor:=Lsel [(36,loop150_36 D)]
def F150 (D:Orc) (a0 a1 a2:Value) (h:H) (k:Kv) (kp:Kp):Prop :=
strW a0 (fun s0=>intK .i64 a1 (fun x1=>intK .i64 a2 (fun x2=>cond (s0.toList==(ByteArray.mk #[]).toList) (
k (.tuple #[(.int .u64 0),(.iface 215 (.int .i64 2))]) h) (
cond (decide (2≤x1)) (
j150__7 D k kp (.string s0) (.int .i64 x1) (.int .i64 x2) (.bool (x1==0)) (.string s0) (.bool (decide (x1≤(36:Int)))) h) (
j150__7 D k kp (.string s0) (.int .i64 x1) (.int .i64 x2) (.bool (x1==0)) (.string s0) (.bool false) h)))))
def Cl150 (D:Orc):Prop:=∀ a0 a1 a2 h k kp,F150 D a0 a1 a2 h k kp→D 150 [a0,a1,a2] h k kp
theorem cl150:Cl150 (CS Tryz.prog):=fun _ _ _ _ _ _ hk=>fnL wide lv150 L150 (fn:=Tryz.f150) (by kernel_rfl) (by kernel_rfl) (by kernel_rfl) (l:=[nthC (qQi (qQs Tryz.f150)) 0]) (by kernel_rfl) ⟨fun _ _ _ hk I H=>hk I fun _ _ _ _ _ _ _ _ _ _ _ hr=>H _ _ (cast (by kernel_rfl) hr),trivial⟩ (cast (by kernel_rfl) hk)
def lv151:=lvM 43 [.str,.str,.int .i64,.int .i64,.raw] [] [] [kR 10] []
def F151 (D:Orc) (a0 a1 a2 a3 a4:Value) (h:H) (k:Kv) (kp:Kp):Prop :=
strW a0 (fun s0=>strW a1 (fun s1=>intK .i64 a2 (fun x2=>intK .i64 a3 (fun x3=>refE Tryz.prog h 133 a4 (.iface 215 (.int .i64 2)) (fun t4=>cond t4 (
D 166 [(.string s0),(.string s1)] h (fun v5 h6=>∃ v7:Value,v5=v7∧k (.iface 217 v7) h6) kp) (
refE Tryz.prog h 133 a4 (.iface 215 (.int .i64 1)) (fun t8=>cond t8 (
D 167 [(.string s0),(.string s1)] h (fun v9 ba=>∃ bb:Value,v9=bb∧k (.iface 217 bb) ba) kp) (
refE Tryz.prog h 133 a4 (.iface 215 (.int .i64 3)) (fun bc=>cond bc (
D 168 [(.string s0),(.string s1),(.int .i64 x2)] h (fun bd be=>∃ bf:Value,bd=bf∧k (.iface 217 bf) be) kp) (
refE Tryz.prog h 133 a4 (.iface 215 (.int .i64 4)) (fun bg=>cond bg (
D 169 [(.string s0),(.string s1),(.int .i64 x3)] h (fun bh bi=>∃ bj:Value,bh=bj∧k (.iface 217 bj) bi) kp) (
k a4 h))))))))))))
def Cl151 (D:Orc):Prop:=∀ a0 a1 a2 a3 a4 h k kp,F151 D a0 a1 a2 a3 a4 h k kp→D 151 [a0,a1,a2,a3,a4] h k kp
theorem cl151:Cl151 (CS Tryz.prog):=fun _ _ _ _ _ _ _ _ hk=>fn0 wide lv151 (fn:=Tryz.f151) (by kernel_rfl) (by kernel_rfl) (by kernel_rfl) (by kernel_rfl) (cast (by kernel_rfl) hk)
def lv152:=lvM 32 [.int .u64,.int .i64] [] [] [kS 4] []
def F152 (D:Orc) (a0 a1:Value) (h:H) (k:Kv) (kp:Kp):Prop :=
intK .u64 a0 (fun x0=>intK .i64 a1 (fun x1=>cond (x1==10) (
cond (decide (x0<(100:Int))) (
D 158 [(.int .i64 (IntKind.wrap IntKind.i64 x0))] h (fun v2 h3=>∃ s4:ByteArray,v2=(.string s4)∧k (.string s4) h3) kp) (
newW h [(.int .u8 0),(.int .u8 0),(.int .u8 0),(.int .u8 0),(.int .u8 0),(.int .u8 0),(.int .u8 0),(.int .u8 0),(.int .u8 0),(.int .u8 0),(.int .u8 0),(.int .u8 0),(.int .u8 0),(.int .u8 0),(.int .u8 0),(.int .u8 0),(.int .u8 0),(.int .u8 0),(.int .u8 0),(.int .u8 0),(.int .u8 0),(.int .u8 0),(.int .u8 0),(.int .u8 0)] (fun p5 h6=>D 159 [(.int .u64 x0)] h6 (fun v7 h8=>∃ x9:Int,v7=(.int .i64 x9)∧ptrW p5 (fun ba=>qXy (.slice (some ba) 24 24) none (some x9) none 1 (fun bb=>D 160 [bb,(.int .u64 x0)] h8 (fun bc bd=>bc=(.tuple #[])∧ptrW p5 (fun be=>qXy (.slice (some be) 24 24) none (some x9) none 1 (fun bf=>bsW bd bf (fun bg=>k (.string bg) bd)))) kp))) kp))) (
D 161 [(.slice none 0 0),(.int .u64 x0),(.int .i64 x1),(.bool false),(.bool false)] h (fun bh bi=>∃ bj:Value,∃ bk:ByteArray,bh=(.tuple #[bj,(.string bk)])∧k (.string bk) bi) kp)))
def Cl152 (D:Orc):Prop:=∀ a0 a1 h k kp,F152 D a0 a1 h k kp→D 152 [a0,a1] h k kp
theorem cl152:Cl152 (CS Tryz.prog):=fun _ _ _ _ _ hk=>fn0 wide lv152 (fn:=Tryz.f152) (by kernel_rfl) (by kernel_rfl) (by kernel_rfl) (by kernel_rfl) (cast (by kernel_rfl) hk)
def lv153:=lvM 18 [.str,.str] [] [] [kS 4,kB 5] []
def F153 (D:Orc) (a0 a1:Value) (h:H) (k:Kv) (kp:Kp):Prop :=
strW a0 (fun s0=>strW a1 (fun s1=>D 99 [(.string s0),(.string s1)] h (fun v2 h3=>∃ t4:Bool,v2=(.bool t4)∧cond (!t4) (
k (.tuple #[(.string s0),(.bool false)]) h3) (
qXm s0 none (some (IntKind.i64.wrap ((s0.size:Int) - (s1.size:Int)))) (fun s5=>k (.tuple #[(.string s5),(.bool true)]) h3))) kp))
def Cl153 (D:Orc):Prop:=∀ a0 a1 h k kp,F153 D a0 a1 h k kp→D 153 [a0,a1] h k kp
theorem cl153:Cl153 (CS Tryz.prog):=fun _ _ _ _ _ hk=>fn0 wide lv153 (fn:=Tryz.f153) (by kernel_rfl) (by kernel_rfl) (by kernel_rfl) (by kernel_rfl) (cast (by kernel_rfl) hk)
def lv154:=lvM 43 [.str,.str] [] [] [kS 4] [(2,[kS 0,kS 1,kB 12]),(4,[kS 0,kS 1,kB 21])]
def j154__4 (D:Orc) (k:Kv) (kp:Kp) (a0 a1 a2:Value) (h7:H):Prop :=
strW a0 (fun s8=>strW a1 (fun s9=>qQp a2 (fun b3=>cond b3 (
qZc s9 0 (fun b4=>qZc s9 0 (fun b5=>D 170 [(.string s8),(.int .u8 b4)] h7 (fun b6 b7=>∃ b8:ByteArray,b6=(.string b8)∧D 136 [(.string b8),(.int .u8 b5)] b7 (fun b9 ba=>∃ bb:ByteArray,b9=(.string bb)∧k (.string bb) ba) kp) kp))) (
D 137 [(.string s9)] h7 (fun bc bd=>∃ be:List Value,∃ bf:Bool,bc=(.tuple #[(.agg (be).toArray),(.bool bf)])∧newW bd [(.bool false),(.bool false),(.bool false),(.bool false),(.bool false),(.bool false),(.bool false),(.bool false),(.bool false),(.bool false),(.bool false),(.bool false),(.bool false),(.bool false),(.bool false),(.bool false),(.bool false),(.bool false),(.bool false),(.bool false),(.bool false),(.bool false),(.bool false),(.bool false),(.bool false),(.bool false),(.bool false),(.bool false),(.bool false),(.bool false),(.bool false),(.bool false),(.bool false),(.bool false),(.bool false),(.bool false),(.bool false),(.bool false),(.bool false),(.bool false),(.bool false),(.bool false),(.bool false),(.bool false),(.bool false),(.bool false),(.bool false),(.bool false),(.bool false),(.bool false),(.bool false),(.bool false),(.bool false),(.bool false),(.bool false),(.bool false),(.bool false),(.bool false),(.bool false),(.bool false),(.bool false),(.bool false),(.bool false),(.bool false),(.bool false),(.bool false),(.bool false),(.bool false),(.bool false),(.bool false),(.bool false),(.bool false),(.bool false),(.bool false),(.bool false),(.bool false),(.bool false),(.bool false),(.bool false),(.bool false),(.bool false),(.bool false),(.bool false),(.bool false),(.bool false),(.bool false),(.bool false),(.bool false),(.bool false),(.bool false),(.bool false),(.bool false),(.bool false),(.bool false),(.bool false),(.bool false),(.bool false),(.bool false),(.bool false),(.bool false),(.bool false),(.bool false),(.bool false),(.bool false),(.bool false),(.bool false),(.bool false),(.bool false),(.bool false),(.bool false),(.bool false),(.bool false),(.bool false),(.bool false),(.bool false),(.bool false),(.bool false),(.bool false),(.bool false),(.bool false),(.bool false),(.bool false),(.bool false),(.bool false),(.bool false),(.bool false),(.bool false),(.bool false),(.bool false),(.bool false),(.bool false),(.bool false),(.bool false),(.bool false),(.bool false),(.bool false),(.bool false),(.bool false),(.bool false),(.bool false),(.bool false),(.bool false),(.bool false),(.bool false),(.bool false),(.bool false),(.bool false),(.bool false),(.bool false),(.bool false),(.bool false),(.bool false),(.bool false),(.bool false),(.bool false),(.bool false),(.bool false),(.bool false),(.bool false),(.bool false),(.bool false),(.bool false),(.bool false),(.bool false),(.bool false),(.bool false),(.bool false),(.bool false),(.bool false),(.bool false),(.bool false),(.bool false),(.bool false),(.bool false),(.bool false),(.bool false),(.bool false),(.bool false),(.bool false),(.bool false),(.bool false),(.bool false),(.bool false),(.bool false),(.bool false),(.bool false),(.bool false),(.bool false),(.bool false),(.bool false),(.bool false),(.bool false),(.bool false),(.bool false),(.bool false),(.bool false),(.bool false),(.bool false),(.bool false),(.bool false),(.bool false),(.bool false),(.bool false),(.bool false),(.bool false),(.bool false),(.bool false),(.bool false),(.bool false),(.bool false),(.bool false),(.bool false),(.bool false),(.bool false),(.bool false),(.bool false),(.bool false),(.bool false),(.bool false),(.bool false),(.bool false),(.bool false),(.bool false),(.bool false),(.bool false),(.bool false),(.bool false),(.bool false),(.bool false),(.bool false),(.bool false),(.bool false),(.bool false),(.bool false),(.bool false),(.bool false),(.bool false),(.bool false),(.bool false),(.bool false),(.bool false),(.bool false),(.bool false),(.bool false),(.bool false),(.bool false),(.bool false),(.bool false),(.bool false),(.bool false),(.bool false),(.bool false),(.bool false),(.bool false),(.bool false),(.bool false)] (fun bg bh=>ptrW bg (fun bi=>be.length=256∧List.all be one=true∧∃ bj,wr bh bi be=some bj∧cond bf (
D 171 [(.string s8),bg] bj (fun bk bl=>∃ bm:ByteArray,bk=(.string bm)∧D 138 [(.string bm),bg] bl (fun bn bo=>∃ bp:ByteArray,bn=(.string bp)∧k (.string bp) bo) kp) kp) (
D 172 [(.string s8),(.string s9)] bj (fun bq br=>∃ bs:ByteArray,bq=(.string bs)∧D 139 [(.string bs),(.string s9)] br (fun bt bu=>∃ bv:ByteArray,bt=(.string bv)∧k (.string bv) bu) kp) kp)))) kp))))
def j154__2 (D:Orc) (k:Kv) (kp:Kp) (a0 a1 a2:Value) (h2:H):Prop :=
strW a0 (fun s3=>strW a1 (fun s4=>qQp a2 (fun t5=>cond t5 (
k (.string s3) h2) (
cond ((s4.size:Int)==1) (
qZc s4 0 (fun x6=>j154__4 D k kp (.string s3) (.string s4) (.bool (decide (x6<(128:Int)))) h2)) (
j154__4 D k kp (.string s3) (.string s4) (.bool false) h2)))))
def F154 (D:Orc) (a0 a1:Value) (h:H) (k:Kv) (kp:Kp):Prop :=
strW a0 (fun s0=>strW a1 (fun s1=>cond (!(s0.toList==(ByteArray.mk #[]).toList)) (
j154__2 D k kp (.string s0) (.string s1) (.bool (s1.toList==(ByteArray.mk #[]).toList)) h) (
j154__2 D k kp (.string s0) (.string s1) (.bool true) h)))
def Cl154 (D:Orc):Prop:=∀ a0 a1 h k kp,F154 D a0 a1 h k kp→D 154 [a0,a1] h k kp
theorem cl154:Cl154 (CS Tryz.prog):=fun _ _ _ _ _ hk=>fn0 wide lv154 (fn:=Tryz.f154) (by kernel_rfl) (by kernel_rfl) (by kernel_rfl) (by kernel_rfl) (cast (by kernel_rfl) hk)
def lv156:=lvM 10 [.raw,.int .u8] [] [] [kB 4] []
def F156 (D:Orc) (a0 a1:Value) (h:H) (k:Kv) (kp:Kp):Prop :=
intK .u8 a1 (fun x0=>qQh a0=true∧ptrW a0 (fun b1=>0≤x0∧x0<(256:Int)∧∃ t2:Bool,rd h (Addr.add b1 (Int.toNat x0*1))=some (.bool t2)∧k (.bool t2) h))
def Cl156 (D:Orc):Prop:=∀ a0 a1 h k kp,F156 D a0 a1 h k kp→D 156 [a0,a1] h k kp
theorem cl156:Cl156 (CS Tryz.prog):=fun _ _ _ _ _ hk=>fn0 wide lv156 (fn:=Tryz.f156) (by kernel_rfl) (by kernel_rfl) (by kernel_rfl) (by kernel_rfl) (cast (by kernel_rfl) hk)
def lv164:=lvM 5 [.int .u8] [] [] [(2,.int .u8)] []
def F164 (D:Orc) (a0:Value) (h:H) (k:Kv) (kp:Kp):Prop :=
intK .u8 a0 (fun x0=>k (.int .u8 (IntKind.u8.wrap ((BitVec.ofInt (IntKind.bits IntKind.u8) x0 ||| BitVec.ofInt (IntKind.bits IntKind.u8) 32).toNat:Int))) h)
def Cl164 (D:Orc):Prop:=∀ a0 h k kp,F164 D a0 h k kp→D 164 [a0] h k kp
theorem cl164:Cl164 (CS Tryz.prog):=fun _ _ _ _ hk=>fn0 wide lv164 (fn:=Tryz.f164) (by kernel_rfl) (by kernel_rfl) (by kernel_rfl) (by kernel_rfl) (cast (by kernel_rfl) hk)
def lv166:=lvM 11 [.str,.str] [] [] [kR 4] []
def F166 (D:Orc) (a0 a1:Value) (h:H) (k:Kv) (kp:Kp):Prop :=
strW a0 (fun s0=>strW a1 (fun s1=>∃ v2:Value,rd h ⟨4,0,none⟩=some v2∧D 180 [(.string s1)] h (fun v3 h4=>∃ s5:ByteArray,v3=(.string s5)∧(rd h4 ⟨4,0,none⟩=some v2)∧one (.string s0)=true∧0<3∧one (.string s5)=true∧1<3∧one v2=true∧2<3∧newW h4 [(.string s0),(.string s5),v2] (fun p6 h7=>k p6 h7)) kp))
def Cl166 (D:Orc):Prop:=∀ a0 a1 h k kp,F166 D a0 a1 h k kp→D 166 [a0,a1] h k kp
theorem cl166:Cl166 (CS Tryz.prog):=fun _ _ _ _ _ hk=>fn0 wide lv166 (fn:=Tryz.f166) (by kernel_rfl) (by kernel_rfl) (by kernel_rfl) (by kernel_rfl) (cast (by kernel_rfl) hk)
def lv167:=lvM 11 [.str,.str] [] [] [kR 4] []
def F167 (D:Orc) (a0 a1:Value) (h:H) (k:Kv) (kp:Kp):Prop :=
strW a0 (fun s0=>strW a1 (fun s1=>∃ v2:Value,rd h ⟨5,0,none⟩=some v2∧D 180 [(.string s1)] h (fun v3 h4=>∃ s5:ByteArray,v3=(.string s5)∧(rd h4 ⟨5,0,none⟩=some v2)∧one (.string s0)=true∧0<3∧one (.string s5)=true∧1<3∧one v2=true∧2<3∧newW h4 [(.string s0),(.string s5),v2] (fun p6 h7=>k p6 h7)) kp))
def Cl167 (D:Orc):Prop:=∀ a0 a1 h k kp,F167 D a0 a1 h k kp→D 167 [a0,a1] h k kp
theorem cl167:Cl167 (CS Tryz.prog):=fun _ _ _ _ _ hk=>fn0 wide lv167 (fn:=Tryz.f167) (by kernel_rfl) (by kernel_rfl) (by kernel_rfl) (by kernel_rfl) (cast (by kernel_rfl) hk)
def lv171:=lvM 22 [.str,.raw] [(1,[kS 0,kR 1])] [(1,[(0,[kS 0])])] [kS 4] []
def round171_1 (D:Orc) (I:List Value→H→Prop) (K:Kl) (a0 a1:Value) (h1:H):Prop :=
strW a0 (fun s2=>cond (decide ((s2.size:Int)>0)) (
qZc s2 (IntKind.i64.wrap ((s2.size:Int) - 1)) (fun x3=>D 156 [a1,(.int .u8 x3)] h1 (fun v4 h5=>∃ t6:Bool,v4=(.bool t6)∧cond (!t6) (
K (X.e 0) [(.string s2)] h5) (
qXm s2 none (some (IntKind.i64.wrap ((s2.size:Int) - 1))) (fun s7=>I [(.string s7),a1] h5))) (fun c h=>K (X.p c) [] h))) (
K (X.e 0) [(.string s2)] h1))
def loop171_1 (D:Orc):=Lp2 (round171_1 D)
def L171 (D:Orc):Lor:=Lsel [(1,loop171_1 D)]
def F171 (D:Orc) (a0 a1:Value) (h:H) (k:Kv) (kp:Kp):Prop :=
strW a0 (fun s0=>loop171_1 D [(.string s0),a1] h (fun x9 b2 h8=>xs x9 (strW (nth b2 0) (fun b4=>k (.string b4) h8)) (fun b5=>cond (Nat.beq b5 0) (
strW (nth b2 0) (fun b6=>k (.string b6) h8)) (False)) (fun c=>kp c h8)))
def Cl171 (D:Orc):Prop:=∀ a0 a1 h k kp,F171 D a0 a1 h k kp→D 171 [a0,a1] h k kp
theorem cl171:Cl171 (CS Tryz.prog):=fun _ _ _ _ _ hk=>fnL wide lv171 L171 (fn:=Tryz.f171) (by kernel_rfl) (by kernel_rfl) (by kernel_rfl) (l:=[nthC (qQi (qQs Tryz.f171)) 0]) (by kernel_rfl) ⟨fun _ _ _ hk I H=>hk I fun _ _ _ hr=>H _ _ (cast (by kernel_rfl) hr),trivial⟩ (cast (by kernel_rfl) hk)
def lv204:=lvM 3 [.int .i64] [] [] [kI 2] []
def F204 (D:Orc) (a0:Value) (h:H) (k:Kv) (kp:Kp):Prop :=
intK .i64 a0 (fun x0=>k (.int .i64 1) h)
def Cl204 (D:Orc):Prop:=∀ a0 h k kp,F204 D a0 h k kp→D 204 [a0] h k kp
theorem cl204:Cl204 (CS Tryz.prog):=fun _ _ _ _ hk=>fn0 wide lv204 (fn:=Tryz.f204) (by kernel_rfl) (by kernel_rfl) (by kernel_rfl) (by kernel_rfl) (cast (by kernel_rfl) hk)
def lv205:=lvM 7 [.raw] [] [] [kI 2] []
def F205 (D:Orc) (a0:Value) (h:H) (k:Kv) (kp:Kp):Prop :=
qQh a0=true∧ptrW a0 (fun b0=>∃ x1:Int,rd h (Addr.add b0 1)=some (.int .i64 x1)∧k (.int .i64 x1) h)
def Cl205 (D:Orc):Prop:=∀ a0 h k kp,F205 D a0 h k kp→D 205 [a0] h k kp
theorem cl205:Cl205 (CS Tryz.prog):=fun _ _ _ _ hk=>fn0 wide lv205 (fn:=Tryz.f205) (by kernel_rfl) (by kernel_rfl) (by kernel_rfl) (by kernel_rfl) (cast (by kernel_rfl) hk)
end Go.Proofs.YtkdneddcocggdaaGreatDoor.Am
