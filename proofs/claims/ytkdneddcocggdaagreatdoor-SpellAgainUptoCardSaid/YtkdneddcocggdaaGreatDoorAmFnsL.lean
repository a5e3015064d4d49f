/-
  Packed: 
-/
import Derived.Test.YtkdneddcocggdaaGreatDoorAmFnsR
set_option linter.unusedVariables false
set_option linter.unusedSimpArgs false
set_option linter.unnecessarySimpa false
namespace Go.Proofs.YtkdneddcocggdaaGreatDoor.Am
open Go Go.Proofs
set_option maxRecDepth 100000
def lv9:=lvM 93 [.str] [] [] [kB 2] []
def F9 (D:Orc) (a0:Value) (h:H) (k:Kv) (kp:Kp):Prop :=
strW a0 (fun s0=>D 11 [] h (fun v1 h2=>∃ t3:Bool,v1=(.bool t3)∧cond (!t3) (
k (.bool false) h2) (
D 17 [(.string s0)] h2 (fun v4 h5=>∃ v6 v7 v8 v9 ba bb:Value,∃ bc bd:Int,v4=(.tuple #[(.agg #[v6,v7,v8,v9,ba,bb]),(.int .i64 bc),(.int .i64 bd)])∧newW h5 [(.slice none 0 0),(.slice none 0 0),(.slice none 0 0),(.slice none 0 0),(.slice none 0 0),(.slice none 0 0)] (fun be bf=>ptrW be (fun bg=>6=6∧List.all [v6,v7,v8,v9,ba,bb] one=true∧∃ bh,wr bf bg [v6,v7,v8,v9,ba,bb]=some bh∧cond (bd != 0) (
cond t3 (
ptrW be (fun bi=>∃ bj bk bl bm bn bo:Value,rdN bh bi 6=some [bj,bk,bl,bm,bn,bo]∧D 19 [(.agg #[bj,bk,bl,bm,bn,bo]),(.agg #[(.slice none 0 0),(.slice none 0 0),(.slice none 0 0),(.slice none 0 0),(.slice none 0 0),(.slice none 0 0)])] bh (fun bp bq=>∃ br:Bool,bp=(.bool br)∧cond br (
cond (decide (bc≥0)) (
D 23 [(.string s0)] bq (fun bs bt=>∃ bu:Int,bs=(.int .i64 bu)∧k (.bool (decide (bc≤bu))) bt) kp) (
k (.bool false) bq)) (
k (.bool false) bq)) kp)) (
k (.bool false) bh)) (
ptrW be (fun bv=>∃ bw bx bz c0 c1 c2:Value,rdN bh bv 6=some [bw,bx,bz,c0,c1,c2]∧D 20 [(.agg #[bw,bx,bz,c0,c1,c2])] bh (fun c3 c4=>∃ c5:ByteArray,∃ c6:Int,c3=(.tuple #[(.string c5),(.int .i64 c6)])∧cond (c6 != 0) (
cond t3 (
cond (c6==220) (
cond (!((s0.size:Int)==65536)) (
D 23 [(.string s0)] c4 (fun c7 c8=>∃ c9:Int,c7=(.int .i64 c9)∧k (.bool (c9==4096)) c8) kp) (
k (.bool true) c4)) (
k (.bool false) c4)) (
k (.bool false) c4)) (
D 17 [(.string c5)] c4 (fun ca cb=>∃ cc cd ce cf cg ch:Value,∃ ci cj:Int,ca=(.tuple #[(.agg #[cc,cd,ce,cf,cg,ch]),(.int .i64 ci),(.int .i64 cj)])∧newW cb [(.slice none 0 0),(.slice none 0 0),(.slice none 0 0),(.slice none 0 0),(.slice none 0 0),(.slice none 0 0)] (fun ck cl=>ptrW ck (fun cm=>6=6∧List.all [cc,cd,ce,cf,cg,ch] one=true∧∃ cn,wr cl cm [cc,cd,ce,cf,cg,ch]=some cn∧cond t3 (
cond (bc==0) (
cond (ci==0) (
cond (cj==0) (
ptrW ck (fun co=>∃ cp cq cr cs ct cu:Value,rdN cn co 6=some [cp,cq,cr,cs,ct,cu]∧ptrW be (fun cv=>∃ cw cx cy cz d0 d1:Value,rdN cn cv 6=some [cw,cx,cy,cz,d0,d1]∧D 19 [(.agg #[cp,cq,cr,cs,ct,cu]),(.agg #[cw,cx,cy,cz,d0,d1])] cn (fun d2 d3=>∃ d4:Bool,d2=(.bool d4)∧cond d4 (
k (.bool (decide ((c5.size:Int)≤(IntKind.i64.wrap ((s0.size:Int)+1))))) d3) (
k (.bool false) d3)) kp))) (
k (.bool false) cn)) (
k (.bool false) cn)) (
k (.bool false) cn)) (
k (.bool false) cn)))) kp)) kp))))) kp)) kp)
def Cl9 (D:Orc):Prop:=∀ a0 h k kp,F9 D a0 h k kp→D 9 [a0] h k kp
theorem cl9:Cl9 (CS Tryz.prog):=fun _ _ _ _ hk=>fn0 wide lv9 (fn:=Tryz.f9) (by kernel_rfl) (by kernel_rfl) (by kernel_rfl) (by kernel_rfl) (cast (by kernel_rfl) hk)
end Go.Proofs.YtkdneddcocggdaaGreatDoor.Am
