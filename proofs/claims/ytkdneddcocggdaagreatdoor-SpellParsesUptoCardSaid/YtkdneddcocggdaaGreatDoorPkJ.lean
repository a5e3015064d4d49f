/-
  Packed: The laws on terms: what is read, what is shown, and one behind the other. The law: a text is read as the book that it is; what was read may be spoiled, and is read again. From a function's reading to the given statement: the old memory is read only; what was handed in reads as it did. What every law's end needs: the arguments read behind the call as they did; slices of integers are rows of the handed memory; the world of the witness. Arguments that are handed in: rows of numbers, signatures.
-/
import Derived.Test.YtkdneddcocggdaaGreatDoorPkI
import Derived.Test.YtkdneddcocggdaaGreatDoorAmFnsL
import Derived.Test.YtkdneddcocggdaaGreatDoorPkK
import Derived.Test.YtkdneddcocggdaaGreatDoorPkC
import Derived.Test.YtkdneddcocggdaaGreatDoorPkB
import Derived.Carry
import Derived.ChangeSame
import Derived.Below
import Derived.Test.YtkdneddcocggdaaGreatDoorRows
import Derived.Test.YtkdneddcocggdaaGreatDoorCards
import Derived.Test.YtkdneddcocggdaaGreatDoorTie
import Derived.WalkKit
import Derived.ProofKit
import Derived.OpenShut
import Derived.ChangeSlices
import Derived.ChangeMaps5
import Derived.Deep.DeepHandedRow
import Derived.Lib.LaidTab
import Derived.Lib.LaidIn
import Derived.Test.YtkdneddcocggdaaGreatDoorPkS
import Derived.Deep.SlicePairs
import Derived.Lib.SmallJoins
import Derived.Lib.LaidU8
set_option linter.unusedVariables false
set_option linter.unusedSimpArgs false
set_option linter.unnecessarySimpa false
namespace Go.Proofs.YtkdneddcocggdaaGreatDoor.Am
open Go Go.Proofs Go.RowKit Go.Lib Sys Sp
set_option maxRecDepth 100000
variable {D:Orc} {h h' h0:H} {k:Kv} {kp:Kp}
structure SpecsT (D:Orc):Prop where
 shown:qAc D 11 Tbl
 term:qYu D 12 Tbl
 qMc:qYu D 13 Tbl
 show_:qCb D 15 Tbl
 xUo:qCb D 16 Tbl
 row:qJj D 14
 chk:qEg D 22 Tbl
variable {D:Orc} {E:Dorc} {h h' h0 g:H} {k:Kv} {kp:Kp} {L R:List Res} {B:Bk} {V:BkV} {N:Nat}
def wldR (g:H):Res:=⟨fun b=>g b≠none,fun h=>∀ b l,g b=some (.cells l)→∃ l',h b=some (.cells l')∧l'.length=l.length,fun h h' e o b l hb=>by rw [e b (by rw [hb]; simp)]; exact o b l hb⟩
theorem Hp.wld {i:Nat} (o:Hp h0 h L) (hi:L[i]?=some (frzR g)):Hp h0 h (L.set i (wldR g)):=by
 refine o.upd hi (fun _ _ _=>rfl) (fun b l hb=>⟨l,(o.get hi:Ext g h) b _ hb,rfl⟩) fun b hb=>⟨.inl hb,?_⟩
 exact (o.new _ (List.mem_of_getElem? hi) b hb).2
theorem Hp.wr_wld {i j:Nat} {v x:Value} {l:List Value} (o:Hp h0 h L) (hi:L[i]?=some (wldR g)) (hb:Buf noH g v l) (hj:j<l.length) (hx:one x=true) {T:Prop} (hT:T) {K:H→Prop} (hK:∀ h',Hp h0 h' (L.set i (wldR g))→K h') :
  qQj v (j:Int) 1 fun ad=>one x=true∧T∧∃ h',wr1 h ad x=some h'∧K h':=by
 rcases hb with ⟨_,rfl⟩ | ⟨b,off,cap,c,_,rfl,hg,h1,h2,h3⟩
 ·simp at hj
 ·obtain ⟨c',hc,hcl⟩:=(o.get hi:(wldR g).ok h) b c hg
  refine ⟨by omega,by omega,hx,hT,h.set b (.cells (c'.set (off+j) x)),?_,?_⟩
  ·have e1:(⟨b,off,none⟩:Addr).add (Int.toNat (j:Int)*1)=⟨b,off+j,none⟩:=by rw [Int.toNat_natCast,Nat.mul_one,qZq]
   show wr1 h (Addr.add ⟨b,off,none⟩ (Int.toNat (j:Int)*1)) x=_
   rw [e1]
   simp only [wr1,hc]
   rw [if_pos (by omega)]
  ·refine hK _ (o.upd hi (fun d hd hn=>qXl fun e=>hn (by subst e; show g d≠none; rw [hg]; simp)) (fun d l hd=>?_) fun d hd=>⟨.inl hd,?_⟩)
   ·by_cases e:d=b
    ·subst e
     rw [hg] at hd
     cases hd
     exact ⟨_,qQi,by rw [List.length_set]; exact hcl⟩
    ·rw [qXl e]
     exact (o.get hi:(wldR g).ok h) d l hd
   ·by_cases e:d=b
    ·subst e; rw [qQi]; simp
    ·rw [qXl e]
     exact (o.new _ (List.mem_of_getElem? hi) d hd).2
structure SpecsQ (D:Orc):Prop where
 shown:qAc D 11 Tbl
 parse:qYg D 17 Tbl
 parseR:qYg D 18 Tbl
 same:qEv D 19
abbrev spL (p14:Nat) (V:BkV) (g:H) (rows cr:List (List Value)) (L:List Res):List Res:=qQp p14 [V.sg,V.ru,V.eq,V.pr,V.ce,V.co]::wldR g::bufK 2 V.ru rows::bufK 4 V.ce cr::L
theorem xWh {p14 p28:Nat} {x:ByteArray} {f:Int} {rows cr:List (List Value)} (o:Hp h0 h (spL p14 V g rows cr L)) (hcr:cr.length<2 ^ 40) {K:Kl} (hK:∀ cr' h',Hp h0 h' (spL p14 V g rows cr' L)→K (.e 4) [.string x,.bool true,Pt p28,.int .i64 f] h') :
  loop5_17 D [.string x,.bool true,Pt p14,Pt p28,.int .i64 f,.int .i64 0] h K:=by
 intro J hJ
 have key:∀ m i:Nat,i+m=cr.length→∀ (cr':List (List Value)) (h:H),cr'.length=cr.length→Hp h0 h (spL p14 V g rows cr' L)→J [.string x,.bool true,Pt p14,Pt p28,.int .i64 f,.int .i64 (i:Int)] h:=by
  intro m
  induction m with
  | zero =>
   intro i him cr' h hl o
   refine hJ _ _ _ _ _ _ _ ?_
   unfold round5_17
   rw [qQb,qQc,qQa,qQa]
   refine ldj (o.cell (i:=0) rfl) rfl ?_
   rw [(o.rowK (i:=3) rfl).len,qQd]
   exact ⟨fun hlt=>by omega,fun _=>hK cr' h o⟩
  | succ m ih =>
   intro i him cr' h hl o
   refine hJ _ _ _ _ _ _ _ ?_
   unfold round5_17
   rw [qQb,qQc,qQa,qQa]
   refine ldj (o.cell (i:=0) rfl) rfl ?_
   rw [(o.rowK (i:=3) rfl).len,qQd]
   refine ⟨fun _=>?_,fun hge=>by omega⟩
   refine ldj (o.cell (i:=0) rfl) rfl ?_
   refine o.putK (i:=3) rfl (by omega) rfl rfl rfl fun h' o'=>?_
   rw [qQo (by omega) (by omega),show (i:Int)+1=((i+1:Nat):Int) by omega]
   exact ih (i+1) (by omega) _ h' (by rw [List.length_set]; exact hl) o'
 exact key cr.length 0 (by omega) cr h rfl o
theorem xUf {p14 p28:Nat} {x:ByteArray} {f:Int} {i:Nat} {v w:Value} {l:List Int} {rows cr:List (List Value)} (o:Hp h0 h (spL p14 V g rows cr L)) (hr:rows[i]?=some [v,w]) (hv:Oz g v l) {K:Kl} (hK:∀ h',Hp h0 h' (spL p14 V g rows cr L)→K (.e 2) [.string x,.bool true,Pt p14,Pt p28,.int .i64 f,.int .i64 (i:Int)] h') :
  loop5_12 D [.string x,.bool true,Pt p14,Pt p28,.int .i64 f,.int .i64 (i:Int),.int .i64 0] h K:=by
 intro J hJ
 have hil:=(List.getElem?_eq_some_iff.mp hr).1
 have hri:rows[i]=[v,w]:=by
  rw [List.getElem?_eq_getElem hil] at hr
  exact Option.some.inj hr
 have hrow:=hv.buf.row
 have hlen:=hv.len
 have key:∀ m j:Nat,j+m=l.length→∀ (h:H),Hp h0 h (spL p14 V g rows cr L)→J [.string x,.bool true,Pt p14,Pt p28,.int .i64 f,.int .i64 (i:Int),.int .i64 (j:Int)] h:=by
  intro m
  induction m with
  | zero =>
   intro j hjm h o
   refine hJ _ _ _ _ _ _ _ _ ?_
   unfold round5_12
   rw [qQb,qQc,qQa,qQa,qQa]
   refine ldj (o.cell (i:=0) rfl) rfl ?_
   refine qWp (o.rowK (i:=2) rfl) hil ⟨v,qHa (o.rowK (i:=2) rfl) hil (by rw [hri]; rfl),?_⟩
   rw [hrow.len,Zl,qQd]
   exact ⟨fun hlt=>by omega,fun _=>hK h o⟩
  | succ m ih =>
   intro j hjm h o
   refine hJ _ _ _ _ _ _ _ _ ?_
   unfold round5_12
   rw [qQb,qQc,qQa,qQa,qQa]
   refine ldj (o.cell (i:=0) rfl) rfl ?_
   refine qWp (o.rowK (i:=2) rfl) hil ⟨v,qHa (o.rowK (i:=2) rfl) hil (by rw [hri]; rfl),?_⟩
   rw [hrow.len,Zl,qQd]
   refine ⟨fun _=>?_,fun hge=>by omega⟩
   refine ldj (o.cell (i:=0) rfl) rfl ?_
   refine qWp (o.rowK (i:=2) rfl) hil ⟨v,qHa (o.rowK (i:=2) rfl) hil (by rw [hri]; rfl),?_⟩
   refine o.wr_wld (i:=1) rfl hv.buf (by rw [Zl]; omega) rfl rfl fun h' o'=>?_
   rw [qQo (by omega) (by omega),show (j:Int)+1=((j+1:Nat):Int) by omega]
   exact ih (j+1) (by omega) h' o'
 exact key l.length 0 (by omega) h o
theorem qTk {p14 p28:Nat} {x:ByteArray} {f:Int} {rules:List Ru} {cr:List (List Value)} (o:Hp h0 h (spL p14 V g V.rur cr L)) (hr:Rel2 (RuB g) V.rur rules) (hl:rules.length<2 ^ 40) {K:Kl} (hK:∀ rows h',Hp h0 h' (spL p14 V g rows cr L)→K (.e 0) [.string x,.bool true,Pt p14,Pt p28,.int .i64 f] h') :
  loop5_9 D [.string x,.bool true,Pt p14,Pt p28,.int .i64 f,.int .i64 0] h K:=by
 intro J hJ
 have hrl:=hr.len
 have key:∀ m i:Nat,i+m=rules.length→∀ (rows:List (List Value)) (h:H),rows.length=rules.length→(∀ j,i≤j→rows[j]?=V.rur[j]?)→Hp h0 h (spL p14 V g rows cr L)→J [.string x,.bool true,Pt p14,Pt p28,.int .i64 f,.int .i64 (i:Int)] h:=by
  intro m
  induction m with
  | zero =>
   intro i him rows h hl hsame o
   refine hJ _ _ _ _ _ _ _ ?_
   unfold round5_9
   rw [qQb,qQc,qQa,qQa]
   refine ldj (o.cell (i:=0) rfl) rfl ?_
   rw [(o.rowK (i:=2) rfl).len,qQd]
   exact ⟨fun hlt=>by omega,fun _=>hK rows h o⟩
  | succ m ih =>
   intro i him rows h hl hsame o
   refine hJ _ _ _ _ _ _ _ ?_
   unfold round5_9
   rw [qQb,qQc,qQa,qQa]
   refine ldj (o.cell (i:=0) rfl) rfl ?_
   rw [(o.rowK (i:=2) rfl).len,qQd]
   refine ⟨fun _=>?_,fun hge=>by omega⟩
   have hil:i<V.rur.length:=by omega
   have hvi:V.rur[i]?=some V.rur[i]:=List.getElem?_eq_getElem hil
   obtain ⟨r,_,v,w,hvw,z1,z2⟩:=hr.get hvi
   have hri:rows[i]?=some [v,w]:=by rw [hsame i (Nat.le_refl _),hvi,hvw]
   refine xUf o hri z1 fun h' o'=>?_
   show xs (Am.X.e 2) _ _ _
   rw [xs_e]
   show cond true _ _
   rw [cond_true,nth0,nth1,nth2,nth3,nth4,nth5,qQb,qQc,qQa,qQa]
   refine ldj (o'.cell (i:=0) rfl) rfl ?_
   refine o'.putK (i:=2) rfl (by omega) rfl rfl rfl fun h2 o2=>?_
   rw [qQo (by omega) (by omega),show (i:Int)+1=((i+1:Nat):Int) by omega]
   refine ih (i+1) (by omega) _ h2 (by rw [List.length_set]; exact hl) (fun j hj=>?_) o2
   rw [List.getElem?_set,if_neg (by omega)]
   exact hsame j (by omega)
 exact key rules.length 0 (by omega) V.rur h hrl (fun _ _=>rfl) o
theorem new6 {vs ws:List Value} (hl:ws.length=vs.length) (hv:vs.all one=true) {T:Prop} (hT:T) (h6:vs.length=6) {K:Value→H→Prop} (hK:∀ p h',Hp h h' [qQp p vs]→K (Pt p) h') :
  newW h ws (fun p h1=>ptrW p (fun ad=>T∧List.all vs one=true∧∃ h2,Am.wr h1 ad vs=some h2∧K p h2)) :=
 (Hp.nil_ h).new_ fun p h1 hp o1=>o1.st6 (i:=0) rfl hl hv hT fun h2 o2=>hK p h2 o2
theorem xGi {bp:Nat} {tl:List Value} (o2:Hp h0 h (bkL bp tl V g B R)):[V.sg,V.ru,V.eq,V.pr,V.ce,V.co].all one=true:=by
 simp only [List.all_cons,List.all_nil,qQu (o2.rowK (i:=2) rfl).isSl,qQu (o2.rowK (i:=3) rfl).isSl,qQu (o2.rowK (i:=4) rfl).isSl,qQu (o2.rowK (i:=5) rfl).isSl,qQu (o2.rowK (i:=6) rfl).isSl,qQu (o2.rowK (i:=7) rfl).isSl]
 rfl
theorem qHb (s:SpecsQ D) {p14 p28:Nat} {x:ByteArray} {rules:List Ru} {c28:List Value} {y:Except (Nat × Int) (Bk × Bool)} {want:Bk} {f:Int} (hx:x.size<2 ^ 38) (ht:Tbl h0) (o:Hp h0 h (spL p14 V g V.rur V.cer L)) (hr:Rel2 (RuB g) V.rur rules) (hrl:rules.length<2 ^ 40) (hcl:V.cer.length<2 ^ 40)
  (hy:qPd (bts x)=y) (hok:∀ z,y=.ok z→want=z.1∧f=0) (hbad:∀ z,y=.error z→want=Bk.nil∧f=z.2) (h6:c28.length=6) (hwant:∀ h',Hp h0 h' L→h' p28=some (.cells c28)∧BkA h' c28 want) (hk:∀ h',Ext h0 h'→k (.bool true) h') :
  j5__7 D k kp (.string x) (.bool true) (Pt p14) (Pt p28) (.int .i64 f) (.bool false) h:=by
 unfold j5__7
 rw [qQb,qQc,qQa,qQc,cond_false]
 refine qTk o hr hrl fun rows h1 o1=>?_
 show xs (Am.X.e 0) _ _ _
 rw [xs_e]
 show cond true _ _
 rw [cond_true,nth0,nth1,nth2,nth3,nth4,qQb,qQc,qQa]
 refine xWh o1 hcl fun cr h2 o2=>?_
 show xs (Am.X.e 4) _ _ _
 rw [xs_e]
 show cond true _ _
 rw [cond_true,nth0,nth1,nth2,nth3,qQb,qQc,qQa]
 have oL:Hp h0 h2 L:=o2.tail.tail.tail.tail
 have use:∀ K:Kv,(∀ (c:List Value) (a e:Int) h3,Ext h2 h3→BkA h3 c want→e=f→K (.tuple #[.agg c.toArray,.int .i64 a,.int .i64 e]) h3)→D 17 [.string x] h2 K kp:=fun K hK=>by
  refine s.parse x h2 _ _ (by omega) (qQw _ _ oL.ext ht) ?_
  rw [hy]
  cases hc:y with
  | ok z =>
   obtain ⟨rfl,rfl⟩:=hok z hc
   intro bp tl V2 g2 N2 h3 hN2 sm2 I2 o3
   exact hK [V2.sg,V2.ru,V2.eq,V2.pr,V2.ce,V2.co] 0 0 h3 o3.ext (qIc o3 I2 sm2 hN2 (qCm (hy.trans hc)).1) rfl
  | error z =>
   obtain ⟨rfl,rfl⟩:=hbad z hc
   exact fun h3 e3=>hK nilB _ _ h3 e3 (qFs h3) rfl
 refine use _ fun c a e h3 e3 hb he=>?_
 subst he
 obtain ⟨sg,ru,eq,pr,ce,co,q1,q2,q3,q4,rfl,a1,a2,a3,a4,a5,a6,a7,a8,a9,a10,a11⟩:=hb.sl
 refine ⟨_,_,_,_,_,_,_,_,rfl,?_⟩
 have hone:[sg,ru,eq,pr,ce,co].all one=true:=by
  simp only [List.all_cons,List.all_nil,qQu a1.row.isSl,qQu a2.isSl,qQu a4.isSl,qQu a6.isSl,qQu a8.isSl,qQu a10.isSl]
  rfl
 refine new6 (ws:=nilB) (vs:=[sg,ru,eq,pr,ce,co]) rfl hone rfl rfl fun p h4 o4=>?_
 obtain ⟨w1,w2⟩:=hwant h4 (oL.later (e3.trans o4.ext))
 obtain ⟨sg',ru',eq',pr',ce',co',_,_,_,_,rfl,_⟩:=w2.sl
 rw [cond_true,show (e==e)=true from beq_self_eq_true e,cond_true,qQf]
 refine ⟨_,_,_,_,_,_,rdn (o4.cell (i:=0) rfl) (by simp),?_⟩
 rw [qQf]
 refine ⟨_,_,_,_,_,_,rdn w1 (by simp),?_⟩
 refine s.same [sg,ru,eq,pr,ce,co] [sg',ru',eq',pr',ce',co'] want want h4 _ _ (hb.ext o4.ext) w2 fun t h5 e5 ht2=>⟨_,rfl,?_⟩
 rw [ht2.mpr rfl]
 exact hk h5 (oL.ext.trans (e3.trans (o4.ext.trans e5)))
theorem xEi (c:Cl5 D) (s:SpecsQ D) {x:ByteArray} (hx:x.size<2 ^ 38) (ht:Tbl h) (hk:∀ h',Ext h h'→k (.bool true) h'):D 5 [.string x] h k kp:=by
 refine c _ _ _ _ ?_
 unfold F5
 rw [qQb]
 refine s.shown h _ _ ht fun h1 e1=>⟨_,rfl,?_⟩
 show cond false _ _
 rw [cond_false]
 have t1:=qQw _ _ e1 ht
 refine s.parse x h1 _ _ (by omega) t1 ?_
 have hR:=fun (h2:H) (k:Kv) (e2:Ext h1 h2)=>s.parseR x h2 k kp (by omega) (qQw _ _ e2 t1)
 cases hp:qPd (bts x) with
 | error y =>
  rw [hp] at hR
  intro h2 e2
  refine ⟨_,_,_,_,_,_,_,_,rfl,?_⟩
  refine new6 (ws:=nilB) (vs:=nilB) rfl rfl rfl rfl fun p14 h3 o3=>?_
  refine hR h3 _ (e2.trans o3.ext) fun h4 e4=>?_
  refine ⟨_,_,_,_,_,_,_,_,rfl,?_⟩
  refine new6 (ws:=nilB) (vs:=nilB) rfl rfl rfl rfl fun p28 h5 o5=>?_
  have hn1:(y.2 != y.2)=false:=by simp
  have hn2:((y.1:Int) != (y.1:Int))=false:=by simp
  rw [hn1,hn2,Bool.not_false,cond_true,cond_true]
  have oX:Hp h1 h5 (qQp p28 nilB::qQp p14 nilB::[]):=(((((Hp.nil_ h1).later e2).join o3).later e4).join o5)
  rw [qQf]
  refine ⟨_,_,_,_,_,_,rdn (oX.cell (i:=1) rfl) (by simp [nilB]),?_⟩
  rw [qQf]
  refine ⟨_,_,_,_,_,_,rdn (oX.cell (i:=0) rfl) (by simp [nilB]),?_⟩
  refine s.same nilB nilB Bk.nil Bk.nil h5 _ _ (qFs h5) (qFs h5) fun t h6 e6 ht2=>⟨_,rfl,?_⟩
  rw [ht2.mpr rfl,Bool.not_true]
  have oY:Hp h1 h6 (qQp p14 nilB::frzR noH::bufK 2 (.slice none 0 0) []::bufK 4 (.slice none 0 0) []::qQp p28 nilB::[]) :=
   ((((oX.later e6).add_nilK (sz:=4)).add_nilK (sz:=2)).frz0).permI [4,0,1,2,3] (by simp only [List.length_cons,List.length_nil]; decide)
  have oZ:Hp h1 h6 (spL p14 BkV.nil noH BkV.nil.rur BkV.nil.cer [qQp p28 nilB]):=oY.wld (i:=1) rfl
  exact qHb s (V:=BkV.nil) (rules:=[]) (want:=Bk.nil) (c28:=nilB) hx t1 oZ .nil_ (by decide) (by decide) hp (fun z hz=>by cases hz) (fun z hz=>by cases hz; exact ⟨rfl,rfl⟩) rfl (fun h' o=>⟨o.cell (i:=0) rfl,qFs h'⟩) fun h' e'=>hk h' (e1.trans e')
 | ok y =>
  rw [hp] at hR
  have hcost:=(qCm hp).1
  intro bp tl V g N h2 hN sm I o2
  refine ⟨_,_,_,_,_,_,_,_,rfl,?_⟩
  refine new6 (ws:=nilB) (vs:=[V.sg,V.ru,V.eq,V.pr,V.ce,V.co]) rfl (xGi o2) rfl rfl fun p14 h3 o3=>?_
  refine hR h3 _ (o2.ext.trans o3.ext) fun bp' tl' V' g' N' h4 hN' sm' I' o4=>?_
  refine ⟨_,_,_,_,_,_,_,_,rfl,?_⟩
  refine new6 (ws:=nilB) (vs:=[V'.sg,V'.ru,V'.eq,V'.pr,V'.ce,V'.co]) rfl (xGi o4) rfl rfl fun p28 h5 o5=>?_
  show cond true (cond true _ _) _
  rw [cond_true,cond_true]
  have oX:Hp h1 h5 ([qQp p28 [V'.sg,V'.ru,V'.eq,V'.pr,V'.ce,V'.co]]++(bkL bp' tl' V' g' y.1 []++([qQp p14 [V.sg,V.ru,V.eq,V.pr,V.ce,V.co]]++bkL bp tl V g y.1 []))):=((o2.join o3).join o4).join o5
  have b1:BkA h5 [V.sg,V.ru,V.eq,V.pr,V.ce,V.co] y.1:=qIc (o2.later (o3.ext.trans (o4.ext.trans o5.ext))) I sm hN hcost
  have b2:BkA h5 [V'.sg,V'.ru,V'.eq,V'.pr,V'.ce,V'.co] y.1:=qIc (o4.later o5.ext) I' sm' hN' hcost
  rw [qQf]
  refine ⟨_,_,_,_,_,_,rdn (oX.cell (i:=12) rfl) (by simp),?_⟩
  rw [qQf]
  refine ⟨_,_,_,_,_,_,rdn (oX.cell (i:=0) rfl) (by simp),?_⟩
  refine s.same [V.sg,V.ru,V.eq,V.pr,V.ce,V.co] [V'.sg,V'.ru,V'.eq,V'.pr,V'.ce,V'.co] y.1 y.1 h5 _ _ b1 b2 fun t h6 e6 ht2=>⟨_,rfl,?_⟩
  rw [ht2.mpr rfl,Bool.not_true]
  have oY:Hp h1 h6 (qQp p14 [V.sg,V.ru,V.eq,V.pr,V.ce,V.co]::frzR g::bufK 2 V.ru V.rur::bufK 4 V.ce V.cer::qQp p28 [V'.sg,V'.ru,V'.eq,V'.pr,V'.ce,V'.co]::bkL bp' tl' V' g' y.1 [qQp bp ([V.sg,V.ru,V.eq,V.pr,V.ce,V.co]++tl),bufK 2 V.sg (qWq (toSy y.1.sig)),bufK 2 V.eq V.eqr,bufK 2 V.pr (y.1.prec.map qAi),bufK 2 V.co V.cor,bufK 2 V.lp V.lpr,bufK 2 V.li V.lir,bufK 2 V.lm V.lmr]) :=
   (oX.later e6).permI [12,14,16,19,0,1,2,3,4,5,6,7,8,9,10,11,13,15,17,18,20,21,22,23] (by unfold bkL; simp only [List.length_cons,List.length_nil,List.length_append]; decide)
  have oZ:=oY.wld (i:=1) rfl
  have hrl:=sm.rules
  have hce:=I.ce.len
  have hcN:=sm.cert
  exact qHb s (V:=V) (rules:=y.1.rules) (want:=y.1) (c28:=[V'.sg,V'.ru,V'.eq,V'.pr,V'.ce,V'.co]) hx t1 oZ I.ru (by omega) (by omega) hp (fun z hz=>by cases hz; exact ⟨rfl,rfl⟩) (fun z hz=>by cases hz) rfl (fun h' o=>⟨o.cell (i:=0) rfl,qIc o.tail I' sm' hN' hcost⟩) fun h' e'=>hk h' (e1.trans e')
end Go.Proofs.YtkdneddcocggdaaGreatDoor.Am
namespace Go.Proofs.YtkdneddcocggdaaGreatDoor.Am
open Go Go.ChangeShapes Go.RowKit
def handed (W:World):H:=fun b=>match W.heap[b]? with
 | some (.cells l _ _)=>some (.ro l.toList)
 | _=>none
theorem xYy (W:World):Rel (handed W) W:=by
 intro b o hb
 unfold handed at hb
 split at hb
 ·rename_i l t fz hw
  obtain rfl:=Option.some.inj hb
  exact ⟨t,fz,by rw [hw]⟩
 ·cases hb
theorem xEu {W:World} {b:Nat}:handed W b=none∨∃ l,handed W b=some (.ro l):=by
 unfold handed
 split
 ·exact .inr ⟨_,rfl⟩
 ·exact .inl rfl
theorem Frame.below {W W':World} {h':H} (f:Am.Frame (handed W) W h' W'):Below W.heap.size W W' :=
 ⟨f.os,f.tape,f.output,f.size,fun b hb=>f.keep b hb xEu⟩
theorem xJh {P:Program} {f:FuncId} {args:List Value} {W:World} (hf:f<P.funcs.size) (h:CS P f args (handed W) (fun v _=>v=.bool true) (fun _ _=>False)) :
  Calls P f args.toArray W fun e w'=>e=.returned (.bool true)∧Below W.heap.size W w' :=
 xFr hf h (xYy W) (fun v h' w' hv _ fr=>⟨by rw [hv],fr.below⟩) (fun _ _ _ hc=>hc.elim)
end Go.Proofs.YtkdneddcocggdaaGreatDoor.Am
namespace Go.Proofs.YtkdneddcocggdaaGreatDoor.Am
open Go Go.ChangeShapes Go.WideShapes Go.ChangeAt Go.RowKit
variable {P:Program} {H:Type} {enc:TypeId × Value→H} {W W':World}
theorem trodAll_stays (hl:laidOutB P=true) (hb:Below W.heap.size W W'):∀ {ts:List TypeId} {vs:List Value} {ds:List (DataW H)} {ps:List MemPlace},
  ts.all (fun t=>P.readableRec t && decide (t<P.types.size))=true→DataW.TrodAll enc P W 0 (fun _=>true) true ts vs ds ps→(∀ x∈ps,x.block<W.heap.size) →
  DataW.TrodAll enc P W' 0 (fun b=>decide (b<W.heap.size)) true ts vs ds ps
 | [],vs,ds,ps,_,h,_=>by
  obtain ⟨rfl,rfl,rfl⟩:=trodAll_nil h
  exact trodAll_mk0
 | t::ts,vs,ds,ps,ht,h,hlt=>by
  obtain ⟨v,vs',d,ds',p,q,rfl,rfl,rfl,h0,h1⟩:=trodAll_cons h
  simp only [List.all_cons,Bool.and_eq_true,decide_eq_true_eq] at ht
  exact trodAll_cons_mk (Below.trod hl ht.1.1 ht.1.2 h0 hb fun x hx=>hlt x (by simp [hx]))
   (trodAll_stays hl hb (by simpa using ht.2) h1 fun x hx=>hlt x (by simp [hx]))
theorem post_true {f:Func} {s:ChangeSpec} {tb:TypeId} {args:Array Value} {ds gs:List (DataW H)} {before:List MemPlace} (hl:laidOutB P=true)
    (hts:f.params.toList.all (fun t=>P.readableRec t && decide (t<P.types.size))=true) (hres:f.resultTypes.toList=[tb]) (htb:P.underlying tb=some .bool) (hvars:s.vars=[])
    (hW:DataW.Whole enc P f.params.toList s.vars false W args.toList ds gs before) (hfn:s.fn H ds={ results:=[.lit (.bool true)],args:=ds }) (hb:Below W.heap.size W W') :
    s.post enc P f false true false false W args (.bool true) W':=by
  have hW':=hW
  obtain ⟨p,q,hA,hV,rfl,_,_⟩:=hW
  rw [hvars] at hV
  obtain ⟨rfl,rfl⟩:=trodVars_none hV
  have hn:f.resultTypes.size=1:=by rw [← Array.length_toList,hres]; rfl
  have hlt:∀ x∈p,x.block<W.heap.size:=fun x hx=>hW'.lt x (by simp [hx])
  refine ⟨ds,[],p++[],[],p,[],hW',?_,?_,?_,?_,fun h=>by cases h⟩
  · rw [hres,List.append_nil,hfn,hn]
    exact trodAll_cons_mk (shut_bool htb _) trodAll_mk0
  · rw [List.append_nil,hfn]
    exact trodAll_stays hl hb hts hA hlt
  · rw [hvars,List.append_nil,hfn]; rfl
  · exact hb.frame _
mutual
 def flat:DataW Unit→List Value
   | .lit (.int k n)=>[.int k n]
   | .lit (.bool b)=>[.bool b]
   | .agg ps=>flats ps
   | _=>[]
 def flats:List (DataW Unit)→List Value
   | []=>[]
   | d::l=>flat d++flats l
end
def layAll (P:Program) (h:Array Obj):List (String × DataW Unit)→Array Obj
 | []=>h
 | (n,d)::l=>layAll P (match P.globalNamed n with
  | some g=>h.modify g fun
   | .cells _ t frozen=>.cells (flat d).toArray t frozen
   | o=>o
  | none=>h) l
theorem own:ownKnob Tryz.prog.godebug=none:=by kernel_rfl
theorem laidOut:laidOutB Tryz.pinned.checked.prog=true:=by kernel_rfl
end Go.Proofs.YtkdneddcocggdaaGreatDoor.Am
namespace Go.Proofs.YtkdneddcocggdaaGreatDoor.Am
open Go Go.Proofs Sys Go.ChangeShapes Go.WideShapes Go.ChangeAt Go.RowKit Go.Deep Go.Lib
set_option maxRecDepth 100000
variable {P:Program} {H:Type} {enc:TypeId × Value→H} {W W':World}
end Go.Proofs.YtkdneddcocggdaaGreatDoor.Am
