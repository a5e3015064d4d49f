/-
  Packed: The laws on terms: what is read, what is shown, and one behind the other. The law: a text is read as the book that it is; what was read may be spoiled, and is read again. The laws: what is read is written and read again; what is written is read. From a function's reading to the given statement: the old memory is read only; what was handed in reads as it did. What every law's end needs: the arguments read behind the call as they did; slices of integers are rows of the handed memory; the world of the witness. Arguments that are handed in: rows of numbers, signatures. Books that are handed in.
-/
import Derived.Test.YtkdneddcocggdaaGreatDoorPkI
import Derived.Test.YtkdneddcocggdaaGreatDoorAmFnsL
import Derived.Test.YtkdneddcocggdaaGreatDoorPkK
import Derived.Test.YtkdneddcocggdaaGreatDoorPkC
import Derived.Test.YtkdneddcocggdaaGreatDoorPkB
import Derived.Carry
import Derived.ChangeSame
import Derived.Below
import Derived.Test.YtkdneddcocggdaaGreatDoorRows
import Derived.Test.YtkdneddcocggdaaGreatDoorCards
import Derived.Test.YtkdneddcocggdaaGreatDoorTie
import Derived.WalkKit
import Derived.ProofKit
import Derived.OpenShut
import Derived.ChangeSlices
import Derived.ChangeMaps5
import Derived.Deep.DeepHandedRow
import Derived.Lib.LaidTab
import Derived.Lib.LaidIn
import Derived.Test.YtkdneddcocggdaaGreatDoorPkS
import Derived.Deep.SlicePairs
import Derived.Lib.SmallJoins
import Derived.Lib.LaidU8
import Derived.Test.YtkdneddcocggdaaGreatDoorPkH
set_option linter.unusedVariables false
set_option linter.unusedSimpArgs false
set_option linter.unnecessarySimpa false
namespace Go.Proofs.YtkdneddcocggdaaGreatDoor.Am
open Go Go.Proofs Go.RowKit Go.Lib Sys Sp
set_option maxRecDepth 100000
variable {D:Orc} {h h' h0:H} {k:Kv} {kp:Kp}
theorem xUu {s:ByteArray} (h:qVr s=true):qJa (bts s)=true:=by
 unfold qJa
 have:(⟨(bts s).toArray⟩:ByteArray)=s:=qWz s
 rw [this]; exact h
theorem xXr {s:ByteArray} (h:qZl s=true):isNm (bts s)∧Sp.Clean (bts s):=by
 unfold qZl at h
 rcases (Bool.or_eq_true _ _).mp h with h | h
 ·have:=xUu h
  exact ⟨.inl (qUx this).1,qYg this⟩
 ·unfold qKy at h
  simp only [Bool.and_eq_true,decide_eq_true_eq,beq_iff_eq] at h
  obtain ⟨⟨h1,h2⟩,h3⟩:=h
  have hn:=xUu h3
  have hsz:(bts s).length=s.size:=rfl
  have hsp:bts s=bts (s.extract 0 (s.size - 1))++[35]:=by
   rw [qYr,List.drop_zero]
   have hg:=get!_eq s (s.size - 1) (by omega)
   have:s.get! (s.size - 1)=35:=UInt8.toNat_inj.mp (by have:(35:UInt8).toNat=35:=rfl; omega)
   rw [this] at hg
   have hd:(bts s).drop (s.size - 1)=[35]:=by
    rw [List.drop_eq_getElem_cons (by omega),List.drop_eq_nil_of_le (by omega)]
    rw [List.getElem?_eq_getElem (by omega)] at hg
    rw [Option.some.inj hg]
   rw [← hd,List.take_append_drop]
  rw [hsp]
  exact ⟨.inr ⟨_,(qUx hn).1,rfl⟩,qLh (qYg hn)⟩
theorem xXd:∀ (sig pre:List Sy),sigL pre sig=0→∀ c x,sig[c]?=some x→∀ y∈pre++sig.take c,bts y.1≠bts x.1
 | [],pre,_,c,x,hx=>by simp at hx
 | z::sig,pre,h,c,x,hx=>by
  unfold sigL at h
  split at h
  ·rename_i h0
   cases c with
   | zero =>
    obtain rfl:z=x:=by simpa using hx
    intro y hy
    rw [List.take_zero,List.append_nil] at hy
    unfold qUo at h0
    split at h0
    ·simp at h0
    ·split at h0
     ·simp at h0
     ·split at h0
      ·simp at h0
      ·rename_i hany
       intro e
       apply hany
       rw [List.any_eq_true]
       exact ⟨y,hy,by rw [qQw,qQw,e]; simp⟩
   | succ c =>
    intro y hy
    refine xXd sig (pre++[z]) h c x (by simpa using hx) y ?_
    simpa using hy
  ·exact absurd h (by assumption)
theorem xNc {sig:List Sy} (h:qZp sig=0):Nms (S2 sig)∧∀ x∈S2 sig,Sp.Clean x.1:=by
 have hall:=(qJi h).2
 refine ⟨⟨fun x hx=>?_,fun c x hx=>?_⟩,fun x hx=>?_⟩
 ·unfold S2 at hx
  obtain ⟨y,hy,rfl⟩:=List.mem_map.mp hx
  exact (xXr (hall y hy).1).1
 ·unfold S2 at hx
  rw [List.getElem?_map] at hx
  obtain ⟨y,hy,rfl⟩:=Option.map_eq_some_iff.mp hx
  have hl:sigL [] sig=0:=by
   unfold qZp at h
   split at h
   ·simp at h
   ·exact h
  have hown:=xXd sig [] hl c y hy
  have hcl:=(List.getElem?_eq_some_iff.mp hy).1
  have hnm:∀ j,(h:j<sig.length)→((S2 sig).map (·.1))[j]?=some (bts sig[j].1):=fun j hj=>by
   unfold S2
   rw [List.map_map,List.getElem?_map,List.getElem?_eq_getElem hj]; rfl
  unfold symI
  rw [List.findIdx?_eq_some_iff_getElem]
  refine ⟨by rw [List.length_map,qDl]; exact hcl,?_,fun j hj=>?_⟩
  ·have:=(List.getElem?_eq_some_iff.mp (hnm c hcl)).2
   rw [this]
   have:sig[c]=y:=(List.getElem?_eq_some_iff.mp hy).2
   rw [this]; simp
  ·have:=(List.getElem?_eq_some_iff.mp (hnm j (by omega))).2
   rw [this]
   have:=hown sig[j] (by
    rw [List.nil_append]
    exact List.mem_of_getElem? (i:=j) (by rw [List.getElem?_take,if_pos hj,List.getElem?_eq_getElem (by omega)]))
   simp [this]
 ·unfold S2 at hx
  obtain ⟨y,hy,rfl⟩:=List.mem_map.mp hx
  exact (xXr (hall y hy).1).2
structure SpecsT (D:Orc):Prop where
 shown:qYt D 11 Tbl
 term:qAp D 12 Tbl
 xVe:qAp D 13 Tbl
 show_:qBl D 15 Tbl
 xPi:qBl D 16 Tbl
 row:qYc D 14
 chk:qAq D 22 Tbl
variable {D:Orc} {E:Dorc} {h h' h0 g:H} {k:Kv} {kp:Kp} {L R:List Res} {B:Bk} {V:BkV} {N:Nat}
structure SpecsQ (D:Orc):Prop where
 shown:qYt D 11 Tbl
 parse:qPo D 17 Tbl
 parseR:qPo D 18 Tbl
 same:qPm D 19
theorem new6 {vs ws:List Value} (hl:ws.length=vs.length) (hv:vs.all one=true) {T:Prop} (hT:T) (h6:vs.length=6) {K:Value→H→Prop} (hK:∀ p h',Hp h h' [qQn p vs]→K (Pt p) h') :
  newW h ws (fun p h1=>ptrW p (fun ad=>T∧List.all vs one=true∧∃ h2,Am.wr h1 ad vs=some h2∧K p h2)) :=
 (Hp.nil_ h).new_ fun p h1 hp o1=>o1.st6 (i:=0) rfl hl hv hT fun h2 o2=>hK p h2 o2
variable {D:Orc} {E:Dorc} {h h' h0 g:H} {k:Kv} {kp:Kp} {L R:List Res} {B:Bk} {V:BkV} {N:Nat}
structure SpecsB (D:Orc):Prop where
 shown:qYt D 11 Tbl
 parse:qEf D 17 Tbl
 print:qBn D 20 Tbl
 same:qPm D 19
 lines:qHv D 23
theorem xCg {s:Bs} {y:Bk × Bool} (h1:s.length≤65536) (h2:s.count 10<4096) (h3:validD s=true) (h:qVp Bk.nil false 0 (qVv 10 s)=.ok y):qPb s=.ok y:=by
 unfold qPb
 rw [if_neg (by omega),if_neg (by rw [h3]; simp)]
 exact h
theorem xFl {c:List Value} (b:BkA h c B):∃ sg ru eq pr ce co,c=[sg,ru,eq,pr,ce,co]∧[sg,ru,eq,pr,ce,co].all one=true:=by
 obtain ⟨sg,ru,eq,pr,ce,co,q1,q2,q3,q4,rfl,a1,a2,a3,a4,a5,a6,a7,a8,a9,a10,a11⟩:=b.sl
 refine ⟨sg,ru,eq,pr,ce,co,rfl,?_⟩
 simp only [List.all_cons,List.all_nil,qQx a1.row.isSl,qQx a2.isSl,qQx a4.isSl,qQx a6.isSl,qQx a8.isSl,qQx a10.isSl]
 rfl
theorem xUb {a:Bs} (h:qEm B=.ok a):qZp (toSy B.sig)=0∧SgOk B.sig:=by
 unfold qEm qGg at h
 split at h
 ·cases h
 ·rename_i h0
  have hc:qZp (toSy B.sig)=0:=by simpa using h0
  obtain ⟨hl,h⟩:=qZm h
  obtain ⟨s1,h1,h⟩:=Sp.qQe.mp h
  obtain ⟨_,hn⟩:=qJi hc
  have hms:=(xNc hc).1
  rw [qWg] at hms
  have hin:∀ x∈B.sig,(strB x.1,x.2)∈toSy B.sig:=fun x hx=>List.mem_map.mpr ⟨x,hx,rfl⟩
  have hno:∀ {l:List (Bs × Int)} {s:Bs},allM symW l=.ok s→∀ x∈l,¬ x.1.getLast?=some 35:=by
   intro l
   induction l with
   | nil=>intro s h x hx; cases hx
   | cons y l ih =>
    intro s h x hx
    obtain ⟨a,ha,h⟩:=Sp.qQe.mp h
    obtain ⟨b,hb,h⟩:=Sp.qQe.mp h
    rcases List.mem_cons.mp hx with rfl | hx
    ·obtain ⟨hm,_⟩:=qZm ha
     simpa using hm
    ·exact ih hb x hx
  refine ⟨hc,fun x hx=>?_,hms.own,fun x hx=>(hn _ (hin x hx)).2,of_decide_eq_true hl⟩
  rw [qMd,(hn _ (hin x hx)).1,qHd,qQv]
  have:=hno h1 x hx
  simpa using this
theorem qKr {α:Type} {f:α→Except Int Bs} (h:∀ x,NZ (f x)):∀ l,NZ (allM f l)
 | []=>qVt _
 | x::l=>qQj (h x) fun _=>qQj (qKr h l) fun _=>qVt _
theorem xUj {α:Type} {f:α→Except Int Bs} (h:∀ x,NZ (f x)):∀ l,NZ (rowM f l)
 | []=>qVt _
 | x::l=>qQj (h x) fun _=>qQj (xUj h l) fun _=>qVt _
theorem xUm {n:Int}:NZ (numM n):=qQj (qVl (by decide)) fun _=>qVt _
theorem qTg {sig:Sg} {c:Int} {m:Bool}:NZ (qIg sig c m):=qQj (qVl (by decide)) fun _=>qVt _
theorem qTd {sig:Sg} {u:List Int}:NZ (qYu sig u):=fun e h=>by
 unfold qYu at h
 split at h
 ·rename_i h0
  cases h; exact h0
 ·cases h
theorem xUk {sig:Sg} {f:Bs} {m:Bool} (x:Int × Int):NZ (qEh sig f m x):=qQj qTg fun _=>qQj qTg fun _=>qVt _
theorem xXn {sig:Sg} {f m:Bs} {l:List Ru}:NZ (qUw sig f m l):=qQj (qKr (fun _=>qQj qTd fun _=>qQj qTd fun _=>qVt _) l) fun _=>qQj (qVl (by decide)) fun _=>qVt _
theorem xHm (m:Mo):NZ (qCd m):=qQj (qQj (qVl (by decide)) fun _=>qVt _) fun _=>qQj (xUj (fun _=>xUm) _) fun _=>qVt _
theorem xMz {sig:Sg} (i:It):NZ (Sp.intW sig i):=qQj qTg fun _=>qQj (qKr xHm _) fun _=>qVt _
theorem xHl {sig:Sg} (n:Nd):NZ (qGm sig n):=qQj (qVl (by decide)) fun _=>qQj xUm fun _=>qQj (qKr xUk _) fun _=>qQj (qKr xMz _) fun _=>qVt _
theorem xHk {w:Bs}:NZ (qIb w):=fun e h=>by
 unfold qIb at h
 split at h
 ·cases h
 ·split at h
  ·cases h
  ·split at h
   ·cases h
   ·cases h; decide
theorem xNa {sig:Sg} (c:Cm):NZ (cmdW sig c):=qQj xHk fun _=>qQj (qVl (by decide)) fun _=>qQj (xUj (fun _=>qTd) _) fun _=>qVt _
theorem xMy (x:Bs × Int):NZ (symW x):=qQj (qVl (by decide)) fun _=>qQj xUm fun _=>qVt _
theorem xUa {e:Int} (h:qEm B=.error e):e≠0:=by
 unfold qEm qGg at h
 split at h
 ·rename_i h0
  cases h; exact h0
 ·exact (qQj (qVl (by decide)) fun _=>qQj (qKr xMy _) fun _=>qQj xXn fun _=>qQj xXn fun _=>qQj (qKr xUk _) fun _=>qQj (qKr xHl _) fun _=>qQj (qKr xNa _) fun _=>qQj (qVl (by decide)) fun _=>qVt _) e h
theorem xCp (c:Cl8 D) (s:SpecsB D) {cs:List Value} {B:Bk} (hb:BkA h cs B) (ht:Tbl h) (hk:∀ h',Ext h h'→k (.bool true) h'):D 8 [.agg cs.toArray] h k kp:=by
 obtain ⟨sg,ru,eq,pr,ce,co,rfl,hone⟩:=xFl hb
 refine c _ _ _ _ ?_
 unfold F8
 rw [show (Value.agg [sg,ru,eq,pr,ce,co].toArray)=.agg #[sg,ru,eq,pr,ce,co] from rfl,qVj]
 refine (Hp.nil_ h).new_ fun p1 h1 hp1 o1=>?_
 have o1:Hp h h1 [qQn p1 [sg,ru,eq,pr,ce,co]]:=o1
 refine s.shown h1 _ _ (qQu _ _ o1.ext ht) fun h2 e2=>⟨_,rfl,?_⟩
 show cond false _ _
 have o2:=o1.later e2
 rw [cond_false,qQf]
 refine ⟨_,_,_,_,_,_,rdn (o2.cell (i:=0) rfl) (by simp),?_⟩
 refine s.print [sg,ru,eq,pr,ce,co] B h2 _ _ (hb.ext o2.ext) (qQu _ _ o2.ext ht) ?_
 cases hq:qEm B with
 | error e =>
  intro h3 e3
  refine ⟨_,_,rfl,?_⟩
  rw [qZi]
  refine ⟨fun _=>?_,fun h0=>absurd h0 (xUa hq)⟩
  rw [cond_true,beq_self_eq_true]
  exact hk h3 (o2.ext.trans e3)
 | ok a =>
  intro h3 e3
  refine ⟨_,_,rfl,?_⟩
  show cond false _ _
  rw [cond_false]
  obtain ⟨hc,hsg⟩:=xUb hq
  unfold qEm at hq
  rw [hc] at hq
  obtain ⟨⟨p,q1⟩,q2,q3,q4⟩:=xVw hsg hq
  have hp2:=xCg q3 q4 q2 q1
  have e03:=o2.ext.trans e3
  refine s.parse (strB a) h3 _ _ (by rw [qXm]; omega) (qQu _ _ e03 ht) ?_
  rw [qQv,hp2]
  intro c2 h5 e5 hb2
  obtain ⟨sg',ru',eq',pr',ce',co',rfl,hone2⟩:=xFl hb2
  refine ⟨_,_,_,_,_,_,_,_,rfl,?_⟩
  refine new6 (ws:=nilB) (vs:=[sg',ru',eq',pr',ce',co']) rfl hone2 rfl rfl fun p27 h6 o6=>?_
  rw [cond_true]
  show cond true (cond true _ _) _
  rw [cond_true,cond_true,qQf]
  refine ⟨_,_,_,_,_,_,rdn (o6.cell (i:=0) rfl) (by simp),?_⟩
  rw [qQf]
  have e26:=e3.trans (e5.trans o6.ext)
  refine ⟨_,_,_,_,_,_,rdn ((o2.later e26).cell (i:=0) rfl) (by simp),?_⟩
  refine s.same [sg',ru',eq',pr',ce',co'] [sg,ru,eq,pr,ce,co] B B h6 _ _ (hb2.ext o6.ext) (hb.ext (o2.ext.trans e26)) fun t h7 e7 ht2=>⟨_,rfl,?_⟩
  rw [ht2.mpr rfl,cond_true,qXm,decide_eq_true (by omega),cond_true]
  refine s.lines (strB a) h7 _ _ (by rw [qXm]; omega) ⟨_,rfl,?_⟩
  rw [qQv,decide_eq_true (by omega)]
  exact hk h7 (o2.ext.trans (e26.trans e7))
end Go.Proofs.YtkdneddcocggdaaGreatDoor.Am
namespace Go.Proofs.YtkdneddcocggdaaGreatDoor.Am
open Go Go.ChangeShapes Go.RowKit
def handed (W:World):H:=fun b=>match W.heap[b]? with
 | some (.cells l _ _)=>some (.ro l.toList)
 | _=>none
theorem xWx (W:World):Rel (handed W) W:=by
 intro b o hb
 unfold handed at hb
 split at hb
 ·rename_i l t fz hw
  obtain rfl:=Option.some.inj hb
  exact ⟨t,fz,by rw [hw]⟩
 ·cases hb
theorem xAv {W:World} {b:Nat}:handed W b=none∨∃ l,handed W b=some (.ro l):=by
 unfold handed
 split
 ·exact .inr ⟨_,rfl⟩
 ·exact .inl rfl
theorem Frame.below {W W':World} {h':H} (f:Am.Frame (handed W) W h' W'):Below W.heap.size W W' :=
 ⟨f.os,f.tape,f.output,f.size,fun b hb=>f.keep b hb xAv⟩
theorem xYj {P:Program} {f:FuncId} {args:List Value} {W:World} (hf:f<P.funcs.size) (h:CS P f args (handed W) (fun v _=>v=.bool true) (fun _ _=>False)) :
  Calls P f args.toArray W fun e w'=>e=.returned (.bool true)∧Below W.heap.size W w' :=
 xDw hf h (xWx W) (fun v h' w' hv _ fr=>⟨by rw [hv],fr.below⟩) (fun _ _ _ hc=>hc.elim)
end Go.Proofs.YtkdneddcocggdaaGreatDoor.Am
namespace Go.Proofs.YtkdneddcocggdaaGreatDoor.Am
open Go Go.ChangeShapes Go.WideShapes Go.ChangeAt Go.RowKit
variable {P:Program} {H:Type} {enc:TypeId × Value→H} {W W':World}
theorem trodAll_stays (hl:laidOutB P=true) (hb:Below W.heap.size W W'):∀ {ts:List TypeId} {vs:List Value} {ds:List (DataW H)} {ps:List MemPlace},
  ts.all (fun t=>P.readableRec t && decide (t<P.types.size))=true→DataW.TrodAll enc P W 0 (fun _=>true) true ts vs ds ps→(∀ x∈ps,x.block<W.heap.size) →
  DataW.TrodAll enc P W' 0 (fun b=>decide (b<W.heap.size)) true ts vs ds ps
 | [],vs,ds,ps,_,h,_=>by
  obtain ⟨rfl,rfl,rfl⟩:=trodAll_nil h
  exact trodAll_mk0
 | t::ts,vs,ds,ps,ht,h,hlt=>by
  obtain ⟨v,vs',d,ds',p,q,rfl,rfl,rfl,h0,h1⟩:=trodAll_cons h
  simp only [List.all_cons,Bool.and_eq_true,decide_eq_true_eq] at ht
  exact trodAll_cons_mk (Below.trod hl ht.1.1 ht.1.2 h0 hb fun x hx=>hlt x (by simp [hx]))
   (trodAll_stays hl hb (by simpa using ht.2) h1 fun x hx=>hlt x (by simp [hx]))
theorem post_true {f:Func} {s:ChangeSpec} {tb:TypeId} {args:Array Value} {ds gs:List (DataW H)} {before:List MemPlace} (hl:laidOutB P=true)
  (hts:f.params.toList.all (fun t=>P.readableRec t && decide (t<P.types.size))=true) (hres:f.resultTypes.toList=[tb]) (htb:P.underlying tb=some .bool) (hvars:s.vars=[])
  (hW:DataW.Whole enc P f.params.toList s.vars false W args.toList ds gs before) (hfn:s.fn H ds={ results:=[.lit (.bool true)],args:=ds }) (hb:Below W.heap.size W W') :
  s.post enc P f false true false false W args (.bool true) W':=by
 have hW':=hW
 obtain ⟨p,q,hA,hV,rfl,_,_⟩:=hW
 rw [hvars] at hV
 obtain ⟨rfl,rfl⟩:=trodVars_none hV
 have hn:f.resultTypes.size=1:=by rw [← Array.length_toList,hres]; rfl
 have hlt:∀ x∈p,x.block<W.heap.size:=fun x hx=>hW'.lt x (by simp [hx])
 refine ⟨ds,[],p++[],[],p,[],hW',?_,?_,?_,?_,fun h=>by cases h⟩
 ·rw [hres,List.append_nil,hfn,hn]
  exact trodAll_cons_mk (shut_bool htb _) trodAll_mk0
 ·rw [List.append_nil,hfn]
  exact trodAll_stays hl hb hts hA hlt
 ·rw [hvars,List.append_nil,hfn]; rfl
 ·exact hb.frame _
theorem row_handed {a:Addr} {len cap:Nat} {vs:List Value} (hlen:vs.length=cap) (hl:len≤cap) (hc:∀ i,i<cap→W.cell? (a.add i)=vs[i]?) :
    Row (handed W) (.slice (some a) len cap) (vs.take len):=by
  have hl2:(vs.take len).length=len:=by simp; omega
  by_cases h0:cap=0
  · subst h0
    have:len=0:=by omega
    subst this
    exact Row.empty
  refine ⟨some a,cap,by rw [hl2],by omega,.inr ⟨a,rfl,?_⟩⟩
  have h1:=hc 0 (by omega)
  have hsome:vs[0]?=some (vs[0]'(by omega)):=List.getElem?_eq_getElem _
  rw [hsome,show a.add 0=a by simp [Addr.add]] at h1
  unfold World.cell? at h1
  split at h1
  · rename_i c t fz hb
    split at h1
    · cases h1
    · rename_i hs
      have hsp:a.spot=none:=by simpa using hs
      have hat:∀ i,i<cap→c[a.off+i]?=vs[i]?:=fun i hi=>by
        have:=hc i hi
        unfold World.cell? at this
        have e:(a.add i).block=a.block:=by unfold Addr.add; split <;> rfl
        have e2:(a.add i).off=a.off+i:=by unfold Addr.add; split <;> simp_all
        have e3:(a.add i).spot=none:=by unfold Addr.add; split <;> simp_all
        rw [e,hb] at this
        simp only [e3,Option.isSome_none,Bool.false_eq_true,if_false,e2] at this
        exact this
      refine ⟨hsp,c.toList,?_,?_,?_⟩
      · simp only [handed,hb,qZk]
      · have:=hat (cap - 1) (by omega)
        rw [List.getElem?_eq_getElem (by omega)] at this
        have:=(Array.getElem?_eq_some_iff.mp this).1
        rw [Array.length_toList]; omega
      · rw [hl2]
        apply List.ext_getElem?
        intro i
        rw [List.getElem?_take,List.getElem?_take]
        split
        · rename_i hi
          rw [List.getElem?_drop,Array.getElem?_toList,hat i (by omega)]
        · rfl
  · cases h1
mutual
 def flat:DataW Unit→List Value
   | .lit (.int k n)=>[.int k n]
   | .lit (.bool b)=>[.bool b]
   | .agg ps=>flats ps
   | _=>[]
 def flats:List (DataW Unit)→List Value
   | []=>[]
   | d::l=>flat d++flats l
end
def layAll (P:Program) (h:Array Obj):List (String × DataW Unit)→Array Obj
 | []=>h
 | (n,d)::l=>layAll P (match P.globalNamed n with
  | some g=>h.modify g fun
   | .cells _ t frozen=>.cells (flat d).toArray t frozen
   | o=>o
  | none=>h) l
theorem own:ownKnob Tryz.prog.godebug=none:=by kernel_rfl
theorem laidOut:laidOutB Tryz.pinned.checked.prog=true:=by kernel_rfl
end Go.Proofs.YtkdneddcocggdaaGreatDoor.Am
namespace Go.Proofs.YtkdneddcocggdaaGreatDoor.Am
open Go Go.Proofs Sys Go.ChangeShapes Go.WideShapes Go.ChangeAt Go.RowKit Go.Deep Go.Lib
set_option maxRecDepth 100000
variable {P:Program} {H:Type} {enc:TypeId × Value→H} {W W':World}
theorem qEc:∀ d:DataW H,1≤Rows.uptoBulk d:=fun d=>by
  cases d <;> (first | (rename_i l; cases l <;> simp [Rows.uptoBulk] <;> omega) | (simp [Rows.uptoBulk]; try omega))
theorem qJj:∀ l:List (DataW H),l.length≤Rows.uptoBulkAll l
  | []=>by simp [Rows.uptoBulkAll]
  | x::r=>by have:=qEc x; have:=qJj r; simp only [Rows.uptoBulkAll,List.length_cons]; omega
theorem qMy:∀ {l:List (DataW H)} {d:DataW H},d∈l→Rows.uptoBulk d≤Rows.uptoBulkAll l
  | [],d,h=>by cases h
  | x::r,d,h=>by
    simp only [Rows.uptoBulkAll]
    rcases List.mem_cons.mp h with rfl | h
    · omega
    · have:=qMy h; omega
theorem qLe (V0 V1:Nat→Value):∀ n:Nat,((List.range n).map fun i=>[V0 i,V1 i]).flatten=(List.range (n*2)).map fun j=>if j % 2=0 then V0 (j / 2) else V1 (j / 2)
  | 0=>rfl
  | n+1=>by
    rw [List.range_succ,List.map_append,List.flatten_append,qLe V0 V1 n,show (n+1)*2=n*2+1+1 by omega,List.range_succ,List.range_succ]
    simp only [List.map_append,List.map_cons,List.map_nil,List.flatten_cons,List.flatten_nil,List.append_nil,List.append_assoc]
    rw [if_pos (by omega),if_neg (by omega)]
    have e1:n*2 / 2=n:=by omega
    have e2:(n*2+1) / 2=n:=by omega
    rw [e1,e2]; rfl
theorem qSv {a:Addr} {len cap:Nat} {V0 V1:Nat→Value} (hl:len≤cap) (hc:∀ i,i<cap→W.cell? (a.add (i*2))=some (V0 i)∧W.cell? (a.add (i*2+1))=some (V1 i)) :
    RowK 2 (handed W) (.slice (some a) len cap) ((List.range len).map fun i=>[V0 i,V1 i]):=by
  have hr:=row_handed (W:=W) (a:=a) (len:=len*2) (cap:=cap*2) (vs:=(List.range (cap*2)).map fun j=>if j % 2=0 then V0 (j / 2) else V1 (j / 2)) (by simp) (by omega) fun j hj=>by
    rw [List.getElem?_map,List.getElem?_range hj,Option.map_some]
    obtain ⟨h1,h2⟩:=hc (j / 2) (by omega)
    by_cases hm:j % 2=0
    · rw [if_pos hm,← h1]; congr 2; omega
    · rw [if_neg hm,← h2]; congr 2; omega
  have ht:((List.range (cap*2)).map fun j=>if j % 2=0 then V0 (j / 2) else V1 (j / 2)).take (len*2)=((List.range len).map fun i=>[V0 i,V1 i]).flatten:=by
    rw [qLe,← List.map_take,List.take_range,Nat.min_eq_left (by omega)]
  rw [ht] at hr
  obtain ⟨base,cap',he,hc',hb⟩:=hr
  simp only [Value.slice.injEq] at he
  obtain ⟨rfl,he2,rfl⟩:=he
  refine ⟨some a,cap,by simp,by simpa using hl,fun v hv=>?_,?_⟩
  · obtain ⟨i,_,rfl⟩:=List.mem_map.mp hv; rfl
  · rcases hb with hb | ⟨a',h1,h2,l,h3,h4,h5⟩
    · exact .inl (by omega)
    · refine .inr ⟨a',h1,h2,l,h3,h4,?_⟩
      rw [← he2] at h5
      simpa using h5
theorem xPb {n:Nat} {v:Value} {y:DataW H × List MemPlace} (h:DataW.trod enc Tryz.prog W 0 (fun _=>true) true n 22 [v]=some y) (hb:Rows.uptoBulk y.1≤1048576):∃ sig,Sr (handed W) v sig∧sig.length≤1048576:=by
  rcases open_slice_pairs Tryz.underlying22 Tryz.underlying94 (by kernel_rfl) rfl rfl (by kernel_rfl) (by kernel_rfl) h with ⟨hcs,hx⟩ | ⟨a,len,cap,m,n',V0,V1,D0,D1,P0,P1,hcs,_,hlc,_,hm,hx,hall⟩
  · simp only [List.cons.injEq,and_true] at hcs
    subst hcs
    exact ⟨[],⟨RowK.nil_,by simp,by simp⟩,by simp⟩
  · simp only [List.cons.injEq,and_true] at hcs
    subst hcs
    have hm:m=cap:=hm
    subst hm
    have hx1:y.1=.slice ((List.range len).map fun i=>.agg [D0 i,D1 i]) ((List.range (m - len)).map fun j=>.agg [D0 (len+j),D1 (len+j)]):=by rw [hx]
    rw [hx1] at hb
    simp only [Rows.uptoBulk] at hb
    have hlen:len≤1048576:=by
      have h1:=qJj ((List.range len).map fun i=>(.agg [D0 i,D1 i]:DataW H))
      simp only [List.length_map,List.length_range] at h1
      omega
    have hstr:∀ i,i<m→∃ x:Sy,V0 i=.string x.1∧V1 i=.int .i64 x.2∧D0 i=.lit (.string x.1.data.toList):=fun i hi=>by
      obtain ⟨_,_,h0,h1⟩:=hall i hi
      obtain ⟨s,hs,hs2,_⟩:=DataW.trod_string Tryz.underlying9 h0
      obtain ⟨z,hz,_,_⟩:=DataW.trod_int Tryz.underlying3 h1
      refine ⟨(s,z),by simpa using hs,by simpa using hz,?_⟩
      have:=congrArg Prod.fst hs2
      exact this
    obtain ⟨X,hX⟩:=Go.Deep.choose_lt (α:=Sy) (p:=fun i x=>V0 i=.string x.1∧V1 i=.int .i64 x.2∧D0 i=.lit (.string x.1.data.toList)) hstr
    have hr:=qSv (W:=W) (a:=a) (len:=len) (cap:=m) (V0:=V0) (V1:=V1) hlc fun i hi=>⟨(hall i hi).1,(hall i hi).2.1⟩
    have hrow:((List.range len).map fun i=>[V0 i,V1 i])=qVy ((List.range len).map X):=by
      unfold qVy
      rw [List.map_map]
      apply List.map_congr_left
      intro i hi
      rw [List.mem_range] at hi
      obtain ⟨h1,h2,_⟩:=hX i (by omega)
      rw [h1,h2]; rfl
    rw [hrow] at hr
    refine ⟨_,⟨hr,by simp; omega,fun x hx=>?_⟩,by simp; omega⟩
    obtain ⟨i,hi,rfl⟩:=List.mem_map.mp hx
    rw [List.mem_range] at hi
    obtain ⟨_,_,h3⟩:=hX i (by omega)
    have h4:=qMy (l:=(List.range len).map fun i=>(.agg [D0 i,D1 i]:DataW H)) (List.mem_map.mpr ⟨i,List.mem_range.mpr hi,rfl⟩)
    rw [h3] at h4
    have hsz:((X i).1.data.toList).length=(X i).1.size:=rfl
    simp only [Rows.uptoBulk,Rows.uptoBulkAll,hsz] at h4
    omega
end Go.Proofs.YtkdneddcocggdaaGreatDoor.Am
namespace Go.Proofs.YtkdneddcocggdaaGreatDoor.Am
open Go Go.Proofs Go.ChangeShapes Go.WideShapes Go.ChangeAt Go.RowKit Go.Deep Go.Lib Sys Sp
set_option maxRecDepth 100000
variable {P:Program} {H:Type} {enc:TypeId × Value→H} {W W':World}
theorem flat_get {α:Type} {sz:Nat} (h0:0<sz):∀ {vs:List (List α)} (k:Nat),(∀ v∈vs,v.length=sz)→vs.flatten[k]?=(vs[k / sz]?).bind (·[k % sz]?)
 | [],k,_=>by simp
 | x::r,k,h=>by
  have hx:=h x (.head _)
  rw [List.flatten_cons]
  by_cases hk:k<sz
  ·rw [List.getElem?_append_left (by omega),Nat.div_eq_of_lt hk,Nat.mod_eq_of_lt hk]; rfl
  ·obtain ⟨m,rfl⟩:∃ m,k=m+sz:=⟨k - sz,by omega⟩
   rw [List.getElem?_append_right (by omega),hx,Nat.add_sub_cancel,Nat.add_div_right m h0,Nat.add_mod_right,flat_get h0 m fun v hv=>h v (.tail _ hv)]
   rfl
theorem flat_takeB {α:Type} {sz:Nat}:∀ {vs:List (List α)} (n:Nat),(∀ v∈vs,v.length=sz)→vs.flatten.take (n*sz)=(vs.take n).flatten
 | [],n,_=>by simp
 | x::r,0,h=>by simp
 | x::r,n+1,h=>by
  have hx:=h x (.head _)
  rw [List.flatten_cons,List.take_succ_cons,List.flatten_cons,Nat.succ_mul,List.take_append,hx]
  rw [List.take_of_length_le (by omega),Nat.add_sub_cancel,flat_takeB n fun v hv=>h v (.tail _ hv)]
theorem rowK_cells {sz:Nat} (h0:0<sz) {a:Addr} {len cap:Nat} {C:Nat→List Value} (hl:len≤cap) (hc:∀ i,i<cap→(C i).length=sz∧∀ j,j<sz→W.cell? ((a.add (i*sz)).add j)=(C i)[j]?) :
  RowK sz (handed W) (.slice (some a) len cap) ((List.range len).map C):=by
 have hall:∀ v∈(List.range cap).map C,v.length=sz:=fun v hv=>by
  obtain ⟨i,hi,rfl⟩:=List.mem_map.mp hv
  exact (hc i (List.mem_range.mp hi)).1
 have hflen:∀ l:List (List Value),(∀ v∈l,v.length=sz)→l.flatten.length=l.length*sz:=fun l=>by
  induction l with
  | nil=>intro _; simp
  | cons x r ih=>intro h; rw [List.flatten_cons,List.length_append,h x (.head _),ih fun v hv=>h v (.tail _ hv),List.length_cons,Nat.succ_mul]; omega
 have hr:=row_handed (W:=W) (a:=a) (len:=len*sz) (cap:=cap*sz) (vs:=((List.range cap).map C).flatten) (by rw [hflen _ hall]; simp) (Nat.mul_le_mul_right _ hl) fun k hk=>by
  rw [flat_get h0 k hall]
  have hd:k / sz<cap:=(Nat.div_lt_iff_lt_mul h0).mpr hk
  have hm:k % sz<sz:=Nat.mod_lt _ h0
  rw [List.getElem?_map,List.getElem?_range hd,Option.map_some]
  obtain ⟨_,h2⟩:=hc (k / sz) hd
  rw [Option.bind_some,← h2 (k % sz) hm,add_add]
  congr 2
  rw [Nat.mul_comm,Nat.div_add_mod]
 have ht:((List.range cap).map C).flatten.take (len*sz)=((List.range len).map C).flatten:=by
  rw [flat_takeB len hall,← List.map_take,List.take_range,Nat.min_eq_left hl]
 rw [ht] at hr
 obtain ⟨base,cap',he,hc',hb⟩:=hr
 simp only [Value.slice.injEq] at he
 obtain ⟨rfl,he2,rfl⟩:=he
 refine ⟨some a,cap,by simp,by simpa using hl,fun v hv=>?_,?_⟩
 ·obtain ⟨i,hi,rfl⟩:=List.mem_map.mp hv
  exact (hc i (by have:=List.mem_range.mp hi; omega)).1
 ·rcases hb with hb | ⟨a',h1,h2,l,h3,h4,h5⟩
  ·left
   rcases Nat.mul_eq_zero.mp hb with h | h
   ·exact h
   ·omega
  ·refine .inr ⟨a',h1,h2,l,h3,h4,?_⟩
   rw [← he2] at h5
   simpa using h5
theorem cost_le {α:Type} {c:α→Nat} {K:Nat} {X:Nat→α} {D:Nat→DataW H}:∀ {l:List Nat},(∀ i∈l,c (X i)≤K*Rows.uptoBulk (D i))→cst c (l.map X)≤K*Rows.uptoBulkAll (l.map D)
 | [],_=>by simp [cst,Rows.uptoBulkAll]
 | i::l,h=>by
  have h1:=h i (.head _)
  have h2:=cost_le (l:=l) fun j hj=>h j (.tail _ hj)
  show c (X i)+cst c (l.map X)≤K*(Rows.uptoBulk (D i)+Rows.uptoBulkAll (l.map D))
  rw [Nat.mul_add]
  omega
theorem slice_handed {α:Type} [Inhabited α] {t e:TypeId} {sz K:Nat} {q:List Value→α→Prop} {c:α→Nat} (ht:P.underlying t=some (.slice e)) (hc:P.cellsOf e=sz) (h0:0<sz) {n:Nat} {v:Value} {y:DataW H × List MemPlace}
  (h:DataW.trod enc P W 0 (fun _=>true) true n t [v]=some y) (hb:Rows.uptoBulk y.1≤1048576) (he:∀ n' cs' y',DataW.trod enc P W 0 (fun _=>true) true n' e cs'=some y'→Rows.uptoBulk y'.1≤1048576→cs'.length=sz→∃ x,q cs' x∧c x≤K*Rows.uptoBulk y'.1) :
  ∃ rows xs,RowK sz (handed W) v rows∧Rel2 q rows xs∧xs.length≤Rows.uptoBulk y.1∧cst c xs≤K*Rows.uptoBulk y.1:=by
 rcases open_slice ht h with ⟨hcs,hx⟩ | ⟨a,len,cap,m,n',D,Pl,hcs,_,hlc,_,hm,hx,hall⟩
 ·simp only [List.cons.injEq,and_true] at hcs
  subst hcs
  exact ⟨[],[],RowK.nil_,.nil_,Nat.zero_le _,by simp [cst]⟩
 ·simp only [List.cons.injEq,and_true] at hcs
  subst hcs
  have hm:m=cap:=hm
  subst hm
  have hx1:y.1=.slice ((List.range len).map D) ((List.range (m - len)).map fun j=>D (len+j)):=by rw [hx]
  have hbe:Rows.uptoBulk y.1=Rows.uptoBulkAll ((List.range len).map D)+Rows.uptoBulkAll ((List.range (m - len)).map fun j=>D (len+j))+1:=by rw [hx1]; simp only [Rows.uptoBulk]
  have h1:=qJj ((List.range len).map D)
  simp only [List.length_map,List.length_range] at h1
  rw [hc] at hall
  obtain ⟨C,hC⟩:=choose_lt (α:=List Value) (p:=fun i cs'=>W.cells? 0 (a.add (i*sz)) sz=some cs'∧DataW.trod enc P W 0 (fun _=>true) true n' e cs'=some (D i,Pl i)) hall
  have hX:∀ i,i<len→∃ x,q (C i) x∧c x≤K*Rows.uptoBulk (D i):=fun i hi=>by
   obtain ⟨c1,c2⟩:=hC i (by omega)
   have h4:=qMy (l:=(List.range len).map D) (List.mem_map.mpr ⟨i,List.mem_range.mpr hi,rfl⟩)
   exact he n' (C i) _ c2 (by dsimp only; omega) (World.cells?_some c1).2.1
  obtain ⟨X,hX⟩:=choose_lt hX
  refine ⟨(List.range len).map C,(List.range len).map X,rowK_cells h0 hlc fun i hi=>?_,⟨by simp,fun j r x hr hx=>?_⟩,by simp; omega,?_⟩
  ·obtain ⟨c1,_⟩:=hC i hi
   obtain ⟨_,c3,c4⟩:=World.cells?_some c1
   exact ⟨c3,c4⟩
  ·rw [List.getElem?_map,Option.map_eq_some_iff] at hr hx
   obtain ⟨i,hi,rfl⟩:=hr
   obtain ⟨i',hi',rfl⟩:=hx
   rw [hi] at hi'
   obtain rfl:=Option.some.inj hi'
   have:=(List.getElem?_eq_some_iff.mp hi)
   obtain ⟨hj,he⟩:=this
   rw [List.length_range] at hj
   rw [List.getElem_range] at he
   exact (hX i (by omega)).1
  ·have:=cost_le (c:=c) (K:=K) (X:=X) (D:=D) (l:=List.range len) fun i hi=>(hX i (List.mem_range.mp hi)).2
   refine Nat.le_trans this (Nat.mul_le_mul_left _ (by omega))
theorem struct_cells {t:TypeId} {fs:Array Field} {n:Nat} {cs:List Value} {y:DataW H × List MemPlace} (hs:P.underlying t=some (.struct fs)) (hone:oneCellFields P fs=true) (hC:P.cellsOf t=fs.size)
  (h:DataW.trod enc P W 0 (fun _=>true) true n t cs=some y):∃ (xs:List (DataW H × List MemPlace)) (m:Nat),y.1=.agg (xs.map (·.1))∧cs.length=fs.size∧xs.length=fs.size ∧
   ∀ (i:Nat) (f:Field) (v:Value),fs[i]?=some f→cs[i]?=some v→∃ x,xs[i]?=some x∧DataW.trod enc P W 0 (fun _=>true) true m f.type [v]=some x:=by
 obtain ⟨xs,m,_,rfl,hl,hxl,hf⟩:=DataW.trod_struct hs h
 refine ⟨xs,m,rfl,by rw [hl,hC],hxl,fun i f v hi hv=>?_⟩
 obtain ⟨ho,hc⟩:=hone_of hone i f hi
 have h1:=hf i f hi
 have hil:=(List.getElem?_eq_some_iff.mp hv).1
 have hd:(cs.drop i).take 1=[v]:=by
  rw [List.drop_eq_getElem_cons hil,List.take_succ_cons,List.take_zero]
  rw [List.getElem?_eq_getElem hil] at hv
  rw [Option.some.inj hv]
 rw [ho,hc,hd] at h1
 have hix:i<xs.length:=by
  rw [hxl]
  have:=(Array.getElem?_eq_some_iff.mp hi).1
  exact this
 rw [List.getElem?_eq_getElem hix] at h1
 exact ⟨xs[i],List.getElem?_eq_getElem hix,h1⟩
theorem len2 {α:Type} {l:List α} (h:l.length=2):∃ a b,l=[a,b]:=by
 match l,h with
 | [a,b],_=>exact ⟨a,b,rfl⟩
theorem len4 {α:Type} {l:List α} (h:l.length=4):∃ a b c d,l=[a,b,c,d]:=by
 match l,h with
 | [a,b,c,d],_=>exact ⟨a,b,c,d,rfl⟩
theorem len6 {α:Type} {l:List α} (h:l.length=6):∃ a b c d e f,l=[a,b,c,d,e,f]:=by
 match l,h with
 | [a,b,c,d,e,f],_=>exact ⟨a,b,c,d,e,f,rfl⟩
theorem struct2_ {t:TypeId} {f0 f1:Field} {n:Nat} {cs:List Value} {y:DataW H × List MemPlace} (hs:P.underlying t=some (.struct #[f0,f1])) (hone:oneCellFields P #[f0,f1]=true) (hC:P.cellsOf t=2)
  (h:DataW.trod enc P W 0 (fun _=>true) true n t cs=some y):∃ v0 v1 x0 x1 m,cs=[v0,v1]∧y.1=.agg [x0.1,x1.1]∧DataW.trod enc P W 0 (fun _=>true) true m f0.type [v0]=some x0∧DataW.trod enc P W 0 (fun _=>true) true m f1.type [v1]=some x1:=by
 obtain ⟨xs,m,e,hl,hxl,hf⟩:=struct_cells hs hone hC h
 obtain ⟨v0,v1,rfl⟩:=len2 hl
 obtain ⟨x0,x1,rfl⟩:=len2 hxl
 obtain ⟨z0,g0,k0⟩:=hf 0 f0 v0 rfl rfl
 obtain ⟨z1,g1,k1⟩:=hf 1 f1 v1 rfl rfl
 obtain rfl:=Option.some.inj g0
 obtain rfl:=Option.some.inj g1
 exact ⟨v0,v1,x0,x1,m,rfl,e,k0,k1⟩
theorem struct4_ {t:TypeId} {f0 f1 f2 f3:Field} {n:Nat} {cs:List Value} {y:DataW H × List MemPlace} (hs:P.underlying t=some (.struct #[f0,f1,f2,f3])) (hone:oneCellFields P #[f0,f1,f2,f3]=true) (hC:P.cellsOf t=4)
  (h:DataW.trod enc P W 0 (fun _=>true) true n t cs=some y):∃ v0 v1 v2 v3 x0 x1 x2 x3 m,cs=[v0,v1,v2,v3]∧y.1=.agg [x0.1,x1.1,x2.1,x3.1]∧DataW.trod enc P W 0 (fun _=>true) true m f0.type [v0]=some x0∧DataW.trod enc P W 0 (fun _=>true) true m f1.type [v1]=some x1 ∧
   DataW.trod enc P W 0 (fun _=>true) true m f2.type [v2]=some x2∧DataW.trod enc P W 0 (fun _=>true) true m f3.type [v3]=some x3:=by
 obtain ⟨xs,m,e,hl,hxl,hf⟩:=struct_cells hs hone hC h
 obtain ⟨v0,v1,v2,v3,rfl⟩:=len4 hl
 obtain ⟨x0,x1,x2,x3,rfl⟩:=len4 hxl
 obtain ⟨z0,g0,k0⟩:=hf 0 f0 v0 rfl rfl
 obtain ⟨z1,g1,k1⟩:=hf 1 f1 v1 rfl rfl
 obtain ⟨z2,g2,k2⟩:=hf 2 f2 v2 rfl rfl
 obtain ⟨z3,g3,k3⟩:=hf 3 f3 v3 rfl rfl
 obtain rfl:=Option.some.inj g0
 obtain rfl:=Option.some.inj g1
 obtain rfl:=Option.some.inj g2
 obtain rfl:=Option.some.inj g3
 exact ⟨v0,v1,v2,v3,x0,x1,x2,x3,m,rfl,e,k0,k1,k2,k3⟩
theorem struct6_ {t:TypeId} {f0 f1 f2 f3 f4 f5:Field} {n:Nat} {cs:List Value} {y:DataW H × List MemPlace} (hs:P.underlying t=some (.struct #[f0,f1,f2,f3,f4,f5])) (hone:oneCellFields P #[f0,f1,f2,f3,f4,f5]=true) (hC:P.cellsOf t=6)
  (h:DataW.trod enc P W 0 (fun _=>true) true n t cs=some y):∃ v0 v1 v2 v3 v4 v5 x0 x1 x2 x3 x4 x5 m,cs=[v0,v1,v2,v3,v4,v5]∧y.1=.agg [x0.1,x1.1,x2.1,x3.1,x4.1,x5.1]∧DataW.trod enc P W 0 (fun _=>true) true m f0.type [v0]=some x0∧DataW.trod enc P W 0 (fun _=>true) true m f1.type [v1]=some x1 ∧
   DataW.trod enc P W 0 (fun _=>true) true m f2.type [v2]=some x2∧DataW.trod enc P W 0 (fun _=>true) true m f3.type [v3]=some x3∧DataW.trod enc P W 0 (fun _=>true) true m f4.type [v4]=some x4∧DataW.trod enc P W 0 (fun _=>true) true m f5.type [v5]=some x5:=by
 obtain ⟨xs,m,e,hl,hxl,hf⟩:=struct_cells hs hone hC h
 obtain ⟨v0,v1,v2,v3,v4,v5,rfl⟩:=len6 hl
 obtain ⟨x0,x1,x2,x3,x4,x5,rfl⟩:=len6 hxl
 obtain ⟨z0,g0,k0⟩:=hf 0 f0 v0 rfl rfl
 obtain ⟨z1,g1,k1⟩:=hf 1 f1 v1 rfl rfl
 obtain ⟨z2,g2,k2⟩:=hf 2 f2 v2 rfl rfl
 obtain ⟨z3,g3,k3⟩:=hf 3 f3 v3 rfl rfl
 obtain ⟨z4,g4,k4⟩:=hf 4 f4 v4 rfl rfl
 obtain ⟨z5,g5,k5⟩:=hf 5 f5 v5 rfl rfl
 obtain rfl:=Option.some.inj g0
 obtain rfl:=Option.some.inj g1
 obtain rfl:=Option.some.inj g2
 obtain rfl:=Option.some.inj g3
 obtain rfl:=Option.some.inj g4
 obtain rfl:=Option.some.inj g5
 exact ⟨v0,v1,v2,v3,v4,v5,x0,x1,x2,x3,x4,x5,m,rfl,e,k0,k1,k2,k3,k4,k5⟩
theorem int_in {t:TypeId} {n:Nat} {v:Value} {y:DataW H × List MemPlace} (ht:P.underlying t=some (.int .i64)) (h:DataW.trod enc P W 0 (fun _=>true) true n t [v]=some y):∃ z,v=.int .i64 z∧inI z:=by
 obtain ⟨z,hz,_,hw⟩:=DataW.trod_int ht h
 refine ⟨z,by simpa using hz,?_⟩
 simp only [Lit.wf,decide_eq_true_eq,Bool.and_eq_true] at hw
 have h1:IntKind.i64.min=-9223372036854775808:=by decide
 have h2:IntKind.i64.max=9223372036854775807:=by decide
 unfold inI; omega
theorem ints_b {t e:TypeId} {kd:IntKind} {n:Nat} {v:Value} {y:DataW H × List MemPlace} (ht:P.underlying t=some (.slice e)) (he:P.underlying e=some (.int kd)) (hc:P.cellsOf e=1)
  (h:DataW.trod enc P W 0 (fun _=>true) true n t [v]=some y):∃ zs:List Int,Row (handed W) v (zs.map (Value.int kd))∧zs.length≤Rows.uptoBulk y.1∧∀ z∈zs,(Lit.int kd z).wf=true:=by
 rcases open_ints ht he hc h with ⟨hcs,hx⟩ | ⟨a',len',cap',zs,hcs,_,hlc,_,hz,hx,hcell,hwf⟩
 ·simp only [List.cons.injEq,and_true] at hcs
  subst hcs
  exact ⟨[],Row.nil_,Nat.zero_le _,fun z hz=>by cases hz⟩
 ·simp only [List.cons.injEq,and_true] at hcs
  subst hcs
  simp only [if_true] at hz
  have hx1:y.1=.slice (lits kd (zs.take len')) (lits kd (zs.drop len')):=by rw [hx]
  have h1:=qJj (lits (H:=H) kd (zs.take len'))
  have hbe:Rows.uptoBulk y.1=Rows.uptoBulkAll (lits (H:=H) kd (zs.take len'))+Rows.uptoBulkAll (lits (H:=H) kd (zs.drop len'))+1:=by rw [hx1]; simp only [Rows.uptoBulk]
  simp only [lits,List.length_map,List.length_take] at h1 hbe
  have hr:=row_handed (W:=W) (a:=a') (len:=len') (cap:=cap') (vs:=zs.map (Value.int kd)) (by simp [hz]) hlc fun i hi=>by
   rw [hcell i (by omega),List.getElem?_map,List.getElem?_eq_getElem (by omega)]
   simp [List.getD_eq_getElem?_getD,List.getElem?_eq_getElem (show i<zs.length by omega)]
  rw [← List.map_take] at hr
  exact ⟨zs.take len',hr,by rw [List.length_take]; omega,fun z hz=>hwf z (List.mem_of_mem_take hz)⟩
theorem ir_b {t e:TypeId} {n:Nat} {v:Value} {y:DataW H × List MemPlace} (ht:P.underlying t=some (.slice e)) (he:P.underlying e=some (.int .i64)) (hc:P.cellsOf e=1)
  (h:DataW.trod enc P W 0 (fun _=>true) true n t [v]=some y) (hb:Rows.uptoBulk y.1≤1048576):∃ l,Ir (handed W) v l∧l.length≤Rows.uptoBulk y.1:=by
 obtain ⟨zs,hr,hl,hw⟩:=ints_b ht he hc h
 refine ⟨zs,⟨hr,by omega,fun z hz=>?_⟩,hl⟩
 have:=hw z hz
 simp only [Lit.wf,decide_eq_true_eq,Bool.and_eq_true] at this
 have h1:IntKind.i64.min=-9223372036854775808:=by decide
 have h2:IntKind.i64.max=9223372036854775807:=by decide
 unfold inI; omega
theorem nr_b {t e:TypeId} {n:Nat} {v:Value} {y:DataW H × List MemPlace} (ht:P.underlying t=some (.slice e)) (he:P.underlying e=some (.int .u32)) (hc:P.cellsOf e=1)
  (h:DataW.trod enc P W 0 (fun _=>true) true n t [v]=some y) (hb:Rows.uptoBulk y.1≤1048576):∃ l,Nr (handed W) v l:=by
 obtain ⟨zs,hr,hl,hw⟩:=ints_b ht he hc h
 have hpos:∀ z∈zs,0≤z∧z<4294967296:=fun z hz=>by
  have:=hw z hz
  simp only [Lit.wf,decide_eq_true_eq,Bool.and_eq_true] at this
  have h1:IntKind.u32.min=0:=by decide
  have h2:IntKind.u32.max=4294967295:=by decide
  omega
 have hU:zs.map (Value.int .u32)=U (zs.map Int.toNat):=by
  unfold U
  rw [List.map_map]
  apply List.map_congr_left
  intro z hz
  simp only [Function.comp_apply,Int.toNat_of_nonneg (hpos z hz).1]
 rw [hU] at hr
 refine ⟨zs.map Int.toNat,hr,fun x hx=>?_,by rw [List.length_map]; omega⟩
 obtain ⟨z,hz,rfl⟩:=List.mem_map.mp hx
 have:=hpos z hz
 show z.toNat<4294967296
 omega
theorem pair_handed {n:Nat} {cs:List Value} {y:DataW H × List MemPlace} (h:DataW.trod enc Tryz.prog W 0 (fun _=>true) true n 56 cs=some y):∃ x:Int × Int,(cs=qPc x∧inP x)∧prC x≤1000*Rows.uptoBulk y.1:=by
 obtain ⟨xs,m,_,hx,hl,hxl,hf⟩:=DataW.trod_array Tryz.underlying56 h
 have hc:Tryz.prog.cellsOf 3=1:=by kernel_rfl
 have hc2:Tryz.prog.cellsOf 56=2:=by kernel_rfl
 rw [hc2] at hl
 obtain ⟨v0,v1,rfl⟩:=len2 hl
 obtain ⟨x0,x1,rfl⟩:=len2 hxl
 have g0:=hf 0 (by omega)
 have g1:=hf 1 (by omega)
 rw [hc] at g0 g1
 obtain ⟨z0,rfl,i0⟩:=int_in Tryz.underlying3 (show DataW.trod enc Tryz.prog W 0 (fun _=>true) true m 3 [v0]=some x0 from g0)
 obtain ⟨z1,rfl,i1⟩:=int_in Tryz.underlying3 (show DataW.trod enc Tryz.prog W 0 (fun _=>true) true m 3 [v1]=some x1 from g1)
 exact ⟨(z0,z1),⟨rfl,i0,i1⟩,by have:=qEc y.1; show 100≤_; omega⟩
theorem pairs_handed {n:Nat} {v:Value} {y:DataW H × List MemPlace} (h:DataW.trod enc Tryz.prog W 0 (fun _=>true) true n 34 [v]=some y) (hb:Rows.uptoBulk y.1≤1048576) :
  ∃ l:List (Int × Int),RowK 2 (handed W) v (l.map qPc)∧(∀ x∈l,inP x)∧l.length≤Rows.uptoBulk y.1∧cst prC l≤1000*Rows.uptoBulk y.1:=by
 obtain ⟨rows,xs,h1,h2,h3,h4⟩:=slice_handed (α:=Int × Int) (q:=fun c x=>c=qPc x∧inP x) (c:=prC) (K:=1000) Tryz.underlying34 (sz:=2) (by kernel_rfl) (by decide) h hb fun n' cs' y' h' hb' _=>pair_handed h'
 have he:rows=xs.map qPc:=by
  apply List.ext_getElem?
  intro i
  rw [List.getElem?_map]
  cases hr:rows[i]? with
  | none =>
   have:=h2.len
   rw [List.getElem?_eq_none_iff] at hr
   rw [List.getElem?_eq_none (by omega)]; rfl
  | some r =>
   obtain ⟨x,hx,hq,_⟩:=h2.get hr
   rw [hx,hq]; rfl
 rw [he] at h1
 refine ⟨xs,h1,fun x hx=>?_,h3,h4⟩
 obtain ⟨i,hi⟩:=List.getElem?_of_mem hx
 have hil:=(List.getElem?_eq_some_iff.mp hi).1
 have:=h2.len
 exact (h2.at_ i _ x (List.getElem?_eq_getElem (by omega)) hi).2
theorem rules_handed {n:Nat} {v:Value} {y:DataW H × List MemPlace} (h:DataW.trod enc Tryz.prog W 0 (fun _=>true) true n 33 [v]=some y) (hb:Rows.uptoBulk y.1≤1048576) :
  ∃ rows xs,RowK 2 (handed W) v rows∧Rel2 (RuI (handed W)) rows xs∧xs.length≤Rows.uptoBulk y.1∧cst ruC xs≤1000*Rows.uptoBulk y.1 :=
 slice_handed (α:=Ru) (q:=RuI (handed W)) (c:=ruC) (K:=1000) Tryz.underlying33 (sz:=2) (by kernel_rfl) (by decide) h hb fun n' cs' y' h' hb' _=>by
  obtain ⟨v0,v1,x0,x1,m,rfl,e,k0,k1⟩:=struct2_ Tryz.underlying43 (by kernel_rfl) (by kernel_rfl) h'
  have hbe:Rows.uptoBulk y'.1=Rows.uptoBulk x0.1+(Rows.uptoBulk x1.1+0)+1:=by rw [e]; simp only [Rows.uptoBulk,Rows.uptoBulkAll]
  obtain ⟨l0,i0,b0⟩:=ir_b Tryz.underlying24 Tryz.underlying3 (by kernel_rfl) k0 (by omega)
  obtain ⟨l1,i1,b1⟩:=ir_b Tryz.underlying24 Tryz.underlying3 (by kernel_rfl) k1 (by omega)
  exact ⟨(l0,l1),⟨v0,v1,rfl,i0,i1⟩,by show 50*l0.length+50*l1.length+20≤_; omega⟩
theorem monos_handed {n:Nat} {v:Value} {y:DataW H × List MemPlace} (h:DataW.trod enc Tryz.prog W 0 (fun _=>true) true n 148 [v]=some y) (hb:Rows.uptoBulk y.1≤1048576) :
  ∃ rows xs,RowK 2 (handed W) v rows∧Rel2 (MoR (handed W)) rows xs∧xs.length≤Rows.uptoBulk y.1∧cst moC xs≤1000*Rows.uptoBulk y.1 :=
 haveI:Inhabited Mo:=⟨⟨[],[]⟩⟩
 slice_handed (α:=Mo) (q:=MoR (handed W)) (c:=moC) (K:=1000) Tryz.underlying148 (sz:=2) (by kernel_rfl) (by decide) h hb fun n' cs' y' h' hb' _=>by
  obtain ⟨v0,v1,x0,x1,m,rfl,e,k0,k1⟩:=struct2_ Tryz.underlying158 (by kernel_rfl) (by kernel_rfl) h'
  have hbe:Rows.uptoBulk y'.1=Rows.uptoBulk x0.1+(Rows.uptoBulk x1.1+0)+1:=by rw [e]; simp only [Rows.uptoBulk,Rows.uptoBulkAll]
  obtain ⟨l0,i0⟩:=nr_b Tryz.underlying153 Tryz.underlying181 (by kernel_rfl) k0 (by omega)
  obtain ⟨l1,i1,b1⟩:=ir_b Tryz.underlying24 Tryz.underlying3 (by kernel_rfl) k1 (by omega)
  exact ⟨⟨l0,l1⟩,⟨v0,v1,rfl,i0,i1⟩,by have:=qEc x0.1; show 30*l1.length+700≤_; omega⟩
theorem ints_handed {n:Nat} {v:Value} {y:DataW H × List MemPlace} (h:DataW.trod enc Tryz.prog W 0 (fun _=>true) true n 44 [v]=some y) (hb:Rows.uptoBulk y.1≤1048576) :
  ∃ rows xs,RowK 2 (handed W) v rows∧Rel2 (ItR (handed W)) rows xs∧xs.length≤Rows.uptoBulk y.1∧cst itC xs≤1000*Rows.uptoBulk y.1 :=
 haveI:Inhabited It:=⟨⟨0,[]⟩⟩
 slice_handed (α:=It) (q:=ItR (handed W)) (c:=itC) (K:=1000) Tryz.underlying44 (sz:=2) (by kernel_rfl) (by decide) h hb fun n' cs' y' h' hb' _=>by
  obtain ⟨v0,v1,x0,x1,m,rfl,e,k0,k1⟩:=struct2_ Tryz.underlying150 (by kernel_rfl) (by kernel_rfl) h'
  have hbe:Rows.uptoBulk y'.1=Rows.uptoBulk x0.1+(Rows.uptoBulk x1.1+0)+1:=by rw [e]; simp only [Rows.uptoBulk,Rows.uptoBulkAll]
  obtain ⟨z,rfl,iz⟩:=int_in Tryz.underlying3 k0
  obtain ⟨rows,xs,h1,h2,h3,h4⟩:=monos_handed k1 (by omega)
  exact ⟨⟨z,xs⟩,⟨v1,rows,rfl,iz,h1,h2,by show xs.length<_; omega⟩,by have:=qEc x0.1; show 100+cst moC xs≤_; omega⟩
theorem cert_handed {n:Nat} {v:Value} {y:DataW H × List MemPlace} (h:DataW.trod enc Tryz.prog W 0 (fun _=>true) true n 35 [v]=some y) (hb:Rows.uptoBulk y.1≤1048576) :
  ∃ rows xs,RowK 4 (handed W) v rows∧Rel2 (NdR (handed W)) rows xs∧xs.length≤Rows.uptoBulk y.1∧cst ndC xs≤1000*Rows.uptoBulk y.1 :=
 haveI:Inhabited Nd:=⟨⟨0,0,[],[]⟩⟩
 slice_handed (α:=Nd) (q:=NdR (handed W)) (c:=ndC) (K:=1000) Tryz.underlying35 (sz:=4) (by kernel_rfl) (by decide) h hb fun n' cs' y' h' hb' _=>by
  obtain ⟨v0,v1,v2,v3,x0,x1,x2,x3,m,rfl,e,k0,k1,k2,k3⟩:=struct4_ Tryz.underlying46 (by kernel_rfl) (by kernel_rfl) h'
  have hbe:Rows.uptoBulk y'.1=Rows.uptoBulk x0.1+(Rows.uptoBulk x1.1+(Rows.uptoBulk x2.1+(Rows.uptoBulk x3.1+0)))+1:=by rw [e]; simp only [Rows.uptoBulk,Rows.uptoBulkAll]
  obtain ⟨z,rfl,iz⟩:=int_in Tryz.underlying3 k0
  obtain ⟨l,p1,p2,p3,p4⟩:=pairs_handed k1 (by omega)
  obtain ⟨rows,xs,h1,h2,h3,h4⟩:=ints_handed k2 (by omega)
  obtain ⟨z3,rfl,iz3⟩:=int_in Tryz.underlying3 k3
  exact ⟨⟨z,z3,l,xs⟩,⟨v1,v2,rows,rfl,iz,iz3,p1,p2,by show l.length<_; omega,h1,h2,by show xs.length<_; omega⟩,by have:=qEc x0.1; show 100+cst prC l+cst itC xs≤_; omega⟩
theorem flat_cost:∀ l:List (List Int),cst (fun t=>50*t.length+4) l=50*l.flatten.length+4*l.length
 | []=>rfl
 | t::l=>by
  have:=flat_cost l
  show 50*t.length+4+cst (fun t=>50*t.length+4) l=_
  rw [List.flatten_cons,List.length_append,List.length_cons]
  omega
theorem flat_one:∀ {rows:List (List Value)},(∀ v∈rows,v.length=1)→rows.flatten.length=rows.length
 | [],_=>rfl
 | r::rows,h=>by
  rw [List.flatten_cons,List.length_append,h r (.head _),flat_one fun v hv=>h v (.tail _ hv),List.length_cons]; omega
theorem terms_handed {n:Nat} {v:Value} {y:DataW H × List MemPlace} (h:DataW.trod enc Tryz.prog W 0 (fun _=>true) true n 57 [v]=some y) (hb:Rows.uptoBulk y.1≤1048576) :
  ∃ vs xs,Row (handed W) v vs∧Rel2 (fun v l=>Ir (handed W) v l) vs xs∧xs.length≤Rows.uptoBulk y.1∧50*xs.flatten.length+4*xs.length≤100*Rows.uptoBulk y.1:=by
 obtain ⟨rows,xs,h1,h2,h3,h4⟩:=slice_handed (α:=List Int) (q:=fun c l=>∃ v,c=[v]∧Ir (handed W) v l) (c:=fun t=>50*t.length+4) (K:=100) Tryz.underlying57 (sz:=1) (by kernel_rfl) (by decide) h hb fun n' cs' y' h' hb' hl=>by
  obtain ⟨v,rfl⟩:=List.length_eq_one_iff.mp hl
  obtain ⟨l,il,bl⟩:=ir_b Tryz.underlying24 Tryz.underlying3 (by kernel_rfl) h' hb'
  exact ⟨l,⟨v,rfl,il⟩,by have:=qEc y'.1; show 50*l.length+4≤_; omega⟩
 rw [flat_cost] at h4
 refine ⟨rows.flatten,xs,?_,?_,h3,h4⟩
 ·obtain ⟨base,cap,he,hcap,hsz,hb⟩:=h1
  have hfl:=flat_one hsz
  refine ⟨base,cap,by rw [hfl]; exact he,by omega,?_⟩
  rcases hb with hb | ⟨a,g1,g2,l,g3,g4,g5⟩
  ·exact .inl hb
  ·exact .inr ⟨a,g1,g2,l,g3,by omega,by rw [hfl]; simpa using g5⟩
 ·refine ⟨?_,fun j w x hw hx=>?_⟩
  ·obtain ⟨_,_,_,_,hsz,_⟩:=h1
   rw [flat_one hsz]; exact h2.len
  ·obtain ⟨_,_,_,_,hsz,_⟩:=h1
   rw [flat_get (by decide) j hsz,Nat.div_one,Nat.mod_one] at hw
   cases hr:rows[j]? with
   | none=>rw [hr] at hw; cases hw
   | some r =>
    rw [hr] at hw
    obtain ⟨v,rfl,iv⟩:=h2.at_ j r x hr hx
    obtain rfl:v=w:=Option.some.inj hw
    exact iv
theorem cmds_handed {n:Nat} {v:Value} {y:DataW H × List MemPlace} (h:DataW.trod enc Tryz.prog W 0 (fun _=>true) true n 36 [v]=some y) (hb:Rows.uptoBulk y.1≤1048576) :
  ∃ rows xs,RowK 2 (handed W) v rows∧Rel2 (CmR (handed W)) rows xs∧xs.length≤Rows.uptoBulk y.1∧cst cmC xs≤1000*Rows.uptoBulk y.1 :=
 haveI:Inhabited Cm:=⟨⟨[],[]⟩⟩
 slice_handed (α:=Cm) (q:=CmR (handed W)) (c:=cmC) (K:=1000) Tryz.underlying36 (sz:=2) (by kernel_rfl) (by decide) h hb fun n' cs' y' h' hb' _=>by
  obtain ⟨v0,v1,x0,x1,m,rfl,e,k0,k1⟩:=struct2_ Tryz.underlying59 (by kernel_rfl) (by kernel_rfl) h'
  have hbe:Rows.uptoBulk y'.1=Rows.uptoBulk x0.1+(Rows.uptoBulk x1.1+0)+1:=by rw [e]; simp only [Rows.uptoBulk,Rows.uptoBulkAll]
  obtain ⟨s,hs,hx0,_⟩:=DataW.trod_string Tryz.underlying9 k0
  obtain rfl:v0=.string s:=by simpa using hs
  have hsb:Rows.uptoBulk x0.1=s.size+1:=by
   rw [hx0]
   simp only [Rows.uptoBulk]; rfl
  obtain ⟨vs,xs,h1,h2,h3,h4⟩:=terms_handed k1 (by omega)
  refine ⟨⟨bts s,xs⟩,⟨v1,vs,by rw [qWz],by show s.size<_; omega,h1,h2,by show xs.length<_; omega⟩,?_⟩
  show 50*xs.flatten.length+4*xs.length+20≤_
  omega
theorem sig_cost:∀ l:Sg,cst syC l=70*l.length
 | []=>rfl
 | x::l=>by
  have:=sig_cost l
  show 70+cst syC l=_
  rw [List.length_cons]; omega
theorem book_handed {n:Nat} {cs:List Value} {y:DataW H × List MemPlace} (h:DataW.trod enc Tryz.prog W 0 (fun _=>true) true n 38 cs=some y) (hb:Rows.uptoBulk y.1≤1048576):∃ B,BkA (handed W) cs B:=by
 obtain ⟨v0,v1,v2,v3,v4,v5,x0,x1,x2,x3,x4,x5,m,rfl,e,k0,k1,k2,k3,k4,k5⟩:=struct6_ Tryz.underlying38 (by kernel_rfl) (by kernel_rfl) h
 have hbe:Rows.uptoBulk y.1=Rows.uptoBulk x0.1+(Rows.uptoBulk x1.1+(Rows.uptoBulk x2.1+(Rows.uptoBulk x3.1+(Rows.uptoBulk x4.1+(Rows.uptoBulk x5.1+0)))))+1:=by rw [e]; simp only [Rows.uptoBulk,Rows.uptoBulkAll]
 obtain ⟨sig,s1,s2⟩:=xPb k0 (by omega)
 obtain ⟨r1,R1,a1,a2,a3,a4⟩:=rules_handed k1 (by omega)
 obtain ⟨r2,R2,b1,b2,b3,b4⟩:=rules_handed k2 (by omega)
 obtain ⟨l3,c1,c2,c3,c4⟩:=pairs_handed k3 (by omega)
 obtain ⟨r4,R4,d1,d2,d3,d4⟩:=cert_handed k4 (by omega)
 obtain ⟨r5,R5,e1,e2,e3,e4⟩:=cmds_handed k5 (by omega)
 have hsy:toSy (S2 sig)=sig:=by
  unfold toSy S2
  rw [List.map_map]
  conv=>rhs; rw [← List.map_id sig]
  apply List.map_congr_left
  intro x _
  show (strB (bts x.1),x.2)=x
  rw [qWz]
 refine ⟨⟨S2 sig,R1,R2,l3,R4,R5⟩,⟨v0,v1,v2,v3,v4,v5,r1,r2,r4,r5,rfl,by rw [hsy]; exact s1,a1,a2,b1,b2,c1,c2,d1,d2,e1,e2⟩,by rw [qDl]; omega,by dsimp only; omega,by dsimp only; omega,by dsimp only; omega,by dsimp only; omega,by dsimp only; omega,?_⟩
 unfold bkC
 dsimp only
 rw [sig_cost,qDl]
 omega
end Go.Proofs.YtkdneddcocggdaaGreatDoor.Am
