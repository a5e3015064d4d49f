/-
  Packed: The laws on terms: what is read, what is shown, and one behind the other. The law: a text is read as the book that it is; what was read may be spoiled, and is read again. The laws: what is read is written and read again; what is written is read. From a function's reading to the given statement: the old memory is read only; what was handed in reads as it did. What every law's end needs: the arguments read behind the call as they did; slices of integers are rows of the handed memory; the world of the witness. Arguments that are handed in: rows of numbers, signatures.
-/
import Derived.Test.YtkdneddcocggdaaGreatDoorPkI
import Derived.Test.YtkdneddcocggdaaGreatDoorAmFnsL
import Derived.Test.YtkdneddcocggdaaGreatDoorPkK
import Derived.Test.YtkdneddcocggdaaGreatDoorPkC
import Derived.Test.YtkdneddcocggdaaGreatDoorPkB
import Derived.Carry
import Derived.ChangeSame
import Derived.Below
import Derived.Test.YtkdneddcocggdaaGreatDoorRows
import Derived.Test.YtkdneddcocggdaaGreatDoorCards
import Derived.Test.YtkdneddcocggdaaGreatDoorTie
import Derived.WalkKit
import Derived.ProofKit
import Derived.OpenShut
import Derived.ChangeSlices
import Derived.ChangeMaps5
import Derived.Deep.DeepHandedRow
import Derived.Lib.LaidTab
import Derived.Lib.LaidIn
import Derived.Test.YtkdneddcocggdaaGreatDoorPkS
import Derived.Deep.SlicePairs
import Derived.Lib.SmallJoins
import Derived.Lib.LaidU8
set_option linter.unusedVariables false
set_option linter.unusedSimpArgs false
set_option linter.unnecessarySimpa false
namespace Go.Proofs.YtkdneddcocggdaaGreatDoor.Am
open Go Go.Proofs Go.RowKit Go.Lib Sys Sp
set_option maxRecDepth 100000
variable {D:Orc} {h h' h0:H} {k:Kv} {kp:Kp}
structure SpecsT (D:Orc):Prop where
 shown:qYz D 11 Tbl
 term:qAq D 12 Tbl
 xVp:qAq D 13 Tbl
 show_:qBt D 15 Tbl
 xPt:qBt D 16 Tbl
 row:qYh D 14
 chk:qAr D 22 Tbl
variable {D:Orc} {E:Dorc} {h h' h0 g:H} {k:Kv} {kp:Kp} {L R:List Res} {B:Bk} {V:BkV} {N:Nat}
structure SpecsQ (D:Orc):Prop where
 shown:qYz D 11 Tbl
 parse:qPu D 17 Tbl
 parseR:qPu D 18 Tbl
 same:qPs D 19
theorem new6 {vs ws:List Value} (hl:ws.length=vs.length) (hv:vs.all one=true) {T:Prop} (hT:T) (h6:vs.length=6) {K:Value→H→Prop} (hK:∀ p h',Hp h h' [qQm p vs]→K (Pt p) h') :
  newW h ws (fun p h1=>ptrW p (fun ad=>T∧List.all vs one=true∧∃ h2,Am.wr h1 ad vs=some h2∧K p h2)) :=
 (Hp.nil_ h).new_ fun p h1 hp o1=>o1.st6 (i:=0) rfl hl hv hT fun h2 o2=>hK p h2 o2
variable {D:Orc} {E:Dorc} {h h' h0 g:H} {k:Kv} {kp:Kp} {L R:List Res} {B:Bk} {V:BkV} {N:Nat}
structure SpecsB (D:Orc):Prop where
 shown:qYz D 11 Tbl
 parse:qEg D 17 Tbl
 print:qBv D 20 Tbl
 same:qPs D 19
 lines:qIj D 23
theorem xUo {t:Bs} {y:Nat × Int} (h:qWh t=.error y):y.2≠0∧y.1≤t.count 10+1:=by
 unfold qWh at h
 split at h
 ·cases h; exact ⟨by decide,Nat.zero_le _⟩
 ·split at h
  ·cases h; exact ⟨by decide,Nat.zero_le _⟩
  ·obtain ⟨h1,h2⟩:=qBd h
   rw [qHs] at h2
   exact ⟨h1,by omega⟩
theorem xCp {t:Bs} {y:Bk × Bool} (h:qWh t=.ok y):t.length≤65536∧t.count 10<4096∧qVa Bk.nil false 0 (qZh 10 t)=.ok y:=by
 unfold qWh at h
 split at h
 ·cases h
 ·split at h
  ·cases h
  ·exact ⟨by omega,by omega,h⟩
theorem xCq {s:Bs} {y:Bk × Bool} (h1:s.length≤65536) (h2:s.count 10<4096) (h3:validD s=true) (h:qVa Bk.nil false 0 (qZh 10 s)=.ok y):qWh s=.ok y:=by
 unfold qWh
 rw [if_neg (by omega),if_neg (by rw [h3]; simp)]
 exact h
theorem xGa {c:List Value} (b:BkA h c B):∃ sg ru eq pr ce co,c=[sg,ru,eq,pr,ce,co]∧[sg,ru,eq,pr,ce,co].all one=true:=by
 obtain ⟨sg,ru,eq,pr,ce,co,q1,q2,q3,q4,rfl,a1,a2,a3,a4,a5,a6,a7,a8,a9,a10,a11⟩:=b.sl
 refine ⟨sg,ru,eq,pr,ce,co,rfl,?_⟩
 simp only [List.all_cons,List.all_nil,qQy a1.row.isSl,qQy a2.isSl,qQy a4.isSl,qQy a6.isSl,qQy a8.isSl,qQy a10.isSl]
 rfl
theorem xDb (c:Cl9 D) (s:SpecsB D) {x:ByteArray} (hx:x.size<2 ^ 38) (ht:Tbl h) (hk:∀ h',Ext h h'→k (.bool true) h'):D 9 [.string x] h k kp:=by
 refine c _ _ _ _ ?_
 unfold F9
 rw [qQb]
 refine s.shown h _ _ ht fun h1 e1=>⟨_,rfl,?_⟩
 show cond false _ _
 rw [cond_false]
 have t1:=qQs _ _ e1 ht
 have hbl:(bts x).length=x.size:=rfl
 refine s.parse x h1 _ _ (by omega) t1 ?_
 cases hp:qWh (bts x) with
 | error y =>
  obtain ⟨y1,y2⟩:=xUo hp
  intro h2 e2
  refine ⟨_,_,_,_,_,_,_,_,rfl,?_⟩
  refine new6 (ws:=nilB) (vs:=nilB) rfl rfl rfl rfl fun p14 h3 o3=>?_
  rw [qZp]
  refine ⟨fun _=>?_,fun h0=>absurd h0 y1⟩
  rw [cond_true,qQf]
  refine ⟨_,_,_,_,_,_,rdn (o3.cell (i:=0) rfl) (by simp [nilB]),?_⟩
  refine s.same nilB nilB Bk.nil Bk.nil h3 _ _ (xZb h3) (xZb h3) fun t h4 e4 ht2=>⟨_,rfl,?_⟩
  rw [ht2.mpr rfl,cond_true,decide_eq_true (show (y.1:Int)≥0 by omega),cond_true]
  refine s.lines x h4 _ _ (by omega) ⟨_,rfl,?_⟩
  rw [decide_eq_true (by omega)]
  exact hk h4 (e1.trans (e2.trans (o3.ext.trans e4)))
 | ok y =>
  obtain ⟨p1,p2,p3⟩:=xCp hp
  intro c h2 e2 hb
  obtain ⟨sg,ru,eq,pr,ce,co,rfl,hone⟩:=xGa hb
  refine ⟨_,_,_,_,_,_,_,_,rfl,?_⟩
  refine new6 (ws:=nilB) (vs:=[sg,ru,eq,pr,ce,co]) rfl hone rfl rfl fun p14 h3 o3=>?_
  have e13:=e2.trans o3.ext
  show cond false _ _
  rw [cond_false,qQf]
  refine ⟨_,_,_,_,_,_,rdn (o3.cell (i:=0) rfl) (by simp),?_⟩
  refine s.print [sg,ru,eq,pr,ce,co] y.1 h3 _ _ (hb.ext o3.ext) (qQs _ _ e13 t1) ?_
  obtain ⟨hsg,hpr⟩:=xWe p1 p2 p3
  unfold qRa
  rw [xNa hsg]
  rcases hpr with ⟨a,ha,hal⟩ | ⟨ha,hor⟩
  ·rw [ha]
   intro h4 e4
   refine ⟨_,_,rfl,?_⟩
   show cond false _ _
   rw [cond_false]
   obtain ⟨⟨p,q1⟩,q2,q3,q4⟩:=xWi hsg ha
   have hp2:=xCq q3 q4 q2 q1
   have e14:=e13.trans e4
   refine s.parse (strB a) h4 _ _ (by rw [qXq]; omega) (qQs _ _ e14 t1) ?_
   rw [qQt,hp2]
   intro c2 h5 e5 hb2
   obtain ⟨sg',ru',eq',pr',ce',co',rfl,hone2⟩:=xGa hb2
   refine ⟨_,_,_,_,_,_,_,_,rfl,?_⟩
   refine new6 (ws:=nilB) (vs:=[sg',ru',eq',pr',ce',co']) rfl hone2 rfl rfl fun p55 h6 o6=>?_
   rw [cond_true]
   show cond true (cond true (cond true _ _) _) _
   rw [cond_true,cond_true,cond_true,qQf]
   refine ⟨_,_,_,_,_,_,rdn (o6.cell (i:=0) rfl) (by simp),?_⟩
   rw [qQf]
   have e36:=e4.trans (e5.trans o6.ext)
   refine ⟨_,_,_,_,_,_,rdn ((o3.later e36).cell (i:=0) rfl) (by simp),?_⟩
   refine s.same [sg',ru',eq',pr',ce',co'] [sg,ru,eq,pr,ce,co] y.1 y.1 h6 _ _ (hb2.ext o6.ext) (hb.ext (o3.ext.trans e36)) fun t h7 e7 ht2=>⟨_,rfl,?_⟩
   rw [ht2.mpr rfl,cond_true,qQu (by omega) (by omega),qXq,decide_eq_true (by omega)]
   exact hk h7 (e1.trans (e13.trans (e36.trans e7)))
  ·rw [ha]
   intro h4 e4
   refine ⟨_,_,rfl,?_⟩
   show cond true (cond true (cond true _ _) _) _
   rw [cond_true,cond_true,cond_true,qQx,qZq]
   refine ⟨fun _=>hk h4 (e1.trans (e13.trans e4)),fun hne=>?_⟩
   refine s.lines x h4 _ _ (by omega) ⟨_,rfl,?_⟩
   have hcn:(bts x).count 10+1=4096:=by
    rcases hor with h1 | h1
    ·exact absurd (by omega) hne
    ·exact h1
   rw [hcn]
   exact hk h4 (e1.trans (e13.trans e4))
end Go.Proofs.YtkdneddcocggdaaGreatDoor.Am
namespace Go.Proofs.YtkdneddcocggdaaGreatDoor.Am
open Go Go.ChangeShapes Go.RowKit
def handed (W:World):H:=fun b=>match W.heap[b]? with
 | some (.cells l _ _)=>some (.ro l.toList)
 | _=>none
theorem xYj (W:World):Rel (handed W) W:=by
 intro b o hb
 unfold handed at hb
 split at hb
 ·rename_i l t fz hw
  obtain rfl:=Option.some.inj hb
  exact ⟨t,fz,by rw [hw]⟩
 ·cases hb
theorem xEf {W:World} {b:Nat}:handed W b=none∨∃ l,handed W b=some (.ro l):=by
 unfold handed
 split
 ·exact .inr ⟨_,rfl⟩
 ·exact .inl rfl
theorem Frame.below {W W':World} {h':H} (f:Am.Frame (handed W) W h' W'):Below W.heap.size W W' :=
 ⟨f.os,f.tape,f.output,f.size,fun b hb=>f.keep b hb xEf⟩
theorem xYv {P:Program} {f:FuncId} {args:List Value} {W:World} (hf:f<P.funcs.size) (h:CS P f args (handed W) (fun v _=>v=.bool true) (fun _ _=>False)) :
  Calls P f args.toArray W fun e w'=>e=.returned (.bool true)∧Below W.heap.size W w' :=
 xFl hf h (xYj W) (fun v h' w' hv _ fr=>⟨by rw [hv],fr.below⟩) (fun _ _ _ hc=>hc.elim)
end Go.Proofs.YtkdneddcocggdaaGreatDoor.Am
namespace Go.Proofs.YtkdneddcocggdaaGreatDoor.Am
open Go Go.ChangeShapes Go.WideShapes Go.ChangeAt Go.RowKit
variable {P:Program} {H:Type} {enc:TypeId × Value→H} {W W':World}
theorem trodAll_stays (hl:laidOutB P=true) (hb:Below W.heap.size W W'):∀ {ts:List TypeId} {vs:List Value} {ds:List (DataW H)} {ps:List MemPlace},
  ts.all (fun t=>P.readableRec t && decide (t<P.types.size))=true→DataW.TrodAll enc P W 0 (fun _=>true) true ts vs ds ps→(∀ x∈ps,x.block<W.heap.size) →
  DataW.TrodAll enc P W' 0 (fun b=>decide (b<W.heap.size)) true ts vs ds ps
 | [],vs,ds,ps,_,h,_=>by
  obtain ⟨rfl,rfl,rfl⟩:=trodAll_nil h
  exact trodAll_mk0
 | t::ts,vs,ds,ps,ht,h,hlt=>by
  obtain ⟨v,vs',d,ds',p,q,rfl,rfl,rfl,h0,h1⟩:=trodAll_cons h
  simp only [List.all_cons,Bool.and_eq_true,decide_eq_true_eq] at ht
  exact trodAll_cons_mk (Below.trod hl ht.1.1 ht.1.2 h0 hb fun x hx=>hlt x (by simp [hx]))
   (trodAll_stays hl hb (by simpa using ht.2) h1 fun x hx=>hlt x (by simp [hx]))
theorem post_true {f:Func} {s:ChangeSpec} {tb:TypeId} {args:Array Value} {ds gs:List (DataW H)} {before:List MemPlace} (hl:laidOutB P=true)
    (hts:f.params.toList.all (fun t=>P.readableRec t && decide (t<P.types.size))=true) (hres:f.resultTypes.toList=[tb]) (htb:P.underlying tb=some .bool) (hvars:s.vars=[])
    (hW:DataW.Whole enc P f.params.toList s.vars false W args.toList ds gs before) (hfn:s.fn H ds={ results:=[.lit (.bool true)],args:=ds }) (hb:Below W.heap.size W W') :
    s.post enc P f false true false false W args (.bool true) W':=by
  have hW':=hW
  obtain ⟨p,q,hA,hV,rfl,_,_⟩:=hW
  rw [hvars] at hV
  obtain ⟨rfl,rfl⟩:=trodVars_none hV
  have hn:f.resultTypes.size=1:=by rw [← Array.length_toList,hres]; rfl
  have hlt:∀ x∈p,x.block<W.heap.size:=fun x hx=>hW'.lt x (by simp [hx])
  refine ⟨ds,[],p++[],[],p,[],hW',?_,?_,?_,?_,fun h=>by cases h⟩
  · rw [hres,List.append_nil,hfn,hn]
    exact trodAll_cons_mk (shut_bool htb _) trodAll_mk0
  · rw [List.append_nil,hfn]
    exact trodAll_stays hl hb hts hA hlt
  · rw [hvars,List.append_nil,hfn]; rfl
  · exact hb.frame _
mutual
 def flat:DataW Unit→List Value
   | .lit (.int k n)=>[.int k n]
   | .lit (.bool b)=>[.bool b]
   | .agg ps=>flats ps
   | _=>[]
 def flats:List (DataW Unit)→List Value
   | []=>[]
   | d::l=>flat d++flats l
end
def layAll (P:Program) (h:Array Obj):List (String × DataW Unit)→Array Obj
 | []=>h
 | (n,d)::l=>layAll P (match P.globalNamed n with
  | some g=>h.modify g fun
   | .cells _ t frozen=>.cells (flat d).toArray t frozen
   | o=>o
  | none=>h) l
theorem own:ownKnob Tryz.prog.godebug=none:=by kernel_rfl
theorem laidOut:laidOutB Tryz.pinned.checked.prog=true:=by kernel_rfl
end Go.Proofs.YtkdneddcocggdaaGreatDoor.Am
namespace Go.Proofs.YtkdneddcocggdaaGreatDoor.Am
open Go Go.Proofs Sys Go.ChangeShapes Go.WideShapes Go.ChangeAt Go.RowKit Go.Deep Go.Lib
set_option maxRecDepth 100000
variable {P:Program} {H:Type} {enc:TypeId × Value→H} {W W':World}
end Go.Proofs.YtkdneddcocggdaaGreatDoor.Am
