/-
  Packed: The naturals' functions: what the first of them answer. Books in memory. Words of a line, one by one. The naturals' functions: rows without noughts at their end, numbers as rows, rows held against each other. The naturals' functions: sums. The naturals' functions: the document's sum, comparing. The naturals' functions: comparing. The naturals' functions: products. The naturals' functions: the document's product. The laws' helpers: a row lent and looked at again, a row spoilt. Reading a natural: one digit more. Reading a natural. Reading a natural: the program's function. A rule's terms; the last node; nodes and interpretations are closed. A line's words are read into a book: symbols, rules, equations, commands. A line's words are read into a book: rules, precedences, nodes. A line's words are read into a book: what is said of the last node; commands. A line's words are read into a book: monomials; every line.
-/
import Derived.Test.YtkdneddcocggdaaGreatDoorAmFnsR
import Derived.Test.YtkdneddcocggdaaGreatDoorPkC
import Derived.Test.YtkdneddcocggdaaGreatDoorPkE
import Derived.Test.YtkdneddcocggdaaGreatDoorPkF
import Derived.Test.YtkdneddcocggdaaGreatDoorPkD
import Derived.Test.YtkdneddcocggdaaGreatDoorPkS
set_option linter.unusedVariables false
set_option linter.unusedSimpArgs false
set_option linter.unnecessarySimpa false
namespace Go.Proofs.YtkdneddcocggdaaGreatDoor.Am
open Go Go.Proofs Nats
def U (l:List Nat):List Value:=l.map fun (n:Nat)=>.int .u32 (n:Int)
theorem qEk (l:List Nat):(U l).length=l.length:=by simp [U]
theorem U_get {l:List Nat} {i:Nat} {v:Value} (h:(U l)[i]?=some v):∃ x,l[i]?=some x∧v=.int .u32 (x:Int):=by
 simp only [U,List.getElem?_map,Option.map_eq_some_iff] at h
 obtain ⟨x,hx,rfl⟩:=h
 exact ⟨x,hx,rfl⟩
theorem xXp (l:List Nat) (n:Nat):(U l).take n=U (l.take n):=by simp [U,List.map_take]
theorem U_set (l:List Nat) (n x:Nat):(U l).set n (.int .u32 (x:Int))=U (l.set n x):=by simp [U,List.map_set]
theorem xLq (l m:List Nat):U l++U m=U (l++m):=by simp [U]
structure Nr (h:H) (s:Value) (l:List Nat):Prop where
 row:Row h s (U l)
 ok:Ok l
 small:l.length<2 ^ 40
theorem Nr.ext {h h':H} {s:Value} {l:List Nat} (r:Nr h s l) (e:Ext h h'):Nr h' s l:=⟨r.row.ext e,r.ok,r.small⟩
theorem Nr.len {h:H} {s:Value} {l:List Nat} (r:Nr h s l) {k:Nat→Prop}:lenW s k↔k l.length:=by rw [r.row.len,qEk]
theorem Nr.at_ {h:H} {s:Value} {l:List Nat} (r:Nr h s l) {n:Int} (h0:0≤n) (h1:n<l.length) {k:Addr→Prop} (hk:∀ a (x:Nat),l[n.toNat]?=some x→x<B→rd h a=some (.int .u32 (x:Int))→k a):qQm s n 1 k:=by
 refine r.row.at_ h0 (by rw [qEk]; exact h1) fun a v hv ha=>?_
 obtain ⟨x,hx,rfl⟩:=U_get hv
 exact hk a x hx (r.ok x (List.mem_of_getElem? hx)) ha
theorem xPy {l:List Nat} {x:Nat} (hl:l≠[]) (hx:l[l.length - 1]?=some x):l.getLast?=some x:=by rw [List.getLast?_eq_getElem?]; exact hx
def qJq (D:Orc) (f:Nat):Prop:=∀ s l h k kp,Nr h s l→k (.bool (decide (right l))) h→D f [s] h k kp
theorem qNl {l:List Nat} (h:64<l.length):decide (right l)=false:=by
 rw [decide_eq_false_iff_not]; exact fun x=>absurd x.1 (by omega)
theorem qNk:decide (right [])=true:=by
 rw [decide_eq_true_iff]
 exact ⟨by decide,by rw [val,qVj]⟩
theorem xQi {h:H} {s:Value} {l:List Nat} {x:Nat} (r:Nr h s l) (h1:l.length≤64) (h2:l.length≠0) (hx:l[l.length - 1]?=some x):decide (right l)=((x:Int) != 0):=by
 have hl:l≠[]:=fun h0=>h2 (by rw [h0]; rfl)
 have:=xJk r.ok
 by_cases h0:x=0
 ·subst h0
  have e0:(((0:Nat):Int) != 0)=false:=rfl
  rw [e0,decide_eq_false_iff_not,this]
  rintro ⟨_,h3 | h3⟩
  ·exact hl h3
  ·exact h3 (xPy hl hx)
 ·have e:((x:Int) != 0)=true:=by simpa using h0
  rw [e,decide_eq_true_iff,this]
  refine ⟨h1,.inr ?_⟩
  rw [xPy hl hx]; simpa using h0
theorem xFd {D:Orc} (c:Cl130 D):qJq D 130:=by
 intro s l h k kp r hk
 refine c _ _ _ _ ?_
 unfold F130
 rw [r.len,qQd]
 refine ⟨fun h1=>?_,fun h1=>?_⟩
 ·rw [qQx,qZf]
  refine ⟨fun h2=>?_,fun h2=>?_⟩
  ·have:l=[]:=List.length_eq_zero_iff.mp (by omega)
   subst this
   rw [qNk] at hk; exact hk
  ·rw [qQr (by omega) (by omega)]
   refine r.at_ (by omega) (by omega) fun a x hx _ ha=>⟨_,ha,?_⟩
   rw [show ((l.length:Int) - 1).toNat=l.length - 1 by omega] at hx
   rw [← xQi r (by omega) (by omega) hx]; exact hk
 ·rw [qNl (by omega)] at hk; exact hk
theorem xFa {D:Orc} (c:Cl133 D):qJq D 133:=by
 intro s l h k kp r hk
 refine c _ _ _ _ ?_
 unfold F133
 rw [r.len,qQd]
 refine ⟨fun h1=>?_,fun h1=>?_⟩
 ·rw [r.len,qQx,qZf]
  refine ⟨fun h2=>?_,fun h2=>?_⟩
  ·have:l=[]:=List.length_eq_zero_iff.mp (by omega)
   subst this
   rw [qNk] at hk; exact hk
  ·rw [r.len,qQr (by omega) (by omega)]
   refine r.at_ (by omega) (by omega) fun a x hx _ ha=>⟨_,ha,?_⟩
   rw [show ((l.length:Int) - 1).toNat=l.length - 1 by omega] at hx
   rw [← xQi r (by omega) (by omega) hx]; exact hk
 ·rw [qNl (by omega)] at hk; exact hk
end Go.Proofs.YtkdneddcocggdaaGreatDoor.Am
namespace Go.Proofs.YtkdneddcocggdaaGreatDoor.Am
open Go Go.Proofs Go.RowKit Go.Lib Sys Sp
set_option maxRecDepth 100000
variable {D:Orc} {h h' h0 g g':H} {k:Kv} {kp:Kp} {L R:List Res}
def frzR (g:H):Res:=⟨fun b=>g b≠none,fun h=>Ext g h,fun h h' e o b u hb=>by rw [e b (by rw [hb]; simp)]; exact o b u hb⟩
open Classical in
theorem Hp.freezeAt {i j:Nat} {r:Res} (o:Hp h0 h L) (hi:L[i]?=some r) (hj:L[j]?=some (frzR g)) (hij:i≠j):∃ g',Ext g g'∧r.ok g'∧Hp h0 h ((L.set i noR).set j (frzR g')):=by
 have key:∀ b,(if r.foot b then h b else g b)≠none→r.foot b∨g b≠none:=fun b hb=>by
  by_cases hf:r.foot b
  ·exact .inl hf
  ·rw [if_neg hf] at hb; exact .inr hb
 obtain ⟨hil,hir⟩:=List.getElem?_eq_some_iff.mp hi
 obtain ⟨hjl,hjr⟩:=List.getElem?_eq_some_iff.mp hj
 have hd:=List.pairwise_iff_getElem.mp o.dis
 have ne:∀ {a c:Nat} (ha:a<L.length) (hc:c<L.length),a≠c→∀ b,L[a].foot b→¬ L[c].foot b:=fun ha hc hac b hb=>o.ne (List.getElem?_eq_getElem ha) (List.getElem?_eq_getElem hc) hac hb
 refine ⟨fun d=>if r.foot d then h d else g d,fun b u hb=>?_,?_,?_⟩
 ·have:¬ r.foot b:=fun hf=>o.ne hi hj hij hf (show g b≠none by rw [hb]; simp)
  show (if r.foot b then h b else g b)=_
  rw [if_neg this]; exact hb
 ·exact r.loc h _ (fun b hb=>if_pos hb) (o.get hi)
 ·have here:Ext (fun d=>if r.foot d then h d else g d) h:=fun b u hb=>by
   have hb:(if r.foot b then h b else g b)=some u:=hb
   by_cases hf:r.foot b
   ·rw [if_pos hf] at hb; exact hb
   ·rw [if_neg hf] at hb
    exact (o.get hj:(frzR g).ok h) b u hb
  have mem:∀ q,q∈(L.set i noR).set j (frzR fun d=>if r.foot d then h d else g d)→q=noR∨q=(frzR fun d=>if r.foot d then h d else g d)∨∃ m,∃ hm:m<L.length,m≠i∧m≠j∧q=L[m]:=fun q hq=>by
   obtain ⟨m,hm,rfl⟩:=List.getElem_of_mem hq
   have hml:m<L.length:=by simpa using hm
   rw [List.getElem_set]
   by_cases hjm:j=m
   ·rw [if_pos hjm]; exact .inr (.inl rfl)
   ·rw [if_neg hjm,List.getElem_set]
    by_cases him:i=m
    ·rw [if_pos him]; exact .inl rfl
    ·rw [if_neg him]; exact .inr (.inr ⟨m,hml,Ne.symm him,Ne.symm hjm,rfl⟩)
  refine ⟨o.ext,fun q hq=>?_,fun q hq b hb=>?_,?_⟩
  ·rcases mem q hq with rfl | rfl | ⟨m,hm,_,_,rfl⟩
   ·trivial
   ·exact here
   ·exact o.ok _ (List.getElem_mem hm)
  ·rcases mem q hq with rfl | rfl | ⟨m,hm,_,_,rfl⟩
   ·exact hb.elim
   ·rcases key b hb with hf | hf
    ·exact o.new r (List.mem_of_getElem? hi) b hf
    ·exact o.new (frzR g) (List.mem_of_getElem? hj) b hf
   ·exact o.new _ (List.getElem_mem hm) b hb
  ·rw [List.pairwise_iff_getElem]
   intro a c ha hc hac b
   simp only [List.length_set] at ha hc
   simp only [List.getElem_set]
   have frz:∀ {m:Nat} (hm:m<L.length),m≠i→m≠j→∀ b,(if r.foot b then h b else g b)≠none→¬ L[m].foot b:=fun hm h1 h2 b hb=>by
    rcases key b hb with hf | hf
    ·exact o.ne hi (List.getElem?_eq_getElem hm) (Ne.symm h1) hf
    ·exact o.ne hj (List.getElem?_eq_getElem hm) (Ne.symm h2) hf
   by_cases haj:j=a
   ·rw [if_pos haj]
    by_cases hcj:j=c
    ·omega
    ·rw [if_neg hcj]
     by_cases hci:i=c
     ·rw [if_pos hci]; exact fun _ hb=>hb
     ·rw [if_neg hci]; exact fun hb=>frz hc (Ne.symm hci) (Ne.symm hcj) b hb
   ·rw [if_neg haj]
    by_cases hai:i=a
    ·rw [if_pos hai]; exact fun hb=>hb.elim
    ·rw [if_neg hai]
     by_cases hcj:j=c
     ·rw [if_pos hcj]; exact fun hb hb'=>frz ha (Ne.symm hai) (Ne.symm haj) b hb' hb
     ·rw [if_neg hcj]
      by_cases hci:i=c
      ·rw [if_pos hci]; exact fun _ hb=>hb
      ·rw [if_neg hci]; exact hd a c ha hc hac b
theorem Hp.frz_buf {j:Nat} {s:Value} {vs:List Value} (o:Hp h0 h L) (hj:L[j]?=some (frzR g)) (e:Ext h h') (r:Buf h h' s vs):∃ g',Ext g g'∧Buf noH g' s vs∧Hp h0 h' (L.set j (frzR g')):=by
 have o2:=o.add_buf e r
 obtain ⟨g',e1,ok,o3⟩:=o2.freezeAt (i:=0) (j:=j+1) rfl (by simpa using hj) (by omega)
 exact ⟨g',e1,ok,o3.tail⟩
theorem Hp.clearK {i sz:Nat} (o:Hp h0 h L) (hi:L[i]?=some noR):Hp h0 h (L.set i (bufK sz (.slice none 0 0) [])) :=
 o.upd hi (fun _ _ _=>rfl) ⟨by simp,.inl ⟨⟨none,rfl⟩,rfl⟩⟩ fun c hc=>by
  have hc:Blk (.slice none 0 0)=some c:=hc
  rw [qZh] at hc; cases hc
def atK (s:Value) (sz j:Nat):Addr:=match s with
 | .slice (some a) _ _=>a.add (j*sz)
 | _=>⟨0,0,none⟩
theorem xYz {sz j:Nat} {s:Value} {vs:List (List Value)} (r:RowK sz h s vs) (hj:j<vs.length) {K:Addr→Prop} (hK:K (atK s sz j)):qQm s (j:Int) sz K:=by
 obtain ⟨base,cap,rfl,hc,he,hb⟩:=r
 rcases hb with hb | ⟨a,rfl,h1,l,h2,h3,h4⟩
 ·omega
 ·refine ⟨by omega,by omega,?_⟩
  rw [Int.toNat_natCast]; exact hK
theorem xCu {sz j m:Nat} {s:Value} {vs:List (List Value)} (r:RowK sz h s vs) (hj:j<vs.length) {v:Value} (hv:vs[j][m]?=some v):rd h (Addr.add (atK s sz j) m)=some v:=by
 have:∀ {K:Addr→Prop},qQm s (j:Int) sz K→K (atK s sz j):=fun {K} hs=>by
  obtain ⟨base,cap,rfl,hc,he,hb⟩:=r
  rcases hb with hb | ⟨a,rfl,_⟩
  ·omega
  ·obtain ⟨_,_,h3⟩:=hs
   rw [Int.toNat_natCast] at h3; exact h3
 exact this (K:=fun ad=>rd h (Addr.add ad m)=some v) (r.get hj fun a _ hx=>hx m v hv)
theorem Hp.wr_atK {i j m sz:Nat} {s v:Value} {vs:List (List Value)} (o:Hp h0 h L) (hi:L[i]?=some (bufK sz s vs)) (hj:j<vs.length) (hm:m<sz) :
  ∃ h',wr1 h (Addr.add (atK s sz j) m) v=some h'∧Hp h0 h' (L.set i (bufK sz s (vs.set j (vs[j].set m v)))):=by
 have hself:=(o.bufK_ hi).self
 obtain ⟨he,⟨a,rfl,rfl⟩ | ⟨b,off,cap,l,hc,h1,rfl,g2,g3,g4,g5⟩⟩:=hself.pos
 ·simp at hj
 ·have m1:j*sz+sz≤vs.length*sz:=by rw [← Nat.succ_mul]; exact Nat.mul_le_mul_right _ (by omega)
  have m2:vs.length*sz≤cap*sz:=Nat.mul_le_mul_right _ g3
  have e2:Addr.add (atK (.slice (some ⟨b,off,none⟩) vs.length cap) sz j) m=⟨b,off+j*sz+m,none⟩:=by
   show Addr.add (Addr.add ⟨b,off,none⟩ (j*sz)) m=_
   rw [qZg,qZg]
  have hw:∀ w∈vs.set j (vs[j].set m v),w.length=sz:=fun w hw=>by
   rcases List.mem_or_eq_of_mem_set hw with hw | hw
   ·exact he w hw
   ·rw [hw,List.length_set]; exact he _ (List.getElem_mem hj)
  have hput:=hself.put (Ext.drop h _) (w:=vs[j].set m v) hj (by rw [List.length_set]; exact he _ (List.getElem_mem hj)) (k:=fun ad=>∃ h',Am.wr h ad (vs[j].set m v)=some h'∧Hp h0 h' (L.set i (bufK sz (.slice (some ⟨b,off,none⟩) vs.length cap) (vs.set j (vs[j].set m v))))) fun a h' hwr r e=>⟨h',hwr,o.of_bufK hi r e⟩
  obtain ⟨_,_,h',hwr,o'⟩:=hput
  refine ⟨h',?_,o'⟩
  rw [← hwr,e2]
  have e3:(⟨b,off,none⟩:Addr).add (Int.toNat (j:Int)*sz)=⟨b,off+j*sz,none⟩:=by rw [Int.toNat_natCast,qZg]
  rw [e3]
  have hlen:=he _ (List.getElem_mem hj)
  unfold wr1 Am.wr
  simp only [g2]
  rw [if_pos (by omega),if_pos (by rw [List.length_set,hlen]; omega)]
  congr 3
  have hseg:(l.drop (off+j*sz)).take sz=vs[j]:=by
   rw [← xUm he hj,← g5,List.drop_take,List.drop_drop,List.take_take,Nat.min_eq_left (by omega)]
  apply List.ext_getElem?
  intro x
  rw [getElem?_splice (by rw [List.length_set,hlen]; omega),List.length_set,hlen,List.getElem?_set]
  by_cases q1:off+j*sz+m=x
  ·subst q1
   rw [if_pos rfl,if_pos (by omega),if_neg (by omega),if_pos (by omega),show off+j*sz+m - (off+j*sz)=m by omega,List.getElem?_set,if_pos rfl,if_pos (by omega)]
  ·rw [if_neg q1]
   by_cases q2:x<off+j*sz
   ·rw [if_pos q2]
   ·rw [if_neg q2]
    by_cases q3:x<off+j*sz+sz
    ·rw [if_pos q3,List.getElem?_set,if_neg (by omega),← hseg,List.getElem?_take,if_pos (by omega),List.getElem?_drop]
     congr 1; omega
    ·rw [if_neg q3]
theorem ld2 {b j:Nat} {l:List Value} {v:Value} (hb:h b=some (.cells l)) (hj:l[j]?=some v) {K:Value→Prop} (hK:K v):ptrW (Pt b) fun ad=>∃ v,rd h (Addr.add (Addr.add ad 0) j)=some v∧K v:=by
 rw [qQe,qZg]
 exact ⟨v,qVi hb hj,hK⟩
theorem rdc2 {b j:Nat} {l:List Value} {v:Value} (hb:h b=some (.cells l)) (hj:l[j]?=some v):rd h (Addr.add (Addr.add ⟨b,0,none⟩ 0) j)=some v:=by
 rw [qZg]
 exact qVi hb hj
theorem Hp.st2 {i j b:Nat} {l:List Value} {v:Value} (o:Hp h0 h L) (hi:L[i]?=some (qQn b l)) (hj:j<l.length) (hv:one v=true) {T:Prop} (hT:T) {K:H→Prop} (hK:∀ h',Hp h0 h' (L.set i (qQn b (l.set j v)))→K h') :
  ptrW (Pt b) fun ad=>one v=true∧T∧∃ h',wr1 h (Addr.add (Addr.add ad 0) j) v=some h'∧K h':=by
 rw [qQe,qZg]
 exact ⟨hv,hT,o.wr hi hj hK⟩
structure Rel2 {α β:Type} (q:α→β→Prop) (vs:List α) (xs:List β):Prop where
 len:vs.length=xs.length
 at_:∀ (j:Nat) v x,vs[j]?=some v→xs[j]?=some x→q v x
variable {α β:Type} {q q':α→β→Prop} {vs ws:List α} {xs ys:List β}
theorem Rel2.nil_:Rel2 q [] []:=⟨rfl,fun j v x h=>by simp at h⟩
theorem Rel2.mono (r:Rel2 q vs xs) (h:∀ v x,q v x→q' v x):Rel2 q' vs xs:=⟨r.len,fun j v x h1 h2=>h _ _ (r.at_ j v x h1 h2)⟩
theorem Rel2.app (r:Rel2 q vs xs) (s:Rel2 q ws ys):Rel2 q (vs++ws) (xs++ys):=by
 refine ⟨by simp [r.len,s.len],fun j v x h1 h2=>?_⟩
 rw [List.getElem?_append] at h1 h2
 rw [← r.len] at h2
 split at h1
 ·rename_i hj; rw [if_pos hj] at h2; exact r.at_ j v x h1 h2
 ·rename_i hj; rw [if_neg hj] at h2; exact s.at_ _ v x h1 h2
theorem Rel2.one_ {v:α} {x:β} (h:q v x):Rel2 q [v] [x]:=⟨rfl,fun j u y h1 h2=>by
 cases j with
 | zero =>
  simp at h1 h2
  subst h1; subst h2; exact h
 | succ j=>simp at h1⟩
theorem Rel2.push (r:Rel2 q vs xs) {v:α} {x:β} (h:q v x):Rel2 q (vs++[v]) (xs++[x]):=r.app (.one_ h)
theorem Rel2.get (r:Rel2 q vs xs) {j:Nat} {v:α} (hv:vs[j]?=some v):∃ x,xs[j]?=some x∧q v x:=by
 have hj:=(List.getElem?_eq_some_iff.mp hv).1
 rw [r.len] at hj
 exact ⟨_,List.getElem?_eq_getElem hj,r.at_ j v _ hv (List.getElem?_eq_getElem hj)⟩
def toSy (sig:Sg):List Sy:=sig.map fun x=>(strB x.1,x.2)
theorem qWq (sig:Sg):S2 (toSy sig)=sig:=by
 unfold S2 toSy
 rw [List.map_map]
 conv=>rhs; rw [← List.map_id sig]
 apply List.map_congr_left
 intro x _
 show (bts (strB x.1),x.2)=x
 rw [qQv]
def qAf (x:Int × Int):List Value:=[.int .i64 x.1,.int .i64 x.2]
def inP (x:Int × Int):Prop:=inI x.1∧inI x.2
structure Oz (g:H) (v:Value) (l:List Int):Prop where
 buf:Buf noH g v (Z l)
 len:l.length<2 ^ 40
 rng:∀ x∈l,inI x
theorem Oz.ir {v:Value} {l:List Int} (o:Oz g v l):Ir g v l:=⟨o.buf.row,o.len,o.rng⟩
theorem Oz.ext {v:Value} {l:List Int} (o:Oz g v l) (e:Ext g g'):Oz g' v l:=⟨o.buf.ext e,o.len,o.rng⟩
def RuB (g:H) (c:List Value) (r:Ru):Prop:=∃ v w,c=[v,w]∧Oz g v r.1∧Oz g w r.2
def MoR (g:H) (c:List Value) (m:Mo):Prop:=∃ v w,c=[v,w]∧Nr g v m.coef∧Ir g w m.exps
def ItR (g:H) (c:List Value) (i:It):Prop:=∃ s vs,c=[.int .i64 i.sym,s]∧inI i.sym∧RowK 2 g s vs∧Rel2 (MoR g) vs i.p∧i.p.length<2 ^ 40
def NdR (g:H) (c:List Value) (n:Nd):Prop:=∃ s t vs,c=[.int .i64 n.kind,s,t,.int .i64 n.kids]∧inI n.kind∧inI n.kids∧RowK 2 g s (n.prec.map qAf)∧(∀ x∈n.prec,inP x)∧n.prec.length<2 ^ 40∧RowK 2 g t vs∧Rel2 (ItR g) vs n.ints∧n.ints.length<2 ^ 40
def CmR (g:H) (c:List Value) (m:Cm):Prop:=∃ s vs,c=[.string (strB m.word),s]∧m.word.length<2 ^ 40∧Row g s vs∧Rel2 (fun v l=>Ir g v l) vs m.terms∧m.terms.length<2 ^ 40
theorem RuB.ext {c:List Value} {r:Ru} (e:Ext g g'):RuB g c r→RuB g' c r:=fun ⟨v,w,h1,h2,h3⟩=>⟨v,w,h1,h2.ext e,h3.ext e⟩
theorem MoR.ext {c:List Value} {m:Mo} (e:Ext g g'):MoR g c m→MoR g' c m:=fun ⟨v,w,h1,h2,h3⟩=>⟨v,w,h1,h2.ext e,h3.ext e⟩
theorem ItR.ext {c:List Value} {i:It} (e:Ext g g'):ItR g c i→ItR g' c i:=fun ⟨s,vs,h1,h2,h3,h4,h5⟩=>⟨s,vs,h1,h2,h3.ext e,h4.mono fun _ _=>MoR.ext e,h5⟩
theorem NdR.ext {c:List Value} {n:Nd} (e:Ext g g'):NdR g c n→NdR g' c n:=fun ⟨s,t,vs,h1,h2,h3,h4,h5,h6,h7,h8,h9⟩=>⟨s,t,vs,h1,h2,h3,h4.ext e,h5,h6,h7.ext e,h8.mono fun _ _=>ItR.ext e,h9⟩
theorem CmR.ext {c:List Value} {m:Cm} (e:Ext g g'):CmR g c m→CmR g' c m:=fun ⟨s,vs,h1,h2,h3,h4,h5⟩=>⟨s,vs,h1,h2,h3.ext e,h4.mono fun _ _ r=>r.ext e,h5⟩
structure BkV where
 sg:Value
 ru:Value
 eq:Value
 pr:Value
 ce:Value
 co:Value
 lp:Value
 li:Value
 lm:Value
 rur:List (List Value)
 eqr:List (List Value)
 cer:List (List Value)
 cor:List (List Value)
 lpr:List (List Value)
 lir:List (List Value)
 lmr:List (List Value)
def LastI (g:H) (lm:Value) (lir lmr:List (List Value)) (l:List It):Prop :=
 (l=[]∧lir=[]∧lmr=[])∨∃ pre i vp,l=pre++[i]∧lir=vp++[[.int .i64 i.sym,lm]]∧Rel2 (ItR g) vp pre∧inI i.sym∧Rel2 (MoR g) lmr i.p
def LastN (g:H) (V:BkV) (l:List Nd):Prop :=
 (l=[]∧V.cer=[]∧V.lpr=[]∧V.lir=[]∧V.lmr=[])∨∃ pre n vp,l=pre++[n]∧V.cer=vp++[[.int .i64 n.kind,V.lp,V.li,.int .i64 n.kids]]∧Rel2 (NdR g) vp pre∧inI n.kind∧inI n.kids∧V.lpr=n.prec.map qAf∧(∀ x∈n.prec,inP x)∧LastI g V.lm V.lir V.lmr n.ints
def bkL (bp:Nat) (tl:List Value) (V:BkV) (g:H) (B:Bk) (R:List Res):List Res :=
 qQn bp ([V.sg,V.ru,V.eq,V.pr,V.ce,V.co]++tl)::frzR g::bufK 2 V.sg (qVv (toSy B.sig))::bufK 2 V.ru V.rur::bufK 2 V.eq V.eqr::bufK 2 V.pr (B.prec.map qAf)::bufK 4 V.ce V.cer::bufK 2 V.co V.cor::bufK 2 V.lp V.lpr::bufK 2 V.li V.lir::bufK 2 V.lm V.lmr::R
structure BkI (g:H) (V:BkV) (B:Bk):Prop where
 ru:Rel2 (RuB g) V.rur B.rules
 eq:Rel2 (RuB g) V.eqr B.eqs
 pr:∀ x∈B.prec,inP x
 ce:LastN g V B.cert
 co:Rel2 (CmR g) V.cor B.cmds
structure Sm (N:Nat) (B:Bk):Prop where
 sig:B.sig.length≤64
 ar:ArOk (toSy B.sig)
 nm:∀ x∈B.sig,x.1.length≤65536
 rules:B.rules.length≤64
 eqs:B.eqs.length≤64
 prec:B.prec.length≤N
 cert:B.cert.length≤N
 cmds:B.cmds.length≤N
 nd:∀ n∈B.cert,n.prec.length≤N∧n.ints.length≤N∧∀ i∈n.ints,i.p.length≤N
theorem LastI.ext {lm:Value} {lir lmr:List (List Value)} {l:List It} (e:Ext g g'):LastI g lm lir lmr l→LastI g' lm lir lmr l:=fun o=>o.imp id fun ⟨pre,i,vp,h1,h2,h3,h4,h5⟩=>⟨pre,i,vp,h1,h2,h3.mono fun _ _=>ItR.ext e,h4,h5.mono fun _ _=>MoR.ext e⟩
theorem LastN.ext {V:BkV} {l:List Nd} (e:Ext g g'):LastN g V l→LastN g' V l:=fun o=>o.imp id fun ⟨pre,n,vp,h1,h2,h3,h4,h5,h6,h7,h8⟩=>⟨pre,n,vp,h1,h2,h3.mono fun _ _=>NdR.ext e,h4,h5,h6,h7,h8.ext e⟩
theorem BkI.ext {V:BkV} {B:Bk} (b:BkI g V B) (e:Ext g g'):BkI g' V B:=⟨b.ru.mono fun _ _=>RuB.ext e,b.eq.mono fun _ _=>RuB.ext e,b.pr,b.ce.ext e,b.co.mono fun _ _=>CmR.ext e⟩
theorem qXq (sig:Sg):(toSy sig).length=sig.length:=by simp [toSy]
theorem Sm.sr {N:Nat} {B:Bk} (s:Sm N B) {v:Value} (r:RowK 2 h v (qVv (toSy B.sig))):Sr h v (toSy B.sig):=⟨r,by rw [qXq]; have:=s.sig; omega,fun x hx=>by
 unfold toSy at hx
 obtain ⟨y,hy,rfl⟩:=List.mem_map.mp hx
 have:=s.nm y hy
 show (strB y.1).size<_
 rw [qXv]; omega⟩
end Go.Proofs.YtkdneddcocggdaaGreatDoor.Am
namespace Go.Proofs.Sp
open Go Go.Lib Sys
def xVn (w:Bs):Int:=if w∈kinds then (kinds.idxOf w:Int) else -1
theorem xPz (w:Bs):(0<xVn w↔0<qEf w)∧(0<qEf w→xVn w=qEf w):=by
 unfold xVn qEf
 split <;> (constructor <;> intros <;> omega)
theorem xZq {sig:Sg} {s:Bs} {l:List Int} (h:qWj sig s=.ok l):qZn sig l∧l.length≤s.length+1:=by
 refine ⟨(qFq h).term,?_⟩
 unfold qWj at h
 split at h
 ·cases h
 ·rename_i u r hr
  split at h
  ·rename_i h0
   injection h with h
   subst h; subst h0
   have:=qLa _ _ _ _ hr
   simpa using this
  ·cases h
end Go.Proofs.Sp
namespace Go.Proofs.YtkdneddcocggdaaGreatDoor.Am
open Go Go.Proofs Go.RowKit Go.Lib Sys Sp
set_option maxRecDepth 100000
variable {D:Orc} {h h' h0 g g':H} {k:Kv} {kp:Kp} {L R:List Res}
structure Wr (h:H) (v:Value) (w:List Bs):Prop where
 row:Row h v (w.map fun x=>Value.string (strB x))
 len:w.length<2 ^ 30
 each:∀ x∈w,x.length<2 ^ 30
theorem Wr.ext {v:Value} {w:List Bs} (r:Wr h v w) (e:Ext h h'):Wr h' v w:=⟨r.row.ext e,r.len,r.each⟩
theorem Wr.len_ {v:Value} {w:List Bs} (r:Wr h v w) {K:Nat→Prop}:lenW v K↔K w.length:=by rw [r.row.len,List.length_map]
theorem Wr.at_ {v:Value} {w:List Bs} (r:Wr h v w) {i:Nat} (hi:i<w.length) {K:Addr→Prop} (hK:∀ ad,rd h ad=some (.string (strB (at1 w i)))→K ad):qQm v (i:Int) 1 K:=by
 refine r.row.at_ (by omega) (by rw [List.length_map]; omega) fun ad x hx hrd=>hK ad ?_
 rw [Int.toNat_natCast,List.getElem?_map,List.getElem?_eq_getElem hi] at hx
 have:at1 w i=w[i]:=by unfold at1; rw [List.getElem?_eq_getElem hi]; rfl
 rw [this,hrd,← Option.some.inj hx]
theorem Wr.word {v:Value} {w:List Bs} (r:Wr h v w) (i:Nat):(at1 w i).length<2 ^ 30:=by
 unfold at1
 cases hx:w[i]? with
 | none=>simp
 | some x=>exact r.each x (List.mem_of_getElem? hx)
theorem qCi (s t:ByteArray):(s.toList==t.toList)=(bts s==bts t):=by rw [qQw,qQw]
def qMv (D:Orc) (f:Nat):Prop:=∀ (w:List Bs) (v:Value) (n:Nat) (mid:ByteArray) h (k:Kv) kp,Wr h v w→(bts mid=[]∨2<n) →
 (w.length=n→(bts mid=[]∨at1 w 2=bts mid)→k (.tuple #[]) h)→(¬ (w.length=n∧(bts mid=[]∨at1 w 2=bts mid))→kp (chain 222) h)→D f [v,.int .i64 (n:Int),.string mid] h k kp
theorem xHj (c:Cl88 D) (cm:Cl28 D):qMv D 88:=by
 intro w v n mid h k kp hw hn hk1 hk2
 refine c _ _ _ _ _ _ ?_
 unfold F88
 rw [qQa,qQb,hw.len_,qZf]
 refine ⟨fun hl=>?_,fun hl=>qQl cm (fun hh=>by cases hh) fun _=>hk2 fun hh=>hl (by omega)⟩
 have hl:w.length=n:=by omega
 rw [qKj,qQx,qQd]
 refine ⟨fun h0=>qQl cm (fun _=>⟨rfl,hk1 hl (.inl h0)⟩) (fun hh=>by cases hh),fun h0=>?_⟩
 refine hw.at_ (i:=2) (by rcases hn with hn | hn <;> first | exact absurd hn h0 | omega) fun ad hrd=>⟨_,hrd,?_⟩
 rw [qCi,qQv]
 refine qQl cm (fun hh=>⟨rfl,hk1 hl (.inr (eq_of_beq hh))⟩) fun hh=>hk2 fun hx=>?_
 rcases hx.2 with hx | hx
 ·exact h0 hx
 ·rw [hx] at hh; simp at hh
def qMr (D:Orc) (f:Nat):Prop:=∀ (w:ByteArray) h (k:Kv) kp,(∀ h',Ext h h'→k (.int .i64 (xVn (bts w))) h')→D f [.string w] h k kp
theorem xVq {sv:Value} {w:ByteArray} {l:List Bs} (hl:l.length<2 ^ 30) (r:Row h sv (l.map fun x=>Value.string (strB x))) {K:Kl} (hK1:bts w∈l→K .r [.int .i64 (l.idxOf (bts w):Int)] h) (hK2:bts w ∉ l→K (.e 0) [] h) :
  loop126_2 D [sv,.string w,.int .i64 (l.length:Int),.int .i64 0] h K:=by
 intro I hI
 have key:∀ d i:Nat,i+d=l.length→bts w ∉ l.take i→I [sv,.string w,.int .i64 (l.length:Int),.int .i64 (i:Int)] h:=by
  intro d
  induction d with
  | zero =>
   intro i hi hn
   refine hI _ _ _ _ _ ?_
   unfold round126_2
   rw [qQb,qQa,qQa,qQd]
   refine ⟨fun h=>by omega,fun _=>hK2 ?_⟩
   rw [List.take_of_length_le (by omega)] at hn; exact hn
  | succ d ih =>
   intro i hi hn
   refine hI _ _ _ _ _ ?_
   unfold round126_2
   rw [qQb,qQa,qQa,qQd]
   refine ⟨fun _=>?_,fun h=>by omega⟩
   have hil:i<l.length:=by omega
   refine r.at_ (by omega) (by rw [List.length_map]; omega) fun ad x hx hrd=>?_
   rw [Int.toNat_natCast,List.getElem?_map,List.getElem?_eq_getElem hil] at hx
   obtain rfl:=Option.some.inj hx
   refine ⟨_,hrd,?_⟩
   rw [qCi,qQv]
   have hsp:l=l.take i++l[i]::l.drop (i+1):=by rw [← List.drop_eq_getElem_cons hil,List.take_append_drop]
   cases he:bts w==l[i] with
   | true =>
    have he:=eq_of_beq he
    have hidx:l.idxOf (bts w)=i:=by
     rw [hsp,List.idxOf_append,if_neg hn,← he,List.idxOf_cons_self]
     simp; omega
    have:=hK1 (by rw [he]; exact List.getElem_mem hil)
    rw [hidx] at this
    exact this
   | false =>
    rw [cond_false,qQr (by omega) (by omega)]
    have e2:(i:Int)+1=((i+1:Nat):Int):=by omega
    rw [e2]
    refine ih (i+1) (by omega) ?_
    rw [List.take_add_one,List.getElem?_eq_getElem hil]
    simp only [Option.toList,List.mem_append,List.mem_singleton,not_or]
    exact ⟨hn,fun e=>by rw [e] at he; simp at he⟩
 exact key l.length 0 (by omega) (by simp)
theorem xHe (c:Cl93 D) (ci:Cl126 D):qMr D 93:=by
 intro w h k kp hk
 refine c _ _ _ _ ?_
 unfold F93
 rw [qQb]
 refine ⟨rfl,by decide,rfl,by decide,rfl,by decide,rfl,by decide,rfl,by decide,rfl,by decide,?_⟩
 refine (Hp.nil_ h).newSlN (ws:=kinds.map fun x=>Value.string (strB x)) rfl fun s h1 o=>?_
 refine ci _ _ _ _ _ ?_
 unfold F126
 have r:=o.row (i:=0) rfl
 rw [qQb,r.len,List.length_map]
 refine xVq (l:=kinds) (by decide) r (fun hm=>?_) fun hm=>?_
 ·rw [xs_r,nth0,qQa]
  refine ⟨_,rfl,?_⟩
  have:=hk h1 o.ext
  unfold xVn at this
  rw [if_pos hm] at this
  exact this
 ·rw [xs_e]
  show cond true _ _
  rw [cond_true]
  refine ⟨_,rfl,?_⟩
  have:=hk h1 o.ext
  unfold xVn at this
  rw [if_neg hm] at this
  exact this
theorem qOv (s:ByteArray):qWg s=((bts s).getLast?==some 35):=by
 unfold qWg
 rw [Bool.eq_iff_iff,Bool.and_eq_true,decide_eq_true_eq,beq_iff_eq,beq_iff_eq,List.getLast?_eq_getElem?]
 have hl:(bts s).length=s.size:=rfl
 constructor
 ·rintro ⟨h1,h2⟩
  rw [hl,get!_eq s _ (by omega)]
  congr 1
  exact UInt8.toNat_inj.mp (by have:(35:UInt8).toNat=35:=rfl; omega)
 ·intro h1
  have:=(List.getElem?_eq_some_iff.mp h1).1
  refine ⟨by omega,?_⟩
  rw [hl,get!_eq s _ (by omega)] at h1
  rw [Option.some.inj h1]; rfl
def qHc (D:Orc) (f:Nat):Prop:=∀ (sig:List Sy) (b:Nat) (sg:Value) (l:List Value) (w:ByteArray) (marked:Bool) h (k:Kv) kp,h b=some (.cells (sg::l))→Sr h sg sig→sig.length≤64→w.size<2 ^ 40 →
 (∀ c h',Ext h h'→qWf (S2 sig) (bts w) marked=some c→inI c→k (.int .i64 c) h')→(∀ h',Ext h h'→qWf (S2 sig) (bts w) marked=none→kp (chain 223) h')→D f [Pt b,.string w,.bool marked] h k kp
theorem xCo {l:List Bs} {s:Bs} {c:Nat} (h:symI l s=some c):c<l.length:=(List.getElem?_eq_some_iff.mp (qFf h)).1
theorem xHf (c:Cl92 D) (cm:Cl28 D) (ss:qGv D 89) (c1:Cl125 D) (c2:Cl153 D) (c74:Cl99 D)
  : qHc D 92:=by
 intro sig b sg l w marked h k kp hb hs h64 hw hk1 hk2
 refine c _ _ _ _ _ _ ?_
 unfold F92
 rw [qQb,qQc]
 refine ⟨rfl,ld2 hb rfl ?_⟩
 refine ss sg sig w _ _ _ hs fun h1 e1=>⟨_,rfl,?_⟩
 have hnl:(nmOf sig).length=sig.length:=by unfold nmOf; rw [List.length_map,qRj]
 have hkn:qWf (S2 sig) (bts w) marked=match symI (nmOf sig) (bts w) with
   | some c=>some (c:Int)
   | none=>if marked && (bts w).getLast?==some 35 then (symI (nmOf sig) (bts w).dropLast).map (fun c=>((c+sig.length:Nat):Int)) else none:=by
  unfold qWf nmOf
  rw [qRj]
  cases symI ((S2 sig).map (·.1)) (bts w) <;> rfl
 have fin:∀ x:Int,∀ h2,Ext h h2→(0≤x→qWf (S2 sig) (bts w) marked=some x∧inI x)→(¬ 0≤x→qWf (S2 sig) (bts w) marked=none)→j92__7 D k kp (.int .i64 x) h2:=fun x h2 e2 hx1 hx2=>by
  unfold j92__7
  rw [qQa]
  refine qQl cm (fun hh=>⟨rfl,?_⟩) fun hh=>?_
  ·obtain ⟨a1,a2⟩:=hx1 (of_decide_eq_true hh)
   exact hk1 x h2 e2 a1 a2
  ·exact hk2 h2 e2 (hx2 (of_decide_eq_false hh))
 refine c1 _ _ _ _ _ ?_
 unfold F125
 rw [qQb,qQb]
 refine c2 _ _ _ _ _ ?_
 unfold F153
 rw [qQb,qQb]
 refine xCp c74 (by omega) ⟨_,rfl,?_⟩
 have hwl:(bts w).length=w.size:=rfl
 have goal:∀ (t:ByteArray) (is:Bool),is=qWg w→(is=true→bts t=(bts w).dropLast)→cond (decide (symV (symI (nmOf sig) (bts w))<(0:Int))) (cond marked (
j92__4 D k kp (Pt b) (.int .i64 (symV (symI (nmOf sig) (bts w)))) (.string t) (.bool is) h1) (
j92__4 D k kp (Pt b) (.int .i64 (symV (symI (nmOf sig) (bts w)))) (.string t) (.bool false) h1)) (
j92__4 D k kp (Pt b) (.int .i64 (symV (symI (nmOf sig) (bts w)))) (.string t) (.bool false) h1):=fun t is his ht=>by
  have plain:(marked && (bts w).getLast?==some 35)=false∨symI (nmOf sig) (bts w)≠none→j92__4 D k kp (Pt b) (.int .i64 (symV (symI (nmOf sig) (bts w)))) (.string t) (.bool false) h1:=fun hp=>by
   unfold j92__4
   rw [qQa,qQb,qQc,cond_false]
   refine fin _ h1 e1 (fun h0=>?_) fun h0=>?_
   ·cases hs2:symI (nmOf sig) (bts w) with
    | none=>rw [hs2] at h0; unfold symV at h0; dsimp only at h0; omega
    | some c =>
     have:=xCo hs2
     rw [hkn,hs2]
     refine ⟨rfl,?_⟩
     unfold symV inI; dsimp only; omega
   ·cases hs2:symI (nmOf sig) (bts w) with
    | none =>
     rw [hkn,hs2]
     rcases hp with hp | hp
     ·dsimp only; rw [hp]; rfl
     ·exact absurd hs2 hp
    | some c=>rw [hs2] at h0; unfold symV at h0; dsimp only at h0; omega
  rw [qQd]
  refine ⟨fun hneg=>?_,fun hpos=>plain (.inr fun hs2=>hpos (by rw [hs2]; show (-1:Int)<0; omega))⟩
  have hs2:symI (nmOf sig) (bts w)=none:=by
   cases hs2:symI (nmOf sig) (bts w) with
   | none=>rfl
   | some c=>rw [hs2] at hneg; unfold symV at hneg; dsimp only at hneg; omega
  cases marked with
  | false=>exact plain (.inl rfl)
  | true =>
   rw [cond_true]
   rw [qOv] at his
   cases hlast:((bts w).getLast?==some 35) with
   | false =>
    rw [hlast] at his
    subst his
    exact plain (.inl (by rw [hlast]; rfl))
   | true =>
    rw [hlast] at his
    subst his
    have ht:=ht rfl
    unfold j92__4
    rw [qQa,qQb,qQc,cond_true]
    refine ⟨rfl,ld2 (e1 _ _ hb) rfl ?_⟩
    refine ss sg sig t _ _ _ (hs.ext e1) fun h2 e2=>⟨_,rfl,?_⟩
    rw [ht,qQd]
    rw [hs2,hlast,Bool.and_self,if_pos rfl] at hkn
    refine ⟨fun hge=>?_,fun hlt=>?_⟩
    ·refine ⟨rfl,ld2 ((e1.trans e2) _ _ hb) rfl ?_⟩
     rw [(hs.ext (e1.trans e2)).row.len,qXd]
     cases hs3:symI (nmOf sig) (bts w).dropLast with
     | none=>rw [hs3] at hge; unfold symV at hge; dsimp only at hge; omega
     | some c =>
      have:=xCo hs3
      rw [hs3] at hkn
      unfold symV
      dsimp only
      rw [qQr (by omega) (by omega)]
      refine fin _ h2 (e1.trans e2) (fun _=>⟨?_,by unfold inI; omega⟩) fun h=>by omega
      rw [hkn]
      show some _=some _
      congr 1
    ·refine fin _ h2 (e1.trans e2) (fun h=>absurd h hlt) fun _=>?_
     cases hs3:symI (nmOf sig) (bts w).dropLast with
     | none=>rw [hkn,hs3]; rfl
     | some c=>rw [hs3] at hlt; unfold symV at hlt; dsimp only at hlt; omega
 rw [qQx,qVk]
 refine ⟨fun he=>?_,fun he=>⟨_,_,rfl,_,_,rfl,goal w false he.symm (fun h=>by cases h)⟩⟩
 have hpos:0<w.size:=by
  unfold qWg at he
  simp only [Bool.and_eq_true,decide_eq_true_eq] at he
  exact he.1
 rw [qQr (by show -9223372036854775808≤(w.size:Int) - ((1:Nat):Int); omega) (by show (w.size:Int) - ((1:Nat):Int)≤_; omega)]
 refine qVh (by show 0≤(w.size:Int) - ((1:Nat):Int); omega) (by show (w.size:Int) - ((1:Nat):Int)≤_; omega) fun t ht=>⟨_,_,rfl,_,_,rfl,goal t true he.symm fun _=>?_⟩
 rw [ht,List.dropLast_eq_take]
 congr 1
 show ((w.size:Int) - ((1:Nat):Int)).toNat=_
 omega
end Go.Proofs.YtkdneddcocggdaaGreatDoor.Am
namespace Go.Proofs.YtkdneddcocggdaaGreatDoor.Am
open Go Go.Proofs Nats
def qDv (D:Orc) (f:Nat):Prop:=∀ s l h k kp,Nr h s l→k (qJm s (limbs (val l)).length) h→D f [s] h k kp
theorem qDe {l:List Nat} (ok:Ok l) {k:Nat} (hz:∀ j,k≤j→∀ x,l[j]?=some x→x=0) (hk:k=0∨∃ x,l[k - 1]?=some x∧x≠0) (hle:k≤l.length):k=(limbs (val l)).length:=by
 rw [← qKz ok hz hk hle,List.length_take,Nat.min_eq_left hle]
theorem qDm {l:List Nat} (ok:Ok l):(limbs (val l)).length≤l.length∧l.take (limbs (val l)).length=limbs (val l):=by
 have key:∀ n,n≤l.length→(∀ j,n≤j→∀ x,l[j]?=some x→x=0)→(limbs (val l)).length≤l.length∧l.take (limbs (val l)).length=limbs (val l):=by
  intro n
  induction n with
  | zero =>
   intro hn hz
   have h1:=qDe ok hz (.inl rfl) hn
   have h2:=qKz ok hz (.inl rfl) hn
   rw [← h1]; exact ⟨hn,by rw [h2]⟩
  | succ n ih =>
   intro hn hz
   have hx:l[n]?=some l[n]:=List.getElem?_eq_getElem (by omega)
   by_cases h0:l[n]=0
   ·refine ih (by omega) fun j hj x hx'=>?_
    by_cases hjn:j=n
    ·subst hjn; rw [hx] at hx'; simp at hx'; omega
    ·exact hz j (by omega) x hx'
   ·have hk:n+1=0∨∃ x,l[n+1 - 1]?=some x∧x≠0:=.inr ⟨_,hx,h0⟩
    have h1:=qDe ok hz hk hn
    have h2:=qKz ok hz hk hn
    rw [← h1]; exact ⟨hn,by rw [h2]⟩
 exact key l.length (Nat.le_refl _) fun j hj x hx=>by rw [List.getElem?_eq_none hj] at hx; cases hx
theorem Nr.cut {h:H} {s:Value} {l:List Nat} (r:Nr h s l) {n:Nat} (hn:n≤l.length):Nr h (qJm s n) (l.take n) :=
 ⟨by have:=r.row.cut (n:=n) (by rw [qEk]; exact hn); rw [xXp] at this; exact this,r.ok.take n,by have:=r.small; rw [List.length_take]; omega⟩
theorem Nr.trim {h:H} {s:Value} {l:List Nat} (r:Nr h s l):Nr h (qJm s (limbs (val l)).length) (limbs (val l)):=by
 have:=r.cut (qDm r.ok).1
 rw [(qDm r.ok).2] at this; exact this
theorem Nr.upto {h:H} {s:Value} {l:List Nat} (r:Nr h s l) {n:Int} (h0:0≤n) (h1:n≤l.length) {k:Value→Prop} (hk:k (qJm s n.toNat)):qXy s none (some n) none 1 k :=
 r.row.upto' h0 (by rw [qEk]; exact h1) hk
theorem xFc {D:Orc} (c:Cl131 D):qDv D 131:=by
 intro s l h k kp r hk
 refine c _ _ _ _ ?_
 unfold F131
 rw [r.len]
 intro I hI
 have key:∀ n:Nat,n≤l.length→(∀ j,n≤j→∀ x,l[j]?=some x→x=0)→I [s,.int .i64 (n:Int)] h:=by
  intro n
  induction n with
  | zero =>
   intro hn hz
   refine hI _ _ _ ?_
   unfold round131_2
   rw [qQa,qQd]
   refine ⟨fun x=>absurd x (by decide),fun _=>?_⟩
   simp only [xs_e,nth0,nth1,qQa,Nat.beq_refl,cond_true]
   refine r.upto (by omega) (by omega) ?_
   have:=qDe r.ok hz (.inl rfl) hn
   simpa [← this] using hk
  | succ n ih =>
   intro hn hz
   have:=r.small
   refine hI _ _ _ ?_
   unfold round131_2
   rw [qQa,qQd]
   refine ⟨fun _=>?_,fun x=>absurd (show ((n+1:Nat):Int)>0 by omega) x⟩
   rw [qQr (by omega) (by omega),show ((n+1:Nat):Int) - 1=(n:Int) by omega]
   refine r.at_ (by omega) (by omega) fun a x hx _ ha=>⟨_,ha,?_⟩
   rw [Int.toNat_natCast] at hx
   rw [qZf]
   refine ⟨fun h0=>ih (by omega) fun j hj y hy=>?_,fun h0=>?_⟩
   ·by_cases hjn:j=n
    ·subst hjn; rw [hx] at hy; simp at hy; omega
    ·exact hz j (by omega) y hy
   ·simp only [xs_e,nth0,nth1,qQa,Nat.beq_refl,cond_true]
    refine r.upto (by omega) (by omega) ?_
    have:=qDe (k:=n+1) r.ok hz (.inr ⟨x,hx,by omega⟩) hn
    rw [Int.toNat_natCast,this]; exact hk
 exact key l.length (Nat.le_refl _) fun j hj x hx=>by rw [List.getElem?_eq_none hj] at hx; cases hx
structure Nb (h0 h:H) (s:Value) (l:List Nat):Prop where
 ext:Ext h0 h
 buf:Buf h0 h s (U l)
 ok:Ok l
 small:l.length<2 ^ 40
theorem Nb.nr {h0 h:H} {s:Value} {l:List Nat} (r:Nb h0 h s l):Nr h s l:=⟨r.buf.row,r.ok,r.small⟩
theorem Nb.cut {h0 h:H} {s:Value} {l:List Nat} (r:Nb h0 h s l) {n:Nat} (hn:n≤l.length):Nb h0 h (qJm s n) (l.take n) :=
 ⟨r.ext,by have:=r.buf.cut (n:=n) (by rw [qEk]; exact hn); rw [xXp] at this; exact this,r.ok.take n,r.nr.cut hn |>.small⟩
theorem Nb.trim {h0 h:H} {s:Value} {l:List Nat} (r:Nb h0 h s l):Nb h0 h (qJm s (limbs (val l)).length) (limbs (val l)):=by
 have:=r.cut (qDm r.ok).1
 rw [(qDm r.ok).2] at this; exact this
theorem Nb.put {h0 h:H} {s:Value} {l:List Nat} (r:Nb h0 h s l) {T O:Prop} (hT:T) (hO:O) {n:Int} (i:Nat) (hn:n=(i:Int)) (hi:i<l.length) {v:Value} {x:Nat} (hv:v=.int .u32 (x:Int)) (hx:x<B) {K:H→Prop} (hk:∀ h',Nb h0 h' s (l.set i x)→K h') :
  qQm s n 1 (fun a=>O∧T∧∃ h',wr1 h a v=some h'∧K h'):=by
 subst hn hv
 refine r.buf.put (by rw [qEk]; exact hi) fun a h' hw he hb=>⟨hO,hT,h',hw,hk h' ⟨he h0 r.ext fun _ h=>h,?_,r.ok.set hx,by simpa using r.small⟩⟩
 rw [U_set] at hb; exact hb
theorem Nb.nil_ {h0 h:H} (e:Ext h0 h):Nb h0 h (.slice none 0 0) []:=⟨e,.inl ⟨⟨none,rfl⟩,rfl⟩,fun _ h=>by simp at h,by decide⟩
theorem Nb.len {h0 h:H} {s:Value} {l:List Nat} (r:Nb h0 h s l) {k:Nat→Prop}:lenW s k↔k l.length:=r.nr.len
theorem xPs {h:H} {m:Int} (n:Nat) (hm:m=(n:Int)) (hn:n<2 ^ 40) {k:Kv} (hk:∀ s h',Nb h h' s (List.replicate n 0)→k s h'):qKa h 4 [(Value.int IntKind.u32 (0:Int))] m m k:=by
 subst hm
 refine ⟨by omega,by omega,by omega,by omega,fun b hb=>hk _ _ ⟨Ext.new hb,?_,xKv n,by simpa using hn⟩⟩
 have hb':=hb
 clear hk
 have e:(List.replicate (n:Int).toNat [(Value.int IntKind.u32 (0:Int))]).flatten=U (List.replicate n 0):=by
  rw [Int.toNat_natCast]
  simp only [U,List.map_replicate]
  induction n with
  | zero=>rfl
  | succ n ih=>rw [List.replicate_succ,List.flatten_cons,ih (by omega),List.replicate_succ]; rfl
 rw [e]
 exact Buf.cells hb' qQf (by simp [U])
theorem U_all (l:List Nat):(U l).all one=true:=by simp [U,one]
theorem xLp (l:List Nat) (n:Nat):(U l).drop n=U (l.drop n):=by simp [U,List.map_drop]
theorem xFz {o:List Nat} {n:Nat} (ok:Ok o) (ho:o.length=n+1) (hv:B ^ n≤val o):o.getLast?≠some 0:=by
 intro h0
 rw [List.getLast?_eq_getElem?,ho] at h0
 have h1:val o=val (o.take n)+B ^ n*dig o n:=by rw [← qZv,qDc (by omega)]
 have h2:dig o n=0:=by rw [qOx (x:=0) (by simpa using h0)]
 rw [h2,Nat.mul_zero,Nat.add_zero] at h1
 have:=qRn ok n
 omega
theorem qGb {v n:Nat} (h:(limbs v).length=n+1):B ^ n≤v:=by
 have h1:=qIg v
 have hv:=qWx v
 have e:val (limbs v)=val ((limbs v).take n)+B ^ n*dig (limbs v) n:=by rw [← qZv,qDc (by omega)]
 have hx:(limbs v)[n]?=some ((limbs v)[n]'(by omega)):=List.getElem?_eq_getElem (by omega)
 have hd:dig (limbs v) n≠0:=by
  rw [qOx hx]
  intro h0
  rw [h0] at hx
  rcases h1 with h1 | h1
  ·rw [h1] at h; simp at h
  ·exact h1 (by rw [List.getLast?_eq_getElem?,h]; simpa using hx)
 have:B ^ n*1≤B ^ n*dig (limbs v) n:=Nat.mul_le_mul_left _ (by omega)
 omega
theorem xYo {v d c:Nat} {o:List Nat} (ok:Ok o) (ho:o.length=(limbs v).length) (hc:c<B) (h:val o+B ^ (limbs v).length*c=d+10*v):(if 0<c then o++[c] else o)=limbs (10*v+d):=by
 have hv:val (if 0<c then o++[c] else o)=10*v+d:=by
  by_cases h0:0<c
  ·rw [if_pos h0,qJe,ho]; simp only [val,Nat.mul_zero,Nat.add_zero]; omega
  ·rw [if_neg h0]
   have:c=0:=by omega
   subst this; omega
 rw [← hv]
 refine qYq ?_ ?_
 ·by_cases h0:0<c
  ·rw [if_pos h0]
   intro x hx
   rcases List.mem_append.mp hx with hx | hx
   ·exact ok x hx
   ·simp only [List.mem_singleton] at hx; omega
  ·rw [if_neg h0]; exact ok
 ·by_cases h0:0<c
  ·rw [if_pos h0]
   refine .inr ?_
   rw [List.getLast?_append]
   simp; omega
  ·rw [if_neg h0]
   cases hn:(limbs v).length with
   | zero=>exact .inl (List.length_eq_zero_iff.mp (by omega))
   | succ n =>
    refine .inr (xFz (n:=n) ok (by omega) ?_)
    have:=qGb hn
    have hc0:c=0:=by omega
    subst hc0
    omega
theorem xVi {v w:Nat} (h:v≤w):(limbs v).length≤(limbs w).length:=by
 cases hn:(limbs v).length with
 | zero=>omega
 | succ n =>
  have h1:=qGb hn
  have h2:=xWz (qLe w)
  rw [qWx] at h2
  have h3:B ^ n<B ^ (limbs w).length:=by omega
  have:=(Nat.pow_lt_pow_iff_right (by decide)).mp h3
  omega
theorem xKe {x c t:Nat} (hc:c<10) (hx:x<B) (ht:t=c+10*x):t / B<10:=by
 subst ht
 have hx:x<4294967296:=hx
 show (c+10*x) / 4294967296<10
 omega
theorem qSc {D:Orc} {h0:H} {t:ByteArray} {a:Value} {l:List Nat} {i d:Nat} (hl:l.length≤64) (hd:d<10) {K:Kl}
  (hK:∀ h2 o c,Nb h0 h2 a o→o.length=l.length→c<10→val o+B ^ l.length*c=d+10*val l→K (.e 2) [.string t,a,.int .i64 (i:Int),.int .u64 (c:Int)] h2)
  {h1:H} (nb:Nb h0 h1 a l) :
  loop127_9 D [.string t,a,.int .i64 (i:Int),.int .u64 (d:Int),a,.int .i64 (l.length:Int),.int .i64 (0:Int)] h1 K:=by
 intro I hI
 have hB:B=4294967296:=rfl
 have key:∀ e k:Nat,∀ (o:List Nat) (c:Nat) (h2:H),k+e=l.length→o.length=l.length→Nb h0 h2 a o→c<10→(∀ j,k≤j→o[j]?=l[j]?) →
   val (o.take k)+B ^ k*c=d+10*val (l.take k)→I [.string t,a,.int .i64 (i:Int),.int .u64 (c:Int),a,.int .i64 (l.length:Int),.int .i64 (k:Int)] h2:=by
  intro e
  induction e with
  | zero =>
   intro k o c h2 hk ho nb hc hj hv
   refine hI _ _ _ _ _ _ _ _ ?_
   unfold round127_9
   simp only [qQa,qQb]
   rw [qQd]
   refine ⟨fun x=>absurd x (by omega),fun _=>?_⟩
   have hk':k=l.length:=by omega
   subst hk'
   rw [qDc (l:=o) (by omega),qDc (l:=l) (by omega)] at hv
   exact hK _ _ _ nb ho hc hv
  | succ e ih =>
   intro k o c h2 hk ho nb hc hj hv
   refine hI _ _ _ _ _ _ _ _ ?_
   unfold round127_9
   simp only [qQa,qQb]
   rw [qQd]
   refine ⟨fun _=>?_,fun x=>absurd (show (k:Int)<(l.length:Int) by omega) x⟩
   refine nb.nr.at_ (by omega) (by omega) fun p x hx hxB ha=>⟨_,ha,?_⟩
   rw [Int.toNat_natCast] at hx
   have e2:IntKind.wrap .u64 ((c:Int)+IntKind.wrap .u64 ((10:Int)*IntKind.wrap .u64 (x:Int)))=((c+10*x:Nat):Int):=by
    rw [qWy (n:=(x:Int)) (by omega) (by omega),qWy (n:=(10:Int)*(x:Int)) (by omega) (by omega),qWy (by omega) (by omega)]
    omega
   rw [e2]
   refine nb.put (by trivial) (by trivial) (x:=(c+10*x) % B) k rfl (by omega) (by rw [xDh]; rfl) (Nat.mod_lt _ (by decide)) (fun h3 nb3=>?_)
   refine ⟨by decide,?_⟩
   rw [shr32,qQr (by omega) (by omega)]
   have:=ih (k+1) (o.set k ((c+10*x) % B)) ((c+10*x) / B) h3 (by omega) (by simpa using ho) nb3 (xKe hc hxB rfl) (fun j hjk=>by
     rw [List.getElem?_set,if_neg (by omega)]; exact hj j (by omega)) (by
     have hlx:l[k]?=some x:=by rw [← hj k (Nat.le_refl _)]; exact hx
     rw [qNb (by omega),qZv,qOx hlx,Nat.pow_succ,xWa hv rfl,Nat.mul_add,Nat.mul_left_comm 10]
     omega)
   simpa [hB] using this
 exact key l.length 0 l d h1 (by omega) rfl nb hd (fun _ _=>rfl) (by simp [val])
def qXu (b:UInt8):Bool:=decide (48≤b.toNat) && decide (b.toNat≤57)
def dec (l:List UInt8):Nat:=l.foldl (fun v b=>10*v+(b.toNat - 48)) 0
def qEp (l:List UInt8):Bool:=match l with
 | []=>false
 | x::r=>(!(x==48) || r.isEmpty) && (x::r).all qXu
def qWk (l:List UInt8):List Nat × Int:=if qEp l then (if (limbs (dec l)).length≤64 then (limbs (dec l),0) else ([],2)) else ([],11)
theorem xBx (l:List UInt8) (b:UInt8):dec (l++[b])=10*dec l+(b.toNat - 48):=by simp [dec]
theorem qKk {l:List UInt8} {i:Nat} {b:UInt8} (h:l[i]?=some b):dec (l.take (i+1))=10*dec (l.take i)+(b.toNat - 48):=by
 rw [List.take_add_one,h]; exact xBx _ _
theorem qGn (l:List UInt8):∀ d i,i+d=l.length→dec (l.take i)≤dec l
 | 0,i,h=>by rw [List.take_of_length_le (by omega)]; omega
 | d+1,i,h=>by
  have h1:=qGn l d (i+1) (by omega)
  rw [qKk (List.getElem?_eq_getElem (show i<l.length by omega))] at h1
  omega
def qGz (D:Orc) (f:Nat):Prop:=∀ (s:ByteArray) h (k:Kv) kp,s.size<2 ^ 62 →
 (∀ a h',Nb h h' a (qWk (bts s)).1→k (.tuple #[a,.int .i64 (qWk (bts s)).2]) h')→D f [.string s] h k kp
theorem qIk:bts (ByteArray.mk #[48,49,50,51,52,53,54,55,56,57])=[48,49,50,51,52,53,54,55,56,57]:=rfl
theorem qOo:xBi (ByteArray.mk #[48,49,50,51,52,53,54,55,56,57])=qXu:=by
 funext x
 unfold xBi qXu
 rw [qIk,Bool.eq_iff_iff]
 simp only [List.any_cons,List.any_nil,Bool.or_false,Bool.or_eq_true,beq_iff_eq,Bool.and_eq_true,decide_eq_true_eq]
 have e:∀ n:Nat,n<256→(UInt8.ofNat n).toNat=n:=fun n hn=>by simp [Nat.mod_eq_of_lt hn]
 have h48:(48:UInt8).toNat=48:=rfl
 have h49:(49:UInt8).toNat=49:=rfl
 have h50:(50:UInt8).toNat=50:=rfl
 have h51:(51:UInt8).toNat=51:=rfl
 have h52:(52:UInt8).toNat=52:=rfl
 have h53:(53:UInt8).toNat=53:=rfl
 have h54:(54:UInt8).toNat=54:=rfl
 have h55:(55:UInt8).toNat=55:=rfl
 have h56:(56:UInt8).toNat=56:=rfl
 have h57:(57:UInt8).toNat=57:=rfl
 rw [h48,h49,h50,h51,h52,h53,h54,h55,h56,h57]
 omega
theorem xGn {b:UInt8} (h:qXu b=true):IntKind.wrap .u64 (IntKind.wrap .u8 ((b.toNat:Int) - (48:Int)))=((b.toNat - 48:Nat):Int)∧b.toNat - 48<10:=by
 simp only [qXu,Bool.and_eq_true,decide_eq_true_eq] at h
 refine ⟨?_,by omega⟩
 rw [IntWalk.u8_in _ (by omega),qWy (by omega) (by omega)]
 omega
theorem Nb.push {h0 h:H} {a:Value} {o:List Nat} (r:Nb h0 h a o) (hs:o.length≤64) {c:Nat} (hc:c<B) {v:Value} (hv:v=.int .u32 (c:Int)) {T O:Prop} (hT:T) (hO:O) {K:Value→H→Prop} (hK:∀ s h',Nb h0 h' s (o++[c])→K s h') :
  O∧T∧qQz h 1 [v] (fun s31 h32=>qXi s31 (fun n33=>srcW h32 1 s31 (n33) (fun w34=>apW h32 1 4 [(Value.int IntKind.u32 (0:Int))] a (n33) w34 (fun s35 h36=>K s35 h36)))):=by
 subst hv
 refine ⟨hO,hT,?_⟩
 intro b hb
 have hrow:Row (h.set b (.cells (U [c]))) (.slice (some ⟨b,0,none⟩) 1 1) (U [c]):=Row.cells qQf rfl
 rw [qVu]
 refine hrow.src (n:=1) (Nat.le_refl 1) ?_
 have e0:(U [c]).take 1=U [c]:=rfl
 rw [e0]
 have r2:Nb h0 (h.set b (.cells (U [c]))) a o:=⟨r.ext.trans (Ext.new hb),r.buf.ext (Ext.new hb),r.ok,r.small⟩
 refine r2.buf.app (ws:=U [c]) r2.ext rfl rfl (by rw [qEk]; simp [U]; omega) (by rw [qEk]; simp [U]; omega) fun s' h2 hb2 he2=>hK _ _ ⟨he2,?_,?_,by simp; omega⟩
 ·rw [xLq] at hb2; exact hb2
 ·intro x hx
  rcases List.mem_append.mp hx with hx | hx
  ·exact r.ok x hx
  ·simp only [List.mem_singleton] at hx; omega
theorem xZs {D:Orc} {h0:H} {s:ByteArray} (hs:s.size<2 ^ 62) (hd:(bts s).all qXu=true) {K:Kl}
  (hK:∀ h2 a,Nb h0 h2 a (limbs (dec (bts s)))→(limbs (dec (bts s))).length≤64→K (.e 0) [a] h2)
  (hR:∀ h2,Ext h0 h2→64<(limbs (dec (bts s))).length→K .r [.slice none 0 0,.int .i64 2] h2) {h1:H} (he:Ext h0 h1) :
  loop127_5 D [.string s,.slice none 0 0,.int .i64 (0:Int)] h1 K:=by
 intro I hI
 have hB:B=4294967296:=rfl
 have key:∀ d i:Nat,∀ (a:Value) (h2:H),i+d=s.size→Nb h0 h2 a (limbs (dec ((bts s).take i)))→(limbs (dec ((bts s).take i))).length≤64→I [.string s,a,.int .i64 (i:Int)] h2:=by
  intro d
  induction d with
  | zero =>
   intro i a h2 hi nb h64
   refine hI _ _ _ _ ?_
   unfold round127_5
   simp only [qQb,qQa]
   rw [qQd]
   refine ⟨fun x=>absurd x (by omega),fun _=>?_⟩
   rw [List.take_of_length_le (by rw [qQq]; omega)] at nb h64
   exact hK _ _ nb h64
  | succ d ih =>
   intro i a h2 hi nb h64
   refine hI _ _ _ _ ?_
   unfold round127_5
   simp only [qQb,qQa]
   rw [qQd]
   refine ⟨fun _=>?_,fun x=>absurd (show (i:Int)<(s.size:Int) by omega) x⟩
   refine qXk (by omega) (by omega) fun x hx=>?_
   rw [Int.toNat_natCast] at hx
   have hxd:qXu x=true:=List.all_eq_true.mp hd x (List.mem_of_getElem? hx)
   obtain ⟨hx1,hx2⟩:=xGn hxd
   rw [nb.len,hx1]
   refine qSc h64 hx2 (fun h3 o c nb3 ho hc hv=>?_) nb
   simp only [xs_e,nth0,nth1,nth2,nth3,qQb,qQa,Nat.beq_refl,cond_true]
   have hstep:=xYo (c:=c) (d:=x.toNat - 48) (v:=dec ((bts s).take i)) nb3.ok ho (by omega) (by rw [qWx] at hv; exact hv)
   rw [← qKk hx] at hstep
   have last:∀ a' h',Nb h0 h' a' (limbs (dec ((bts s).take (i+1))))→j127_5_17 D I K (.string s) a' (.int .i64 (i:Int)) h':=by
    intro a' h' nb'
    unfold j127_5_17
    simp only [qQb,qQa]
    rw [nb'.len,qQd]
    refine ⟨fun h5=>hR _ nb'.ext ?_,fun h5=>?_⟩
    ·have:=xVi (qGn (bts s) (s.size - (i+1)) (i+1) (by rw [qQq]; omega))
     omega
    ·rw [qQr (by omega) (by omega),show (i:Int)+1=((i+1:Nat):Int) by omega]
     exact ih (i+1) a' h' (by omega) nb' (by omega)
   rw [qQd]
   refine ⟨fun h5=>?_,fun h5=>?_⟩
   ·rw [if_pos (by omega)] at hstep
    rw [← hstep] at last
    exact nb3.push (by omega) (c:=c) (by omega) (by rw [xCn (by omega) (by omega)]) (by trivial) (by trivial) (fun a' h' nb'=>last a' h' nb')
   ·rw [if_neg (by omega)] at hstep
    rw [← hstep] at last
    exact last _ _ nb3
 have h0l:limbs (dec ((bts s).take 0))=[]:=by
  have:dec ((bts s).take 0)=0:=rfl
  rw [this,qVj]
 exact key s.size 0 _ h1 (by omega) (by rw [h0l]; exact Nb.nil_ he) (by rw [h0l]; decide)
theorem qRp {s t:ByteArray} (h:bts t=(rtrim qXu (bts s)).dropWhile qXu):(t.toList==(ByteArray.mk #[]).toList)=(bts s).all qXu:=by
 rw [qQw,qQw,Bool.eq_iff_iff]
 have e:bts (ByteArray.mk #[])=[]:=rfl
 rw [e,beq_iff_eq,h,xKb]
theorem xFe {D:Orc} (c:Cl127 D) (t37:qUm D 154):qGz D 127:=by
 intro s h k kp hs hk
 refine c _ _ _ _ ?_
 unfold F127
 rw [qQb,qQx,qYv]
 have bad:qEp (bts s)=false→∀ h',Ext h h'→j127__2 D k kp (.string s) (.bool true) h':=by
  intro h1 h' he
  unfold j127__2
  simp only [qQb,qQc,cond_true]
  have:=hk (.slice none 0 0) h'
  simp only [qWk,h1] at this
  exact this (Nb.nil_ he)
 have good:(bts s≠[]→∀ x r,bts s=x::r→x=48→r=[])→∀ h',bts s≠[]→Ext h h'→j127__2 D k kp (.string s) (.bool (!((bts s).all qXu))) h':=by
  intro hz h' hne he
  cases ha:(bts s).all qXu with
  | false =>
   refine bad ?_ h' he
   unfold qEp
   split
   ·rfl
   ·rename_i x r hb
    rw [hb] at ha
    rw [ha]; simp
  | true =>
   have hok:qEp (bts s)=true:=by
    cases hb:bts s with
    | nil=>exact absurd hb hne
    | cons x r =>
     unfold qEp
     rw [hb] at ha
     simp only [ha,Bool.and_true,Bool.or_eq_true,Bool.not_eq_true']
     by_cases hx:x=48
     ·right
      have:=hz hne x r hb hx
      rw [this]; rfl
     ·left
      simpa using hx
   unfold j127__2
   simp only [qQb,qQc,Bool.not_true,cond_false]
   simp only [qWk,hok,if_true] at hk
   refine xZs (h0:=h) hs ha (fun h2 a nb h64=>?_) (fun h2 he2 h64=>?_) he
   ·simp only [xs_e,nth0,Nat.beq_refl,cond_true]
    rw [if_pos h64] at hk
    exact hk a h2 nb
   ·simp only [xs_r,nth0,nth1,qQa]
    rw [if_neg (by omega)] at hk
    exact hk _ h2 (Nb.nil_ he2)
 have trim:(bts s≠[]→∀ x r,bts s=x::r→x=48→r=[])→bts s≠[]→D 154 [(Value.string s),(Value.string (ByteArray.mk #[48,49,50,51,52,53,54,55,56,57]))] h (fun v2 h3=>∃ s4:ByteArray,v2=(Value.string s4)∧j127__2 D k kp (Value.string s) (Value.bool (!(s4.toList==(ByteArray.mk #[]).toList))) h3) kp:=by
  intro hz hne
  refine t37 _ _ _ _ _ hs ?_ (by decide) (by decide) fun t h' he ht=>⟨t,rfl,?_⟩
  ·intro b hb
   rw [qIk] at hb
   simp only [List.mem_cons,List.not_mem_nil,or_false] at hb
   rcases hb with rfl | rfl | rfl | rfl | rfl | rfl | rfl | rfl | rfl | rfl <;> decide
  ·rw [qOo] at ht
   rw [qRp ht]
   exact good hz h' hne he
 refine ⟨fun h1=>bad (by rw [h1]; rfl) h (Ext.refl h),fun h1=>?_⟩
 have hpos:0<s.size:=by
  rw [← qQq]
  exact List.length_pos_iff.mpr h1
 refine qXk (by omega) (by omega) fun x hx=>?_
 have hcons:bts s=x::(bts s).drop 1:=by
  cases hb:bts s with
  | nil=>exact absurd hb h1
  | cons y l=>rw [hb] at hx; simp at hx; subst hx; rfl
 rw [qZf]
 refine ⟨fun h2=>?_,fun h2=>?_⟩
 ·have hx48:x=48:=xDg.mp (by rw [h2]; rfl)
  rw [qQx,qQx,qVk]
  have e48:bts (ByteArray.mk #[48])=[48]:=rfl
  refine ⟨fun h3=>?_,fun h3=>?_⟩
  ·have h4:bts s=[48]:=by
    rw [qQw,qQw,e48] at h3
    simpa using h3
   exact trim (fun _ y r hb _=>by rw [h4] at hb; cases hb; rfl) h1
  ·refine bad ?_ h (Ext.refl h)
   have h4:bts s≠[48]:=by
    rw [qQw,qQw,e48] at h3
    simpa using h3
   rw [hcons]
   unfold qEp
   subst hx48
   cases hr:(bts s).drop 1 with
   | nil=>rw [hr] at hcons; exact absurd hcons h4
   | cons y r=>rfl
 ·refine trim (fun _ y r hb hy=>?_) h1
  rw [hcons] at hb
  cases hb
  exact absurd (by rw [hy]; rfl) h2
end Go.Proofs.YtkdneddcocggdaaGreatDoor.Am
namespace Go.Proofs.YtkdneddcocggdaaGreatDoor.Am
open Go Go.Proofs Go.RowKit Go.Lib Sys Sp
set_option maxRecDepth 100000
variable {D:Orc} {h h' h0 g g':H} {k:Kv} {kp:Kp} {L R:List Res}
theorem rde (e:Ext h h') {a:Addr} {v:Value} (hr:rd h a=some v):rd h' a=some v:=by
 unfold rd at hr ⊢
 split at hr
 ·rename_i hs
  cases hb:qZm (h a.block) with
  | none=>rw [hb] at hr; cases hr
  | some l =>
   rw [hb] at hr
   rw [qFn e hb]; exact hr
 ·cases hr
def qTu (D:Orc) (f:Nat) (T:H→Prop):Prop:=∀ (sig:List Sy) (b:Nat) (sg:Value) (l:List Value) (w:List Bs) (wv:Value) (mid:ByteArray) h (k:Kv) kp,h b=some (.cells (sg::l))→Sr h sg sig→ArOk sig→T h→Wr h wv w→bts mid≠[] →
 Out (qJa (S2 sig) w (bts mid)) (fun r=>∀ v1 v2 h',Hp h h' [bufR v2 (Z r.2),bufR v1 (Z r.1)]→k (.agg #[v1,v2]) h') (fun e=>∀ h',Ext h h'→kp (chain e) h')→D f [Pt b,wv,.string mid] h k kp
theorem xHg (c:Cl91 D) (sc:qMv D 88) (sr:qRi D 30 Tbl):qTu D 91 Tbl:=by
 intro sig b sg l w wv mid h k kp hb hs ha ht hw hmid hk
 refine c _ _ _ _ _ _ ?_
 unfold F91
 rw [qQb]
 refine (Hp.nil_ h).new_ fun p h1 hp o1=>?_
 unfold qJa at hk
 rw [qQk,qXx] at hk
 have hbool:(w.length==4 && at1 w 2==bts mid)=decide (w.length=4∧(bts mid=[]∨at1 w 2=bts mid)):=by
  rw [Bool.eq_iff_iff,Bool.and_eq_true,beq_iff_eq,beq_iff_eq,decide_eq_true_eq]
  exact ⟨fun hh=>⟨hh.1,.inr hh.2⟩,fun hh=>⟨hh.1,hh.2.resolve_left hmid⟩⟩
 rw [hbool] at hk
 refine sc w wv 4 mid _ _ _ (hw.ext o1.ext) (.inr (by decide)) (fun h4 hm=>⟨rfl,?_⟩) fun hno=>hk.2 (decide_eq_false hno) h1 o1.ext
 have hk:=hk.1 (decide_eq_true ⟨h4,hm⟩)
 have e1:=o1.ext
 refine ⟨rfl,ld2 (e1 _ _ hb) rfl ?_⟩
 refine (hw.ext e1).at_ (i:=1) (by omega) fun ad1 hr1=>⟨_,hr1,rfl,ld2 (e1 _ _ hb) rfl ?_⟩
 refine (hw.ext e1).at_ (i:=3) (by omega) fun ad3 hr3=>⟨_,hr3,?_⟩
 rw [qQk] at hk
 refine sr sig sg _ h1 _ _ (by rw [qXv]; have:=hw.word 1; omega) (hs.ext e1) ha (qQt _ _ e1 ht) ?_
 rw [qQv]
 cases hq:qWj (S2 sig) (at1 w 1) with
 | error e =>
  rw [hq] at hk
  exact fun h2 e2=>hk h2 (e1.trans e2)
 | ok l1 =>
  rw [hq] at hk
  intro v1 h2 e2 b1
  have hk:Out (qWj (S2 sig) (at1 w 3) >>= fun r=>.ok (l1,r)) _ _:=hk
  rw [qQk] at hk
  have o2:=(o1.add_buf e2 b1)
  have e12:=o2.ext
  refine ⟨v1,rfl,rde e2 hr3,?_⟩
  rw [show rd h2 (Addr.add (Addr.add ⟨b,0,none⟩ 0) 0)=some sg from rdc2 (e12 _ _ hb) rfl]
  refine ⟨rfl,?_⟩
  refine sr sig sg _ h2 _ _ (by rw [qXv]; have:=hw.word 3; omega) (hs.ext e12) ha (qQt _ _ e12 ht) ?_
  rw [qQv]
  cases hq2:qWj (S2 sig) (at1 w 3) with
  | error e =>
   rw [hq2] at hk
   exact fun h3 e3=>hk h3 (e12.trans e3)
  | ok l2 =>
   rw [hq2] at hk
   intro v2 h3 e3 b2
   have o3:=o2.add_buf e3 b2
   have o3:Hp h h3 [bufR v2 (Z l2),bufR v1 (Z l1),qQn p [.slice none 0 0,.slice none 0 0]]:=o3
   refine ⟨v2,rfl,qZd (o3.row (i:=1) rfl),by decide,qZd (o3.row (i:=0) rfl),by decide,?_⟩
   rw [qQe]
   have hc:=o3.cell (i:=2) rfl
   refine ⟨rfl,by simp [qZd (o3.row (i:=1) rfl),qZd (o3.row (i:=0) rfl)],h3.set p (.cells [v1,v2]),by simp only [wr,hc]; rfl,?_⟩
   have o4:=o3.set_cell (i:=2) rfl [v1,v2]
   rw [qQe]
   refine ⟨v1,v2,?_,?_⟩
   ·simp only [rdN,qQf,qZm,Option.bind_some]; rfl
   ·exact hk v1 v2 _ (o4.sub (by
     show List.Sublist [bufR v2 (Z l2),bufR v1 (Z l1)] [bufR v2 (Z l2),bufR v1 (Z l1),qQn p [v1,v2]]
     exact List.Sublist.cons_cons _ (List.Sublist.cons_cons _ (List.nil_sublist _))))
variable {bp N:Nat} {tl:List Value} {V:BkV} {B:Bk}
theorem LastN.len {V:BkV} {l:List Nd} (o:LastN g V l):V.cer.length=l.length:=by
 rcases o with ⟨rfl,h,_⟩ | ⟨pre,n,vp,rfl,h,r,_⟩
 ·rw [h]; rfl
 ·rw [h]; simp [r.len]
theorem LastI.len {lm:Value} {lir lmr:List (List Value)} {l:List It} (o:LastI g lm lir lmr l):lir.length=l.length:=by
 rcases o with ⟨rfl,h,_⟩ | ⟨pre,n,vp,rfl,h,r,_⟩
 ·rw [h]; rfl
 ·rw [h]; simp [r.len]
def qMq (D:Orc) (f:Nat):Prop:=∀ (bp:Nat) (ce:Value) (a b c d e:Value) (tl:List Value) (rows:List (List Value)) (n:Nat) h (k:Kv) kp,h bp=some (.cells ([a,b,c,d,ce,e]++tl))→RowK 4 h ce rows→rows.length<2 ^ 40 →
 (0<rows.length→k (.pointer (some (atK ce 4 (rows.length - 1)))) h)→(rows.length=0→kp (chain 222) h)→D f [Pt bp] h k kp
theorem xHd (c:Cl94 D) (cm:Cl28 D):qMq D 94:=by
 intro bp ce a b c' d e tl rows n h k kp hb hr hl hk1 hk2
 refine c _ _ _ _ ?_
 unfold F94
 refine ⟨rfl,ld2 hb rfl ?_⟩
 rw [hr.len]
 refine qQl cm (fun hh=>⟨rfl,?_⟩) fun hh=>hk2 (by have:=of_decide_eq_false hh; omega)
 have hpos:=of_decide_eq_true hh
 refine ⟨rfl,ld2 hb rfl ⟨rfl,ld2 hb rfl ?_⟩⟩
 rw [hr.len,qQr (by omega) (by omega),show (rows.length:Int) - 1=((rows.length - 1:Nat):Int) by omega]
 exact xYz hr (by omega) (hk1 (by omega))
theorem xAq (o:Hp h0 h (bkL bp tl V g B R)) (I:BkI g V B) (s:Sm N B) (hN:N<2 ^ 39) :
  ∃ g',Ext g g'∧Hp h0 h (bkL bp tl { V with lm:=.slice none 0 0,lmr:=[] } g' B R)∧∀ n,B.cert.getLast?=some n→Rel2 (ItR g') V.lir n.ints:=by
 obtain ⟨g',e,ok,o1⟩:=o.freezeAt (i:=10) (j:=1) rfl rfl (by decide)
 have o2:=o1.clearK (i:=10) (sz:=2) rfl
 refine ⟨g',e,o2,fun n hn=>?_⟩
 rcases I.ce with ⟨h1,_⟩ | ⟨pre,m,vp,h1,h2,h3,h4,h5,h6,h7,h8⟩
 ·rw [h1] at hn; cases hn
 ·rw [h1,List.getLast?_append] at hn
  obtain rfl:m=n:=by simpa using hn
  have hsm:=s.nd m (by rw [h1]; simp)
  rcases h8 with ⟨e1,e2,e3⟩ | ⟨ipre,i,vip,e1,e2,e3,e4,e5⟩
  ·rw [e1,e2]; exact .nil_
  ·rw [e1,e2]
   refine (e3.mono fun _ _=>ItR.ext e).push ⟨V.lm,V.lmr,rfl,e4,BufK.row ok,e5.mono fun _ _=>MoR.ext e,?_⟩
   have:=hsm.2.2 i (by rw [e1]; simp)
   omega
theorem xAp (o:Hp h0 h (bkL bp tl V g B R)) (I:BkI g V B) (s:Sm N B) (hN:N<2 ^ 39) :
  ∃ g',Ext g g'∧Hp h0 h (bkL bp tl { V with lm:=.slice none 0 0,lmr:=[],li:=.slice none 0 0,lir:=[],lp:=.slice none 0 0,lpr:=[] } g' B R)∧Rel2 (NdR g') V.cer B.cert:=by
 obtain ⟨g1,e1,o1,hi⟩:=xAq o I s hN
 obtain ⟨g2,e2,ok2,o2⟩:=o1.freezeAt (i:=9) (j:=1) rfl rfl (by decide)
 have o3:=o2.clearK (i:=9) (sz:=2) rfl
 obtain ⟨g3,e3,ok3,o4⟩:=o3.freezeAt (i:=8) (j:=1) rfl rfl (by decide)
 have o5:=o4.clearK (i:=8) (sz:=2) rfl
 refine ⟨g3,e1.trans (e2.trans e3),o5,?_⟩
 rcases I.ce with ⟨h1,h2,_⟩ | ⟨pre,m,vp,h1,h2,h3,h4,h5,h6,h7,h8⟩
 ·rw [h1,h2]; exact .nil_
 ·rw [h1,h2]
  have hsm:=s.nd m (by rw [h1]; simp)
  refine (h3.mono fun _ _=>NdR.ext (e1.trans (e2.trans e3))).push ⟨V.lp,V.li,V.lir,rfl,h4,h5,?_,h7,by omega,(BufK.row ok2).ext e3,(hi m (by rw [h1]; simp)).mono fun _ _=>ItR.ext (e2.trans e3),by omega⟩
  have:RowK 2 g3 V.lp V.lpr:=BufK.row ok3
  rwa [h6] at this
theorem Hp.frz2 {v1 v2:Value} {z1 z2:List Value} (o:Hp h0 h (bufR v2 z2::bufR v1 z1::L)) (hj:L[1]?=some (frzR g)):∃ g',Ext g g'∧Buf noH g' v1 z1∧Buf noH g' v2 z2∧Hp h0 h (L.set 1 (frzR g')):=by
 obtain ⟨g1,e1,ok1,o1⟩:=o.freezeAt (i:=0) (j:=3) rfl (by simpa using hj) (by decide)
 have o1:Hp h0 h (bufR v1 z1::L.set 1 (frzR g1)):=o1.tail
 have hj1:(L.set 1 (frzR g1))[1]?=some (frzR g1):=by
  rw [List.getElem?_set,if_pos rfl,if_pos (List.getElem?_eq_some_iff.mp hj).1]
 obtain ⟨g2,e2,ok2,o2⟩:=o1.freezeAt (i:=0) (j:=2) rfl (by simpa using hj1) (by decide)
 refine ⟨g2,e1.trans e2,ok2,Buf.ext ok1 e2,?_⟩
 have:=o2.tail
 rw [List.set_set] at this
 exact this
theorem qSd {sig:List Sy} {v:Value} {s:Bs} {l:List Int} (hb:Buf noH g v (Z l)) (h:qWj (S2 sig) s=.ok l) (hs:s.length<2 ^ 39) (h64:sig.length≤64):Oz g v l:=by
 obtain ⟨h1,h2⟩:=xZq h
 refine ⟨hb,by omega,fun x hx=>?_⟩
 have:=qHu _ l 1 h1 x hx
 rw [qRj] at this
 unfold inI; omega
end Go.Proofs.YtkdneddcocggdaaGreatDoor.Am
namespace Go.Proofs.Sp
open Go Go.Lib Sys
theorem qRz {sig:Sg} {w:List Bs} {mid:Bs} {r:Ru} (h:qJa sig w mid=.ok r):qWj sig (at1 w 1)=.ok r.1∧qWj sig (at1 w 3)=.ok r.2:=by
 obtain ⟨_,_,h⟩:=qQg.mp h
 obtain ⟨a,ha,h⟩:=qQg.mp h
 obtain ⟨b,hb,h⟩:=qQg.mp h
 injection h with h
 subst h
 exact ⟨ha,hb⟩
end Go.Proofs.Sp
namespace Go.Proofs.YtkdneddcocggdaaGreatDoor.Am
open Go Go.Proofs Go.RowKit Go.Lib Sys Sp
set_option maxRecDepth 100000
variable {D:Orc} {h h' h0 g g':H} {k:Kv} {kp:Kp} {L R:List Res} {bp N:Nat} {V:BkV} {B:Bk} {w:List Bs} {wv:Value} {past:Bool}
def wS (w:List Bs):List Value:=w.map fun x=>Value.string (strB x)
def lnL (bp:Nat) (past:Bool) (V:BkV) (g:H) (B:Bk) (wv:Value) (w:List Bs) (R:List Res):List Res:=bkL bp [.bool past] V g B (bufR wv (wS w)::R)
structure Wd (w:List Bs):Prop where
 len:w.length<2 ^ 30
 each:∀ x∈w,x.length≤65536
theorem Wd.wr (d:Wd w) (r:Row h wv (wS w)):Wr h wv w:=⟨r,d.len,fun x hx=>by have:=d.each x hx; omega⟩
theorem qZw (d:Wd w) (o:Hp h0 h (lnL bp past V g B wv w R)):Wr h wv w:=d.wr (o.row (i:=11) rfl)
theorem qZy (o:Hp h0 h (lnL bp past V g B wv w R)):Hp h0 h R:=o.sub (List.drop_sublist 12 (lnL bp past V g B wv w R))
theorem qXp (o:Hp h0 h (lnL bp past V g B wv w R)):h bp=some (.cells [V.sg,V.ru,V.eq,V.pr,V.ce,V.co,.bool past]):=o.cell (i:=0) rfl
theorem xVg (s:Sm N B) (o:Hp h0 h (lnL bp past V g B wv w R)):Sr h V.sg (toSy B.sig):=s.sr (o.rowK (i:=2) rfl)
theorem qYo {V':BkV} {B':Bk} (I:BkI g V' B') (o:Hp h0 h (lnL bp past V' g B' wv w R)) (hk:∀ V' g' h',BkI g' V' B'→Hp h0 h' (lnL bp true V' g' B' wv w R)→k (.tuple #[]) h'):j44__44 D k kp (Pt bp) h:=by
 unfold j44__44
 refine ⟨rfl,o.stj (i:=0) (j:=6) rfl (by simp) rfl rfl fun h' o'=>hk V' g h' I o'⟩
theorem qIs {u v:Value} (hu:one u=true) (hv:one v=true):[u,v].all one=true:=by simp [hu,hv]
def qPl (D:Orc) (f:Nat) (T:H→Prop):Prop:=∀ (N bp:Nat) (past:Bool) (V:BkV) (g:H) (B:Bk) (wv:Value) (w:List Bs) (R:List Res) h0 h (k:Kv) kp,N<2 ^ 30→w≠[]→Wd w→T h0→Sm N B→BkI g V B→Hp h0 h (lnL bp past V g B wv w R) →
 Out (qCw B past w) (fun x=>∀ V' g' h',BkI g' V' x.1→Hp h0 h' (lnL bp x.2 V' g' x.1 wv w R)→k (.tuple #[]) h') (fun e=>∀ h',Hp h0 h' R→kp (chain e) h')→D f [Pt bp,wv] h k kp
def Hyp (D:Orc):Prop:=qMv D 88∧Cl28 D∧qTu D 91 Tbl∧qRi D 30 Tbl∧qMo D 90 Tbl∧qHc D 92 ∧
 qGv D 89∧qMr D 93∧qMq D 94∧qCd D 27 Tbl∧Cl53 D∧Cl99 D
theorem qSm (x:Bs):qId x=(qZt (strB x) && !qWg (strB x)):=by
 show qVs (strB x)=_
 cases h1:qVs (strB x) with
 | true =>
  have:=qLi h1
  rw [this]
  unfold qZt
  rw [h1]; rfl
 | false =>
  cases h2:qZt (strB x) with
  | false=>rfl
  | true =>
   rw [xPp h2]
   unfold qZt at h2
   rw [h1,Bool.false_or] at h2
   rw [h2]; rfl
theorem xAt (s:ByteArray):qVe [(s,0)]=0↔qZt s=true:=by
 have e:qVe [(s,0)]=if qPu [] (s,0)=0 then 0 else qPu [] (s,0):=rfl
 have e2:qPu [] (s,0)=if qZt s=false then 34 else 0:=by
  unfold qPu
  simp
 rw [e,e2]
 cases qZt s <;> simp
theorem xYi (sig:Sg) (x:Bs × Int):qVv (toSy (sig++[x]))=qVv (toSy sig)++[[.string (strB x.1),.int .i64 x.2]]:=by simp [qVv,toSy,qXn]
theorem xKh (y:Hyp D) (hN:N<2 ^ 30) (d:Wd w) (ht:Tbl h0) (s:Sm N B) (I:BkI g V B) (o:Hp h0 h (lnL bp past V g B wv w R)) (hw0:w≠[])
  (hk:Out (symM B past w) (fun x=>∀ V' g' h',BkI g' V' x→Hp h0 h' (lnL bp past V' g' x wv w R)→k (.tuple #[]) h') (fun e=>∀ h',Hp h0 h' R→kp (chain e) h')) :
  D 88 [wv,(.int .i64 3),(.string (ByteArray.mk #[]))] h (fun v2 h3=>v2=(.tuple #[])∧qQh (Pt bp)=true∧ptrW (Pt bp) (fun ad4=>∃ t5:Bool,rd h3 (Addr.add ad4 6)=some (.bool t5)∧D 28 [(.bool (!t5)),(.int .i64 222)] h3 (fun v6 h7=>v6=(.tuple #[])∧qQm wv 1 1 (fun ad8=>∃ s9:ByteArray,rd h7 ad8=some (.string s9)∧one (.string s9)=true∧0<2∧2=2∧0+2≤2∧qQz h7 1 [(.string s9),(.int .i64 0)] (fun s10 h11=>D 27 [s10] h11 (fun v12 h13=>∃ x14:Int,v12=(.int .i64 x14)∧cond (x14==0) (
qQm wv 1 1 (fun ad15=>∃ s16:ByteArray,rd h13 ad15=some (.string s16)∧D 53 [(.string s16),(.string (ByteArray.mk #[35]))] h13 (fun v17 h18=>∃ t19:Bool,v17=(.bool t19)∧cond (!t19) (
qQh (Pt bp)=true∧ptrW (Pt bp) (fun ad20=>∃ v21:Value,rd h18 (Addr.add (Addr.add ad20 0) 0)=some v21∧qQm wv 1 1 (fun ad22=>∃ s23:ByteArray,rd h18 ad22=some (.string s23)∧D 89 [v21,(.string s23)] h18 (fun v24 h25=>∃ x26:Int,v24=(.int .i64 x26)∧D 28 [(.bool (decide (x26<(0:Int)))),(.int .i64 223)] h25 (fun v27 h28=>v27=(.tuple #[])∧j44__6 D k kp (Pt bp) wv h28) kp) kp))) (
D 28 [(.bool false),(.int .i64 223)] h18 (fun v52 h53=>v52=(.tuple #[])∧j44__6 D k kp (Pt bp) wv h53) kp)) kp)) (
D 28 [(.bool false),(.int .i64 223)] h13 (fun v54 h55=>v54=(.tuple #[])∧j44__6 D k kp (Pt bp) wv h55) kp)) kp))) kp)) kp:=by
 obtain ⟨yc,ym,_,_,yn,_,ys,_,_,yg,yh,yh2⟩:=y
 unfold symM Sp.count at hk
 rw [qQk,qXx] at hk
 refine yc w wv 3 _ _ _ _ (qZw d o) (.inl rfl) (fun h3 _=>⟨rfl,?_⟩) fun hno=>hk.2 (beq_eq_false_iff_ne.mpr fun e=>hno ⟨e,.inl rfl⟩) _ (qZy o)
 have hk:=hk.1 (beq_iff_eq.mpr h3)
 rw [qQk,qXx] at hk
 refine ⟨rfl,?_⟩
 rw [qQe]
 refine ⟨past,qVi (qXp o) rfl,?_⟩
 refine qQl ym (fun hp=>⟨rfl,?_⟩) fun hp=>hk.2 hp _ (qZy o)
 have hk:=hk.1 hp
 rw [qQk,qXx] at hk
 refine (qZw d o).at_ (i:=1) (by omega) fun ad1 hr1=>⟨_,hr1,rfl,by decide,rfl,by decide,?_⟩
 have hw1:(at1 w 1).length≤65536:=by
  have:at1 w 1=w[1]:=by unfold at1; rw [List.getElem?_eq_getElem (by omega)]; rfl
  rw [this]; exact d.each _ (List.getElem_mem _)
 intro nb hnb
 have eN:Ext h (h.set nb (.cells [.string (strB (at1 w 1)),.int .i64 0])):=Ext.new hnb
 have hsr:Sr (h.set nb (.cells [.string (strB (at1 w 1)),.int .i64 0])) (.slice (some ⟨nb,0,none⟩) 1 1) [(strB (at1 w 1),0)]:=⟨RowK.cells qQf rfl (by simp [qVv,qXn]) (by simp [qVv,qXn]),by simp,fun x hx=>by
  rw [List.mem_singleton.mp hx,qXv]; omega⟩
 have o1:=o.later eN
 generalize h.set nb (.cells [.string (strB (at1 w 1)),.int .i64 0])=h1 at eN hsr o1 ⊢
 refine yg _ _ _ _ _ hsr (qQt _ _ o1.ext ht) fun h2 e2=>⟨_,rfl,?_⟩
 have o2:Hp h0 h2 (lnL bp past V g B wv w R):=o1.later e2
 have bad:(qId (at1 w 1) && (symI (B.sig.map (·.1)) (at1 w 1)).isNone)=false→∀ h3,Hp h0 h3 (lnL bp past V g B wv w R)→D 28 [(.bool false),(.int .i64 223)] h3 (fun v54 h55=>v54=(.tuple #[])∧j44__6 D k kp (Pt bp) wv h55) kp :=
  fun hb h3 o3=>qQl ym (fun hh=>by cases hh) fun _=>hk.2 hb _ (qZy o3)
 rw [qZf]
 refine ⟨fun hz=>?_,fun hnz=>bad (by
  rw [qSm,show qZt (strB (at1 w 1))=false by rw [← Bool.not_eq_true]; exact fun hx=>hnz ((xAt _).mpr hx)]; rfl) h2 o2⟩
 have hnamed:=(xAt _).mp hz
 refine (qZw d o2).at_ (i:=1) (by omega) fun ad2 hr2=>⟨_,hr2,?_⟩
 refine xCq yh yh2 (by rw [qXv]; omega) ⟨_,rfl,?_⟩
 rw [qQx,qVk]
 refine ⟨fun he=>bad (by rw [qSm,he,Bool.not_true,Bool.and_false]; rfl) h2 o2,fun he=>?_⟩
 refine ⟨rfl,ld2 (qXp o2) rfl ?_⟩
 refine (qZw d o2).at_ (i:=1) (by omega) fun ad3 hr3=>⟨_,hr3,?_⟩
 refine ys V.sg (toSy B.sig) _ _ _ _ (xVg s o2) fun h3 e3=>⟨_,rfl,?_⟩
 have o3:Hp h0 h3 (lnL bp past V g B wv w R):=o2.later e3
 have hnm:nmOf (toSy B.sig)=B.sig.map (·.1):=by unfold nmOf; rw [qWq]
 rw [hnm,qQv]
 have hno:qId (at1 w 1)=true:=by rw [qSm,hnamed,he]; rfl
 rw [hno,Bool.true_and] at hk
 cases hs2:symI (B.sig.map (·.1)) (at1 w 1) with
 | some c =>
  rw [hs2] at hk
  refine qQl ym (fun hh=>?_) fun _=>hk.2 rfl _ (qZy o3)
  have:=of_decide_eq_true hh
  unfold symV at this; dsimp only at this; omega
 | none =>
  rw [hs2] at hk
  have hk:=hk.1 rfl
  refine qQl ym (fun _=>⟨rfl,?_⟩) fun hh=>by
   have:=of_decide_eq_false hh
   unfold symV at this; dsimp only at this; omega
  unfold j44__6
  refine ⟨rfl,ld2 (qXp o3) rfl ?_⟩
  refine (qZw d o3).at_ (i:=1) (by omega) fun ad4 hr4=>⟨_,hr4,?_⟩
  refine (qZw d o3).at_ (i:=2) (by omega) fun ad5 hr5=>⟨_,hr5,?_⟩
  have hw2:(at1 w 2).length≤65536:=by
   have:at1 w 2=w[2]:=by unfold at1; rw [List.getElem?_eq_getElem (by omega)]; rfl
   rw [this]; exact d.each _ (List.getElem_mem _)
  refine yn _ 8 _ _ _ (by rw [qXv]; omega) (by decide) (qQt _ _ o3.ext ht) (fun n h4 e4 hn=>⟨_,rfl,rde e4 hr4,?_⟩) fun h4 e4 hn=>?_
  ·rw [qQv] at hn
   rw [hn] at hk
   have o4:Hp h0 h4 (lnL bp past V g B wv w R):=o3.later e4
   rw [show rd h4 (Addr.add (Addr.add ⟨bp,0,none⟩ 0) 0)=some V.sg from rdc2 (qXp o4) rfl]
   refine ⟨rfl,rfl,by decide,rfl,by decide,rfl,by decide,?_⟩
   have hn8:=(qYa hn).2
   have hs64:=s.sig
   refine o4.pushK (i:=2) rfl rfl rfl (by decide) (by rw [qXd,qXq]; omega) rfl fun s' h5 o5=>?_
   have o5:Hp h0 h5 (qQn bp [V.sg,V.ru,V.eq,V.pr,V.ce,V.co,.bool past]::frzR g::bufK 2 s' (qVv (toSy B.sig)++[[.string (strB (at1 w 1)),.int .i64 (n:Int)]])::(lnL bp past V g B wv w R).drop 3):=o5
   refine ⟨rfl,o5.st2 (i:=0) (j:=0) rfl (by simp) (qQy (o5.rowK (i:=2) rfl).isSl) rfl fun h6 o6=>?_⟩
   have o6:Hp h0 h6 (lnL bp past { V with sg:=s' } g { B with sig:=B.sig++[(at1 w 1,(n:Int))] } wv w R):=by
    unfold lnL bkL
    rw [xYi]
    exact o6
   refine ⟨rfl,ld2 (qXp o6) rfl ?_⟩
   rw [(o6.rowK (i:=2) rfl).len,qXd,qXq]
   have hk:Out (must (decide (B.sig.length+1≤64)) 226 >>= fun _=>.ok { B with sig:=B.sig++[(at1 w 1,(n:Int))] }) _ _:=hk
   rw [qQk,qXx] at hk
   have hlen:(B.sig++[(at1 w 1,(n:Int))]).length=B.sig.length+1:=by simp
   have hdec:decide (((B.sig++[(at1 w 1,(n:Int))]).length:Int)≤64)=decide (B.sig.length+1≤64):=by
    rw [hlen]
    congr 1
    exact propext (by omega)
   show D _ [.bool (decide (((B.sig++[(at1 w 1,(n:Int))]).length:Int)≤64)),_] _ _ _
   rw [hdec]
   refine qQl ym (fun hh=>⟨rfl,?_⟩) fun hh=>hk.2 hh _ (qZy o6)
   exact hk.1 hh { V with sg:=s' } g h6 ⟨I.ru,I.eq,I.pr,I.ce,I.co⟩ o6
  ·rw [qQv] at hn
   rw [hn] at hk
   exact hk h4 (qZy (o3.later e4))
variable {D:Orc} {h h' h0 g g':H} {k:Kv} {kp:Kp} {L R:List Res} {bp N:Nat} {V:BkV} {B:Bk} {w:List Bs} {wv:Value} {past:Bool}
theorem qVg (x:Bs) (c:ByteArray):((strB x).toList==c.toList)=decide (x=bts c):=by
 rw [qCi,qQv,Bool.eq_iff_iff,beq_iff_eq,decide_eq_true_eq]
def OkL (h0:H) (bp:Nat) (wv:Value) (w:List Bs) (R:List Res) (k:Kv) (x:Bk):Prop:=∀ V' g' h',BkI g' V' x→Hp h0 h' (lnL bp true V' g' x wv w R)→k (.tuple #[]) h'
def BadL (h0:H) (R:List Res) (kp:Kp) (e:Int):Prop:=∀ h',Hp h0 h' R→kp (chain e) h'
theorem xPv {n m:Nat} (e:n=m):decide ((n:Int)≤64)=decide (m≤64):=by
 subst e
 congr 1
 exact propext (by omega)
theorem xJi (y:Hyp D) (hN:N<2 ^ 30) (d:Wd w) (ht:Tbl h0) (s:Sm N B) (I:BkI g V B) (o:Hp h0 h (lnL bp past V g B wv w R))
  (hk:Out (qJa B.sig w qEo >>= fun r=>must (decide (B.rules.length+1≤64)) 226 >>= fun _=>.ok { B with rules:=B.rules++[r] }) (OkL h0 bp wv w R k) (BadL h0 R kp)) :
  qQh (Pt bp)=true∧ptrW (Pt bp) (fun ad56=>∃ v57:Value,rd h (Addr.add (Addr.add ad56 0) 1)=some v57∧D 91 [Pt bp,wv,(.string (ByteArray.mk #[45,62]))] h (fun v58 h59=>∃ v60:Value,∃ v61:Value,v58=(.agg #[v60,v61])∧(rd h59 (Addr.add (Addr.add ad56 0) 1)=some v57)∧2=2∧0+2≤2∧qQz h59 1 [v60,v61] (fun s62 h63=>qXi s62 (fun n64=>srcW h63 2 s62 (n64) (fun w65=>apW h63 2 48 [(.slice none 0 0),(.slice none 0 0)] v57 (n64) w65 (fun s66 h67=>qQh (Pt bp)=true∧ptrW (Pt bp) (fun ad68=>one s66=true∧1=1∧∃ h69,wr1 h67 (Addr.add (Addr.add ad68 0) 1) s66=some h69∧qQh (Pt bp)=true∧ptrW (Pt bp) (fun ad70=>∃ v71:Value,rd h69 (Addr.add (Addr.add ad70 0) 1)=some v71∧lenW v71 (fun n72=>D 28 [(.bool (decide ((n72:Int)≤(64:Int)))),(.int .i64 226)] h69 (fun v73 h74=>v73=(.tuple #[])∧j44__44 D k kp (Pt bp) h74) kp)))))))) kp):=by
 obtain ⟨yc,ym,yr,_⟩:=y
 refine ⟨rfl,ld2 (qXp o) rfl ?_⟩
 refine yr (toSy B.sig) bp V.sg _ w wv _ h _ _ (qXp o) (xVg s o) s.ar (qQt _ _ o.ext ht) (qZw d o) (by decide) ?_
 rw [qWq]
 rw [qQk] at hk
 have hk:Out (qJa B.sig w qEo) (fun r=>Out (must (decide (B.rules.length+1≤64)) 226 >>= fun _=>.ok { B with rules:=B.rules++[r] }) (OkL h0 bp wv w R k) (BadL h0 R kp)) (BadL h0 R kp):=hk
 show Out (qJa B.sig w qEo) _ _
 cases hq:qJa B.sig w qEo with
 | error e =>
  rw [hq] at hk
  exact fun h' e'=>hk h' (qZy (o.later e'))
 | ok r =>
  rw [hq] at hk
  rw [qAk,qQk,qXx] at hk
  intro v1 v2 h1 o1
  obtain ⟨g',eg,b1,b2,o2⟩:=Hp.frz2 (o.join o1) rfl
  have o2:Hp h0 h1 (lnL bp past V g' B wv w R):=o2
  obtain ⟨q1,q2⟩:=qRz hq
  rw [← qWq B.sig] at q1 q2
  have z1:=qSd b1 q1 (by have:=(qZw d o).word 1; omega) (by rw [qXq]; exact s.sig)
  have z2:=qSd b2 q2 (by have:=(qZw d o).word 3; omega) (by rw [qXq]; exact s.sig)
  refine ⟨v1,v2,rfl,rdc2 (qXp o2) rfl,rfl,by decide,?_⟩
  have hrl:=I.ru.len
  have hr64:=s.rules
  refine o2.pushK (i:=3) rfl rfl rfl (by decide) (by omega) (qIs (qZd b1.row) (qZd b2.row)) fun s' h5 o5=>?_
  have o5:Hp h0 h5 (qQn bp [V.sg,V.ru,V.eq,V.pr,V.ce,V.co,.bool past]::frzR g'::bufK 2 V.sg (qVv (toSy B.sig))::bufK 2 s' (V.rur++[[v1,v2]])::(lnL bp past V g B wv w R).drop 4):=o5
  refine ⟨rfl,o5.st2 (i:=0) (j:=1) rfl (by simp) (qQy (o5.rowK (i:=3) rfl).isSl) rfl fun h6 o6=>?_⟩
  have o6:Hp h0 h6 (lnL bp past { V with ru:=s',rur:=V.rur++[[v1,v2]] } g' { B with rules:=B.rules++[r] } wv w R):=o6
  refine ⟨rfl,ld2 (qXp o6) rfl ?_⟩
  rw [(o6.rowK (i:=3) rfl).len,xPv (m:=B.rules.length+1) (by simp [hrl])]
  refine qQl ym (fun hh=>⟨rfl,?_⟩) fun hh=>hk.2 hh _ (qZy o6)
  have I':=I.ext eg
  exact qYo (V':={ V with ru:=s',rur:=V.rur++[[v1,v2]] }) (B':={ B with rules:=B.rules++[r] }) ⟨I'.ru.push ⟨v1,v2,rfl,z1,z2⟩,I'.eq,I'.pr,I'.ce,I'.co⟩ o6 (hk.1 hh)
theorem xGi (y:Hyp D) (hN:N<2 ^ 30) (d:Wd w) (ht:Tbl h0) (s:Sm N B) (I:BkI g V B) (o:Hp h0 h (lnL bp past V g B wv w R))
  (hk:Out (qJa B.sig w wIs >>= fun r=>must (decide (B.eqs.length+1≤64)) 226 >>= fun _=>.ok { B with eqs:=B.eqs++[r] }) (OkL h0 bp wv w R k) (BadL h0 R kp)) :
  qQh (Pt bp)=true∧ptrW (Pt bp) (fun ad78=>∃ v79:Value,rd h (Addr.add (Addr.add ad78 0) 2)=some v79∧D 91 [Pt bp,wv,(.string (ByteArray.mk #[61]))] h (fun v80 h81=>∃ v82:Value,∃ v83:Value,v80=(.agg #[v82,v83])∧(rd h81 (Addr.add (Addr.add ad78 0) 2)=some v79)∧2=2∧0+2≤2∧qQz h81 1 [v82,v83] (fun s84 h85=>qXi s84 (fun n86=>srcW h85 2 s84 (n86) (fun w87=>apW h85 2 48 [(.slice none 0 0),(.slice none 0 0)] v79 (n86) w87 (fun s88 h89=>qQh (Pt bp)=true∧ptrW (Pt bp) (fun ad90=>one s88=true∧1=1∧∃ h91,wr1 h89 (Addr.add (Addr.add ad90 0) 2) s88=some h91∧qQh (Pt bp)=true∧ptrW (Pt bp) (fun ad92=>∃ v93:Value,rd h91 (Addr.add (Addr.add ad92 0) 2)=some v93∧lenW v93 (fun n94=>D 28 [(.bool (decide ((n94:Int)≤(64:Int)))),(.int .i64 226)] h91 (fun v95 h96=>v95=(.tuple #[])∧j44__44 D k kp (Pt bp) h96) kp)))))))) kp):=by
 obtain ⟨yc,ym,yr,_⟩:=y
 refine ⟨rfl,ld2 (qXp o) rfl ?_⟩
 refine yr (toSy B.sig) bp V.sg _ w wv _ h _ _ (qXp o) (xVg s o) s.ar (qQt _ _ o.ext ht) (qZw d o) (by decide) ?_
 rw [qWq]
 rw [qQk] at hk
 have hk:Out (qJa B.sig w wIs) (fun r=>Out (must (decide (B.eqs.length+1≤64)) 226 >>= fun _=>.ok { B with eqs:=B.eqs++[r] }) (OkL h0 bp wv w R k) (BadL h0 R kp)) (BadL h0 R kp):=hk
 show Out (qJa B.sig w wIs) _ _
 cases hq:qJa B.sig w wIs with
 | error e =>
  rw [hq] at hk
  exact fun h' e'=>hk h' (qZy (o.later e'))
 | ok r =>
  rw [hq] at hk
  rw [qAk,qQk,qXx] at hk
  intro v1 v2 h1 o1
  obtain ⟨g',eg,b1,b2,o2⟩:=Hp.frz2 (o.join o1) rfl
  have o2:Hp h0 h1 (lnL bp past V g' B wv w R):=o2
  obtain ⟨q1,q2⟩:=qRz hq
  rw [← qWq B.sig] at q1 q2
  have z1:=qSd b1 q1 (by have:=(qZw d o).word 1; omega) (by rw [qXq]; exact s.sig)
  have z2:=qSd b2 q2 (by have:=(qZw d o).word 3; omega) (by rw [qXq]; exact s.sig)
  refine ⟨v1,v2,rfl,rdc2 (qXp o2) rfl,rfl,by decide,?_⟩
  have hrl:=I.eq.len
  have hr64:=s.eqs
  refine o2.pushK (i:=4) rfl rfl rfl (by decide) (by omega) (qIs (qZd b1.row) (qZd b2.row)) fun s' h5 o5=>?_
  have o5:Hp h0 h5 (qQn bp [V.sg,V.ru,V.eq,V.pr,V.ce,V.co,.bool past]::frzR g'::bufK 2 V.sg (qVv (toSy B.sig))::bufK 2 V.ru V.rur::bufK 2 s' (V.eqr++[[v1,v2]])::(lnL bp past V g B wv w R).drop 5):=o5
  refine ⟨rfl,o5.st2 (i:=0) (j:=2) rfl (by simp) (qQy (o5.rowK (i:=4) rfl).isSl) rfl fun h6 o6=>?_⟩
  have o6:Hp h0 h6 (lnL bp past { V with eq:=s',eqr:=V.eqr++[[v1,v2]] } g' { B with eqs:=B.eqs++[r] } wv w R):=o6
  refine ⟨rfl,ld2 (qXp o6) rfl ?_⟩
  rw [(o6.rowK (i:=4) rfl).len,xPv (m:=B.eqs.length+1) (by simp [hrl])]
  refine qQl ym (fun hh=>⟨rfl,?_⟩) fun hh=>hk.2 hh _ (qZy o6)
  have I':=I.ext eg
  exact qYo (V':={ V with eq:=s',eqr:=V.eqr++[[v1,v2]] }) (B':={ B with eqs:=B.eqs++[r] }) ⟨I'.ru,I'.eq.push ⟨v1,v2,rfl,z1,z2⟩,I'.pr,I'.ce,I'.co⟩ o6 (hk.1 hh)
theorem qAb (y:Hyp D) (d:Wd w) (o:Hp h0 h (lnL bp past V g B wv w R)) {n:Nat} {α:Type} {f:Unit→Except Int α} {ok:α→Prop} (hk:Out (Sp.count w n >>= f) ok (BadL h0 R kp)) {K:Kv} (hK:w.length=n→Out (f ()) ok (BadL h0 R kp)→K (.tuple #[]) h) :
  D 88 [wv,.int .i64 (n:Int),.string (ByteArray.mk #[])] h K kp:=by
 obtain ⟨yc,_⟩:=y
 unfold Sp.count at hk
 rw [qQk,qXx] at hk
 exact yc w wv n _ _ _ _ (qZw d o) (.inl rfl) (fun h3 _=>hK h3 (hk.1 (beq_iff_eq.mpr h3))) fun hno=>hk.2 (beq_eq_false_iff_ne.mpr fun e=>hno ⟨e,.inl rfl⟩) _ (qZy o)
theorem qJk (y:Hyp D) (d:Wd w) (s:Sm N B) (o:Hp h0 h (lnL bp past V g B wv w R)) {i:Nat} {m:Bool} {α:Type} {f:Int→Except Int α} {ok:α→Prop} (hk:Out (opt (qWf B.sig (at1 w i) m) 223 >>= f) ok (BadL h0 R kp)) {K:Kv}
  (hK:∀ c h',inI c→Ext h h'→Hp h0 h' (lnL bp past V g B wv w R)→Out (f c) ok (BadL h0 R kp)→K (.int .i64 c) h'):D 92 [Pt bp,.string (strB (at1 w i)),.bool m] h K kp:=by
 obtain ⟨_,_,_,_,_,yk,_⟩:=y
 refine yk (toSy B.sig) bp V.sg _ (strB (at1 w i)) m h _ _ (qXp o) (xVg s o) (by rw [qXq]; exact s.sig) (by rw [qXv]; have:=(qZw d o).word i; omega) (fun c h1 e1 hc hi=>?_) fun h1 e1 hc=>?_
 ·rw [qWq,qQv] at hc
  rw [hc] at hk
  exact hK c h1 hi e1 (o.later e1) hk
 ·rw [qWq,qQv] at hc
  rw [hc] at hk
  exact hk h1 (qZy (o.later e1))
theorem qIa (l:List (Int × Int)) (a b:Int):(l++[(a,b)]).map qAf=l.map qAf++[[.int .i64 a,.int .i64 b]]:=by simp [qAf]
theorem xWp (y:Hyp D) (hN:N<2 ^ 30) (d:Wd w) (ht:Tbl h0) (s:Sm N B) (I:BkI g V B) (o:Hp h0 h (lnL bp past V g B wv w R))
  (hk:Out (Sp.count w 3 >>= fun _=>opt (qWf B.sig (at1 w 1) false) 223 >>= fun a=>opt (qWf B.sig (at1 w 2) false) 223 >>= fun b=>.ok { B with prec:=B.prec++[(a,b)] }) (OkL h0 bp wv w R k) (BadL h0 R kp)) :
  D 88 [wv,(.int .i64 3),(.string (ByteArray.mk #[]))] h (fun v97 h98=>v97=(.tuple #[])∧qQh (Pt bp)=true∧ptrW (Pt bp) (fun ad99=>∃ v100:Value,rd h98 (Addr.add (Addr.add ad99 0) 3)=some v100∧qQm wv 1 1 (fun ad101=>∃ s102:ByteArray,rd h98 ad101=some (.string s102)∧qQm wv 2 1 (fun ad103=>∃ s104:ByteArray,rd h98 ad103=some (.string s104)∧D 92 [Pt bp,(.string s102),(.bool false)] h98 (fun v105 h106=>∃ x107:Int,v105=(.int .i64 x107)∧(rd h106 ad103=some (.string s104))∧(rd h106 (Addr.add (Addr.add ad99 0) 3)=some v100)∧D 92 [Pt bp,(.string s104),(.bool false)] h106 (fun v108 h109=>∃ x110:Int,v108=(.int .i64 x110)∧(rd h109 (Addr.add (Addr.add ad99 0) 3)=some v100)∧one (.int .i64 x107)=true∧0<2∧one (.int .i64 x110)=true∧1<2∧2=2∧0+2≤2∧qQz h109 1 [(.int .i64 x107),(.int .i64 x110)] (fun s111 h112=>qXi s111 (fun n113=>srcW h112 2 s111 (n113) (fun w114=>apW h112 2 16 [(.int .i64 0),(.int .i64 0)] v100 (n113) w114 (fun s115 h116=>qQh (Pt bp)=true∧ptrW (Pt bp) (fun ad117=>one s115=true∧1=1∧∃ h118,wr1 h116 (Addr.add (Addr.add ad117 0) 3) s115=some h118∧j44__44 D k kp (Pt bp) h118)))))) kp) kp)))) kp:=by
 refine qAb y d o (n:=3) hk fun h3 hk=>⟨rfl,rfl,ld2 (qXp o) rfl ?_⟩
 refine (qZw d o).at_ (i:=1) (by omega) fun ad1 hr1=>⟨_,hr1,?_⟩
 refine (qZw d o).at_ (i:=2) (by omega) fun ad2 hr2=>⟨_,hr2,?_⟩
 refine qJk y d s o hk fun a h1 ia e1 o1 hk=>⟨_,rfl,rde e1 hr2,rdc2 (qXp o1) rfl,?_⟩
 refine qJk y d s o1 hk fun b h2 ib e2 o2 hk=>⟨_,rfl,rdc2 (qXp o2) rfl,rfl,by decide,rfl,by decide,rfl,by decide,?_⟩
 have hpr:=s.prec
 refine o2.pushK (i:=5) rfl rfl rfl (by decide) (by rw [List.length_map]; omega) rfl fun s' h5 o5=>?_
 have o5:Hp h0 h5 (qQn bp [V.sg,V.ru,V.eq,V.pr,V.ce,V.co,.bool past]::frzR g::bufK 2 V.sg (qVv (toSy B.sig))::bufK 2 V.ru V.rur::bufK 2 V.eq V.eqr::bufK 2 s' (B.prec.map qAf++[[.int .i64 a,.int .i64 b]])::(lnL bp past V g B wv w R).drop 6):=o5
 refine ⟨rfl,o5.st2 (i:=0) (j:=3) rfl (by simp) (qQy (o5.rowK (i:=5) rfl).isSl) rfl fun h6 o6=>?_⟩
 have o6:Hp h0 h6 (lnL bp past { V with pr:=s' } g { B with prec:=B.prec++[(a,b)] } wv w R):=by
  unfold lnL bkL
  rw [qIa]
  exact o6
 exact qYo (V':={ V with pr:=s' }) (B':={ B with prec:=B.prec++[(a,b)] }) ⟨I.ru,I.eq,fun x hx=>by
  rcases List.mem_append.mp hx with hx | hx
  ·exact I.pr x hx
  ·rw [List.mem_singleton.mp hx]; exact ⟨ia,ib⟩,I.ce,I.co⟩ o6 hk
theorem qUx (w:Bs):qEf w≤6:=by
 unfold qEf
 split
 ·exact List.idxOf_le_length
 ·omega
theorem xPh (y:Hyp D) (hN:N<2 ^ 30) (d:Wd w) (ht:Tbl h0) (s:Sm N B) (I:BkI g V B) (o:Hp h0 h (lnL bp past V g B wv w R))
  (hk:Out (Sp.count w 3 >>= fun _=>must (decide (0<qEf (at1 w 1))) 223 >>= fun _=>opt (numT (at1 w 2) most) 225 >>= fun n=>.ok { B with cert:=B.cert++[⟨(qEf (at1 w 1):Nat),(n:Int),[],[]⟩] }) (OkL h0 bp wv w R k) (BadL h0 R kp)) :
  D 88 [wv,(.int .i64 3),(.string (ByteArray.mk #[]))] h (fun v119 h120=>v119=(.tuple #[])∧qQm wv 1 1 (fun ad121=>∃ s122:ByteArray,rd h120 ad121=some (.string s122)∧D 93 [(.string s122)] h120 (fun v123 h124=>∃ x125:Int,v123=(.int .i64 x125)∧D 28 [(.bool (decide (x125>0))),(.int .i64 223)] h124 (fun v126 h127=>v126=(.tuple #[])∧qQh (Pt bp)=true∧ptrW (Pt bp) (fun ad128=>∃ v129:Value,rd h127 (Addr.add (Addr.add ad128 0) 4)=some v129∧qQm wv 1 1 (fun ad130=>∃ s131:ByteArray,rd h127 ad130=some (.string s131)∧qQm wv 2 1 (fun ad132=>∃ s133:ByteArray,rd h127 ad132=some (.string s133)∧D 93 [(.string s131)] h127 (fun v134 h135=>∃ x136:Int,v134=(.int .i64 x136)∧(rd h135 ad132=some (.string s133))∧(rd h135 (Addr.add (Addr.add ad128 0) 4)=some v129)∧D 90 [(.string s133),(.int .i64 2147483647)] h135 (fun v137 h138=>∃ x139:Int,v137=(.int .i64 x139)∧(rd h138 (Addr.add (Addr.add ad128 0) 4)=some v129)∧one (.int .i64 x136)=true∧0<4∧one (.int .i64 x139)=true∧3<4∧4=4∧0+4≤4∧qQz h138 1 [(.int .i64 x136),(.slice none 0 0),(.slice none 0 0),(.int .i64 x139)] (fun s140 h141=>qXi s140 (fun n142=>srcW h141 4 s140 (n142) (fun w143=>apW h141 4 64 [(.int .i64 0),(.slice none 0 0),(.slice none 0 0),(.int .i64 0)] v129 (n142) w143 (fun s144 h145=>qQh (Pt bp)=true∧ptrW (Pt bp) (fun ad146=>one s144=true∧1=1∧∃ h147,wr1 h145 (Addr.add (Addr.add ad146 0) 4) s144=some h147∧j44__44 D k kp (Pt bp) h147)))))) kp) kp)))) kp) kp)) kp:=by
 have y':=y
 obtain ⟨_,ym,_,_,yn,_,_,ykd,_⟩:=y'
 refine qAb y d o (n:=3) hk fun h3 hk=>⟨rfl,?_⟩
 rw [qQk,qXx] at hk
 obtain ⟨kv1,kv2⟩:=xPz (at1 w 1)
 refine (qZw d o).at_ (i:=1) (by omega) fun ad1 hr1=>⟨_,hr1,?_⟩
 refine ykd _ _ _ _ fun h1 e1=>⟨_,rfl,?_⟩
 have o1:Hp h0 h1 (lnL bp past V g B wv w R):=o.later e1
 rw [qQv]
 refine qQl ym (fun hp=>⟨rfl,?_⟩) fun hp=>hk.2 (decide_eq_false fun hx=>of_decide_eq_false hp (kv1.mpr hx)) _ (qZy o1)
 have hpos:=kv1.mp (of_decide_eq_true hp)
 have hk:=hk.1 (decide_eq_true hpos)
 refine ⟨rfl,ld2 (qXp o1) rfl ?_⟩
 refine (qZw d o1).at_ (i:=1) (by omega) fun ad2 hr2=>⟨_,hr2,?_⟩
 refine (qZw d o1).at_ (i:=2) (by omega) fun ad3 hr3=>⟨_,hr3,?_⟩
 refine ykd _ _ _ _ fun h2 e2=>⟨_,rfl,rde e2 hr3,?_⟩
 have o2:Hp h0 h2 (lnL bp past V g B wv w R):=o1.later e2
 refine ⟨rdc2 (qXp o2) rfl,?_⟩
 rw [qQv,kv2 hpos]
 refine yn _ 2147483647 _ _ _ (by rw [qXv]; have:=(qZw d o).word 2; omega) (by decide) (qQt _ _ o2.ext ht) (fun n h4 e4 hn=>⟨_,rfl,?_⟩) fun h4 e4 hn=>?_
 ·rw [qQv] at hn
  have hk:Out (opt (numT (at1 w 2) most) 225 >>= fun n=>.ok { B with cert:=B.cert++[⟨(qEf (at1 w 1):Nat),(n:Int),[],[]⟩] }) (OkL h0 bp wv w R k) (BadL h0 R kp):=hk
  have hn':numT (at1 w 2) most=some n:=hn
  rw [hn'] at hk
  have o4:Hp h0 h4 (lnL bp past V g B wv w R):=o2.later e4
  refine ⟨rdc2 (qXp o4) rfl,rfl,by decide,rfl,by decide,rfl,by decide,?_⟩
  obtain ⟨g',eg,o5,hnd⟩:=xAp o4 I s (by omega)
  have hlen:=hnd.len
  have hc:=s.cert
  have hn2:=(qYa hn').2
  refine o5.pushK (i:=6) rfl rfl rfl (by decide) (by show V.cer.length<_; omega) rfl fun s' h5 o6=>?_
  have hks:=qUx (at1 w 1)
  refine ⟨rfl,o6.st2 (i:=0) (j:=4) rfl (by simp) (qQy (o6.rowK (i:=6) rfl).isSl) rfl fun h6 o7=>?_⟩
  have I':=I.ext eg
  have ik:inI (qEf (at1 w 1):Int):=by unfold inI; omega
  have ikids:inI (n:Int):=by unfold inI; unfold most at hn2; omega
  refine qYo (V':={ V with ce:=s',cer:=V.cer++[[.int .i64 (qEf (at1 w 1):Int),.slice none 0 0,.slice none 0 0,.int .i64 (n:Int)]],lm:=.slice none 0 0,lmr:=[],li:=.slice none 0 0,lir:=[],lp:=.slice none 0 0,lpr:=[] })
   (B':={ B with cert:=B.cert++[⟨(qEf (at1 w 1):Nat),(n:Int),[],[]⟩] }) (g:=g') ⟨I'.ru,I'.eq,I'.pr,.inr ⟨B.cert,_,V.cer,rfl,rfl,hnd,ik,ikids,rfl,(fun x hx=>by cases hx),.inl ⟨rfl,rfl,rfl⟩⟩,I'.co⟩ o7 hk
 ·rw [qQv] at hn
  have hk:Out (opt (numT (at1 w 2) most) 225 >>= fun n=>.ok { B with cert:=B.cert++[⟨(qEf (at1 w 1):Nat),(n:Int),[],[]⟩] }) (OkL h0 bp wv w R k) (BadL h0 R kp):=hk
  have hn':numT (at1 w 2) most=none:=hn
  rw [hn'] at hk
  exact hk h4 (qZy (o2.later e4))
variable {D:Orc} {h h' h0 g g':H} {k:Kv} {kp:Kp} {L R:List Res} {bp N:Nat} {V:BkV} {B:Bk} {w:List Bs} {wv:Value} {past:Bool}
theorem LastN.empty {l:List Nd} (o:LastN g V l) (h:V.cer.length=0):l=[]:=by
 rcases o with ⟨h1,_⟩ | ⟨pre,n,vp,rfl,h2,_⟩
 ·exact h1
 ·rw [h2] at h; simp at h
def xGa (V:BkV):Addr:=atK V.ce 4 (V.cer.length - 1)
theorem qGd (y:Hyp D) (hN:N<2 ^ 30) (s:Sm N B) (I:BkI g V B) (o:Hp h0 h (lnL bp past V g B wv w R)) {α:Type} {f:Nd→Except Int α} {ok:α→Prop} (hk:Out (qAg B >>= f) ok (BadL h0 R kp)) {K:Kv}
  (hK:∀ pre n vp,B.cert=pre++[n]→V.cer=vp++[[.int .i64 n.kind,V.lp,V.li,.int .i64 n.kids]]→Rel2 (NdR g) vp pre→inI n.kind→inI n.kids→V.lpr=n.prec.map qAf→(∀ x∈n.prec,inP x)→LastI g V.lm V.lir V.lmr n.ints→V.cer.length - 1=vp.length→Out (f n) ok (BadL h0 R kp)→K (.pointer (some (xGa V))) h) :
  D 94 [Pt bp] h K kp:=by
 obtain ⟨_,_,_,_,_,_,_,_,yl,_⟩:=y
 have hlen:=I.ce.len
 have hc:=s.cert
 refine yl bp V.ce V.sg V.ru V.eq V.pr V.co [.bool past] V.cer 0 h _ _ (qXp o) (o.rowK (i:=6) rfl) (by omega) (fun hpos=>?_) fun hz=>?_
 ·rcases I.ce with ⟨h1,h2,_⟩ | ⟨pre,n,vp,h1,h2,h3,h4,h5,h6,h7,h8⟩
  ·rw [h2] at hpos; simp at hpos
  ·unfold qAg at hk
   have hl:B.cert.getLast?=some n:=by rw [h1]; simp
   rw [hl] at hk
   exact hK pre n vp h1 h2 h3 h4 h5 h6 h7 h8 (by rw [h2]; simp) hk
 ·unfold qAg at hk
  have he:=I.ce.empty hz
  rw [he] at hk
  exact hk _ (qZy o)
theorem qPe {vp:List (List Value)} {x:List Value} (hv:V.cer=vp++[x]) (hl:V.cer.length - 1=vp.length) (o:Hp h0 h (lnL bp past V g B wv w R)) {m:Nat} {v:Value} (hm:x[m]?=some v):rd h (Addr.add (xGa V) m)=some v:=by
 have hlt:V.cer.length - 1<V.cer.length:=by rw [hv]; simp
 refine xCu (o.rowK (i:=6) rfl) hlt ?_
 have:V.cer[V.cer.length - 1]=x:=by
  have:V.cer[V.cer.length - 1]?=some x:=by rw [hl,hv]; simp
  rw [List.getElem?_eq_getElem hlt] at this
  exact Option.some.inj this
 rw [this]; exact hm
theorem qIv {vp:List (List Value)} {x y:List Value}:(vp++[x]).set vp.length y=vp++[y]:=by simp
theorem qBb {pre:List Nd} {n m:Nd} (h:B.cert=pre++[n]):qVn B m={ B with cert:=pre++[m] }:=by
 unfold qVn
 rw [h,List.dropLast_concat]
theorem xJx (y:Hyp D) (hN:N<2 ^ 30) (d:Wd w) (ht:Tbl h0) (s:Sm N B) (I:BkI g V B) (o:Hp h0 h (lnL bp past V g B wv w R))
  (hk:Out (Sp.count w 3 >>= fun _=>qAg B >>= fun n=>opt (qWf B.sig (at1 w 1) true) 223 >>= fun a=>opt (qWf B.sig (at1 w 2) true) 223 >>= fun b=>.ok (qVn B { n with prec:=n.prec++[(a,b)] })) (OkL h0 bp wv w R k) (BadL h0 R kp)) :
  D 88 [wv,(.int .i64 3),(.string (ByteArray.mk #[]))] h (fun v148 h149=>v148=(.tuple #[])∧D 94 [Pt bp] h149 (fun v150 h151=>∃ v152:Value,v150=v152∧qQh v152=true∧ptrW v152 (fun ad153=>∃ v154:Value,rd h151 (Addr.add ad153 1)=some v154∧qQm wv 1 1 (fun ad155=>∃ s156:ByteArray,rd h151 ad155=some (.string s156)∧qQm wv 2 1 (fun ad157=>∃ s158:ByteArray,rd h151 ad157=some (.string s158)∧D 92 [Pt bp,(.string s156),(.bool true)] h151 (fun v159 h160=>∃ x161:Int,v159=(.int .i64 x161)∧(rd h160 ad157=some (.string s158))∧(rd h160 (Addr.add ad153 1)=some v154)∧D 92 [Pt bp,(.string s158),(.bool true)] h160 (fun v162 h163=>∃ x164:Int,v162=(.int .i64 x164)∧(rd h163 (Addr.add ad153 1)=some v154)∧one (.int .i64 x161)=true∧0<2∧one (.int .i64 x164)=true∧1<2∧2=2∧0+2≤2∧qQz h163 1 [(.int .i64 x161),(.int .i64 x164)] (fun s165 h166=>qXi s165 (fun n167=>srcW h166 2 s165 (n167) (fun w168=>apW h166 2 16 [(.int .i64 0),(.int .i64 0)] v154 (n167) w168 (fun s169 h170=>qQh v152=true∧ptrW v152 (fun ad171=>one s169=true∧1=1∧∃ h172,wr1 h170 (Addr.add ad171 1) s169=some h172∧j44__44 D k kp (Pt bp) h172)))))) kp) kp)))) kp) kp:=by
 refine qAb y d o (n:=3) hk fun h3 hk=>⟨rfl,?_⟩
 refine qGd y hN s I o hk fun pre n vp e1 e2 e3 e4 e5 e6 e7 e8 e9 hk=>⟨_,rfl,rfl,?_⟩
 rw [qQe]
 refine ⟨V.lp,qPe e2 e9 o rfl,?_⟩
 refine (qZw d o).at_ (i:=1) (by omega) fun ad1 hr1=>⟨_,hr1,?_⟩
 refine (qZw d o).at_ (i:=2) (by omega) fun ad2 hr2=>⟨_,hr2,?_⟩
 refine qJk y d s o hk fun a h1 ia q1 o1 hk=>⟨_,rfl,rde q1 hr2,qPe e2 e9 o1 rfl,?_⟩
 refine qJk y d s o1 hk fun b h2 ib q2 o2 hk=>⟨_,rfl,qPe e2 e9 o2 rfl,rfl,by decide,rfl,by decide,rfl,by decide,?_⟩
 have hpr:=(s.nd n (by rw [e1]; simp)).1
 refine o2.pushK (i:=8) rfl rfl rfl (by decide) (by rw [e6,List.length_map]; omega) rfl fun s' h5 o5=>⟨rfl,?_⟩
 have o5:Hp h0 h5 (lnL bp past { V with lp:=s',lpr:=V.lpr++[[.int .i64 a,.int .i64 b]] } g B wv w R):=o5
 rw [qQe]
 have hsl:one s'=true:=qQy (o5.rowK (i:=8) rfl).isSl
 have hlt:V.cer.length - 1<V.cer.length:=by rw [e2]; simp
 obtain ⟨h6,hw6,o6⟩:=o5.wr_atK (i:=6) (j:=V.cer.length - 1) (m:=1) (v:=s') rfl hlt (by decide)
 refine ⟨hsl,rfl,h6,hw6,?_⟩
 have hcer:(V.cer.set (V.cer.length - 1) ((V.cer[V.cer.length - 1]'hlt).set 1 s'))=vp++[[.int .i64 n.kind,s',V.li,.int .i64 n.kids]]:=by
  have hx:V.cer[V.cer.length - 1]'hlt=[.int .i64 n.kind,V.lp,V.li,.int .i64 n.kids]:=by
   have:V.cer[V.cer.length - 1]?=some [.int .i64 n.kind,V.lp,V.li,.int .i64 n.kids]:=by rw [e9,e2]; simp
   rw [List.getElem?_eq_getElem hlt] at this
   exact Option.some.inj this
  rw [hx,e9]
  conv=>lhs; rw [e2]
  rw [qIv]; rfl
 rw [hcer] at o6
 rw [qBb e1] at hk
 exact qYo (V':={ V with lp:=s',lpr:=V.lpr++[[.int .i64 a,.int .i64 b]],cer:=vp++[[.int .i64 n.kind,s',V.li,.int .i64 n.kids]] }) (B':={ B with cert:=pre++[{ n with prec:=n.prec++[(a,b)] }] }) (g:=g)
  ⟨I.ru,I.eq,I.pr,.inr ⟨pre,_,vp,rfl,rfl,e3,e4,e5,by show V.lpr++_=_; rw [e6,qIa],(fun x hx=>by
   rcases List.mem_append.mp hx with hx | hx
   ·exact e7 x hx
   ·rw [List.mem_singleton.mp hx]; exact ⟨ia,ib⟩),e8⟩,I.co⟩ o6 hk
theorem xKl (y:Hyp D) (hN:N<2 ^ 30) (d:Wd w) (ht:Tbl h0) (s:Sm N B) (I:BkI g V B) (o:Hp h0 h (lnL bp past V g B wv w R))
  (hk:Out (Sp.count w 2 >>= fun _=>qAg B >>= fun n=>opt (qWf B.sig (at1 w 1) true) 223 >>= fun a=>.ok (qVn B { n with ints:=n.ints++[⟨a,[]⟩] })) (OkL h0 bp wv w R k) (BadL h0 R kp)) :
  D 88 [wv,(.int .i64 2),(.string (ByteArray.mk #[]))] h (fun v173 h174=>v173=(.tuple #[])∧D 94 [Pt bp] h174 (fun v175 h176=>∃ v177:Value,v175=v177∧qQh v177=true∧ptrW v177 (fun ad178=>∃ v179:Value,rd h176 (Addr.add ad178 2)=some v179∧qQm wv 1 1 (fun ad180=>∃ s181:ByteArray,rd h176 ad180=some (.string s181)∧D 92 [Pt bp,(.string s181),(.bool true)] h176 (fun v182 h183=>∃ x184:Int,v182=(.int .i64 x184)∧(rd h183 (Addr.add ad178 2)=some v179)∧one (.int .i64 x184)=true∧0<2∧2=2∧0+2≤2∧qQz h183 1 [(.int .i64 x184),(.slice none 0 0)] (fun s185 h186=>qXi s185 (fun n187=>srcW h186 2 s185 (n187) (fun w188=>apW h186 2 32 [(.int .i64 0),(.slice none 0 0)] v179 (n187) w188 (fun s189 h190=>qQh v177=true∧ptrW v177 (fun ad191=>one s189=true∧1=1∧∃ h192,wr1 h190 (Addr.add ad191 2) s189=some h192∧j44__44 D k kp (Pt bp) h192)))))) kp))) kp) kp:=by
 refine qAb y d o (n:=2) hk fun h3 hk=>⟨rfl,?_⟩
 refine qGd y hN s I o hk fun pre n vp e1 e2 e3 e4 e5 e6 e7 e8 e9 hk=>⟨_,rfl,rfl,?_⟩
 rw [qQe]
 refine ⟨V.li,qPe e2 e9 o rfl,?_⟩
 refine (qZw d o).at_ (i:=1) (by omega) fun ad1 hr1=>⟨_,hr1,?_⟩
 refine qJk y d s o hk fun a h1 ia q1 o1 hk=>⟨_,rfl,qPe e2 e9 o1 rfl,rfl,by decide,rfl,by decide,?_⟩
 obtain ⟨g',eg,o2,hit⟩:=xAq o1 I s (by omega)
 have hit:=hit n (by rw [e1]; simp)
 have hil:=(s.nd n (by rw [e1]; simp)).2.1
 have hirl:=hit.len
 refine o2.pushK (i:=9) rfl rfl rfl (by decide) (by show V.lir.length<_; omega) rfl fun s' h5 o5=>⟨rfl,?_⟩
 have o5:Hp h0 h5 (lnL bp past { V with li:=s',lir:=V.lir++[[.int .i64 a,.slice none 0 0]],lm:=.slice none 0 0,lmr:=[] } g' B wv w R):=o5
 rw [qQe]
 have hsl:one s'=true:=qQy (o5.rowK (i:=9) rfl).isSl
 have hlt:V.cer.length - 1<V.cer.length:=by rw [e2]; simp
 obtain ⟨h6,hw6,o6⟩:=o5.wr_atK (i:=6) (j:=V.cer.length - 1) (m:=2) (v:=s') rfl hlt (by decide)
 refine ⟨hsl,rfl,h6,hw6,?_⟩
 have hcer:(V.cer.set (V.cer.length - 1) ((V.cer[V.cer.length - 1]'hlt).set 2 s'))=vp++[[.int .i64 n.kind,V.lp,s',.int .i64 n.kids]]:=by
  have hx:V.cer[V.cer.length - 1]'hlt=[.int .i64 n.kind,V.lp,V.li,.int .i64 n.kids]:=by
   have:V.cer[V.cer.length - 1]?=some [.int .i64 n.kind,V.lp,V.li,.int .i64 n.kids]:=by rw [e9,e2]; simp
   rw [List.getElem?_eq_getElem hlt] at this
   exact Option.some.inj this
  rw [hx,e9]
  conv=>lhs; rw [e2]
  rw [qIv]; rfl
 rw [hcer] at o6
 rw [qBb e1] at hk
 have I':=I.ext eg
 exact qYo (V':={ V with li:=s',lir:=V.lir++[[.int .i64 a,.slice none 0 0]],lm:=.slice none 0 0,lmr:=[],cer:=vp++[[.int .i64 n.kind,V.lp,s',.int .i64 n.kids]] }) (B':={ B with cert:=pre++[{ n with ints:=n.ints++[⟨a,[]⟩] }] }) (g:=g')
  ⟨I'.ru,I'.eq,I'.pr,.inr ⟨pre,_,vp,rfl,rfl,e3.mono fun _ _=>NdR.ext eg,e4,e5,e6,e7,.inr ⟨n.ints,⟨a,[]⟩,V.lir,rfl,rfl,hit,ia,.nil_⟩⟩,I'.co⟩ o6 hk
theorem qMx {i:Nat} (d:Wd w):(at1 w i).length≤65536:=by
 unfold at1
 cases hx:w[i]? with
 | none=>simp
 | some x=>exact d.each x (List.mem_of_getElem? hx)
theorem qMb (hN:N<2 ^ 30) (d:Wd w) (s:Sm N B) (I:BkI g V B) (o:Hp h0 h (lnL bp past V g B wv w R)) {sv:Value} {vs:List Value} {ts:List (List Int)} (hr:Row g sv vs) (ht:Rel2 (fun v l=>Ir g v l) vs ts) (hts:ts.length<2 ^ 40)
  (hk:OkL h0 bp wv w R k { B with cmds:=B.cmds++[⟨at1 w 0,ts⟩] }) {z:List Value} (hz:z.length=2) :
  qQz h 1 [(.string (strB (at1 w 0))),sv] (fun s204 h205=>qXi s204 (fun n206=>srcW h205 2 s204 (n206) (fun w207=>apW h205 2 40 z V.co (n206) w207 (fun s208 h209=>qQh (Pt bp)=true∧ptrW (Pt bp) (fun ad210=>one s208=true∧1=1∧∃ h211,wr1 h209 (Addr.add (Addr.add ad210 0) 5) s208=some h211∧j44__44 D k kp (Pt bp) h211))))):=by
 have hc:=s.cmds
 have hcl:=I.co.len
 refine o.pushK (i:=7) rfl hz rfl (by decide) (by omega) (qIs rfl (qQy hr.isSl)) fun s' h5 o5=>?_
 have o5:Hp h0 h5 (qQn bp [V.sg,V.ru,V.eq,V.pr,V.ce,V.co,.bool past]::frzR g::bufK 2 V.sg (qVv (toSy B.sig))::bufK 2 V.ru V.rur::bufK 2 V.eq V.eqr::bufK 2 V.pr (B.prec.map qAf)::bufK 4 V.ce V.cer::bufK 2 s' (V.cor++[[.string (strB (at1 w 0)),sv]])::(lnL bp past V g B wv w R).drop 8):=o5
 refine ⟨rfl,o5.st2 (i:=0) (j:=5) rfl (by simp) (qQy (o5.rowK (i:=7) rfl).isSl) rfl fun h6 o6=>?_⟩
 have hw:=qMx (i:=0) d
 exact qYo (V':={ V with co:=s',cor:=V.cor++[[.string (strB (at1 w 0)),sv]] }) (B':={ B with cmds:=B.cmds++[⟨at1 w 0,ts⟩] }) (g:=g)
  ⟨I.ru,I.eq,I.pr,I.ce,I.co.push ⟨sv,vs,rfl,by show (at1 w 0).length<_; omega,hr,ht,hts⟩⟩ o6 hk
abbrev bare (x:Bs):Prop:=x=qAi∨x=qVb∨x=qHi∨x=qPs∨x=qVc
theorem xCa (y:Hyp D) (hN:N<2 ^ 30) (d:Wd w) (ht:Tbl h0) (s:Sm N B) (I:BkI g V B) (o:Hp h0 h (lnL bp past V g B wv w R)) (hw0:w≠[]) {b:Bool} (hb:b=true↔bare (at1 w 0))
  (hk:Out (if bare (at1 w 0) then Sp.count w 1 >>= fun _=>.ok { B with cmds:=B.cmds++[⟨at1 w 0,[]⟩] }
   else if at1 w 0=qVt then Sp.count w 2 >>= fun _=>qWj B.sig (at1 w 1) >>= fun l=>.ok { B with cmds:=B.cmds++[⟨at1 w 0,[l]⟩] }
   else if at1 w 0=qEn then qJa B.sig w wIs >>= fun r=>.ok { B with cmds:=B.cmds++[⟨at1 w 0,[r.1,r.2]⟩] }
   else .error 222) (OkL h0 bp wv w R k) (BadL h0 R kp)) :
  j44__36 D k kp (Pt bp) wv (.string (strB (at1 w 0))) (.bool b) h:=by
 unfold j44__36
 rw [qQb,qQc]
 have hwp:0<w.length:=List.length_pos_iff.mpr hw0
 have y':=y
 obtain ⟨_,ym,yr,yd,_⟩:=y'
 cases b with
 | true =>
  rw [cond_true]
  rw [if_pos (hb.mp rfl)] at hk
  refine qAb y d o (n:=1) hk fun h3 hk=>⟨rfl,rfl,ld2 (qXp o) rfl ?_⟩
  refine (qZw d o).at_ (i:=0) hwp fun ad1 hr1=>⟨_,hr1,rfl,by decide,rfl,by decide,?_⟩
  exact qMb hN d s I o (vs:=[]) (ts:=[]) Row.nil_ .nil_ (by decide) hk rfl
 | false =>
  rw [cond_false,qVg,qQd]
  rw [if_neg (fun hx=>by have:=hb.mpr hx; cases this)] at hk
  refine ⟨fun hn=>?_,fun hn=>?_⟩
  ·rw [if_pos (show at1 w 0=qVt from hn)] at hk
   refine qAb y d o (n:=2) hk fun h3 hk=>⟨rfl,rfl,ld2 (qXp o) rfl ?_⟩
   refine (qZw d o).at_ (i:=0) hwp fun ad1 hr1=>⟨_,hr1,rfl,ld2 (qXp o) rfl ?_⟩
   refine (qZw d o).at_ (i:=1) (by omega) fun ad2 hr2=>⟨_,hr2,?_⟩
   refine yd (toSy B.sig) V.sg _ h _ _ (by rw [qXv]; have:=(qZw d o).word 1; omega) (xVg s o) s.ar (qQt _ _ o.ext ht) ?_
   rw [qWq,qQv]
   rw [qQk] at hk
   have hk:Out (qWj B.sig (at1 w 1)) (fun l=>OkL h0 bp wv w R k { B with cmds:=B.cmds++[⟨at1 w 0,[l]⟩] }) (BadL h0 R kp):=hk
   cases hq:qWj B.sig (at1 w 1) with
   | error e =>
    rw [hq] at hk
    exact fun h' e'=>hk h' (qZy (o.later e'))
   | ok l =>
    rw [hq] at hk
    intro v h1 e1 bv
    obtain ⟨g1,eg1,bz,o1⟩:=o.frz_buf (j:=1) rfl e1 bv
    have o1:Hp h0 h1 (lnL bp past V g1 B wv w R):=o1
    rw [← qWq B.sig] at hq
    have oz:=qSd bz hq (by have:=(qZw d o).word 1; omega) (by rw [qXq]; exact s.sig)
    refine ⟨v,rfl,rde e1 hr1,rdc2 (qXp o1) rfl,qZd oz.buf.row,by decide,?_⟩
    intro nb hnb
    have eN:Ext h1 (h1.set nb (.cells [v])):=Ext.new hnb
    obtain ⟨g2,eg2,bz2,o2⟩:=o1.frz_buf (j:=1) rfl eN (Buf.cells (vs:=[v]) hnb qQf rfl)
    have o2:Hp h0 _ (lnL bp past V g2 B wv w R):=o2
    refine ⟨rfl,by decide,rfl,by decide,rfl,by decide,?_⟩
    exact qMb hN d s (I.ext (eg1.trans eg2)) o2 bz2.row (.one_ (oz.ext eg2).ir) (by simp) hk rfl
  ·rw [if_neg (show ¬ at1 w 0=qVt from hn)] at hk
   rw [qVg,qQd]
   refine ⟨fun he=>?_,fun he=>?_⟩
   ·rw [if_pos (show at1 w 0=qEn from he)] at hk
    refine yr (toSy B.sig) bp V.sg _ w wv _ h _ _ (qXp o) (xVg s o) s.ar (qQt _ _ o.ext ht) (qZw d o) (by decide) ?_
    rw [qWq]
    rw [qQk] at hk
    have hk:Out (qJa B.sig w wIs) (fun r=>OkL h0 bp wv w R k { B with cmds:=B.cmds++[⟨at1 w 0,[r.1,r.2]⟩] }) (BadL h0 R kp):=hk
    show Out (qJa B.sig w wIs) _ _
    cases hq:qJa B.sig w wIs with
    | error e =>
     rw [hq] at hk
     exact fun h' e'=>hk h' (qZy (o.later e'))
    | ok r =>
     rw [hq] at hk
     intro v1 v2 h1 o1
     obtain ⟨g1,eg,b1,b2,o2⟩:=Hp.frz2 (o.join o1) rfl
     have o2:Hp h0 h1 (lnL bp past V g1 B wv w R):=o2
     obtain ⟨q1,q2⟩:=qRz hq
     rw [← qWq B.sig] at q1 q2
     have z1:=qSd b1 q1 (by have:=(qZw d o).word 1; omega) (by rw [qXq]; exact s.sig)
     have z2:=qSd b2 q2 (by have:=(qZw d o).word 3; omega) (by rw [qXq]; exact s.sig)
     refine ⟨v1,v2,rfl,qTz (qZd b1.row) (qZd b2.row) rfl fun p h2 hp hpc e2=>?_⟩
     have o3:Hp h0 h2 (lnL bp past V g1 B wv w R):=o2.later e2
     refine ⟨rfl,ld2 (qXp o3) rfl ?_⟩
     refine (qZw d o3).at_ (i:=0) hwp fun ad1 hr1=>⟨_,hr1,?_⟩
     rw [qQe]
     refine ⟨v1,qVi hpc rfl,?_⟩
     rw [qQe]
     refine ⟨v2,qVi hpc rfl,qZd b1.row,by decide,qZd b2.row,by decide,?_⟩
     intro nb hnb
     have eN:Ext h2 (h2.set nb (.cells [v1,v2])):=Ext.new hnb
     obtain ⟨g2,eg2,bz2,o4⟩:=o3.frz_buf (j:=1) rfl eN (Buf.cells (vs:=[v1,v2]) hnb qQf rfl)
     have o4:Hp h0 _ (lnL bp past V g2 B wv w R):=o4
     refine ⟨rfl,by decide,rfl,by decide,rfl,by decide,?_⟩
     exact qMb hN d s (I.ext (eg.trans eg2)) o4 bz2.row ((Rel2.one_ (z1.ext eg2).ir).push (z2.ext eg2).ir) (by simp) hk rfl
   ·rw [if_neg (show ¬ at1 w 0=qEn from he)] at hk
    exact qQl ym (fun hh=>by cases hh) fun _=>hk _ (qZy o)
variable {D:Orc} {h h' h0 g g':H} {k:Kv} {kp:Kp} {L R:List Res} {bp N:Nat} {V:BkV} {B:Bk} {w:List Bs} {wv:Value} {past:Bool}
theorem xXg (l:Bs):dec l=valD l:=rfl
theorem xAd:∀ (n:Nat) (l:Bs),l.length≤n→l≠[]→(∀ b∈l,Sp.qXu b=true)→(l.length=1∨l.head?≠some 48)→l=decDigits (valD l):=by
 intro n
 induction n with
 | zero=>intro l hl h0; exact absurd (List.length_eq_zero_iff.mp (by omega)) h0
 | succ n ih =>
  intro l hl h0 hd hc
  obtain ⟨m,b,rfl⟩:∃ m b,l=m++[b]:=⟨l.dropLast,l.getLast h0,(List.dropLast_concat_getLast h0).symm⟩
  have hb:=hd b (by simp)
  unfold Sp.qXu at hb
  simp only [Bool.and_eq_true,decide_eq_true_eq] at hb
  have hv:valD (m++[b])=10*valD m+(b.toNat - 48):=by unfold valD; rw [qDd]; rfl
  have hbb:UInt8.ofNat (48+(b.toNat - 48))=b:=by
   rw [show 48+(b.toNat - 48)=b.toNat by omega]
   exact UInt8.ofNat_toNat
  rw [hv]
  by_cases hm:m=[]
  ·subst hm
   have:valD ([]:Bs)=0:=rfl
   rw [this,decDigits,dif_pos (by omega),show 10*0+(b.toNat - 48)=b.toNat - 48 by omega,hbb]; rfl
  ·have hmd:∀ b∈m,Sp.qXu b=true:=fun b hb=>hd b (by simp [hb])
   have hmh:m.head?≠some 48:=by
    rcases hc with hc | hc
    ·have:=List.length_pos_iff.mpr hm
     rw [List.length_append,List.length_singleton] at hc; omega
    ·intro e; apply hc
     cases m with
     | nil=>exact absurd rfl hm
     | cons x r=>exact e
   have e1:=ih m (by simp at hl; omega) hm hmd (.inr hmh)
   have hpos:0<valD m:=by
    refine Nat.pos_of_ne_zero fun hz=>?_
    rw [hz,decDigits,dif_pos (by omega)] at e1
    exact hmh (by rw [e1]; rfl)
   rw [decDigits,dif_neg (by omega),show (10*valD m+(b.toNat - 48)) / 10=valD m by omega,show (10*valD m+(b.toNat - 48)) % 10=b.toNat - 48 by omega,hbb,← e1]
theorem xBy {n:Nat} (hn:0<n):(decDigits n).head?≠some 48:=by
 induction n using Nat.strongRecOn with
 | _ n ih =>
  rw [decDigits]
  split
  ·rename_i h
   intro e
   have:UInt8.ofNat (48+n)=48:=by simpa using e
   have:=congrArg UInt8.toNat this
   rw [qUe n h] at this
   have h48:(48:UInt8).toNat=48:=rfl
   omega
  ·rename_i h
   have:=ih (n / 10) (by omega) (by omega)
   intro e
   cases hd:decDigits (n / 10) with
   | nil=>exact absurd hd (xAc _)
   | cons x r=>rw [hd] at this e; exact this e
theorem qHp (l:Bs):qEp l=true↔l=decDigits (valD l):=by
 constructor
 ·intro h
  cases l with
  | nil=>cases h
  | cons x r =>
   unfold qEp at h
   simp only [Bool.and_eq_true,Bool.or_eq_true,Bool.not_eq_true',beq_eq_false_iff_ne,List.isEmpty_iff,List.all_eq_true] at h
   refine xAd _ _ (Nat.le_refl _) (by simp) (fun b hb=>h.2 b hb) ?_
   rcases h.1 with h1 | h1
   ·exact .inr fun e=>h1 (by simpa using e)
   ·exact .inl (by rw [h1]; rfl)
 ·intro h
  cases l with
  | nil=>exact absurd h.symm (xAc _)
  | cons x r =>
   unfold qEp
   simp only [Bool.and_eq_true,Bool.or_eq_true,Bool.not_eq_true',beq_eq_false_iff_ne,List.isEmpty_iff,List.all_eq_true]
   refine ⟨?_,fun b hb=>?_⟩
   ·rcases Nat.eq_zero_or_pos (valD (x::r)) with hz | hp
    ·right
     rw [hz,decDigits,dif_pos (by omega)] at h
     injection h
    ·left
     intro e
     refine xBy hp ?_
     rw [← h,e]; rfl
   ·rw [h] at hb
    exact qIm _ b hb
theorem xAj (l:Bs):xAk l=if (qWk l).2=0 then some (qWk l).1 else none:=by
 unfold xAk numV qWk
 by_cases h:l=decDigits (valD l)
 ·rw [if_pos h,(qHp l).mpr h,if_pos rfl]
  dsimp only
  show (if (Nats.limbs (valD l)).length≤64 then _ else _)=_
  by_cases h64:(Nats.limbs (valD l)).length≤64
  ·rw [if_pos h64,xXg,if_pos h64]; rfl
  ·rw [if_neg h64,xXg,if_neg h64]; rfl
 ·rw [if_neg h,if_neg (fun hx=>h ((qHp l).mp hx))]; rfl
theorem qOf {top:Nat}:∀ {w:List Bs} {l:List Int},qAy top w=some l→l.length=w.length
 | [],l,h=>by
  obtain rfl:=Option.some.inj h
  rfl
 | x::w,l,h=>by
  unfold qAy at h
  split at h
  ·obtain ⟨m,hm,rfl⟩:=Option.map_eq_some_iff.mp h
   simp [qOf hm]
  ·cases h
theorem xZv {w:List Bs} {i:Nat} (hi:i<w.length) (top:Nat):qAy top (w.drop i)=match numT (at1 w i) top with
  | some n=>(qAy top (w.drop (i+1))).map ((n:Int)::·)
  | none=>none:=by
 rw [List.drop_eq_getElem_cons hi]
 have:at1 w i=w[i]:=by unfold at1; rw [List.getElem?_eq_getElem hi]; rfl
 rw [this]; rfl
def moL (p:Nat) (cv es:Value) (l:List Int) (L:List Res):List Res:=qQn p [cv,es]::bufR es (Z l)::L
theorem xPl (y:Hyp D) (d:Wd w) (ht:Tbl h0) {p:Nat} {cv nv sv:Value} (hsv:∀ {h:H},Row h wv (wS w)→Row h sv (wS (w.drop 2))) {es0:Value} {L':List Res} (o:Hp h0 h (moL p cv es0 [] (lnL bp past V g B wv w L'))) {K:Kl}
  (hK1:∀ h' es l,qAy most (w.drop 2)=some l→(∀ x∈l,inI x)→Hp h0 h' (moL p cv es l (lnL bp past V g B wv w L'))→K (.e 0) [nv,Pt p] h') (hK2:∀ h',qAy most (w.drop 2)=none→Hp h0 h' L'→K (.p (chain 225)) [] h') :
  loop95_8 D [nv,Pt p,sv,.int .i64 ((w.drop 2).length:Int),.int .i64 0] h K:=by
 obtain ⟨_,_,_,_,yn,_⟩:=y
 intro I hI
 have hdl:(w.drop 2).length<2 ^ 30:=by rw [List.length_drop]; have:=d.len; omega
 have key:∀ m i:Nat,i+m=(w.drop 2).length→∀ (es:Value) (l:List Int) (h:H),l.length=i→(∀ x∈l,inI x)→qAy most (w.drop 2)=(qAy most ((w.drop 2).drop i)).map (l++·)→Hp h0 h (moL p cv es l (lnL bp past V g B wv w L')) →
   I [nv,Pt p,sv,.int .i64 ((w.drop 2).length:Int),.int .i64 (i:Int)] h:=by
  intro m
  induction m with
  | zero =>
   intro i him es l h hl hin hnum o
   refine hI _ _ _ _ _ _ ?_
   unfold round95_8
   rw [qQa,qQa,qQd]
   refine ⟨fun hlt=>by omega,fun _=>hK1 h es l ?_ hin o⟩
   rw [hnum,List.drop_eq_nil_of_le (by omega)]
   show some (l++[])=_
   rw [List.append_nil]
  | succ m ih =>
   intro i him es l h hl hin hnum o
   refine hI _ _ _ _ _ _ ?_
   unfold round95_8
   rw [qQa,qQa,qQd]
   refine ⟨fun _=>?_,fun hge=>by omega⟩
   have hrow:Row h sv (wS (w.drop 2)):=hsv (o.row (i:=13) rfl)
   have hwr:Wr h sv (w.drop 2):=⟨hrow,hdl,fun x hx=>by have:=d.each x (List.mem_of_mem_drop hx); omega⟩
   refine hwr.at_ (i:=i) (by omega) fun ad hr=>⟨_,hr,?_⟩
   refine ldj (o.cell (i:=0) rfl) rfl ?_
   have hwi:=hwr.word i
   rw [xZv (w:=w.drop 2) (i:=i) (by omega) most] at hnum
   refine yn _ 2147483647 _ _ _ (by rw [qXv]; omega) (by decide) (qQt _ _ o.ext ht) (fun n h4 e4 hn=>⟨_,rfl,?_⟩) fun h4 e4 hn=>?_
   ·rw [qQv] at hn
    have hn':numT (at1 (w.drop 2) i) most=some n:=hn
    have hn2:=(qYa hn').2
    rw [hn'] at hnum
    have o4:Hp h0 h4 (moL p cv es l (lnL bp past V g B wv w L')):=o.later e4
    refine ⟨qVi (o4.cell (i:=0) rfl) rfl,rfl,by decide,?_⟩
    refine (o4.push (i:=1) (s:=es) (vs:=Z l) (v:=.int .i64 (n:Int)) rfl (bytes:=8) (by decide) (by rw [Zl]; omega) rfl (O:=True) (U:=True) trivial trivial fun s' h5 o5=>?_).2.2
    have o5:Hp h0 h5 (qQn p [cv,es]::bufR s' (Z l++[.int .i64 (n:Int)])::lnL bp past V g B wv w L'):=o5
    have hz:Z l++[Value.int .i64 (n:Int)]=Z (l++[(n:Int)]):=by rw [← xGy]; rfl
    rw [hz] at o5
    refine o5.stj (i:=0) (j:=1) rfl (by simp) (qZd (o5.row (i:=1) rfl)) rfl fun h6 o6=>?_
    rw [qQr (by omega) (by omega),show (i:Int)+1=((i+1:Nat):Int) by omega]
    have inn:inI (n:Int):=by unfold inI; unfold most at hn2; omega
    refine ih (i+1) (by omega) s' (l++[(n:Int)]) h6 (by simp [hl]) (fun x hx=>?_) ?_ o6
    ·rcases List.mem_append.mp hx with hx | hx
     ·exact hin x hx
     ·rw [List.mem_singleton.mp hx]; exact inn
    ·rw [hnum,Option.map_map]
     congr 1
     funext z
     simp
   ·rw [qQv] at hn
    have hn':numT (at1 (w.drop 2) i) most=none:=hn
    rw [hn'] at hnum
    exact hK2 h4 hnum ((o.later e4).tail.tail |> qZy)
 exact key (w.drop 2).length 0 (by omega) es0 [] h rfl (fun x hx=>by cases hx) (by rw [List.drop_zero]; simp) o
def qMp (D:Orc) (f:Nat) (T:H→Prop):Prop:=∀ (N bp:Nat) (past:Bool) (V:BkV) (g:H) (B:Bk) (wv:Value) (w:List Bs) (R:List Res) h0 h (k:Kv) kp,N<2 ^ 30→w≠[]→Wd w→T h0→Sm N B→BkI g V B→Hp h0 h (lnL bp past V g B wv w R) →
 Out (must (decide (1<w.length)) 222 >>= fun _=>qAg B >>= fun n=>opt n.ints.getLast? 222 >>= fun i=>opt (xAk (at1 w 1)) 225 >>= fun co=>opt (qAy most (w.drop 2)) 225 >>= fun es =>
  .ok (qVn B { n with ints:=n.ints.dropLast++[{ i with p:=i.p++[⟨co,es⟩] }] })) (fun x=>∀ V' g' h',BkI g' V' x→Hp h0 h' (lnL bp past V' g' x wv w R)→k (.tuple #[]) h') (BadL h0 R kp)→D f [Pt bp,wv] h k kp
theorem Row.tail2 {sv:Value} {vs:List Value} (r:Row h sv vs) (h2:2≤vs.length) {K:Value→Prop} (hK:∀ s',(∀ h',Row h' sv vs→Row h' s' (vs.drop 2))→K s'):qXy sv (some 2) none none 1 K:=by
 obtain ⟨base,cap,rfl,hc,hb⟩:=r
 simp only [qXy,Option.getD_none,Option.getD_some,Option.isSome_none,Bool.false_eq_true,false_implies,true_and]
 refine ⟨by omega,by omega,by omega,by omega,hK _ fun h' rr=>?_⟩
 have:=Row.part (h:=h') rr (lo:=some 2) (hi:=none) (i:=2) (j:=vs.length) rfl rfl h2 (Nat.le_refl _) (k:=fun s'=>Row h' s' (vs.drop 2)) fun s' r' _=>by
  rwa [List.take_of_length_le (Nat.le_refl _)] at r'
 simp only [qXy,Option.getD_none,Option.getD_some,Option.isSome_none,Bool.false_eq_true,false_implies,true_and] at this
 exact this.2.2.2.2
theorem xDf (w:List Bs):(wS w).drop 2=wS (w.drop 2):=by simp [wS,List.map_drop]
theorem xHc (y:Hyp D) (c:Cl95 D) (np:qGz D 127):qMp D 95 Tbl:=by
 intro N bp past V g B wv w R h0 h k kp hN hw0 d ht s I o hk
 refine c _ _ _ _ _ ?_
 unfold F95
 have y':=y
 obtain ⟨_,ym,_⟩:=y'
 rw [(qZw d o).len_]
 rw [qQk,qXx] at hk
 refine qQl ym (fun hp=>⟨rfl,?_⟩) fun hp=>hk.2 (decide_eq_false fun hx=>of_decide_eq_false hp (by omega)) _ (qZy o)
 have hp:=of_decide_eq_true hp
 have hk:=hk.1 (decide_eq_true (by omega))
 refine qGd y hN s I o hk fun pre n vp e1 e2 e3 e4 e5 e6 e7 e8 e9 hk=>⟨_,rfl,rfl,?_⟩
 rw [qQe]
 refine ⟨V.li,qPe e2 e9 o rfl,?_⟩
 rw [(o.rowK (i:=9) rfl).len]
 have hll:=e8.len
 have hsm:=(s.nd n (by rw [e1]; simp)).2
 refine qQl ym (fun hp2=>⟨rfl,?_⟩) fun hp2=>?_
 ·have hp2:=of_decide_eq_true hp2
  rcases e8 with ⟨h1,h2,_⟩ | ⟨ipre,it,vip,i1,i2,i3,i4,i5⟩
  ·rw [h2] at hp2; simp at hp2
  have hlast:n.ints.getLast?=some it:=by rw [i1]; simp
  have hdl:n.ints.dropLast=ipre:=by rw [i1,List.dropLast_concat]
  rw [hlast,hdl] at hk
  have hk:Out (opt (xAk (at1 w 1)) 225 >>= fun co=>opt (qAy most (w.drop 2)) 225 >>= fun es=>.ok (qVn B { n with ints:=ipre++[{ it with p:=it.p++[⟨co,es⟩] }] })) _ (BadL h0 R kp):=hk
  refine o.new_ fun p h1 hpn o1=>?_
  have hw1:Wr h1 wv w:=d.wr (o1.row (i:=12) rfl)
  refine hw1.at_ (i:=1) (by omega) fun ad1 hr1=>⟨_,hr1,?_⟩
  refine np _ h1 _ _ (by rw [qXv]; have:=hw1.word 1; omega) fun a h2 nb=>⟨_,_,rfl,?_⟩
  rw [qQv] at nb ⊢
  obtain ⟨g1,eg1,bz,o2⟩:=o1.frz_buf (j:=2) rfl nb.ext nb.buf
  have o2:Hp h0 h2 (qQn p [.slice none 0 0,.slice none 0 0]::lnL bp past V g1 B wv w R):=o2
  have I1:=I.ext eg1
  refine o2.stj (i:=0) (j:=0) rfl (by simp) (qZd bz.row) rfl fun h3 o3=>?_
  have o3:Hp h0 h3 (qQn p [a,.slice none 0 0]::lnL bp past V g1 B wv w R):=o3
  have hco:=xAj (at1 w 1)
  refine qQl ym (fun hz=>⟨rfl,?_⟩) fun hz=>?_
  ·have hz:(qWk (at1 w 1)).2=0:=eq_of_beq hz
   rw [if_pos hz] at hco
   rw [hco] at hk
   have hk:Out (opt (qAy most (w.drop 2)) 225 >>= fun es=>.ok (qVn B { n with ints:=ipre++[{ it with p:=it.p++[⟨(qWk (at1 w 1)).1,es⟩] }] })) _ (BadL h0 R kp):=hk
   refine Row.tail2 (o3.row (i:=12) rfl) (by show 2≤(wS w).length; unfold wS; rw [List.length_map]; omega) fun sv hsv=>?_
   have hsv:∀ {h:H},Row h wv (wS w)→Row h sv (wS (w.drop 2)):=fun {h} rr=>by rw [← xDf]; exact hsv h rr
   have o4:Hp h0 h3 (moL p a (.slice none 0 0) [] (lnL bp past V g1 B wv w R)):=(o3.add_nil (a:=none)).perm (.swap _ _ _)
   have hlw:∀ {K:Nat→Prop},K (w.drop 2).length→lenW sv K:=fun {K} hK=>by
    rw [(hsv (o3.row (i:=12) rfl)).len]
    unfold wS
    rw [List.length_map]; exact hK
   refine hlw ?_
   refine xPl y d ht hsv o4 (fun h5 es l hnum hin o5=>?_) fun h5 hnum o5=>?_
   ·rw [xs_e]
    show cond true _ _
    rw [cond_true,nth0,nth1]
    rw [hnum] at hk
    have hk:∀ V' g' h',BkI g' V' (qVn B { n with ints:=ipre++[{ it with p:=it.p++[⟨(qWk (at1 w 1)).1,l⟩] }] })→Hp h0 h' (lnL bp past V' g' _ wv w R)→k (.tuple #[]) h':=hk
    have rli:rd h5 (Addr.add (xGa V) 2)=some V.li:=qPe e2 e9 (o5.tail.tail) rfl
    refine ⟨rfl,?_⟩
    rw [qQe]
    refine ⟨V.li,rli,rfl,?_⟩
    rw [qQe]
    refine ⟨V.li,rli,?_⟩
    have rowli:RowK 2 h5 V.li V.lir:=o5.rowK (i:=11) rfl
    rw [rowli.len,qQr (by omega) (by omega),show (V.lir.length:Int) - 1=((V.lir.length - 1:Nat):Int) by omega]
    have hlt:V.lir.length - 1<V.lir.length:=by omega
    have hix:V.lir.length - 1=vip.length:=by rw [i2]; simp
    have hxl:V.lir[V.lir.length - 1]'hlt=[.int .i64 it.sym,V.lm]:=by
     have:V.lir[V.lir.length - 1]?=some [.int .i64 it.sym,V.lm]:=by rw [hix,i2]; simp
     rw [List.getElem?_eq_getElem hlt] at this
     exact Option.some.inj this
    refine xYz rowli hlt ⟨rfl,V.lm,xCu rowli hlt (by rw [hxl]; rfl),?_⟩
    rw [qQe]
    have hpc:=o5.cell (i:=0) rfl
    refine ⟨a,es,by simp only [rdN,hpc,qZm,Option.bind_some]; rfl,rfl,by decide,?_⟩
    have hes:=o5.row (i:=1) rfl
    obtain ⟨g2,eg2,ok2,o6⟩:=o5.freezeAt (i:=1) (j:=3) rfl rfl (by decide)
    have o6:Hp h0 h5 (lnL bp past V g2 B wv w R):=o6.tail.tail
    have I2:=I1.ext eg2
    have hml:=i5.len
    have hpl:=hsm.2 it (by rw [i1]; simp)
    refine o6.pushK (i:=10) rfl rfl rfl (by decide) (by omega) (qIs (qZd bz.row) (qZd hes)) fun s' h6 o7=>⟨rfl,?_⟩
    have o7:Hp h0 h6 (lnL bp past { V with lm:=s',lmr:=V.lmr++[[a,es]] } g2 B wv w R):=o7
    obtain ⟨h7,hw7,o8⟩:=o7.wr_atK (i:=9) (j:=V.lir.length - 1) (m:=1) (v:=s') rfl hlt (by decide)
    refine ⟨qQy (o7.rowK (i:=10) rfl).isSl,rfl,h7,hw7,?_⟩
    have hlir:(V.lir.set (V.lir.length - 1) ((V.lir[V.lir.length - 1]'hlt).set 1 s'))=vip++[[.int .i64 it.sym,s']]:=by
     rw [hxl,hix]
     conv=>lhs; rw [i2]
     rw [qIv]; rfl
    have o8:Hp h0 h7 (lnL bp past { V with lm:=s',lmr:=V.lmr++[[a,es]],lir:=V.lir.set (V.lir.length - 1) ((V.lir[V.lir.length - 1]'hlt).set 1 s') } g2 B wv w R):=o8
    rw [hlir] at o8
    have ll:l.length<2 ^ 40:=by
     have:=qOf hnum
     have:=d.len
     simp only [List.length_drop] at *
     omega
    rw [qBb e1] at hk
    refine hk { V with lm:=s',lmr:=V.lmr++[[a,es]],lir:=vip++[[.int .i64 it.sym,s']] } g2 h7 ⟨I2.ru,I2.eq,I2.pr,.inr ⟨pre,_,vp,rfl,e2,e3.mono fun _ _=>NdR.ext (eg1.trans eg2),e4,e5,e6,e7,?_⟩,I2.co⟩ o8
    exact .inr ⟨ipre,{ it with p:=it.p++[⟨(qWk (at1 w 1)).1,l⟩] },vip,rfl,rfl,i3.mono fun _ _=>ItR.ext (eg1.trans eg2),i4,(i5.mono fun _ _=>MoR.ext (eg1.trans eg2)).push ⟨a,es,rfl,⟨(bz.ext eg2).row,nb.ok,nb.small⟩,⟨Buf.row ok2,ll,hin⟩⟩⟩
   ·rw [hnum] at hk
    exact hk h5 o5
  ·have hz:¬ (qWk (at1 w 1)).2=0:=beq_eq_false_iff_ne.mp hz
   rw [if_neg hz] at hco
   rw [hco] at hk
   exact hk h3 (qZy o3.tail)
 ·have hz:n.ints=[]:=List.length_eq_zero_iff.mp (by have:=of_decide_eq_false hp2; omega)
  rw [hz] at hk
  exact hk _ (qZy o)
theorem xHz (y:Hyp D) (c:Cl44 D) (sm:qMp D 95 Tbl):qPl D 44 Tbl:=by
 intro N bp past V g B wv w R h0 h k kp hN hw0 d ht s I o hk
 refine c _ _ _ _ _ ?_
 unfold F44
 refine (qZw d o).at_ (i:=0) (List.length_pos_iff.mpr hw0) fun ad hr=>⟨_,hr,?_⟩
 unfold qCw at hk
 rw [qVg,qQd]
 refine ⟨fun hc=>?_,fun hc=>?_⟩
 ·rw [if_pos (show at1 w 0=wSym from hc),qQk] at hk
  exact xKh y hN d ht s I o hw0 hk
 rw [if_neg (show ¬ at1 w 0=wSym from hc),qQk] at hk
 have hk:Out (qSo B w) (OkL h0 bp wv w R k) (BadL h0 R kp):=hk
 unfold qSo at hk
 dsimp only at hk
 rw [qVg,qQd]
 refine ⟨fun hc=>?_,fun hc=>?_⟩
 ·rw [if_pos (show at1 w 0=qHh from hc)] at hk
  exact xJi y hN d ht s I o hk
 rw [if_neg (show ¬ at1 w 0=qHh from hc)] at hk
 rw [qVg,qQd]
 refine ⟨fun hc=>?_,fun hc=>?_⟩
 ·rw [if_pos (show at1 w 0=wEq from hc)] at hk
  exact xGi y hN d ht s I o hk
 rw [if_neg (show ¬ at1 w 0=wEq from hc)] at hk
 rw [qVg,qQd]
 refine ⟨fun hc=>?_,fun hc=>?_⟩
 ·rw [if_pos (show at1 w 0=qYl from hc)] at hk
  exact xWp y hN d ht s I o hk
 rw [if_neg (show ¬ at1 w 0=qYl from hc)] at hk
 rw [qVg,qQd]
 refine ⟨fun hc=>?_,fun hc=>?_⟩
 ·rw [if_pos (show at1 w 0=qKx from hc)] at hk
  exact xPh y hN d ht s I o hk
 rw [if_neg (show ¬ at1 w 0=qKx from hc)] at hk
 rw [qVg,qQd]
 refine ⟨fun hc=>?_,fun hc=>?_⟩
 ·rw [if_pos (show at1 w 0=qKw from hc)] at hk
  exact xJx y hN d ht s I o hk
 rw [if_neg (show ¬ at1 w 0=qKw from hc)] at hk
 rw [qVg,qQd]
 refine ⟨fun hc=>?_,fun hc=>?_⟩
 ·rw [if_pos (show at1 w 0=wSet from hc)] at hk
  exact xKl y hN d ht s I o hk
 rw [if_neg (show ¬ at1 w 0=wSet from hc)] at hk
 rw [qVg,qQd]
 refine ⟨fun hc=>?_,fun hc=>?_⟩
 ·rw [if_pos (show at1 w 0=qAs from hc)] at hk
  refine sm N bp past V g B wv w R h0 h _ _ hN hw0 d ht s I o ?_
  refine qXa (fun B' _ hok=>?_) (fun _ h=>h) hk
  exact fun V' g' h' I' o'=>⟨rfl,qYo I' o' hok⟩
 rw [if_neg (show ¬ at1 w 0=qAs from hc)] at hk
 have fin:∀ b:Bool,(b=true↔bare (at1 w 0))→j44__36 D k kp (Pt bp) wv (.string (strB (at1 w 0))) (.bool b) h:=fun b hb=>xCa y hN d ht s I o hw0 hb hk
 rw [qVg,qQd]
 refine ⟨fun hc=>fin _ (by rw [decide_eq_true_eq]; exact ⟨fun hh=>.inl hh,fun _=>hc⟩),fun hc1=>?_⟩
 rw [qVg,qQd]
 refine ⟨fun hc=>fin _ (by rw [decide_eq_true_eq]; exact ⟨fun hh=>.inr (.inl hh),fun _=>hc⟩),fun hc2=>?_⟩
 rw [qVg,qQd]
 refine ⟨fun hc=>fin _ (by rw [decide_eq_true_eq]; exact ⟨fun hh=>.inr (.inr (.inl hh)),fun _=>hc⟩),fun hc3=>?_⟩
 rw [qVg,qQd]
 refine ⟨fun hc=>fin _ (by rw [decide_eq_true_eq]; exact ⟨fun hh=>.inr (.inr (.inr (.inl hh))),fun _=>hc⟩),fun hc4=>?_⟩
 rw [qVg]
 refine fin _ ?_
 rw [decide_eq_true_eq]
 exact ⟨fun hh=>.inr (.inr (.inr (.inr hh))),fun hh=>by
  rcases hh with hh | hh | hh | hh | hh
  ·exact absurd hh hc1
  ·exact absurd hh hc2
  ·exact absurd hh hc3
  ·exact absurd hh hc4
  ·exact hh⟩
end Go.Proofs.YtkdneddcocggdaaGreatDoor.Am
