/-
  Packed: The library's trimming, of one byte. The library's trimming: on the left, of noughts; reversing. The library's trimming, of a set of plain signs. The library's trimming on both sides. Terms are read off the front of a text. Symbols; terms are read. Terms: read whole, written, shown.
-/
import Derived.Test.YtkdneddcocggdaaGreatDoorAmFnsR
import Derived.Test.YtkdneddcocggdaaGreatDoorPkC
import Derived.Test.YtkdneddcocggdaaGreatDoorPkE
set_option linter.unusedVariables false
set_option linter.unusedSimpArgs false
set_option linter.unnecessarySimpa false
namespace Go.Proofs.YtkdneddcocggdaaGreatDoor.Am
open Go Go.Proofs
def qCc (D:Orc) (f:Nat):Prop:=∀ (s:ByteArray) (c:UInt8) h (k:Kv) kp,s.size<2 ^ 62→(∀ t,bts t=(bts s).dropWhile (·==c)→k (.string t) h)→D f [.string s,.int .u8 (c.toNat:Int)] h k kp
theorem xDg {a b:UInt8}:((a.toNat:Int)=(b.toNat:Int))↔a=b:=by
 constructor
 ·intro h
  exact UInt8.toNat_inj.mp (by omega)
 ·rintro rfl; rfl
theorem xDz {D:Orc} (c:Cl136 D):qCc D 136:=by
 intro s b h k kp hs hk
 refine c _ _ _ _ _ ?_
 unfold F136
 simp only [qQb,qQa]
 intro I hI
 have key:∀ n:Nat,∀ t:ByteArray,t.size=n→t.size<2 ^ 62→(bts t).dropWhile (·==b)=(bts s).dropWhile (·==b)→I [.string t,.int .u8 (b.toNat:Int)] h:=by
  intro n
  induction n using Nat.strongRecOn with
  | _ n ih =>
   intro t ht hts he
   refine hI _ _ _ ?_
   unfold round136_1
   simp only [qQb,qQa]
   rw [qQd]
   refine ⟨fun h1=>?_,fun h1=>?_⟩
   ·refine qXk (by omega) (by omega) fun x hx=>?_
    rw [qZf]
    have hcons:bts t=x::(bts t).drop 1:=by
     cases hbt:bts t with
     | nil=>rw [hbt] at hx; simp at hx
     | cons y l=>rw [hbt] at hx; simp at hx; subst hx; rfl
    refine ⟨fun h2=>?_,fun h2=>?_⟩
    ·have hxb:=xDg.mp h2
     refine qZb (by omega) (by omega) fun u hu=>?_
     have hus:u.size=t.size - 1:=by
      rw [← qQq,hu,List.length_drop,qQq]; rfl
     refine ih u.size (by omega) u rfl (by omega) ?_
     rw [hu,← he,hcons,List.dropWhile_cons,if_pos (by simpa using hxb)]
     rfl
    ·simp only [xs_e,nth0,Nat.beq_refl,cond_true,qQb]
     refine hk t ?_
     rw [← he,hcons,List.dropWhile_cons,if_neg (by
      intro h3; exact h2 (xDg.mpr (by simpa using h3)))]
   ·simp only [xs_e,nth0,Nat.beq_refl,cond_true,qQb]
    refine hk t ?_
    have:bts t=[]:=List.length_eq_zero_iff.mp (by rw [qQq]; omega)
    rw [← he,this]; rfl
 exact key s.size s rfl hs rfl
theorem qYv {s:ByteArray} {A B:Prop}:cond (s.toList==(ByteArray.mk #[]).toList) A B↔(bts s=[]→A)∧(bts s≠[]→B):=by
 rw [qQw,qQw,qVk]
 simp [bts]
def qPj (D:Orc) (f:Nat):Prop:=∀ (s:ByteArray) h (k:Kv) kp,s.size<2 ^ 62→(∀ t,bts t=(bts s).dropWhile (·==48)→k (.string t) h)→D f [.string s,.string (ByteArray.mk #[48])] h k kp
theorem xFl {D:Orc} (c:Cl112 D) (t40:qCc D 136):qPj D 112:=by
 intro s h k kp hs hk
 refine c _ _ _ _ _ ?_
 unfold F112
 simp only [qQb]
 rw [qQx,qYv]
 refine ⟨fun h1=>?_,fun h1=>?_⟩
 ·unfold j112__2
  simp only [qQb,qQc,cond_true]
  exact hk s (by rw [h1]; rfl)
 ·have e1:((ByteArray.mk #[48]).toList==(ByteArray.mk #[]).toList)=false:=by rw [qQw,qQw]; rfl
  rw [e1]
  unfold j112__2
  simp only [qQb,qQc,cond_false]
  rw [qZf]
  refine ⟨fun _=>?_,fun h=>absurd rfl h⟩
  refine qXk (by decide) (by decide) fun x hx=>?_
  have hx48:x=48:=by simpa [bts] using hx.symm
  subst hx48
  unfold j112__4
  rw [qQb,qQb,qQc,qQd]
  refine ⟨fun _=>?_,fun h=>absurd (by decide) h⟩
  refine qXk (by decide) (by decide) fun y hy=>?_
  have hy48:y=48:=by simpa [bts] using hy.symm
  subst hy48
  exact t40 s 48 _ _ _ hs fun t ht=>⟨t,rfl,hk t ht⟩
structure Yb (h0 h:H) (s:Value) (l:List UInt8):Prop where
 ext:Ext h0 h
 buf:Buf h0 h s (U8 l)
 small:l.length<2 ^ 40
theorem xLr (l:List UInt8) (n:Nat) (x:UInt8):(U8 l).set n (.int .u8 (x.toNat:Int))=U8 (l.set n x):=by simp [U8,List.map_set]
theorem Yb.len {h0 h:H} {s:Value} {l:List UInt8} (r:Yb h0 h s l) {k:Nat→Prop}:lenW s k↔k l.length:=by rw [r.buf.row.len,qXz]
theorem Yb.at_ {h0 h:H} {s:Value} {l:List UInt8} (r:Yb h0 h s l) {n:Int} (i:Nat) (hn:n=(i:Int)) (hi:i<l.length) {k:Addr→Prop} (hk:∀ a (x:UInt8),l[i]?=some x→rd h a=some (.int .u8 (x.toNat:Int))→k a):qQm s n 1 k:=by
 subst hn
 refine r.buf.row.at_ (by omega) (by rw [qXz]; omega) fun a v hv ha=>?_
 rw [Int.toNat_natCast] at hv
 simp only [U8,List.getElem?_map,Option.map_eq_some_iff] at hv
 obtain ⟨x,hx,rfl⟩:=hv
 exact hk a x hx ha
theorem Yb.put {h0 h:H} {s:Value} {l:List UInt8} (r:Yb h0 h s l) {T O:Prop} (hT:T) (hO:O) {n:Int} (i:Nat) (hn:n=(i:Int)) (hi:i<l.length) {v:Value} {x:UInt8} (hv:v=.int .u8 (x.toNat:Int)) {K:H→Prop} (hk:∀ h',Yb h0 h' s (l.set i x)→K h') :
  qQm s n 1 (fun a=>O∧T∧∃ h',wr1 h a v=some h'∧K h'):=by
 subst hn hv
 refine r.buf.put (by rw [qXz]; exact hi) fun a h' hw he hb=>⟨hO,hT,h',hw,hk h' ⟨he h0 r.ext fun _ h=>h,?_,by simpa using r.small⟩⟩
 rw [xLr] at hb; exact hb
def qEl (D:Orc) (f:Nat):Prop:=∀ s l h0 h (k:Kv) kp,Yb h0 h s l→(∀ h',Yb h0 h' s l.reverse→k (.tuple #[]) h')→D f [s] h k kp
theorem xKo {l:List UInt8} {i:Nat} {o:List UInt8} (ho:∀ j,j<l.length→o[j]?=if j<i∨l.length - i≤j then l[l.length - 1 - j]? else l[j]?) (hol:o.length=l.length) (hi:i<l.length - 1 - i) {x y:UInt8} (hx:o[l.length - 1 - i]?=some x) (hy:o[i]?=some y) :
  ∀ j,j<l.length→((o.set i x).set (l.length - 1 - i) y)[j]?=if j<i+1∨l.length - (i+1)≤j then l[l.length - 1 - j]? else l[j]?:=by
 intro j hj
 rw [List.getElem?_set,List.getElem?_set,List.length_set,hol]
 by_cases h1:l.length - 1 - i=j
 ·rw [if_pos h1,if_pos (by omega),if_pos (by omega)]
  rw [← hy,ho i (by omega),if_neg (by omega)]
  congr 1; omega
 ·rw [if_neg h1]
  by_cases h2:i=j
  ·rw [if_pos h2,if_pos (by omega),if_pos (by omega)]
   subst h2
   rw [← hx,ho _ (by omega),if_neg (by omega)]
  ·rw [if_neg h2,ho j hj]
   by_cases h3:j<i∨l.length - i≤j
   ·rw [if_pos h3,if_pos (by omega)]
   ·rw [if_neg h3,if_neg (by omega)]
theorem xFb {D:Orc} (c:Cl132 D):qEl D 132:=by
 intro s l h0 h k kp r hk
 refine c _ _ _ _ ?_
 unfold F132
 have hs:=r.small
 rw [r.len,qQr (by omega) (by omega)]
 intro I hI
 have key:∀ d i:Nat,∀ (o:List UInt8) (h1:H),2*i+d=l.length+2→o.length=l.length→Yb h0 h1 s o→(∀ j,j<l.length→o[j]?=if j<i∨l.length - i≤j then l[l.length - 1 - j]? else l[j]?) →
   I [s,.int .i64 (i:Int),.int .i64 ((l.length:Int) - 1 - (i:Int))] h1:=by
  intro d
  induction d using Nat.strongRecOn with
  | _ d ih =>
   intro i o h1 hd ho r hj
   refine hI _ _ _ _ ?_
   unfold round132_1
   simp only [qQa]
   rw [qQd]
   refine ⟨fun h2=>?_,fun h2=>?_⟩
   ·refine r.at_ (l.length - 1 - i) (by omega) (by omega) fun a x hx ha=>⟨_,ha,?_⟩
    refine r.at_ i rfl (by omega) fun a y hy hb=>⟨_,hb,?_⟩
    refine r.put (by trivial) (by trivial) (x:=x) i rfl (by omega) rfl fun h3 r3=>?_
    refine r3.put (by trivial) (by trivial) (x:=y) (l.length - 1 - i) (by omega) (by simp; omega) rfl fun h4 r4=>?_
    rw [qQr (by omega) (by omega),qQr (by omega) (by omega),show (i:Int)+1=((i+1:Nat):Int) by omega,show (l.length:Int) - 1 - (i:Int) - 1=(l.length:Int) - 1 - ((i+1:Nat):Int) by omega]
    exact ih (d - 2) (by omega) (i+1) _ h4 (by omega) (by simpa using ho) r4 (xKo hj ho (by omega) hx hy)
   ·simp only [xs_e,Nat.beq_refl,cond_true]
    refine hk h1 ?_
    have:o=l.reverse:=by
     apply List.ext_getElem?
     intro j
     by_cases hjl:j<l.length
     ·rw [hj j hjl,List.getElem?_reverse hjl]
      split
      ·rfl
      ·congr 1; omega
     ·rw [List.getElem?_eq_none (by omega),List.getElem?_eq_none (by simp; omega)]
    rw [← this]; exact r
 have:=key (l.length+2) 0 l h (by omega) rfl r (fun j hj=>by rw [if_neg (by omega)])
 simpa using this
def tab (q:Nat→Bool):List Value:=(List.range 256).map fun i=>.bool (q i)
theorem qVl (q:Nat→Bool):(tab q).length=256:=by simp [tab]
theorem qFe (q:Nat→Bool) {i:Nat} (hi:i<256):(tab q)[i]?=some (.bool (q i)):=by simp [tab,hi]
theorem qRr (q:Nat→Bool):(tab q).all one=true:=by simp [tab,one]
theorem xDj (q:Nat→Bool) {x:Nat}:(tab q).set x (.bool true)=tab fun i=>q i || i==x:=by
 apply List.ext_getElem?
 intro i
 rw [List.getElem?_set]
 by_cases hi:i<256
 ·rw [qFe _ hi,qFe _ hi,qVl]
  by_cases h:x=i
  ·subst h; simp [hi]
  ·rw [if_neg h]
   have:(i==x)=false:=by simpa using Ne.symm h
   rw [this,Bool.or_false]
 ·rw [List.getElem?_eq_none (by rw [qVl]; omega),List.getElem?_eq_none (by rw [qVl]; omega),qVl]
  by_cases h:x=i
  ·rw [if_pos h,if_neg (by omega)]
  ·rw [if_neg h]
theorem xYp {q r:Nat→Bool} (h:∀ i,i<256→q i=r i):tab q=tab r:=by
 apply List.ext_getElem?
 intro i
 by_cases hi:i<256
 ·rw [qFe _ hi,qFe _ hi,h i hi]
 ·rw [List.getElem?_eq_none (by rw [qVl]; omega),List.getElem?_eq_none (by rw [qVl]; omega)]
theorem xJr {h:H} {b n:Nat} {l:List Value} (hb:h b=some (.cells l)) (hn:l.length=n):rdN h ⟨b,0,none⟩ n=some l:=by
 subst hn
 simp [rdN,hb,qZm]
theorem xWr {h:H} {b:Nat} {l ws:List Value} (hb:h b=some (.cells l)) (hn:l.length=ws.length):wr h ⟨b,0,none⟩ ws=some (h.set b (.cells ws)):=by
 simp only [wr,hb]
 rw [if_pos (by simp; omega)]
 simp only [splice,List.take_zero,List.nil_append,Nat.zero_add]
 rw [List.drop_eq_nil_of_le (by omega),List.append_nil]
def qMt (D:Orc) (f:Nat):Prop:=∀ b q (x:UInt8) h (k:Kv) kp,h b=some (.cells (tab q))→k (.bool (q x.toNat)) h→D f [.pointer (some ⟨b,0,none⟩),.int .u8 (x.toNat:Int)] h k kp
theorem xDq {D:Orc} (c:Cl156 D):qMt D 156:=by
 intro b q x h k kp hb hk
 refine c _ _ _ _ _ ?_
 unfold F156
 have hx:x.toNat<256:=x.toNat_lt
 simp only [qQa]
 refine ⟨rfl,by omega,by omega,q x.toNat,?_,hk⟩
 rw [qZg]
 simp only [rd,hb,qZm,Option.bind_some,Nat.mul_one,Int.toNat_natCast,Nat.zero_add]
 exact qFe q hx
def qMm (D:Orc) (f:Nat):Prop:=∀ (cut:ByteArray) h (k:Kv) kp,(∀ b∈bts cut,b.toNat<128)→cut.size<2 ^ 40 →
 (∀ h',Ext h h'→k (.tuple #[.agg (tab fun i=>(bts cut).any (·.toNat==i)).toArray,.bool true]) h')→D f [.string cut] h k kp
set_option maxRecDepth 100000 in
theorem xDy {D:Orc} (c:Cl137 D):qMm D 137:=by
 intro cut h k kp ha hs hk
 refine c _ _ _ _ ?_
 unfold F137
 rw [qQb]
 intro b hb
 have e0:h.set b (.cells (tab fun i=>((bts cut).take 0).any (·.toNat==i)))=h.set b (.cells (tab fun _=>false)):=rfl
 intro I hI
 have key:∀ d j:Nat,j+d=cut.size→I [.string cut,.pointer (some ⟨b,0,none⟩),.int .i64 (j:Int)] (h.set b (.cells (tab fun i=>((bts cut).take j).any (·.toNat==i)))):=by
  intro d
  induction d with
  | zero =>
   intro j hj
   refine hI _ _ _ _ ?_
   unfold round137_2
   simp only [qQb,qQa]
   rw [qQd]
   refine ⟨fun x=>absurd x (by omega),fun _=>?_⟩
   simp only [xs_e,nth0,Nat.beq_refl,cond_true,qQe]
   refine ⟨_,xJr qQf (qVl _),qVl _,qRr _,_,xWr qQf rfl,_,xJr qQf (qVl _),?_⟩
   have e1:(tab fun i=>((bts cut).take j).any (·.toNat==i))=tab fun i=>(bts cut).any (·.toNat==i):=by
    rw [List.take_of_length_le (by rw [qQq]; omega)]
   rw [e1]
   exact hk _ ((Ext.new hb).trans (by rw [qJf]; exact Ext.refl _))
  | succ d ih =>
   intro j hj
   refine hI _ _ _ _ ?_
   unfold round137_2
   simp only [qQb,qQa]
   rw [qQd]
   refine ⟨fun _=>?_,fun x=>absurd (show (j:Int)<(cut.size:Int) by omega) x⟩
   refine qXk (by omega) (by omega) fun x hx=>?_
   rw [Int.toNat_natCast] at hx
   have hx128:=ha x (List.mem_of_getElem? hx)
   rw [qQd]
   refine ⟨fun h1=>absurd h1 (by omega),fun _=>?_⟩
   simp only [qQe]
   refine ⟨by omega,by omega,by trivial,by trivial,?_,?_,?_⟩
   ·exact h.set b (.cells (tab fun i=>((bts cut).take (j+1)).any (·.toNat==i)))
   ·rw [qZg]
    simp only [wr1,qQf,Int.toNat_natCast,Nat.mul_one,Nat.zero_add]
    rw [if_pos (by rw [qVl]; omega),xDj,qJf]
    congr 3
    apply xYp
    intro i hi
    rw [List.take_add_one,hx,List.any_append]
    simp [Bool.beq_eq_decide_eq,eq_comm]
   ·rw [qQr (by omega) (by omega),show (j:Int)+1=((j+1:Nat):Int) by omega]
    exact ih (j+1) (by omega)
 have:=key cut.size 0 (by omega)
 exact this
def rtrim (q:UInt8→Bool) (l:List UInt8):List UInt8:=(l.reverse.dropWhile q).reverse
def qAc (D:Orc) (f:Nat):Prop:=∀ (s:ByteArray) b q h (k:Kv) kp,s.size<2 ^ 62→h b=some (.cells (tab q))→(∀ t,bts t=(bts s).dropWhile (fun x=>q x.toNat)→k (.string t) h)→D f [.string s,.pointer (some ⟨b,0,none⟩)] h k kp
def qCb (D:Orc) (f:Nat):Prop:=∀ (s:ByteArray) b q h (k:Kv) kp,s.size<2 ^ 62→h b=some (.cells (tab q))→(∀ t,t.size≤s.size→bts t=rtrim (fun x=>q x.toNat) (bts s)→k (.string t) h)→D f [.string s,.pointer (some ⟨b,0,none⟩)] h k kp
theorem xDx {D:Orc} (c:Cl138 D) (g:qMt D 156):qAc D 138:=by
 intro s b q h k kp hs hb hk
 refine c _ _ _ _ _ ?_
 unfold F138
 simp only [qQb]
 intro I hI
 have key:∀ n:Nat,∀ t:ByteArray,t.size=n→t.size<2 ^ 62→(bts t).dropWhile (fun x=>q x.toNat)=(bts s).dropWhile (fun x=>q x.toNat)→I [.string t,.pointer (some ⟨b,0,none⟩)] h:=by
  intro n
  induction n using Nat.strongRecOn with
  | _ n ih =>
   intro t ht hts he
   refine hI _ _ _ ?_
   unfold round138_1
   simp only [qQb]
   rw [qQd]
   refine ⟨fun h1=>?_,fun h1=>?_⟩
   ·refine qXk (by omega) (by omega) fun x hx=>?_
    refine g _ _ _ _ _ _ hb ⟨_,rfl,?_⟩
    have hcons:bts t=x::(bts t).drop 1:=by
     cases hbt:bts t with
     | nil=>rw [hbt] at hx; simp at hx
     | cons y l=>rw [hbt] at hx; simp at hx; subst hx; rfl
    rw [qQx,qVk]
    refine ⟨fun h2=>?_,fun h2=>?_⟩
    ·refine qZb (by omega) (by omega) fun u hu=>?_
     have hus:u.size=t.size - 1:=by
      rw [← qQq,hu,List.length_drop,qQq]; rfl
     refine ih u.size (by omega) u rfl (by omega) ?_
     rw [hu,← he,hcons,List.dropWhile_cons,if_pos h2]
     rfl
    ·simp only [xs_e,nth0,Nat.beq_refl,cond_true,qQb]
     refine hk t ?_
     rw [← he,hcons,List.dropWhile_cons,if_neg (by rw [h2]; decide)]
   ·simp only [xs_e,nth0,Nat.beq_refl,cond_true,qQb]
    refine hk t ?_
    have:bts t=[]:=List.length_eq_zero_iff.mp (by rw [qQq]; omega)
    rw [← he,this]; rfl
 exact key s.size s rfl hs rfl
theorem xDm {D:Orc} (c:Cl171 D) (g:qMt D 156):qCb D 171:=by
 intro s b q h k kp hs hb hk
 refine c _ _ _ _ _ ?_
 unfold F171
 simp only [qQb]
 intro I hI
 have key:∀ n:Nat,∀ t:ByteArray,t.size=n→t.size≤s.size→rtrim (fun x=>q x.toNat) (bts t)=rtrim (fun x=>q x.toNat) (bts s)→I [.string t,.pointer (some ⟨b,0,none⟩)] h:=by
  intro n
  induction n using Nat.strongRecOn with
  | _ n ih =>
   intro t ht hts he
   refine hI _ _ _ ?_
   unfold round171_1
   simp only [qQb]
   rw [qQd]
   refine ⟨fun h1=>?_,fun h1=>?_⟩
   ·rw [qQr (by omega) (by omega)]
    refine qXk (by omega) (by omega) fun x hx=>?_
    refine g _ _ _ _ _ _ hb ⟨_,rfl,?_⟩
    rw [show ((t.size:Int) - 1).toNat=t.size - 1 by omega] at hx
    have hcons:bts t=(bts t).take (t.size - 1)++[x]:=by
     have hl:(bts t).length=t.size - 1+1:=by rw [qQq]; omega
     have:=List.take_add_one (l:=bts t) (i:=t.size - 1)
     rw [hx,List.take_of_length_le (by omega)] at this
     simpa using this
    have hrev:(bts t).reverse=x::((bts t).take (t.size - 1)).reverse:=by
     conv=>lhs; rw [hcons]
     simp
    rw [qQx,qVk]
    refine ⟨fun h2=>?_,fun h2=>?_⟩
    ·refine qVh (by omega) (by omega) fun u hu=>?_
     rw [show ((t.size:Int) - 1).toNat=t.size - 1 by omega] at hu
     have hus:u.size=t.size - 1:=by
      rw [← qQq,hu,List.length_take,qQq]; omega
     refine ih u.size (by omega) u rfl (by omega) ?_
     rw [hu,← he]
     unfold rtrim
     rw [hrev,List.dropWhile_cons,if_pos h2]
    ·simp only [xs_e,nth0,Nat.beq_refl,cond_true,qQb]
     refine hk t hts ?_
     rw [← he]
     unfold rtrim
     rw [hrev,List.dropWhile_cons,if_neg (by rw [h2]; decide),← hrev,List.reverse_reverse]
   ·simp only [xs_e,nth0,Nat.beq_refl,cond_true,qQb]
    refine hk t hts ?_
    have:bts t=[]:=List.length_eq_zero_iff.mp (by rw [qQq]; omega)
    rw [← he,this]; rfl
 exact key s.size s rfl (Nat.le_refl _) rfl
def xBi (cut:ByteArray) (x:UInt8):Bool:=(bts cut).any (·.toNat==x.toNat)
def qUm (D:Orc) (f:Nat):Prop:=∀ (s cut:ByteArray) h (k:Kv) kp,s.size<2 ^ 62→(∀ b∈bts cut,b.toNat<128)→2≤cut.size→cut.size<2 ^ 40 →
 (∀ t h',Ext h h'→bts t=(rtrim (xBi cut) (bts s)).dropWhile (xBi cut)→k (.string t) h')→D f [.string s,.string cut] h k kp
set_option maxRecDepth 100000 in
theorem xDr {D:Orc} (c:Cl154 D) (t41:qMm D 137) (t45:qCb D 171) (t42:qAc D 138):qUm D 154:=by
 intro s cut h k kp hs ha h2 hcut hk
 refine c _ _ _ _ _ ?_
 unfold F154
 rw [qQb,qQb,qQx,qYv]
 refine ⟨fun h1=>?_,fun h1=>?_⟩
 ·unfold j154__2
  rw [qQb,qQb,qQc,cond_true]
  exact hk s h (Ext.refl h) (by rw [h1]; rfl)
 ·have e1:(cut.toList==(ByteArray.mk #[]).toList)=false:=by
   rw [qQw,qQw]
   cases hc:bts cut with
   | nil=>rw [← qQq,hc] at h2; simp at h2
   | cons x l=>rfl
  rw [e1]
  unfold j154__2
  rw [qQb,qQb,qQc,cond_false,qZf]
  refine ⟨fun h=>absurd h (by omega),fun _=>?_⟩
  unfold j154__4
  rw [qQb,qQb,qQc,cond_false]
  refine t41 _ _ _ _ ha hcut fun h1 he=>⟨_,true,rfl,?_⟩
  intro b hb
  rw [qQe]
  refine ⟨qVl _,qRr _,_,xWr qQf (by rw [qVl]; rfl),?_⟩
  rw [cond_true,qJf]
  refine t45 _ _ _ _ _ _ hs qQf fun t ht hbt=>⟨t,rfl,?_⟩
  refine t42 _ _ _ _ _ _ (by omega) qQf fun u hu=>⟨u,rfl,?_⟩
  refine hk u _ (he.trans (Ext.new hb)) ?_
  rw [hu,hbt]; rfl
theorem xKb {q:UInt8→Bool} {l:List UInt8}:(rtrim q l).dropWhile q=[]↔l.all q=true:=by
 have key:∀ m:List UInt8,m.dropWhile q=[]↔m.all q=true:=by
  intro m
  induction m with
  | nil=>simp
  | cons x m ih =>
   rw [List.dropWhile_cons]
   by_cases hx:q x=true
   ·rw [if_pos hx,ih]; simp [hx]
   ·rw [if_neg hx]; simp [hx]
 constructor
 ·intro h
  rw [key] at h
  unfold rtrim at h
  rw [List.all_reverse] at h
  have h3:l.reverse.dropWhile q=[]:=by
   cases hd:l.reverse.dropWhile q with
   | nil=>rfl
   | cons x m =>
    have h4:=List.head_dropWhile_not q (l:=l.reverse) (by rw [hd]; simp)
    rw [hd] at h
    simp only [hd,List.head_cons] at h4
    simp [h4] at h
  rw [key] at h3
  simpa using h3
 ·intro h
  have h3:l.reverse.dropWhile q=[]:=by rw [key]; simpa using h
  unfold rtrim
  rw [h3]; rfl
end Go.Proofs.YtkdneddcocggdaaGreatDoor.Am
namespace Go.Proofs.YtkdneddcocggdaaGreatDoor.Am
open Go Go.Proofs Go.RowKit Go.Lib Sys Sp
set_option maxRecDepth 100000
variable {D:Orc} {h h0:H} {k:Kv} {kp:Kp}
def qTc:ByteArray:=ByteArray.mk #[48,49,50,51,52,53,54,55,56,57]
theorem xBj (x:UInt8):((bts qTc).any fun b=>b.toNat==x.toNat)=Sp.qXu x:=by
 have e:bts qTc=[48,49,50,51,52,53,54,55,56,57]:=rfl
 unfold Sp.qXu
 rw [e,Bool.eq_iff_iff]
 simp only [List.any_cons,List.any_nil,Bool.or_false,Bool.or_eq_true,beq_iff_eq,Bool.and_eq_true,decide_eq_true_eq]
 have h48:(48:UInt8).toNat=48:=rfl
 have h49:(49:UInt8).toNat=49:=rfl
 have h50:(50:UInt8).toNat=50:=rfl
 have h51:(51:UInt8).toNat=51:=rfl
 have h52:(52:UInt8).toNat=52:=rfl
 have h53:(53:UInt8).toNat=53:=rfl
 have h54:(54:UInt8).toNat=54:=rfl
 have h55:(55:UInt8).toNat=55:=rfl
 have h56:(56:UInt8).toNat=56:=rfl
 have h57:(57:UInt8).toNat=57:=rfl
 rw [h48,h49,h50,h51,h52,h53,h54,h55,h56,h57]
 omega
def xEq (D:Orc) (f:Nat):Prop:=∀ (s:ByteArray) h (k:Kv) kp,s.size<2 ^ 40→(∀ t h',Ext h h'→bts t=(bts s).dropWhile Sp.qXu→k (.string t) h')→D f [.string s,.string (ByteArray.mk #[48,49,50,51,52,53,54,55,56,57])] h k kp
theorem qFb (c:Cl112 D) (t41:qMm D 137) (t42:qAc D 138):xEq D 112:=by
 intro s h k kp hs hk
 refine c _ _ _ _ _ ?_
 unfold F112
 rw [qQb,qQb,qKj]
 have hne:((ByteArray.mk #[48,49,50,51,52,53,54,55,56,57]).toList==(ByteArray.mk #[]).toList)=false:=by rw [qKj]; rfl
 rw [qQx,qQd]
 refine ⟨fun h1=>?_,fun h1=>?_⟩
 ·unfold j112__2
  rw [qQb,qQb,qQc,cond_true]
  exact hk s h (Ext.refl h) (by rw [h1]; rfl)
 ·rw [hne]
  unfold j112__2
  rw [qQb,qQb,qQc,cond_false,qZf]
  refine ⟨fun h=>absurd h (by decide),fun _=>?_⟩
  unfold j112__4
  rw [qQb,qQb,qQc,cond_false]
  refine t41 qTc _ _ _ (by decide) (by decide) fun h1 he=>⟨_,true,rfl,?_⟩
  intro b hb
  rw [qQe]
  refine ⟨qVl _,qRr _,_,xWr qQf (by rw [qVl]; rfl),?_⟩
  rw [cond_true,qJf]
  refine t42 _ _ _ _ _ _ (by omega) qQf fun u hu=>⟨u,rfl,?_⟩
  refine hk u _ (he.trans (Ext.new hb)) ?_
  rw [hu]
  congr 1
  funext x
  exact xBj x
theorem xJf {s:ByteArray} {p:Nat} (hp:p<s.size):letter (Utf8.decode s p).1=qZj (s.get! p)∧more (Utf8.decode s p).1=qYh (s.get! p)∧1≤(Utf8.decode s p).2∧p+(Utf8.decode s p).2≤s.size ∧
  ∀ j,p≤j→j<p+(Utf8.decode s p).2→j≠p→qYh (s.get! j)=true:=by
 by_cases hb:(s.get! p).toNat<128
 ·rw [Sp.qIl hb]
  refine ⟨rfl,rfl,Nat.le_refl _,by dsimp only; omega,fun j h1 h2 h3=>by dsimp only at h2; omega⟩
 ·obtain ⟨h1,h2,h3⟩:=Sp.qGm hb
  have l1:letter (Utf8.decode s p).1=true:=by unfold letter; simp; omega
  have l2:qZj (s.get! p)=true:=by unfold qZj; simp; omega
  refine ⟨by rw [l1,l2],?_,h2,?_,fun j g1 g2 g3=>?_⟩
  ·unfold more qYh; rw [l1,l2]; rfl
  ·by_cases hw:(Utf8.decode s p).2=1
   ·omega
   ·have:=(h3 ((Utf8.decode s p).2 - 1) (by omega) (by omega)).1
    omega
  ·have:=(h3 (j - p) (by omega) (by omega)).2
   rw [show p+(j - p)=j by omega] at this
   have:qZj (s.get! j)=true:=by unfold qZj; simp; omega
   exact qEe this
theorem xVs (hl:qZx letter D 140) (hm:qZx more D 141) {s:ByteArray} {b:Nat} (h0b:h0 b=none) {K:Kl} {h1:H} (hb1:h1 b=some (.sit s 0)) (e1:Ext h0 h1)
  (hK:∀ h',Ext h0 h'→K (.e 0) [.string s,.int .i64 (qCz (bts s):Int)] h'):loop113_3 D [.string s,.int .i64 (s.size:Int),.pointer (some ⟨b,0,none⟩)] h1 K:=by
 intro I hI
 have hlen:(bts s).length=s.size:=rfl
 have key:∀ (n p:Nat) (h:H),s.size - p≤n→p≤s.size→h b=some (.sit s p)→Ext h0 h→(0<p→qZj (s.get! 0)=true)→(∀ j,j<p→qYh (s.get! j)=true)→I [.string s,.int .i64 (s.size:Int),.pointer (some ⟨b,0,none⟩)] h:=by
  intro n
  induction n with
  | zero =>
   intro p h hn hp hb he hA hB
   refine hI _ _ _ _ ?_
   unfold round113_3
   rw [qQb,qQa,qQe]
   refine qEx hb (fun _=>?_) (fun hp=>by omega)
   rw [show (#[Value.bool false]:Array Value)=[Value.bool false].toArray from rfl,ex0,qQc,cond_false]
   have:=hK _ he
   rw [qMc (l:=bts s) (e:=s.size) (by omega) (fun h0=>⟨_,get!_eq s 0 (by omega),hA (by omega)⟩) (fun j hj=>⟨_,get!_eq s j (by omega),hB j (by omega)⟩) (fun x hx=>by
    have:=(List.getElem?_eq_some_iff.mp hx).1; omega)] at this
   exact this
  | succ n ih =>
   intro p h hn hp hb he hA hB
   refine hI _ _ _ _ ?_
   unfold round113_3
   rw [qQb,qQa,qQe]
   refine qEx hb (fun hp2=>?_) (fun hp2=>?_)
   ·rw [show (#[Value.bool false]:Array Value)=[Value.bool false].toArray from rfl,ex0,qQc,cond_false]
    obtain rfl:p=s.size:=by omega
    have:=hK _ he
    rw [qMc (l:=bts s) (e:=s.size) (by omega) (fun h0=>⟨_,get!_eq s 0 (by omega),hA (by omega)⟩) (fun j hj=>⟨_,get!_eq s j (by omega),hB j (by omega)⟩) (fun x hx=>by
     have:=(List.getElem?_eq_some_iff.mp hx).1; omega)] at this
    exact this
   ·obtain ⟨r1,r2,r3,r4,r5⟩:=xJf hp2
    generalize Utf8.decode s p=rw at r1 r2 r3 r4 r5 ⊢
    obtain ⟨r,wd⟩:=rw
    dsimp only at r1 r2 r3 r4 r5 ⊢
    rw [show (#[Value.bool true,Value.int .i64 ((p:Nat):Int),Value.int .i32 ((r:Nat):Int)]:Array Value)=[Value.bool true,Value.int .i64 ((p:Nat):Int),Value.int .i32 ((r:Nat):Int)].toArray from rfl,ex0,qQc,cond_true,ex1,ex2,qQa]
    have he':Ext h0 (h.set b (.sit s (p+wd))):=he.set h0b
    have go:(if p=0 then qZj (s.get! p) else qYh (s.get! p))=true→I [.string s,.int .i64 (s.size:Int),.pointer (some ⟨b,0,none⟩)] (h.set b (.sit s (p+wd))):=fun hc=>by
     have hm1:qYh (s.get! p)=true:=by
      by_cases hp0:p=0
      ·rw [if_pos hp0] at hc; exact qEe hc
      ·rw [if_neg hp0] at hc; exact hc
     refine ih (p+wd) _ (by omega) r4 qQf he' (fun _=>?_) fun j hj=>?_
     ·by_cases hp0:p=0
      ·subst hp0; rwa [if_pos rfl] at hc
      ·exact hA (by omega)
     ·by_cases hjp:j<p
      ·exact hB j hjp
      ·by_cases hje:j=p
       ·subst hje; exact hm1
       ·exact r5 j (by omega) hj hje
    have stop:(if p=0 then qZj (s.get! p) else qYh (s.get! p))=false→K (.e 0) [.string s,.int .i64 (p:Int)] (h.set b (.sit s (p+wd))):=fun hc=>by
     have:=hK _ he'
     rw [qMc (l:=bts s) (e:=p) (by omega) (fun h0=>⟨_,get!_eq s 0 (by omega),hA h0⟩) (fun j hj=>⟨_,get!_eq s j (by omega),hB j hj⟩) (fun x hx=>by
      rw [get!_eq s p hp2] at hx
      obtain rfl:=Option.some.inj hx
      refine ⟨fun h0=>by rwa [if_pos h0] at hc,fun h0=>by rwa [if_neg (by omega)] at hc⟩)] at this
     exact this
    have fin:∀ t:Bool,t=!(if p=0 then qZj (s.get! p) else qYh (s.get! p))→j113_3_6 D I K (.string s) (.int .i64 (s.size:Int)) (.int .i64 (p:Int)) (.pointer (some ⟨b,0,none⟩)) (.bool t) (h.set b (.sit s (p+wd))):=fun t ht=>by
     unfold j113_3_6
     rw [qQb,qQa,qQa,qQc]
     subst ht
     cases hc:(if p=0 then qZj (s.get! p) else qYh (s.get! p)) with
     | true=>exact go hc
     | false=>exact stop hc
    rw [qZf]
    refine ⟨fun hp0=>?_,fun hp0=>?_⟩
    ·have hp0:p=0:=by omega
     refine hl _ _ _ _ ⟨_,rfl,?_⟩
     rw [r1,Bool.not_not]
     cases hc:qZj (s.get! p) with
     | true =>
      rw [cond_true]
      refine hm _ _ _ _ ⟨_,rfl,?_⟩
      rw [r2,qEe hc]
      exact fin _ (by rw [if_pos hp0,hc])
     | false =>
      rw [cond_false]
      exact fin _ (by rw [if_pos hp0,hc]; rfl)
    ·refine hm _ _ _ _ ⟨_,rfl,?_⟩
     rw [r2]
     exact fin _ (by rw [if_neg (by omega)])
 exact key s.size 0 h1 (by omega) (by omega) hb1 e1 (fun h=>by omega) fun j hj=>by omega
theorem pre1 (x:UInt8) (l:Bs):[x].isPrefixOf l=(l.head?==some x):=by
 cases l with
 | nil=>rfl
 | cons y l =>
  show (x==y && [].isPrefixOf l)=(some y==some x)
  simp [Bool.beq_comm]
def qHe (D:Orc) (f:Nat):Prop:=∀ (s:ByteArray) h (k:Kv) kp,s.size<2 ^ 40→(∀ t h',Ext h h'→bts t=(bts s).take (qPo (bts s))→k (.string t) h')→D f [.string s] h k kp
theorem xFk (c:Cl113 D) (hl:qZx letter D 140) (hm:qZx more D 141) (cp:Cl111 D) (cp2:Cl135 D):qHe D 113:=by
 intro s h k kp hs hk
 refine c _ _ _ _ ?_
 unfold F113
 rw [qQb]
 intro b hb
 have hlen:(bts s).length=s.size:=rfl
 have hle:=xXl (bts s)
 refine xVs hl hm hb qQf (Ext.new hb) fun h' e=>?_
 rw [xs_e]
 show cond true _ _
 rw [cond_true,nth0,nth1,qQb,qQa]
 have fin:∀ n:Nat,n=qPo (bts s)→j113__9 D k kp (.string s) (.int .i64 (n:Int)) h':=fun n hn=>by
  unfold j113__9
  rw [qQb,qQa]
  have:=qOq (bts s)
  refine qVh (by omega) (by omega) fun t ht=>hk t h' e ?_
  rw [ht,Int.toNat_natCast,hn]
 have mid:∀ t:Bool,t=decide (0<qCz (bts s)∧(bts s)[qCz (bts s)]?=some 35)→j113__8 D k kp (.string s) (.int .i64 (qCz (bts s):Int)) (.bool t) h':=fun t ht=>by
  unfold j113__8
  rw [qQb,qQa,qQc]
  subst ht
  rw [qQd]
  refine ⟨fun hc=>?_,fun hc=>?_⟩
  ·rw [qQr (by omega) (by omega)]
   exact fin (qCz (bts s)+1) (by unfold qPo; rw [if_pos hc])
  ·exact fin _ (by unfold qPo; rw [if_neg hc])
 rw [qQd]
 refine ⟨fun hpos=>?_,fun hz=>mid _ (by rw [decide_eq_false]; exact fun hh=>by omega)⟩
 refine qZb (by omega) (by omega) fun t ht=>?_
 have hts:t.size≤s.size:=by
  have:=congrArg List.length ht
  rw [qQq,List.length_drop] at this
  omega
 refine qRs cp cp2 (by omega) (by decide) ⟨_,rfl,mid _ ?_⟩
 rw [show bts (ByteArray.mk #[35])=[35] from rfl,pre1,ht,Int.toNat_natCast,List.head?_drop,Bool.eq_iff_iff,beq_iff_eq,decide_eq_true_eq]
 exact ⟨fun h=>⟨by omega,h⟩,fun h=>h.2⟩
variable {D:Orc} {h h0:H} {k:Kv} {kp:Kp}
theorem xUn {s fv:Value} {sig:List Sy} {q:Sy→Bool} {h0:H} (r:RowK 2 h0 s (qVv sig)) (hs:sig.length<2 ^ 62) (hf:FnB D h0 fv q sig) {K:Kl} {I:List Value→H→Prop}
  (hI:∀ a0 a1 a2 a3 h,round110_2 D I K a0 a1 a2 a3 h→I [a0,a1,a2,a3] h) :
  ∀ (n i:Nat) (h:H),sig.length - i≤n→i≤sig.length→Ext h0 h→(∀ m y,m<i→sig[m]?=some y→q y=false) →
   (∀ (j:Nat) h',Ext h0 h'→sig.findIdx? q=some j→K .r [.int .i64 (j:Int)] h')→(∀ h',Ext h0 h'→sig.findIdx? q=none→K (.e 0) [] h') →
   I [s,fv,.int .i64 ((sig.length:Nat):Int),.int .i64 ((i:Nat):Int)] h:=by
 intro n
 have fin:∀ i,¬ i<sig.length→(∀ m y,m<i→sig[m]?=some y→q y=false)→sig.findIdx? q=none:=fun i hi hb=>by
  rw [List.findIdx?_eq_none_iff]
  intro x hx
  obtain ⟨m,hm⟩:=List.getElem?_of_mem hx
  have:=(List.getElem?_eq_some_iff.mp hm).1
  exact hb m x (by omega) hm
 induction n with
 | zero =>
  intro i h hn hi he hb hK1 hK2
  refine hI _ _ _ _ _ ?_
  unfold round110_2
  rw [qQa,qQa,qQd]
  exact ⟨fun hlt=>by omega,fun _=>hK2 _ he (fin i (by omega) hb)⟩
 | succ n ih =>
  intro i h hn hi he hb hK1 hK2
  refine hI _ _ _ _ _ ?_
  unfold round110_2
  rw [qQa,qQa,qQd]
  refine ⟨fun hlt=>?_,fun hge=>hK2 _ he (fin i (by omega) hb)⟩
  refine (r.ext he).at_ (by omega) (by rw [qXd]; omega) fun ad v hv hrd _=>?_
  rw [Int.toNat_natCast] at hv
  obtain ⟨x,hx,rfl⟩:=qYm hv
  refine ⟨_,_,hrd,?_⟩
  refine hf x (List.mem_of_getElem? hx) _ _ _ he fun h'' e=>?_
  rw [qQc]
  have he'':=he.trans e
  cases hq:q x with
  | true =>
   refine hK1 i _ he'' ?_
   rw [List.findIdx?_eq_some_iff_getElem]
   obtain ⟨h1,rfl⟩:=List.getElem?_eq_some_iff.mp hx
   refine ⟨h1,hq,fun j hj=>?_⟩
   have:=hb j sig[j] hj (List.getElem?_eq_getElem (by omega))
   rw [this]; simp
  | false =>
   rw [cond_false,qQr (by omega) (by omega)]
   refine ih (i+1) _ (by omega) (by omega) he'' (fun m y hm hy=>?_) hK1 hK2
   rcases Nat.lt_succ_iff_lt_or_eq.mp hm with hm | rfl
   ·exact hb m y hm hy
   ·rw [hx] at hy; obtain rfl:=Option.some.inj hy; exact hq
def nmOf (sig:List Sy):List Bs:=(S2 sig).map (·.1)
theorem xPj (sig:List Sy) (nm:ByteArray):sig.findIdx? (fun x=>x.1.toList==nm.toList)=symI (nmOf sig) (bts nm):=by
 unfold symI nmOf S2
 rw [List.findIdx?_map,List.findIdx?_map]
 congr 1
 funext x
 show (x.1.toList==nm.toList)=(bts x.1==bts nm)
 rw [qQw,qQw]
def symV (o:Option Nat):Int:=match o with
 | some c=>(c:Int)
 | none=>-1
theorem xLh (c:Cl122 D) {h:H} {sig:List Sy} {b:Nat} {n:ByteArray} (hb:h b=some (.cells [.string n])):FnB D h (.func (.func 122) #[] #[.pointer (some ⟨b,0,none⟩)]) (fun x=>x.1.toList==n.toList) sig:=by
 refine FnB.of (by kernel_rfl) fun x hx h' k kp e hk=>?_
 refine c _ _ _ _ _ ?_
 unfold F122
 rw [qVq]
 intro b' hb'
 rw [qQe]
 refine ⟨x.1,qXt (i:=0) qQf rfl,?_⟩
 rw [qQe]
 refine ⟨n,qWl (l:=[.string n]) ?_ rfl,hk _ (Ext.new hb')⟩
 have hne:b≠b':=fun x=>by rw [← x,e b _ hb] at hb'; cases hb'
 rw [qXg hne]
 exact e b _ hb
def qGv (D:Orc) (f:Nat):Prop:=∀ (s:Value) (sig:List Sy) (nm:ByteArray) h (k:Kv) kp,Sr h s sig→(∀ h',Ext h h'→k (.int .i64 (symV (symI (nmOf sig) (bts nm)))) h')→D f [s,.string nm] h k kp
theorem xHi (c:Cl89 D) (c1:Cl122 D) (c77:Cl110 D):qGv D 89:=by
 intro s sig nm h k kp hs hk
 refine c _ _ _ _ _ ?_
 unfold F89
 rw [qQb]
 refine ⟨rfl,fun b hb=>?_⟩
 have e1:Ext h (h.set b (.cells [.string nm])):=Ext.new hb
 refine c77 _ _ _ _ _ ?_
 unfold F110
 have hs1:=hs.ext e1
 have hlen:=hs.len
 rw [hs1.row.len,qXd]
 intro I hI
 refine xUn hs1.row (by omega) (xLh c1 (n:=nm) qQf) hI sig.length 0 _ (by omega) (by omega) (Ext.refl _) (fun m y hm=>by omega) (fun j h' e hj=>?_) fun h' e hj=>?_
 ·rw [xPj] at hj
  rw [xs_r,nth0,qQa]
  refine ⟨_,rfl,?_⟩
  have:=hk h' (e1.trans e)
  rw [hj] at this
  exact this
 ·rw [xPj] at hj
  rw [xs_e]
  show cond (Nat.beq 0 0) _ _
  refine ⟨_,rfl,?_⟩
  have:=hk h' (e1.trans e)
  rw [hj] at this
  exact this
theorem qHj {p:UInt8→Bool} (l:Bs):l.take (l.takeWhile p).length=l.takeWhile p:=by
 conv=>lhs; rw [← List.takeWhile_append_dropWhile (p:=p) (l:=l)]
 rw [List.takeWhile_append_dropWhile]
 have:=List.take_left' (l₁:=l.takeWhile p) (l₂:=l.dropWhile p) rfl
 rwa [List.takeWhile_append_dropWhile] at this
theorem qHk {p:UInt8→Bool} (l:Bs):l.drop (l.takeWhile p).length=l.dropWhile p:=by
 have:=List.drop_left' (l₁:=l.takeWhile p) (l₂:=l.dropWhile p) rfl
 rwa [List.takeWhile_append_dropWhile] at this
theorem qZd {s:Value} {h:H} {vs:List Value} (r:Row h s vs):one s=true:=qQy r.isSl
theorem min2 {a b:Int} {k:Value→Prop} (hk:k (.int .i64 (if b<a then b else a))):qKb false [.int .i64 a,.int .i64 b] k:=by
 unfold qKb qPa qPa
 exact ⟨rfl,hk⟩
def rdL (b:Nat) (sg:Value) (rest:ByteArray) (ts:Value) (l:List Int) (R:List Res):List Res:=qQn b [sg,.string rest,ts]::bufR ts (Z l)::R
def qMl (D:Orc) (f:Nat):Prop:=∀ (b:Nat) (sg ts:Value) (rest:ByteArray) (x:UInt8) (l:List Int) (R:List Res) h0 h (k:Kv) kp,rest.size<2 ^ 40→Hp h0 h (rdL b sg rest ts l R) →
 ((bts rest).head?=some x→∀ h' rest',bts rest'=(bts rest).drop 1→Hp h0 h' (rdL b sg rest' ts l R)→k (.tuple #[]) h')→((bts rest).head?≠some x→kp (chain 224) h)→D f [Pt b,.string (ByteArray.mk #[x])] h k kp
theorem xFj (c:Cl114 D) (cm:Cl28 D) (cp:Cl111 D) (cp2:Cl135 D):qMl D 114:=by
 intro b sg ts rest x l R h0 h k kp hr o hk1 hk2
 refine c _ _ _ _ _ ?_
 unfold F114
 rw [qQb]
 refine ⟨rfl,ldx (o.cell (i:=0) rfl) rfl ?_⟩
 refine qRs cp cp2 (by omega) (show 1<2 ^ 62 by decide) ⟨_,rfl,?_⟩
 have e1:bts (ByteArray.mk #[x])=[x]:=rfl
 rw [e1,pre1]
 refine qQl cm (fun hh=>⟨rfl,rfl,ldx (o.cell (i:=0) rfl) rfl ?_⟩) fun hh=>hk2 (fun e=>by rw [e] at hh; simp at hh)
 have hh:=eq_of_beq hh
 have hpos:0<rest.size:=by
  rw [← qQq]
  cases hb:bts rest with
  | nil=>rw [hb] at hh; simp at hh
  | cons y m=>simp
 refine qZb (by omega) (by omega) fun t ht=>?_
 refine ⟨rfl,o.stj (i:=0) (j:=1) rfl (by simp) rfl rfl fun h' o'=>hk1 hh h' t ht o'⟩
theorem Zl (l:List Int):(Z l).length=l.length:=qTt l
def xEr (D:Orc) (f:Nat) (T:H→Prop) (n:Nat):Prop:=∀ (sig:List Sy) (b:Nat) (sg ts:Value) (rest:ByteArray) (l:List Int) (R:List Res) h0 h (k:Kv) kp,(bts rest).length<n→l.length+(bts rest).length<2 ^ 39 →
 Sr h0 sg sig→ArOk sig→T h0→sig.length<2 ^ 40→Hp h0 h (rdL b sg rest ts l R) →
 Out (qAw (S2 sig) n (bts rest)) (fun x=>∀ h' rest' ts',bts rest'=x.2→Hp h0 h' (rdL b sg rest' ts' (l++x.1) R)→k (.tuple #[]) h') (fun e=>∀ h',Hp h0 h' R→kp (chain e) h')→D f [Pt b] h k kp
theorem qLb {b:Nat} {sg ts:Value} {rest:ByteArray} {l:List Int} {R:List Res} (o:Hp h0 h (rdL b sg rest ts l R)):Hp h0 h R:=o.tail.tail
theorem qXa {α:Type} {x:Except Int α} {ok ok':α→Prop} {bad bad':Int→Prop} (h1:∀ a,x=.ok a→ok a→ok' a) (h2:∀ e,bad e→bad' e) (h:Out x ok bad):Out x ok' bad':=by
 cases x with
 | ok a=>exact h1 a rfl h
 | error e=>exact h2 e h
theorem S2_at {sig:List Sy} {c:Nat} {x:Sy} (h:sig[c]?=some x):(S2 sig)[c]?=some (bts x.1,x.2):=by
 unfold S2; rw [List.getElem?_map,h]; rfl
theorem xYn (c:Cl74 D) (cm:Cl28 D) (cp:Cl111 D) (cp2:Cl135 D) (tl:xEq D 112) (sn:qMo D 90 Tbl)
  (sf:qHe D 113) (ss:qGv D 89) (sk:qMl D 114):∀ n,xEr D 74 Tbl n:=by
 intro n
 induction n with
 | zero=>intro sig b sg ts rest l R h0 h k kp hn; omega
 | succ n ih =>
  intro sig b sg ts rest l R h0 h k kp hn hlen hs ha ht hsl o hk
  refine c _ _ _ _ ?_
  unfold F74
  have hbl:(bts rest).length=rest.size:=rfl
  refine ⟨rfl,ldx (o.cell (i:=0) rfl) rfl ?_⟩
  refine qRs cp cp2 (by omega) (by decide) ⟨_,rfl,?_⟩
  rw [show bts (ByteArray.mk #[95])=[95] from rfl,pre1]
  unfold qAw at hk
  by_cases hh:(bts rest).head?=some 95
  ·rw [if_pos hh] at hk
   rw [hh,show ((some 95:Option UInt8)==some 95)=true from rfl,cond_true]
   have hpos:0<rest.size:=by
    rw [← qQq]
    cases hb:bts rest with
    | nil=>rw [hb] at hh; simp at hh
    | cons y m=>simp
   refine ⟨rfl,ldx (o.cell (i:=0) rfl) rfl ?_⟩
   refine qZb (by omega) (by omega) fun t ht'=>?_
   rw [show (1:Int).toNat=1 from rfl] at ht'
   have htl:t.size+1=rest.size:=by
    have:=congrArg List.length ht'
    rw [qQq,List.length_drop,qQq] at this
    omega
   refine tl _ _ _ _ (by omega) fun u h1 e1 hu=>⟨_,rfl,?_⟩
   have o1:=o.later e1
   refine ⟨rfl,ldj (o1.cell (i:=0) rfl) rfl ?_⟩
   rw [← ht'] at hk
   have hul:u.size=(bts t).length - ((bts t).takeWhile Sp.qXu).length∧((bts t).takeWhile Sp.qXu).length≤(bts t).length:=by
    have:=congrArg List.length hu
    have h2:=congrArg List.length (List.takeWhile_append_dropWhile (p:=Sp.qXu) (l:=bts t))
    rw [List.length_append] at h2
    rw [qQq] at this
    omega
   have htb:(bts t).length=t.size:=rfl
   rw [qQr (by omega) (by omega)]
   have hn1:((t.size:Int) - (u.size:Int))=((((bts t).takeWhile Sp.qXu).length:Nat):Int):=by omega
   rw [hn1]
   refine qVh (by omega) (by omega) fun v hv=>?_
   rw [Int.toNat_natCast,qHj] at hv
   refine sn v 1048575 _ _ _ (by
    have:=congrArg List.length hv
    rw [qQq] at this; omega) (by decide) (qQt _ _ o1.ext ht) (fun m h2 e2 hm=>⟨_,rfl,?_⟩) fun h2 e2 hm=>?_
   ·rw [hv] at hm
    rw [hm] at hk
    have o2:=o1.later e2
    have hmm:=(qYa hm).2
    refine ⟨qVi (o2.cell (i:=0) rfl) rfl,?_⟩
    rw [qQr (by omega) (by omega)]
    refine ⟨rfl,by decide,?_⟩
    refine (o2.push (i:=1) (s:=ts) (vs:=Z l) (v:=.int .i64 (-1 - (m:Int))) rfl (bytes:=8) (by decide) (by rw [Zl]; omega) rfl (O:=True) (U:=True) trivial trivial fun s' h5 o5=>?_).2.2
    have o5:Hp h0 h5 (qQn b [sg,.string rest,ts]::bufR s' (Z l++[.int .i64 (-1 - (m:Int))])::R):=o5
    refine ⟨rfl,o5.stj (i:=0) (j:=2) rfl (by simp) (qZd (o5.row (i:=1) rfl)) rfl fun h6 o6=>?_⟩
    refine qZb (by omega) (by omega) fun w hw=>?_
    refine ⟨rfl,o6.stj (i:=0) (j:=1) rfl (by simp) rfl rfl fun h7 o7=>?_⟩
    refine hk h7 w s' ?_ ?_
    ·rw [hw,Int.toNat_natCast,qHk]
    ·have:Z l++[Value.int .i64 (-1 - (m:Int))]=Z (l++[-1 - (m:Int)]):=by rw [← xGy]; rfl
     rw [this] at o7
     exact o7
   ·rw [hv] at hm
    rw [hm] at hk
    exact hk h2 (qLb (o1.later e2))
  ·rw [if_neg hh] at hk
   rw [show ((bts rest).head?==some 95)=false from beq_eq_false_iff_ne.mpr hh,cond_false]
   refine ⟨rfl,ldx (o.cell (i:=0) rfl) rfl ?_⟩
   refine sf rest _ _ _ (by omega) fun nm h1 e1 hnm=>⟨_,rfl,?_⟩
   have o1:=o.later e1
   refine ⟨rfl,ldj (o1.cell (i:=0) rfl) rfl ?_⟩
   refine ss sg sig nm _ _ _ (hs.ext o1.ext) fun h2 e2=>⟨_,rfl,?_⟩
   have o2:=o1.later e2
   rw [hnm]
   unfold nmOf
   cases hc:symI ((S2 sig).map (·.1)) ((bts rest).take (qPo (bts rest))) with
   | none =>
    rw [hc] at hk
    refine qQl cm (fun hh=>by
     have:=of_decide_eq_true hh
     unfold symV at this
     dsimp only at this; omega) fun _=>hk h2 (qLb o2)
   | some cc =>
    rw [hc] at hk
    dsimp only at hk
    refine qQl cm (fun _=>⟨rfl,?_⟩) fun hh=>by
     have:=of_decide_eq_false hh
     unfold symV at this
     dsimp only at this; omega
    have hsc:=qFf hc
    rw [List.getElem?_map] at hsc
    obtain ⟨y,hy,hy2⟩:=Option.map_eq_some_iff.mp hsc
    unfold S2 at hy
    rw [List.getElem?_map] at hy
    obtain ⟨x,hx,rfl⟩:=Option.map_eq_some_iff.mp hy
    have hcl:=(List.getElem?_eq_some_iff.mp hx).1
    have hkid:=qLo (S2_at hx)
    have hax:=ha x (List.mem_of_getElem? hx)
    rw [hkid] at hk
    unfold symV
    dsimp only
    refine ⟨rfl,ldj (o2.cell (i:=0) rfl) rfl ⟨rfl,by decide,?_⟩⟩
    refine (o2.push (i:=1) (s:=ts) (vs:=Z l) (v:=.int .i64 (cc:Int)) rfl (bytes:=8) (by decide) (by rw [Zl]; omega) rfl (O:=True) (U:=True) trivial trivial fun s' h5 o5=>?_).2.2
    have o5:Hp h0 h5 (qQn b [sg,.string rest,ts]::bufR s' (Z l++[.int .i64 (cc:Int)])::R):=o5
    have hz:Z l++[Value.int .i64 (cc:Int)]=Z (l++[(cc:Int)]):=by rw [← xGy]; rfl
    rw [hz] at o5
    refine ⟨rfl,o5.stj (i:=0) (j:=2) rfl (by simp) (qZd (o5.row (i:=1) rfl)) rfl fun h6 o6=>?_⟩
    refine ⟨rfl,ldx (o6.cell (i:=0) rfl) rfl ?_⟩
    have hfl:=qOq (bts rest)
    have hns:nm.size=qPo (bts rest):=by
     have:=congrArg List.length hnm
     rw [qQq,List.length_take] at this; omega
    refine qZb (by omega) (by omega) fun w hw=>?_
    rw [Int.toNat_natCast,hns] at hw
    refine ⟨rfl,o6.stj (i:=0) (j:=1) rfl (by simp) rfl rfl fun h7 o7=>?_⟩
    have o7:Hp h0 h7 (rdL b sg w s' (l++[(cc:Int)]) R):=o7
    have arity:∀ {h':H} {K:Int→Prop},Ext h0 h'→K x.2→qQm sg (cc:Int) 2 fun ad=>∃ x58:Int,rd h' (Addr.add ad 1)=some (.int .i64 x58)∧K x58:=fun e hK=>by
     refine (hs.ext e).row.at_ (by omega) (by rw [qXd]; omega) fun ad v hv _ hj=>?_
     obtain ⟨y,hy,rfl⟩:=qYm hv
     rw [Int.toNat_natCast,hx] at hy
     obtain rfl:=Option.some.inj hy
     exact ⟨x.2,hj 1 _ rfl,hK⟩
    refine ⟨rfl,ldj (o7.cell (i:=0) rfl) rfl ?_⟩
    refine arity o7.ext ?_
    obtain ⟨ar,har⟩:=Int.eq_ofNat_of_zero_le hax.1
    have har8:ar≤8:=by omega
    rw [har,Int.toNat_natCast] at hk
    rw [har]
    have hwl:(bts w).length≤rest.size:=by rw [hw,List.length_drop]; omega
    have hwz:(bts w).length<n∨(bts w).length=rest.size:=by
     by_cases h0:qPo (bts rest)=0
     ·right; rw [hw,h0]; simp [hbl]
     ·left; rw [hw,List.length_drop]; omega
    rw [← hw] at hk
    intro I hI
    have key:∀ m i:Nat,i+m=ar→∀ (q:ByteArray) (ts':Value) (l':List Int) (h':H),(bts q).length≤n→l'.length+(bts q).length<2 ^ 39+1→(i=0→m=0∨True)→Hp h0 h' (rdL b sg q ts' l' R) →
      Out (Sp.qPq (qAw (S2 sig) n) m (i==0) (bts q)) (fun x=>∀ h2 rest' ts2,bts rest'=x.2→Hp h0 h2 (rdL b sg rest' ts2 (l'++x.1) R)→k (.tuple #[]) h2) (fun e=>∀ h2,Hp h0 h2 R→kp (chain e) h2) →
      I [Pt b,.int .i64 (cc:Int),.int .i64 (ar:Int),.int .i64 (i:Int)] h':=by
     intro m
     induction m with
     | zero =>
      intro i hi q ts' l' h' hq hl' _ o' hk'
      refine hI _ _ _ _ _ ?_
      unfold round74_11
      rw [qQa,qQa,qQa,qQd]
      refine ⟨fun hlt=>by omega,fun _=>?_⟩
      dsimp only
      rw [xs_e]
      show cond true _ _
      rw [cond_true,nth0,nth1,qQa]
      refine ⟨rfl,ldj (o'.cell (i:=0) rfl) rfl ?_⟩
      refine arity o'.ext ?_
      rw [har,qQd]
      refine ⟨fun hpos=>?_,fun hz=>?_⟩
      ·have hi0:(i==0)=false:=beq_eq_false_iff_ne.mpr (by omega)
       rw [hi0] at hk'
       unfold Sp.qPq at hk'
       have hql:(bts q).length=q.size:=rfl
       refine sk b sg ts' q 41 l' R h0 h' _ _ (by omega) o' (fun hh h2 q' hq' o2=>⟨rfl,?_⟩) fun hh=>?_
       ·rw [if_pos hh] at hk'
        refine hk' h2 q' ts' hq' ?_
        rw [List.append_nil]; exact o2
       ·rw [if_neg hh] at hk'
        exact hk' h' (qLb o')
      ·have hi0:(i==0)=true:=beq_iff_eq.mpr (by omega)
       rw [hi0] at hk'
       refine hk' h' q ts' rfl ?_
       rw [List.append_nil]; exact o'
     | succ m ihm =>
      intro i hi q ts' l' h' hq hl' _ o' hk'
      refine hI _ _ _ _ _ ?_
      unfold round74_11
      rw [qQa,qQa,qQa,qQd]
      refine ⟨fun _=>?_,fun hge=>by omega⟩
      refine ⟨rfl,by decide,rfl,by decide,?_⟩
      refine o'.newSlN (ws:=[.string (ByteArray.mk #[40]),.string (ByteArray.mk #[44])]) rfl fun sp h2 o2=>?_
      refine min2 ?_
      rw [xBh]
      have hrow:=o2.row (i:=0) rfl
      have pick:∀ {K:Addr→Prop},(∀ ad,rd h2 ad=some (.string (ByteArray.mk #[if i=0 then 40 else 44]))→K ad)→qQm sp (if (1:Int)<(i:Int) then 1 else (i:Int)) 1 K:=fun hK=>by
       by_cases hi0:i=0
       ·rw [if_neg (by omega)]
        refine hrow.at_ (by omega) (by simp; omega) fun ad v hv hrd=>hK ad ?_
        rw [if_pos hi0]
        subst hi0
        have:v=.string (ByteArray.mk #[40]):=by simpa using hv.symm
        rw [← this]; exact hrd
       ·have e1:(if (1:Int)<(i:Int) then 1 else (i:Int))=1:=by split <;> omega
        rw [e1]
        refine hrow.at_ (by omega) (by simp) fun ad v hv hrd=>hK ad ?_
        rw [if_neg hi0]
        have:v=.string (ByteArray.mk #[44]):=by simpa using hv.symm
        rw [← this]; exact hrd
      refine pick fun ad hrd=>⟨_,hrd,?_⟩
      have o3:=o2.tail
      rw [Sp.qPq] at hk'
      have hx':(if (i==0)=true then (40:UInt8) else 44)=if i=0 then 40 else 44:=by
       by_cases hi0:i=0 <;> simp [hi0]
      rw [hx'] at hk'
      have hql:(bts q).length=q.size:=rfl
      refine sk b sg ts' q _ l' R h0 h2 _ _ (by omega) o3 (fun hh h3 q' hq' o4=>⟨rfl,?_⟩) fun hh=>?_
      ·rw [if_pos hh] at hk'
       have hqpos:0<(bts q).length:=by
        cases hb:bts q with
        | nil=>rw [hb] at hh; simp at hh
        | cons y m=>simp
       have hq'l:(bts q').length+1=(bts q).length:=by rw [hq',List.length_drop]; omega
       rw [← hq'] at hk'
       refine ih sig b sg ts' q' l' R h0 h3 _ _ (by omega) (by omega) hs ha ht hsl o4 ?_
       cases hr:qAw (S2 sig) n (bts q') with
       | error e =>
        rw [hr] at hk'
        exact hk'
       | ok ur =>
        obtain ⟨u,r⟩:=ur
        rw [hr] at hk'
        dsimp only at hk'
        intro h4 q2 ts2 hq2 o5
        have hrl:=qLa _ _ _ _ hr
        refine ⟨rfl,?_⟩
        rw [qQr (by omega) (by omega)]
        have e2:(i:Int)+1=((i+1:Nat):Int):=by omega
        rw [e2]
        have hq2:bts q2=r:=hq2
        refine ihm (i+1) (by omega) q2 ts2 (l'++u) h4 (by rw [hq2]; omega) (by rw [List.length_append,hq2]; omega) (fun h=>by omega) o5 ?_
        rw [show (i+1==0)=false from rfl,hq2]
        cases hr2:Sp.qPq (qAw (S2 sig) n) m false r with
        | error e =>
         rw [hr2] at hk'
         exact hk'
        | ok vr =>
         obtain ⟨v,r2⟩:=vr
         rw [hr2] at hk'
         intro h5 q3 ts3 hq3 o6
         refine hk' h5 q3 ts3 hq3 ?_
         rw [← List.append_assoc]; exact o6
      ·rw [if_neg hh] at hk'
       exact hk' h2 (qLb o3)
    refine key ar 0 (by omega) w s' (l++[(cc:Int)]) h7 (by omega) (by rw [List.length_append,List.length_singleton]; omega) (fun _=>.inr trivial) o7 ?_
    rw [show ((0:Nat)==0)=true from rfl]
    cases hr:Sp.qPq (qAw (S2 sig) n) ar true (bts w) with
    | error e =>
     rw [hr] at hk
     exact hk
    | ok vr =>
     obtain ⟨v,r2⟩:=vr
     rw [hr] at hk
     intro h5 q3 ts3 hq3 o6
     refine hk h5 q3 ts3 hq3 ?_
     rw [List.append_assoc] at o6; exact o6
variable {D:Orc} {E:Dorc} {h h0:H} {k:Kv} {kp:Kp} {R:List Res}
theorem Hp.blk {L:List Res} {s:Value} {vs:List Value} (o:Hp h0 h (bufR s vs::L)):Buf h0 h s vs:=(o.buf (i:=0) rfl).of_new fun d hd=>(o.new (bufR s vs) (by simp) d hd).1
def qRi (D:Orc) (f:Nat) (T:H→Prop):Prop:=∀ (sig:List Sy) (sg:Value) (s:ByteArray) h (k:Kv) kp,s.size<2 ^ 38→Sr h sg sig→ArOk sig→T h →
 Out (qWj (S2 sig) (bts s)) (fun l=>∀ v h',Ext h h'→Buf h h' v (Z l)→k v h') (fun e=>∀ h',Ext h h'→kp (chain e) h')→D f [sg,.string s] h k kp
theorem xIf (c:Cl30 D) (cm:Cl28 D) (rt:∀ n,xEr D 74 Tbl n):qRi D 30 Tbl:=by
 intro sig sg s h k kp hsz hs ha ht hk
 refine c _ _ _ _ _ ?_
 unfold F30
 rw [qQb]
 refine ⟨qQy hs.row.isSl,by decide,rfl,by decide,((Hp.nil_ h).add_nil (a:=none)).new_ fun b h1 hb o1=>?_⟩
 have hbl:(bts s).length=s.size:=rfl
 have o1:Hp h h1 (rdL b sg s (.slice none 0 0) [] []):=o1
 refine rt _ sig b sg (.slice none 0 0) s [] [] h h1 _ _ (Nat.lt_succ_self _) (by simp; omega) hs ha ht hs.len o1 ?_
 unfold qWj at hk
 cases hr:qAw (S2 sig) ((bts s).length+1) (bts s) with
 | error e =>
  rw [hr] at hk
  exact fun h' o=>hk h' o.ext
 | ok ur =>
  obtain ⟨u,r⟩:=ur
  rw [hr] at hk
  dsimp only at hk
  intro h2 q ts hq o2
  refine ⟨rfl,rfl,ldx (o2.cell (i:=0) rfl) rfl ?_⟩
  rw [qKj]
  have hq:bts q=r:=hq
  rw [hq]
  refine qQl cm (fun hh=>?_) fun hh=>?_
  ·rw [if_pos (of_decide_eq_true hh)] at hk
   refine ⟨rfl,rfl,ldj (o2.cell (i:=0) rfl) rfl ?_⟩
   exact hk ts h2 o2.ext o2.tail.blk
  ·rw [if_neg (of_decide_eq_false hh)] at hk
   exact hk h2 o2.ext
def xZd (sig:List Sy) (s:Bs):Except Int (List Int) :=
 if qVe sig≠0 then .error (qVe sig) else if 65536<s.length then .error 220 else if validD s=false then .error 221 else qWj (S2 sig) s
def qUn (D:Orc) (f:Nat) (T:H→Prop):Prop:=∀ (sig:List Sy) (sg:Value) (s:ByteArray) h (k:Kv) kp,s.size<2 ^ 38→Sr h sg sig→T h →
 Out (xZd sig (bts s)) (fun l=>∀ v h',Ext h h'→Buf h h' v (Z l)→k (.tuple #[v,.int .i64 0]) h') (fun e=>∀ h',Ext h h'→k (.tuple #[.slice none 0 0,.int .i64 e]) h')→D f [sg,.string s] h k kp
theorem xQz {h1 h2 h3:H} {p:Nat} (hp:h p=none) (e:Ext h h1) (e1:Ext h1 h2) (e2:∀ d,d≠p→h2 d≠none→h3 d=h2 d):Ext h h3:=fun b o hb=>by
 have hne:b≠p:=fun x=>by rw [x,hp] at hb; cases hb
 have h2b:=e1 b o (e b o hb)
 rw [e2 b hne (by rw [h2b]; simp)]; exact h2b
theorem xIq (c:Cl12 D E) (cs:qCd D 27 Tbl) (cm:Cl28 D) (sv:qUl D 29 Tbl) (srd:qRi D 30 Tbl)
  (ct:qWi E 25):qUn D 12 Tbl:=by
 intro sig sg s h k kp hsz hs ht hk
 refine c _ _ _ _ _ ?_
 unfold F12
 rw [qQb]
 intro p hp
 have e1:Ext h (h.set p (.cells [.int .i64 0])):=Ext.new hp
 have hp1:(h.set p (.cells [.int .i64 0])) p=some (.cells [.int .i64 0]):=qQf
 generalize h.set p (.cells [.int .i64 0])=h1 at e1 hp1 ⊢
 have hbody:qZr Tryz.prog 25=true:=by kernel_rfl
 have bad:∀ (e:Int) (h2:H),Ext h1 h2→(∀ h',Ext h h'→k (.tuple #[.slice none 0 0,.int .i64 e]) h') →
   qQu Tryz.prog E (fun h=>ptrW (Pt p) (fun ad26=>∃ x27:Int,rd h ad26=some (.int .i64 x27)∧k (.tuple #[(.slice none 0 0),(.int .i64 x27)]) h)) kp [clo 25 p] (.panicking (chain e)) h2:=fun e h2 e2 hk =>
  qOl hbody ct (e2 p _ hp1) fun h3 h4 h5=>⟨e,qWl h4 rfl,hk h3 (xQz hp e1 e2 h5)⟩
 refine cs _ _ _ _ _ (hs.ext e1) (qQt _ _ e1 ht) fun h2 e2=>⟨_,rfl,?_⟩
 unfold xZd at hk
 rw [qZl]
 refine ⟨fun hne=>?_,fun h0=>?_⟩
 ·rw [if_pos hne] at hk
  rw [qQe]
  have hcell:=e2 p _ hp1
  refine ⟨rfl,rfl,h2.set p (.cells [.int .i64 (qVe sig)]),?_,?_⟩
  ·simp only [wr1,hcell]; rfl
  ·refine qDn hbody ct ?_
   rw [qQe]
   exact ⟨_,qWl qQf rfl,hk _ ((e1.trans e2).set hp)⟩
 ·rw [if_neg (by simpa using h0)] at hk
  have hbl:(bts s).length=s.size:=rfl
  refine qQl cm (fun hle=>⟨rfl,?_⟩) fun hgt=>?_
  ·have hle:=of_decide_eq_true hle
   rw [if_neg (by omega)] at hk
   refine sv s h2 _ _ (by omega) (qQt _ _ (e1.trans e2) ht) ⟨_,rfl,?_⟩
   refine qQl cm (fun hv=>⟨rfl,?_⟩) fun hv=>?_
   ·rw [if_neg (by
     have hv':validD (bts s)=true:=hv
     rw [hv']; simp)] at hk
    have e12:=e1.trans e2
    refine srd sig sg s h2 _ _ hsz (hs.ext e12) (xEk h0) (qQt _ _ e12 ht) ?_
    cases hr:qWj (S2 sig) (bts s) with
    | error e =>
     rw [hr] at hk
     exact fun h3 e3=>bad e h3 (e2.trans e3) hk
    | ok l =>
     rw [hr] at hk
     intro v h3 e3 hb
     refine ⟨v,rfl,?_⟩
     have hcell:=(e2.trans e3) p _ hp1
     rw [qQe]
     refine ⟨rfl,rfl,h3.set p (.cells [.int .i64 0]),?_,?_⟩
     ·simp only [wr1,hcell]; rfl
     ·refine qDn hbody ct ?_
      rw [qQe]
      refine ⟨_,qWl qQf rfl,hk v _ ((e12.trans e3).set hp) ?_⟩
      rw [xQg hcell]
      exact hb.mono e12
   ·rw [if_pos (show validD (bts s)=false from hv)] at hk
    exact bad 221 h2 e2 hk
  ·have hgt:=of_decide_eq_false hgt
   rw [if_pos (by omega)] at hk
   exact bad 220 h2 e2 hk
theorem Ir.tail1 {s:Value} {c:Int} {l:List Int} (r:Ir h s (c::l)) {K:Value→Prop} (hK:∀ s',Ir h s' l→K s'):qXy s (some 1) none none 1 K:=by
 refine r.row.part (i:=1) (j:=(c::l).length) rfl (by simp [qTt]) (by simp) (by rw [qTt]; exact Nat.le_refl _) fun s' r' _=>hK s' ⟨?_,?_,fun x hx=>r.rng x (by simp [hx])⟩
 ·have e:((Z (c::l)).take (c::l).length).drop 1=Z l:=by
   rw [List.take_of_length_le (by rw [qTt]; exact Nat.le_refl _)]
   simp [Z]
  rw [e] at r'; exact r'
 ·have:=r.len
  simp only [List.length_cons] at this; omega
def bdL (b:Nat) (t:TypeId) (p buf:Value) (rest:List Value) (l:Bs) (R:List Res):List Res:=qAh b t (p::buf::rest)::bytR buf l::R
def xXs (D:Orc) (f:Nat):Prop:=∀ (b:Nat) (t:TypeId) (p buf:Value) (rest:List Value) (l:Bs) (s:ByteArray) (R:List Res) h0 h (k:Kv) kp,BldT t (rest.length+2)→Head b p→l.length+s.size<2 ^ 40→Hp h0 h (bdL b t p buf rest l R) →
 (∀ h' buf',Hp h0 h' (bdL b t (Pt b) buf' rest (l++bts s) R)→k (.tuple #[.int .i64 (s.size:Int),.nilIface]) h')→D f [Pt b,.string s] h k kp
theorem xLo {s:Value} {l:Bs} (r:Byt h s l):isSl s:=by
 rcases r with ⟨rfl,_⟩ | ⟨g,cap,cs,rfl,_⟩ <;> trivial
theorem xHm (c:Cl81 D) (cc:qCh D 116):xXs D 81:=by
 intro b t p buf rest l s R h0 h k kp ht hp hl o hk
 refine c _ _ _ _ _ ?_
 unfold F81
 rw [qQb]
 refine cc b t p (buf::rest) h _ _ (o.brow (i:=0) rfl) ht hp ⟨rfl,rfl,?_⟩
 have o1:Hp h0 (h.set b (.brow t (Pt b::buf::rest))) (bdL b t (Pt b) buf rest l R):=o.set_brow (i:=0) rfl (Pt b::buf::rest)
 generalize h.set b (.brow t (Pt b::buf::rest))=h1 at o1 ⊢
 rw [qQe]
 refine ⟨buf,rdb (o1.brow (i:=0) rfl) rfl,?_⟩
 have hsz:s.size=(bts s).length:=rfl
 have hsrc:∀ {K:List Value→Prop},K (U8 (bts s))→srcW h1 1 (.string s) s.size K:=fun {K} hK=>by
  show K _
  have:(s.extract 0 s.size).data.toList=bts s:=by
   have:=qYg s 0 s.size
   rw [List.drop_zero,List.take_of_length_le (by rw [qQq]; exact Nat.le_refl _)] at this
   exact this
  rw [this]; exact hK
 refine hsrc ?_
 rw [hsz]
 refine o1.bapp (j:=1) rfl (fun _=>rfl) (by rw [← hsz]; omega) fun s' h2 o2=>⟨rfl,?_⟩
 have o2:Hp h0 h2 (qAh b t (Pt b::buf::rest)::bytR s' (l++bts s)::R):=o2
 rw [qQe]
 refine ⟨qQy (xLo (o2.get (i:=1) rfl)),rfl,_,wrb (o2.brow (i:=0) rfl) (by simp),?_⟩
 exact hk _ s' (o2.set_brow (i:=0) rfl (Pt b::s'::rest))
def xXr (D:Orc) (f:Nat) (T:H→Prop) (n:Nat):Prop:=∀ (sig:List Sy) (sg tv:Value) (u r:List Int) (s:Bs) (b:Nat) (t:TypeId) (p buf:Value) (rest:List Value) (l:Bs) (R:List Res) h0 h (k:Kv) kp,Wt (S2 sig) u s→u.length≤n→ArOk sig→Sr h0 sg sig→T h0→Ir h0 tv (u++r) →
 BldT t (rest.length+2)→Head b p→l.length+s.length<2 ^ 39→Hp h0 h (bdL b t p buf rest l R) →
 (∀ h' buf' tv',Hp h0 h' (bdL b t (Pt b) buf' rest (l++s) R)→Ir h0 tv' r→k tv' h')→D f [Pt b,sg,tv] h k kp
theorem qUb (b:Nat):Head b (Pt b):=.inr rfl
theorem xZc (c:Cl35 D) (ws:xXs D 81) (si:qDy D 82 Tbl):∀ n,xXr D 35 Tbl n:=by
 intro n
 induction n with
 | zero =>
  intro sig sg tv u r s b t p buf rest l R h0 h k kp w hn
  exact absurd (List.length_eq_zero_iff.mp (by omega)) (qGf w.term)
 | succ n ih =>
  intro sig sg tv u r s b t p buf rest l R h0 h k kp w hn ha hs ht hi hbt hp hl o hk
  refine c _ _ _ _ _ _ ?_
  unfold F35
  cases w with
  | @var m hm =>
   refine (hi.ext o.ext).at_ (by omega) (by simp) fun ad x hx hxi hrd=>⟨x,hrd,?_⟩
   obtain rfl : -1 - (m:Int)=x:=by simpa using hx
   refine Ir.tail1 (c:=-1 - (m:Int)) (l:=r) hi fun s2 hs2=>?_
   rw [qQd]
   refine ⟨fun _=>?_,fun hh=>by omega⟩
   rw [qQr (by omega) (by omega),show -1 - (-1 - (m:Int))=(m:Int) by omega]
   refine si m _ _ _ (by omega) (qQt _ _ o.ext ht) ⟨_,rfl,?_⟩
   have hdl:=decDigits_length m
   have h20:=xUy m (by omega)
   refine ⟨by
    rw [qXv,hdl]
    show 1+nDigits m≤_
    omega,?_⟩
   have hcat:bts ((ByteArray.mk #[95])++strB (decDigits m))=95::decDigits m:=by rw [qIn,qQv]; rfl
   have hcs:((ByteArray.mk #[95])++strB (decDigits m)).size=(95::decDigits m).length:=by rw [← qQq,hcat]
   refine ws b t p buf rest l _ R h0 h _ _ hbt hp (by rw [hcs]; omega) o fun h' buf' o'=>⟨_,_,rfl,?_⟩
   rw [hcat] at o'
   exact hk h' buf' s2 o' hs2
  | @app cc nm a us ss hx hul hss hw =>
   refine (hi.ext o.ext).at_ (by omega) (by simp only [List.cons_append,List.length_cons]; omega) fun ad x hx' hxi hrd=>⟨x,hrd,?_⟩
   obtain rfl:(cc:Int)=x:=by simpa using hx'
   refine Ir.tail1 (c:=(cc:Int)) (l:=us.flatten++r) hi fun s2 hs2=>?_
   rw [qQd]
   refine ⟨fun hh=>by omega,fun _=>?_⟩
   unfold S2 at hx
   rw [List.getElem?_map] at hx
   obtain ⟨y,hy,hy2⟩:=Option.map_eq_some_iff.mp hx
   obtain ⟨rfl,rfl⟩:=Prod.mk.inj hy2
   have hcl:=(List.getElem?_eq_some_iff.mp hy).1
   have hay:=ha y (List.mem_of_getElem? hy)
   have symb:∀ {h':H} {K:Addr→Prop},Ext h0 h'→(∀ ad,rd h' (Addr.add ad 0)=some (.string y.1)→rd h' (Addr.add ad 1)=some (.int .i64 y.2)→K ad)→qQm sg (cc:Int) 2 K:=fun e hK=>by
    refine (hs.ext e).row.at_ (by omega) (by rw [qXd]; omega) fun ad v hv _ hj=>?_
    obtain ⟨z,hz,rfl⟩:=qYm hv
    rw [Int.toNat_natCast,hy] at hz
    obtain rfl:=Option.some.inj hz
    exact hK ad (hj 0 _ rfl) (hj 1 _ rfl)
   refine symb o.ext fun ad0 hn0 _=>⟨_,hn0,?_⟩
   have hys:y.1.size=(bts y.1).length:=rfl
   rw [List.length_append] at hl
   refine ws b t p buf rest l y.1 R h0 h _ _ hbt hp (by omega) o fun h1 buf1 o1=>⟨_,_,rfl,?_⟩
   refine symb o1.ext fun ad1 _ ha1=>⟨_,ha1,?_⟩
   have hul8:us.length≤8:=by omega
   have hlen:y.2=((us.length:Nat):Int):=by omega
   rw [hlen]
   intro I hI
   have key:∀ m i:Nat,i+m=us.length→∀ (A:Bs) (buf' tv':Value) (h':H),A++(if i=0 then qDa (ss.drop i) else qMe (ss.drop i))=l++(bts y.1++qDa ss)→Ir h0 tv' ((us.drop i).flatten++r)→Hp h0 h' (bdL b t (Pt b) buf' rest A R) →
     I [Pt b,sg,tv',.string (ByteArray.mk #[if i=0 then 40 else 44]),.int .i64 ((us.length:Nat):Int),.int .i64 (i:Int)] h':=by
    intro m
    induction m with
    | zero =>
     intro i him A buf' tv' h' hA hit o'
     refine hI _ _ _ _ _ _ _ ?_
     unfold round35_8
     rw [qQb,qQa,qQa,qQd]
     refine ⟨fun hlt=>by omega,fun _=>?_⟩
     dsimp only
     rw [xs_e]
     show cond true _ _
     rw [cond_true,nth0,nth1,nth2,qQb]
     rw [List.drop_eq_nil_of_le (by omega)] at hit hA
     by_cases hi0:i=0
     ·rw [if_pos hi0] at hA ⊢
      have e:((ByteArray.mk #[40]).toList==(ByteArray.mk #[44]).toList)=false:=by rw [qQw,qQw]; rfl
      rw [e,cond_false]
      unfold j35__15
      refine hk h' buf' tv' ?_ hit
      have:A=l++(bts y.1++qDa ss):=by rw [← hA]; simp [qDa]
      rw [← this]; exact o'
     ·rw [if_neg hi0] at hA ⊢
      have e:((ByteArray.mk #[44]).toList==(ByteArray.mk #[44]).toList)=true:=by rw [qQw]; rfl
      rw [e,cond_true]
      have hAl:=congrArg List.length hA
      simp only [List.length_append,qMe,List.length_singleton] at hAl
      refine ws b t (Pt b) buf' rest A _ R h0 h' _ _ hbt (qUb b) (by show _+1<_; omega) o' fun h2 buf2 o2=>⟨_,_,rfl,?_⟩
      unfold j35__15
      refine hk h2 buf2 tv' ?_ hit
      have:A++bts (ByteArray.mk #[41])=l++(bts y.1++qDa ss):=by rw [← hA]; rfl
      rw [← this]; exact o2
    | succ m ihm =>
     intro i him A buf' tv' h' hA hit o'
     refine hI _ _ _ _ _ _ _ ?_
     unfold round35_8
     rw [qQb,qQa,qQa,qQd]
     refine ⟨fun _=>?_,fun hge=>by omega⟩
     have hiu:i<us.length:=by omega
     have his:i<ss.length:=by omega
     have hds:ss.drop i=ss[i]::ss.drop (i+1):=List.drop_eq_getElem_cons his
     have hdu:us.drop i=us[i]::us.drop (i+1):=List.drop_eq_getElem_cons hiu
     have hA2:A++(bts (ByteArray.mk #[if i=0 then 40 else 44])++(ss[i]++qMe (ss.drop (i+1))))=l++(bts y.1++qDa ss):=by
      rw [← hA,hds]
      by_cases hi0:i=0
      ·rw [if_pos hi0,if_pos hi0]; rfl
      ·rw [if_neg hi0,if_neg hi0]; rfl
     have hAl:=congrArg List.length hA2
     have h1l:(bts (ByteArray.mk #[if i=0 then (40:UInt8) else 44])).length=1:=rfl
     simp only [List.length_append,h1l] at hAl
     rw [hdu,List.flatten_cons,List.append_assoc] at hit
     have hw1:=hw i us[i] ss[i] (List.getElem?_eq_getElem hiu) (List.getElem?_eq_getElem his)
     have hfl:us[i].length≤us.flatten.length:=by
      have:=List.sublist_flatten_of_mem (List.getElem_mem hiu)
      exact this.length_le
     simp only [List.length_cons] at hn
     refine ws b t (Pt b) buf' rest A _ R h0 h' _ _ hbt (qUb b) (by show _+1<_; omega) o' fun h2 buf2 o2=>⟨_,_,rfl,?_⟩
     refine ih sig sg tv' us[i] ((us.drop (i+1)).flatten++r) ss[i] b t (Pt b) buf2 rest _ R h0 h2 _ _ hw1 (by omega) ha hs ht hit hbt (qUb b) (by rw [List.length_append,h1l]; omega) o2 fun h3 buf3 tv3 o3 hi3=>⟨_,rfl,?_⟩
     rw [qQr (by omega) (by omega)]
     have e2:(i:Int)+1=((i+1:Nat):Int):=by omega
     rw [e2]
     have:=ihm (i+1) (by omega) (A++bts (ByteArray.mk #[if i=0 then (40:UInt8) else 44])++ss[i]) buf3 tv3 h3 (by
      rw [if_neg (show ¬ i+1=0 by omega),← hA2]; simp only [List.append_assoc]) hi3 o3
     rw [if_neg (show ¬ i+1=0 by omega)] at this
     exact this
   have h1:=key us.length 0 (by omega) (l++bts y.1) buf1 s2 h1 (by rw [if_pos rfl,List.drop_zero,List.append_assoc]) (by rw [List.drop_zero]; exact hs2) o1
   rw [if_pos rfl] at h1
   exact h1
noncomputable def xJb (sig:List Sy) (u:List Int):Except Int Bs :=
 if qYf sig u≠0 then .error (qYf sig u) else if 65536<(W (S2 sig) u).length then .error 220 else .ok (W (S2 sig) u)
def qKq (D:Orc) (f:Nat) (T:H→Prop):Prop:=∀ (sig:List Sy) (sg tv:Value) (u:List Int) h (k:Kv) kp,Sr h sg sig→T h→Ir h tv u→(qYf sig u=0→(W (S2 sig) u).length<2 ^ 38) →
 Out (xJb sig u) (fun s=>∀ h',Ext h h'→k (.tuple #[.string (strB s),.int .i64 0]) h') (fun e=>∀ h',Ext h h'→k (.tuple #[.string (ByteArray.mk #[]),.int .i64 e]) h')→D f [sg,tv] h k kp
theorem qSl {t:TypeId} (hb:xLg Tryz.prog t=true) {rest:List Value} {K:Value→H→Prop} {L:List Res} (o:Hp h0 h L) (hK:∀ b h',h b=none→Hp h0 h' (bdL b t (.pointer none) (.slice none 0 0) rest [] L)→K (Pt b) h'):newA Tryz.prog t h (.pointer none::.slice none 0 0::rest) K:=by
 unfold newA
 rw [hb]
 intro b hn
 have e:Ext h (h.set b (.brow t (.pointer none::.slice none 0 0::rest))):=Ext.new hn
 have o1:Hp h0 h (bytR (.slice none 0 0) []::L):=o.add (fun _ _=>rfl) (.inl ⟨rfl,rfl⟩) fun c hc=>by
  have hc:Blk (.slice none 0 0)=some c:=hc
  rw [qZh] at hc; cases hc
 refine hK b _ hn (o1.add e.keeps qQf fun c hc=>?_)
 have hc:c=b:=hc
 subst hc
 exact ⟨hn,by rw [qQf]; simp⟩
theorem xAs {sig:List Sy} {u:List Int} (h:qYf sig u=0):qVe sig=0∧qZn (S2 sig) u:=by
 unfold qYf at h
 split at h
 ·rename_i hne; exact absurd h hne
 ·rename_i hz; exact ⟨by simpa using hz,h⟩
def noR:Res:=⟨fun _=>False,fun _=>True,fun _ _ _ _=>trivial⟩
theorem xEg (sb:qPk D 37) {b:Nat} {t:TypeId} {p buf:Value} {rest:List Value} {l:Bs} {L:List Res} (o:Hp h0 h (bdL b t p buf rest l L)) (hl:l.length≤2 ^ 40)
  (hk:∀ h',Hp h0 h' (qAh b t (p::buf::rest)::L)→k (.string (strB l)) h'):D 37 [Pt b] h k kp:=by
 have hb:=o.brow (i:=0) rfl
 rcases (o.get (i:=1) rfl:Byt h buf l) with ⟨rfl,rfl⟩ | ⟨g,cap,cs,rfl,h1,h2,h3,h4,h5,h6⟩
 ·exact (sb b t p rest h k kp).1 hb (hk h (o.sub (List.Sublist.cons_cons _ (List.sublist_cons_self _ _))))
 ·refine (sb b t p rest h k kp).2 g cap cs l hb (.inl h1) h4 h6 (by omega) hl h5 ?_
  have o2:Hp h0 (h.set g (.bro 5 cs)) (qAh b t (p::.slice (some ⟨g,0,none⟩) l.length cap::rest)::noR::L) :=
   o.upd (i:=1) (r':=noR) rfl (fun c hc hn=>qXg fun e=>hn (by rw [e]; exact qXb h4)) trivial fun c hc=>hc.elim
  exact hk _ (o2.sub (List.Sublist.cons_cons _ (List.sublist_cons_self _ _)))
theorem xIo (c:Cl15 D) (ck:qUp D 34 Tbl) (wr:∀ n,xXr D 35 Tbl n) (cl:Cl36 D) (sb:qPk D 37):qKq D 15 Tbl:=by
 intro sig sg tv u h k kp hs ht hi hW hk
 refine c _ _ _ _ _ ?_
 unfold F15
 refine ck _ _ _ _ _ _ _ hs ht hi fun h1 e1=>⟨_,rfl,?_⟩
 unfold xJb at hk
 rw [qZl]
 refine ⟨fun hne=>?_,fun h0=>?_⟩
 ·rw [if_pos hne] at hk
  exact hk h1 e1
 ·rw [if_neg (by simpa using h0)] at hk
  have hW:=hW h0
  obtain ⟨hc0,hterm⟩:=xAs h0
  have w:=qRh hterm
  refine qSl (by kernel_rfl) (Hp.nil_ h1) fun b h2 hb o2=>?_
  have hi1:Ir h1 tv (u++[]):=by rw [List.append_nil]; exact hi.ext e1
  refine wr _ sig sg tv u [] _ b 69 _ _ [] [] [] h1 h2 _ _ w (Nat.le_refl _) (xEk hc0) (hs.ext e1) (qQt _ _ e1 ht) hi1 (by unfold BldT; kernel_rfl) (.inl rfl) (by simp; omega) o2 fun h3 buf tv3 o3 _=>⟨_,rfl,?_⟩
  rw [List.nil_append] at o3
  refine cl _ _ _ _ ?_
  unfold F36
  refine ⟨rfl,?_⟩
  rw [qQe]
  refine ⟨buf,rdb (o3.brow (i:=0) rfl) rfl,?_⟩
  have hlenW:∀ {K:Nat→Prop},K (W (S2 sig) u).length→lenW buf K:=fun {K} hK=>by
   rcases (o3.get (i:=1) rfl:Byt h3 buf (W (S2 sig) u)) with ⟨rfl,h4⟩ | ⟨g,cap,cs,rfl,_⟩
   ·rw [h4] at hK; exact hK
   ·exact hK
  refine hlenW ⟨_,rfl,?_⟩
  rw [qQd]
  refine ⟨fun hbig=>?_,fun hsm=>?_⟩
  ·rw [if_pos (by omega)] at hk
   exact hk h3 (e1.trans o3.ext)
  ·rw [if_neg (by omega)] at hk
   refine xEg sb o3 (by omega) fun h4 o4=>⟨_,rfl,?_⟩
   exact hk h4 (e1.trans o4.ext)
end Go.Proofs.YtkdneddcocggdaaGreatDoor.Am
