/-
  Packed: The document's way: a text's lines, a line's words. The document's way: what stands in a line behind its word, and whether a line fits. The document's way: whether a line's words fit. A line is taken as the document takes it, word by word: plain. The document's way: a word of a line is read by its letter. The document's way: a line is taken into a book. The document's way: what a line says is put into a book. The document's way: a text is read as a book. What is printed of a book is read as that book: plain. What is read of a text is printed, no longer than the text: plain.
-/
import Derived.Test.YtkdneddcocggdaaGreatDoorPkI
import Derived.Test.YtkdneddcocggdaaGreatDoorPkH
set_option linter.unusedVariables false
set_option linter.unusedSimpArgs false
set_option linter.unnecessarySimpa false
namespace Go.Proofs.YtkdneddcocggdaaGreatDoor.Am
open Go Go.Proofs Go.RowKit Go.Lib Sys Sp
set_option maxRecDepth 100000
variable {D:Orc} {E:Dorc} {h h' h0:H} {k:Kv} {kp:Kp} {L R:List Res}
end Go.Proofs.YtkdneddcocggdaaGreatDoor.Am
namespace Go.Proofs.Sp
open Go Go.Lib Sys
end Go.Proofs.Sp
namespace Go.Proofs.YtkdneddcocggdaaGreatDoor.Am
open Go Go.Proofs Go.RowKit Go.Lib Sys Sp
set_option maxRecDepth 100000
variable {D:Orc} {E:Dorc} {h h' h0 g:H} {k:Kv} {kp:Kp} {L R:List Res} {B:Bk} {V:BkV} {N:Nat}
variable {D:Orc} {E:Dorc} {h h' h0 g:H} {k:Kv} {kp:Kp} {L R:List Res} {B:Bk} {V:BkV} {N:Nat}
end Go.Proofs.YtkdneddcocggdaaGreatDoor.Am
namespace Go.Proofs.Sp
open Go Go.Lib Sys
structure Ln where
 names:List Bs
 codes:List Int
 terms:List (List Int)
 nums:List Int
 coef:List Nat
def Ln.nil:Ln:=⟨[],[],[],[],[]⟩
structure Bd (B:Bk):Prop where
 s:B.sig.length≤64
 r:B.rules.length≤64
 e:B.eqs.length≤64
end Go.Proofs.Sp
namespace Go.Proofs.YtkdneddcocggdaaGreatDoor.Am
open Go Go.Proofs Go.RowKit Go.Lib Sys Sp
set_option maxRecDepth 100000
variable {D:Orc} {E:Dorc} {h h' h0 g g':H} {k:Kv} {kp:Kp} {L R:List Res} {B:Bk} {V:BkV} {N:Nat}
structure LnV where
 nm:Value
 cd:Value
 tm:Value
 nu:Value
 cf:Value
 tmr:List Value
structure LnI (m:Nat) (g:H) (X:LnV) (x:Ln):Prop where
 tm:Rel2 (Oz g) X.tmr x.terms
 cd:∀ c∈x.codes,inI c
 nu:∀ c∈x.nums,inI c
 cf:Nr g X.cf x.coef
 l1:x.names.length≤m
 l2:x.codes.length≤m
 l3:x.terms.length≤m
 l4:x.nums.length≤m
theorem LnI.ext {m:Nat} {X:LnV} {x:Ln} (I:LnI m g X x) (e:Ext g g'):LnI m g' X x:=⟨I.tm.mono fun _ _ o=>o.ext e,I.cd,I.nu,I.cf.ext e,I.l1,I.l2,I.l3,I.l4⟩
theorem LnI.up {m:Nat} {X:LnV} {x:Ln} (I:LnI m g X x):LnI (m+1) g X x:=⟨I.tm,I.cd,I.nu,I.cf,Nat.le_succ_of_le I.l1,Nat.le_succ_of_le I.l2,Nat.le_succ_of_le I.l3,Nat.le_succ_of_le I.l4⟩
theorem Hp.grow {q i j:Nat} {l vs:List Value} {s v z:Value} (o:Hp h0 h (qQn q l::L)) (hL:L[i]?=some (bufR s vs)) (hj:l[j]?=some s) (hv:one v=true) {bytes:Nat} (hb:bytes≤64) (hl:vs.length<2 ^ 40) {O U T:Prop} (hO:O) (hU:U) (hT:T) {K:H→Prop}
  (hK:∀ s' h',Hp h0 h' (qQn q (l.set j s')::L.set i (bufR s' (vs++[v])))→K h') :
  qQh (Pt q)=true∧ptrW (Pt q) (fun ad18=>∃ v19:Value,rd h (Addr.add ad18 j)=some v19∧O∧U∧qXa h 1 [v] (fun s20 h21=>qXl s20 (fun n22=>srcW h21 1 s20 (n22) (fun w23=>apW h21 1 bytes [z] v19 (n22) w23 (fun s24 h25=>qQh (Pt q)=true∧ptrW (Pt q) (fun ad26=>one s24=true∧T∧∃ h27,wr1 h25 (Addr.add ad26 j) s24=some h27∧K h27)))))):=by
 refine ⟨rfl,ldj (o.cell (i:=0) rfl) hj ?_⟩
 refine o.push (i:=i+1) (s:=s) (vs:=vs) (v:=v) (by simpa using hL) hb hl hv hO hU fun s' h' o'=>⟨rfl,?_⟩
 have o':Hp h0 h' (qQn q l::L.set i (bufR s' (vs++[v]))):=o'
 have hil:=(List.getElem?_eq_some_iff.mp hL).1
 have hrow:Row h' s' (vs++[v]):=o'.row (i:=i+1) (by simp [hil])
 exact o'.stj (i:=0) (j:=j) rfl (List.getElem?_eq_some_iff.mp hj).1 (qZb hrow) hT fun h2 o2=>hK s' h2 o2
end Go.Proofs.YtkdneddcocggdaaGreatDoor.Am
namespace Go.Proofs.Sp
open Go Go.Lib Sys
end Go.Proofs.Sp
namespace Go.Proofs.YtkdneddcocggdaaGreatDoor.Am
open Go Go.Proofs Go.RowKit Go.Lib Sys Sp
set_option maxRecDepth 100000
variable {D:Orc} {E:Dorc} {h h' h0 g g':H} {k:Kv} {kp:Kp} {L R:List Res} {B:Bk} {V:BkV} {N bp:Nat} {w:List Bs} {wv:Value}
variable {D:Orc} {E:Dorc} {h h' h0 g g':H} {k:Kv} {kp:Kp} {L R:List Res} {B:Bk} {V:BkV} {N bp:Nat} {w:List Bs} {wv:Value}
end Go.Proofs.YtkdneddcocggdaaGreatDoor.Am
namespace Go.Proofs.Sp
open Go Go.Lib Sys
theorem xJx {l:List Bs} {s a:Bs}:symI (l++[a]) s=match symI l s with
  | some c=>some c
  | none=>if a=s then some l.length else none:=by
 unfold symI
 rw [List.findIdx?_append]
 cases h:l.findIdx? (·==s) with
 | some c=>rfl
 | none =>
  by_cases ha:a=s
  ·simp [List.findIdx?_cons,ha]
  ·simp [List.findIdx?_cons,ha]
theorem SgOk.push {sig:Sg} (o:SgOk sig) {a:Bs} {n:Int} (h1:qJa a=true) (h2:symI (sig.map (·.1)) a=none) (h3:0≤n∧n≤8) (h4:sig.length+1≤64):SgOk (sig++[(a,n)]):=by
 refine ⟨fun x hx=>?_,fun c x hc=>?_,fun x hx=>?_,by rw [List.length_append]; exact h4⟩
 ·rcases List.mem_append.mp hx with hx | hx
  ·exact o.nm x hx
  ·rw [List.mem_singleton.mp hx]; exact h1
 ·rw [List.map_append]
  show symI (sig.map (·.1)++[a]) x.1=some c
  rw [xJx]
  by_cases hc2:c<sig.length
  ·rw [List.getElem?_append_left hc2] at hc
   rw [o.own c x hc]
  ·rw [List.getElem?_append_right (by omega)] at hc
   have hc0:c - sig.length=0:=by
    have:=(List.getElem?_eq_some_iff.mp hc).1
    simp at this; omega
   rw [hc0] at hc
   obtain rfl:(a,n)=x:=Option.some.inj hc
   rw [h2]
   show (if a=a then some (sig.map (·.1)).length else none)=some c
   rw [if_pos rfl,List.length_map]
   congr 1
   omega
 ·rcases List.mem_append.mp hx with hx | hx
  ·exact o.ar x hx
  ·rw [List.mem_singleton.mp hx]; exact h3
theorem qZm {β:Type} {x:Bool} {e:Int} {f:Unit→Except Int β} {b:β} (h:(must x e >>= f)=.ok b):x=true∧f ()=.ok b:=by
 obtain ⟨a,ha,h⟩:=qQe.mp h
 exact ⟨qKa.mp ha,h⟩
end Go.Proofs.Sp
namespace Go.Proofs.YtkdneddcocggdaaGreatDoor.Am
open Go Go.Proofs Go.RowKit Go.Lib Sys Sp
set_option maxRecDepth 100000
variable {D:Orc} {E:Dorc} {h h' h0 g g':H} {k:Kv} {kp:Kp} {L R:List Res} {B:Bk} {V:BkV} {N bp:Nat} {w:List Bs} {wv:Value}
end Go.Proofs.YtkdneddcocggdaaGreatDoor.Am
namespace Go.Proofs.Sp
open Go Go.Lib Sys Nats
theorem qMb {n:Int} {w:Bs} (h:numM n=.ok w):Clean w∧numT w most=some n.toNat∧(n.toNat:Int)=n:=by
 obtain ⟨h1,h2⟩:=qZm h
 cases h2
 rw [Bool.and_eq_true] at h1
 have h3:=of_decide_eq_true h1.1
 have h4:=of_decide_eq_true h1.2
 exact ⟨qRu _,qDx (by omega),by omega⟩
theorem qUy {sig:Sg} (sg:SgOk sig) {c:Int} {marked:Bool} {w:Bs} (h:qIg sig c marked=.ok w):Clean w∧qXx sig w marked=some c:=by
 obtain ⟨h1,h2⟩:=qZm h
 rw [Bool.and_eq_true,Bool.or_eq_true,Bool.and_eq_true,decide_eq_true_eq,decide_eq_true_eq,decide_eq_true_eq] at h1
 obtain ⟨h0,h1⟩:=h1
 by_cases hc:c<sig.length
 ·rw [if_pos hc] at h2
  have hl:c.toNat<sig.length:=by omega
  rw [List.getElem?_eq_getElem hl] at h2
  cases h2
  show Clean sig[c.toNat].1∧qXx sig sig[c.toNat].1 marked=some c
  refine ⟨qYg (sg.nm _ (List.getElem_mem hl)),?_⟩
  unfold qXx
  rw [sg.own c.toNat _ (List.getElem?_eq_getElem hl)]
  show some ((c.toNat:Nat):Int)=some c
  congr 1; omega
 ·rw [if_neg hc] at h2
  obtain ⟨hm,hc2⟩:=h1.resolve_left hc
  have hl:(c - sig.length).toNat<sig.length:=by omega
  rw [List.getElem?_eq_getElem hl] at h2
  cases h2
  show Clean (sig[(c - sig.length).toNat].1++[35])∧qXx sig (sig[(c - sig.length).toNat].1++[35]) marked=some c
  have hmem:=List.getElem_mem hl
  refine ⟨qLh (qYg (sg.nm _ hmem)),?_⟩
  have hnone:symI (sig.map (·.1)) (sig[(c - sig.length).toNat].1++[35])=none:=by
   cases hs:symI (sig.map (·.1)) (sig[(c - sig.length).toNat].1++[35]) with
   | none=>rfl
   | some j =>
    have hx:=List.mem_of_getElem? (qUt hs)
    obtain ⟨y,hy,he⟩:=List.mem_map.mp hx
    refine absurd ?_ (xKp (sg.nm y hy))
    rw [he,List.getLast?_concat]
  unfold qXx
  rw [hnone,List.getLast?_concat,List.dropLast_concat,hm,sg.own _ _ (List.getElem?_eq_getElem hl)]
  show some (((c - sig.length).toNat+sig.length:Nat):Int)=some c
  congr 1; omega
theorem qYj {sig:Sg} (sg:SgOk sig) {u:List Int} {w:Bs} (h:qYu sig u=.ok w):Clean w∧qZg sig w=.ok u:=by
 unfold qYu at h
 split at h
 ·cases h
 ·rename_i h0
  cases h
  have hw:=qLl (sig:=sig) (u:=u) (show scan sig 1 u=0 from by simpa using h0)
  exact ⟨xDo sg.nm hw,xCd sg.nms hw⟩
theorem xEv {l:List Nat} {w:Bs} (h:xYg l=.ok w):Clean w∧qMw w=some l:=by
 obtain ⟨h1,h2⟩:=qZm h
 cases h2
 rw [Bool.and_eq_true] at h1
 have h3:=of_decide_eq_true h1.1
 have h4:=of_decide_eq_true h1.2
 refine ⟨qRu _,?_⟩
 unfold qMw
 rw [xXp]
 show (if (limbs (val l)).length≤64 then some (limbs (val l)) else none)=some l
 rw [← h4,if_pos h3]
theorem xAk {n:Int} (h:(decide (0<n) && decide (n<6))=true):Clean (at1 kinds n.toNat)∧qPf (at1 kinds n.toNat)=n.toNat∧0<n.toNat:=by
 rw [Bool.and_eq_true] at h
 have h3:=of_decide_eq_true h.1
 have h4:=of_decide_eq_true h.2
 have k1:∀ i:_root_.Fin 6,0<i.val→at1 kinds i.val≠[]∧(∀ b∈at1 kinds i.val,b≠32∧b≠10∧b.toNat<128)∧qPf (at1 kinds i.val)=i.val:=by decide
 obtain ⟨a1,a2,a3⟩:=k1 ⟨n.toNat,by omega⟩ (by show 0<n.toNat; omega)
 exact ⟨qBh a1 a2,a3,by omega⟩
theorem qOx:∀ {l:List Int} {ws:List Bs},rowM numM l=.ok ws→(∀ w∈ws,Clean w)∧qPw most ws=some l
 | [],ws,h=>by
  cases h
  exact ⟨fun w hw=>(by cases hw),rfl⟩
 | x::l,ws,h=>by
  obtain ⟨a,ha,h⟩:=qQe.mp h
  obtain ⟨b,hb,h⟩:=qQe.mp h
  cases h
  obtain ⟨h1,h2,h3⟩:=qMb ha
  obtain ⟨h4,h5⟩:=qOx hb
  refine ⟨fun w hw=>?_,?_⟩
  ·rcases List.mem_cons.mp hw with rfl | hw
   ·exact h1
   ·exact h4 w hw
  ·show (match numT a most with | some n=>(qPw most b).map ((n:Int)::·) | none=>none)=_
   rw [h2,h5]
   show some ((x.toNat:Int)::l)=_
   rw [h3]
theorem qMj {B:Bk} {pre:List Nd} {n:Nd} (h:B.cert=pre++[n]):qJr B=.ok n:=by
 unfold qJr
 rw [h,List.getLast?_concat]; rfl
theorem qSt {B:Bk} {pre:List Nd} {n m:Nd} (h:B.cert=pre++[n]):qXy B m={ B with cert:=pre++[m] }:=by
 unfold qXy
 rw [h,List.dropLast_concat]
theorem kw {w:Bs} (h0:w≠[]) (h:∀ b∈w,b≠32∧b≠10∧b.toNat<128):Clean w:=qBh h0 h
theorem cleans {ws:List Bs} (h:∀ w∈ws,Clean w) {w:Bs} (hw:Clean w):∀ x∈w::ws,Clean x:=fun x hx=>by
 rcases List.mem_cons.mp hx with rfl | hx
 ·exact hw
 ·exact h x hx
theorem qEo:∀ w∈([]:List Bs),Clean w:=fun w hw=>by cases hw
theorem xVo {B:Bk} {a c:Bs} {l r:List Int} (ha:qZg B.sig a=.ok l) (hc:qZg B.sig c=.ok r) (h:B.rules.length+1≤64):qWt B [qKj,a,qJv,c]=.ok { B with rules:=B.rules++[(l,r)] }:=by
 have e:qWt B [qKj,a,qJv,c]=((must true 222 >>= fun _=>qZg B.sig a >>= fun l=>qZg B.sig c >>= fun r=>.ok (l,r)) >>= fun r=>must (decide (B.rules.length+1≤64)) 226 >>= fun _=>.ok { B with rules:=B.rules++[r] }):=rfl
 rw [e,ha,hc,decide_eq_true h]; rfl
theorem xDe {B:Bk} {a c:Bs} {l r:List Int} (ha:qZg B.sig a=.ok l) (hc:qZg B.sig c=.ok r) (h:B.eqs.length+1≤64):qWt B [wEq,a,wIs,c]=.ok { B with eqs:=B.eqs++[(l,r)] }:=by
 have e:qWt B [wEq,a,wIs,c]=((must true 222 >>= fun _=>qZg B.sig a >>= fun l=>qZg B.sig c >>= fun r=>.ok (l,r)) >>= fun r=>must (decide (B.eqs.length+1≤64)) 226 >>= fun _=>.ok { B with eqs:=B.eqs++[r] }):=rfl
 rw [e,ha,hc,decide_eq_true h]; rfl
theorem xQq {B:Bk} {a c:Bs} {i j:Int} (ha:qXx B.sig a false=some i) (hc:qXx B.sig c false=some j):qWt B [qWc,a,c]=.ok { B with prec:=B.prec++[(i,j)] }:=by
 have e:qWt B [qWc,a,c]=(must true 222 >>= fun _=>opt (qXx B.sig a false) 223 >>= fun i=>opt (qXx B.sig c false) 223 >>= fun j=>.ok { B with prec:=B.prec++[(i,j)] }):=rfl
 rw [e,ha,hc]; rfl
theorem xWe {B:Bk} {a c:Bs} {k n:Nat} (ha:qPf a=k) (hp:0<k) (hc:numT c most=some n):qWt B [qEg,a,c]=.ok { B with cert:=B.cert++[⟨(k:Nat),(n:Int),[],[]⟩] }:=by
 have e:qWt B [qEg,a,c]=(must true 222 >>= fun _=>must (decide (0<qPf a)) 223 >>= fun _=>opt (numT c most) 225 >>= fun n=>.ok { B with cert:=B.cert++[⟨(qPf a:Nat),(n:Int),[],[]⟩] }):=rfl
 rw [e,hc,ha,decide_eq_true hp]; rfl
theorem xWb {B:Bk} {pre:List Nd} {n:Nd} (hB:B.cert=pre++[n]) {a c:Bs} {i j:Int} (ha:qXx B.sig a true=some i) (hc:qXx B.sig c true=some j):qWt B [qUr,a,c]=.ok { B with cert:=pre++[{ n with prec:=n.prec++[(i,j)] }] }:=by
 have e:qWt B [qUr,a,c]=(must true 222 >>= fun _=>qJr B >>= fun n=>opt (qXx B.sig a true) 223 >>= fun i=>opt (qXx B.sig c true) 223 >>= fun j=>.ok (qXy B { n with prec:=n.prec++[(i,j)] })):=rfl
 rw [e,ha,hc,qMj hB]
 show Except.ok (qXy B { n with prec:=n.prec++[(i,j)] })=_
 rw [qSt hB]
theorem xPk {B:Bk} {pre:List Nd} {n:Nd} (hB:B.cert=pre++[n]) {a:Bs} {i:Int} (ha:qXx B.sig a true=some i):qWt B [wSet,a]=.ok { B with cert:=pre++[{ n with ints:=n.ints++[⟨i,[]⟩] }] }:=by
 have e:qWt B [wSet,a]=(must true 222 >>= fun _=>qJr B >>= fun n=>opt (qXx B.sig a true) 223 >>= fun i=>.ok (qXy B { n with ints:=n.ints++[⟨i,[]⟩] })):=rfl
 rw [e,ha,qMj hB]
 show Except.ok (qXy B { n with ints:=n.ints++[⟨i,[]⟩] })=_
 rw [qSt hB]
theorem xWi {B:Bk} {pre:List Nd} {n:Nd} (hB:B.cert=pre++[n]) {ip:List It} {i:It} (hI:n.ints=ip++[i]) {c:Bs} {es:List Bs} {co:List Nat} {xs:List Int} (hc:qMw c=some co) (he:qPw most es=some xs) :
  qWt B (qUn::c::es)=.ok { B with cert:=pre++[{ n with ints:=ip++[{ i with p:=i.p++[⟨co,xs⟩] }] }] }:=by
 have e:qWt B (qUn::c::es)=(must (decide (1<(qUn::c::es).length)) 222 >>= fun _=>qJr B >>= fun n=>opt n.ints.getLast? 222 >>= fun i=>opt (qMw c) 225 >>= fun co=>opt (qPw most es) 225 >>= fun es=>.ok (qXy B { n with ints:=n.ints.dropLast++[{ i with p:=i.p++[⟨co,es⟩] }] })):=rfl
 rw [e,hc,he,qMj hB,decide_eq_true (by simp)]
 show (opt n.ints.getLast? 222 >>= fun i=>Except.ok (qXy B { n with ints:=n.ints.dropLast++[{ i with p:=i.p++[⟨co,xs⟩] }] }))=_
 rw [hI,List.getLast?_concat,List.dropLast_concat]
 show Except.ok (qXy B _)=_
 rw [qSt hB]
theorem qIe {B B':Bk} {w:Bs} {l:List Bs} (hw:Clean w) (hl:∀ x∈l,Clean x) (hm:w.head?≠some 35) (hs:w≠wSym) (h:qWt B (w::l)=.ok B'):RN B (qWe (w::l)) B':=xHe (cleans hl hw) hm hs h
theorem xBw {sig:Sg} (sg:SgOk sig) {s:Bs} (h:allM symW sig=.ok s):Reads Bk.nil false s { Bk.nil with sig:=sig } false:=by
 have:=qVg (f:=symW) (Q:=fun B s B'=>Reads B false s B' false) (fun B=>.refl B false) (fun B s B' t B'' h g=>h.trans g) (st:=fun l=>{ Bk.nil with sig:=l }) sig [] s (fun l1 x l2 s e hx=>?_) h
 ·exact this
 ·obtain ⟨_,hx⟩:=qZm hx
  obtain ⟨n,hn,hx⟩:=qQe.mp hx
  cases hx
  obtain ⟨n1,n2,n3⟩:=qMb hn
  have hmem:x∈sig:=by rw [e]; simp
  have har:=sg.ar x hmem
  have hat:sig[l1.length]?=some x:=by rw [e]; simp
  have hown:=sg.own _ _ hat
  have hnone:symI (l1.map (·.1)) x.1=none:=by
   cases hs:symI (l1.map (·.1)) x.1 with
   | none=>rfl
   | some j =>
    have hj:=qUt hs
    have hjl:=(List.getElem?_eq_some_iff.mp hj).1
    rw [List.length_map] at hjl
    rw [List.getElem?_map,List.getElem?_eq_getElem hjl] at hj
    have hj:l1[j].1=x.1:=Option.some.inj hj
    have h2:=sg.own j l1[j] (by rw [e,List.getElem?_append_left hjl,List.getElem?_eq_getElem hjl])
    rw [hj,hown] at h2
    have:=Option.some.inj h2
    omega
  rw [List.nil_append]
  have hlen:l1.length+1≤64:=by
   have:=sg.len
   rw [e,List.length_append,List.length_cons] at this
   omega
  refine qIr rfl (cleans (cleans (cleans qEo n1) (qYg (sg.nm x hmem))) (kw (w:=wSym) (by decide) (by decide))) (by decide) ?_
  have e2:qEi { Bk.nil with sig:=l1 } false [wSym,x.1,n]=((must true 222 >>= fun _=>must true 222 >>= fun _=>must (qJa x.1 && (symI (l1.map (·.1)) x.1).isNone) 223 >>= fun _=>opt (numT n 8) 225 >>= fun m=>must (decide (l1.length+1≤64)) 226 >>= fun _=>.ok { Bk.nil with sig:=l1++[(x.1,(m:Int))] }) >>= fun B=>.ok (B,false)):=rfl
  have hn8:numT n 8=some x.2.toNat:=by
   rw [(qWn n2).1]
   exact qDx (by omega)
  rw [e2,sg.nm x hmem,hnone,hn8,decide_eq_true hlen]
  show Except.ok (({ Bk.nil with sig:=l1++[(x.1,(x.2.toNat:Int))] }:Bk),false)=_
  rw [n3]
theorem xWa {B0:Bk} (sg:SgOk B0.sig) (l:List (Int × Int)) {s:Bs} (h:allM (qEh B0.sig qWc false) l=.ok s):RN { B0 with prec:=[] } s { B0 with prec:=l }:=by
 have:=qVg (f:=qEh B0.sig qWc false) (Q:=RN) RN.refl (fun B s B' t B'' h g=>h.trans g) (st:=fun l=>{ B0 with prec:=l }) l [] s (fun l1 x l2 s e hx=>?_) h
 ·exact this
 ·obtain ⟨a,ha,hx⟩:=qQe.mp hx
  obtain ⟨b,hb,hx⟩:=qQe.mp hx
  cases hx
  obtain ⟨a1,a2⟩:=qUy sg ha
  obtain ⟨b1,b2⟩:=qUy sg hb
  exact qIe (kw (by decide) (by decide)) (cleans (cleans qEo b1) a1) (by decide) (by decide) (xQq a2 b2)
theorem xVn {B0:Bk} (sg:SgOk B0.sig) (l:List Ru) {s:Bs} (h:qUw B0.sig qKj qJv l=.ok s):RN { B0 with rules:=[] } s { B0 with rules:=l }:=by
 obtain ⟨t,ht,h⟩:=qQe.mp h
 obtain ⟨hl,h⟩:=qZm h
 have hl:=of_decide_eq_true hl
 cases h
 have:=qVg (f:=qGb B0.sig qKj qJv) (Q:=RN) RN.refl (fun B s B' t B'' h g=>h.trans g) (st:=fun l=>{ B0 with rules:=l }) l [] s (fun l1 x l2 s e hx=>?_) ht
 ·exact this
 ·obtain ⟨a,ha,hx⟩:=qQe.mp hx
  obtain ⟨b,hb,hx⟩:=qQe.mp hx
  cases hx
  obtain ⟨a1,a2⟩:=qYj sg ha
  obtain ⟨b1,b2⟩:=qYj sg hb
  refine qIe (kw (by decide) (by decide)) (cleans (cleans (cleans qEo b1) (kw (by decide) (by decide))) a1) (by decide) (by decide) (xVo a2 b2 ?_)
  rw [e,List.length_append,List.length_cons] at hl
  show (([]:List Ru)++l1).length+1≤64
  rw [List.nil_append]; omega
theorem xDd {B0:Bk} (sg:SgOk B0.sig) (l:List Ru) {s:Bs} (h:qUw B0.sig wEq wIs l=.ok s):RN { B0 with eqs:=[] } s { B0 with eqs:=l }:=by
 obtain ⟨t,ht,h⟩:=qQe.mp h
 obtain ⟨hl,h⟩:=qZm h
 have hl:=of_decide_eq_true hl
 cases h
 have:=qVg (f:=qGb B0.sig wEq wIs) (Q:=RN) RN.refl (fun B s B' t B'' h g=>h.trans g) (st:=fun l=>{ B0 with eqs:=l }) l [] s (fun l1 x l2 s e hx=>?_) ht
 ·exact this
 ·obtain ⟨a,ha,hx⟩:=qQe.mp hx
  obtain ⟨b,hb,hx⟩:=qQe.mp hx
  cases hx
  obtain ⟨a1,a2⟩:=qYj sg ha
  obtain ⟨b1,b2⟩:=qYj sg hb
  refine qIe (kw (by decide) (by decide)) (cleans (cleans (cleans qEo b1) (kw (by decide) (by decide))) a1) (by decide) (by decide) (xDe a2 b2 ?_)
  rw [e,List.length_append,List.length_cons] at hl
  show (([]:List Ru)++l1).length+1≤64
  rw [List.nil_append]; omega
theorem xUf {B0:Bk} (sg:SgOk B0.sig) (pre:List Nd) (n:Nd) (l:List (Int × Int)) {s:Bs} (h:allM (qEh B0.sig qUr true) l=.ok s):RN { B0 with cert:=pre++[{ n with prec:=[] }] } s { B0 with cert:=pre++[{ n with prec:=l }] }:=by
 have:=qVg (f:=qEh B0.sig qUr true) (Q:=RN) RN.refl (fun B s B' t B'' h g=>h.trans g) (st:=fun l=>{ B0 with cert:=pre++[{ n with prec:=l }] }) l [] s (fun l1 x l2 s e hx=>?_) h
 ·exact this
 ·obtain ⟨a,ha,hx⟩:=qQe.mp hx
  obtain ⟨b,hb,hx⟩:=qQe.mp hx
  cases hx
  obtain ⟨a1,a2⟩:=qUy sg ha
  obtain ⟨b1,b2⟩:=qUy sg hb
  exact qIe (kw (by decide) (by decide)) (cleans (cleans qEo b1) a1) (by decide) (by decide) (xWb (B:={ B0 with cert:=pre++[{ n with prec:=[]++l1 }] }) (pre:=pre) (n:={ n with prec:=[]++l1 }) rfl a2 b2)
theorem xUw {B0:Bk} (pre:List Nd) (n:Nd) (ip:List It) (i:It) (l:List Mo) {s:Bs} (h:allM qCd l=.ok s):RN { B0 with cert:=pre++[{ n with ints:=ip++[{ i with p:=[] }] }] } s { B0 with cert:=pre++[{ n with ints:=ip++[{ i with p:=l }] }] }:=by
 have:=qVg (f:=qCd) (Q:=RN) RN.refl (fun B s B' t B'' h g=>h.trans g) (st:=fun l=>{ B0 with cert:=pre++[{ n with ints:=ip++[{ i with p:=l }] }] }) l [] s (fun l1 x l2 s e hx=>?_) h
 ·exact this
 ·obtain ⟨a,ha,hx⟩:=qQe.mp hx
  obtain ⟨b,hb,hx⟩:=qQe.mp hx
  cases hx
  obtain ⟨a1,a2⟩:=xEv ha
  obtain ⟨b1,b2⟩:=qOx hb
  exact qIe (kw (by decide) (by decide)) (cleans b1 a1) (by decide) (by decide) (xWi (B:={ B0 with cert:=pre++[{ n with ints:=ip++[{ i with p:=[]++l1 }] }] }) (pre:=pre) (n:={ n with ints:=ip++[{ i with p:=[]++l1 }] }) rfl (ip:=ip) (i:={ i with p:=[]++l1 }) rfl a2 b2)
theorem xAs {B0:Bk} (sg:SgOk B0.sig) (pre:List Nd) (n:Nd) (l:List It) {s:Bs} (h:allM (intW B0.sig) l=.ok s):RN { B0 with cert:=pre++[{ n with ints:=[] }] } s { B0 with cert:=pre++[{ n with ints:=l }] }:=by
 have:=qVg (f:=intW B0.sig) (Q:=RN) RN.refl (fun B s B' t B'' h g=>h.trans g) (st:=fun l=>{ B0 with cert:=pre++[{ n with ints:=l }] }) l [] s (fun l1 x l2 s e hx=>?_) h
 ·exact this
 ·obtain ⟨a,ha,hx⟩:=qQe.mp hx
  obtain ⟨b,hb,hx⟩:=qQe.mp hx
  cases hx
  obtain ⟨a1,a2⟩:=qUy sg ha
  refine (qIe (kw (by decide) (by decide)) (cleans qEo a1) (by decide) (by decide) (xPk (B:={ B0 with cert:=pre++[{ n with ints:=[]++l1 }] }) (pre:=pre) (n:={ n with ints:=[]++l1 }) rfl a2)).trans ?_
  exact xUw (B0:=B0) pre n ([]++l1) x x.p hb
theorem xKi {B0:Bk} (sg:SgOk B0.sig) (l:List Nd) {s:Bs} (h:allM (qGm B0.sig) l=.ok s):RN { B0 with cert:=[] } s { B0 with cert:=l }:=by
 have:=qVg (f:=qGm B0.sig) (Q:=RN) RN.refl (fun B s B' t B'' h g=>h.trans g) (st:=fun l=>{ B0 with cert:=l }) l [] s (fun l1 x l2 s e hx=>?_) h
 ·exact this
 ·obtain ⟨hk,hx⟩:=qZm hx
  obtain ⟨k,hkk,hx⟩:=qQe.mp hx
  obtain ⟨s1,h1,hx⟩:=qQe.mp hx
  obtain ⟨s2,h2,hx⟩:=qQe.mp hx
  cases hx
  obtain ⟨q1,q2,q3⟩:=xAk hk
  obtain ⟨r1,r2,r3⟩:=qMb hkk
  have hkd:((x.kind.toNat:Nat):Int)=x.kind:=by omega
  have first:=qIe (kw (w:=qEg) (by decide) (by decide)) (cleans (cleans qEo r1) q1) (by decide) (by decide) (xWe (B:={ B0 with cert:=[]++l1 }) q2 q3 r2)
  rw [hkd,r3] at first
  exact (first.trans (xUf (B0:=B0) sg ([]++l1) ⟨x.kind,x.kids,[],[]⟩ x.prec h1)).trans (xAs (B0:=B0) sg ([]++l1) ⟨x.kind,x.kids,x.prec,[]⟩ x.ints h2)
theorem xEz {B0:Bk} (sg:SgOk B0.sig) (l:List Cm) {s:Bs} (h:allM (cmdW B0.sig) l=.ok s):RN { B0 with cmds:=[] } s { B0 with cmds:=l }:=by
 have:=qVg (f:=cmdW B0.sig) (Q:=RN) RN.refl (fun B s B' t B'' h g=>h.trans g) (st:=fun l=>{ B0 with cmds:=l }) l [] s (fun l1 x l2 s e hx=>?_) h
 ·exact this
 ·obtain ⟨n,hn,hx⟩:=qQe.mp hx
  obtain ⟨hlen,hx⟩:=qZm hx
  obtain ⟨ts,ht,hx⟩:=qQe.mp hx
  cases hx
  have hlen:x.terms.length=n:=eq_of_beq hlen
  obtain ⟨word,terms⟩:=x
  unfold qIb at hn
  by_cases c1:word=qUs∨word=qZv∨word=qFp∨word=qUj∨word=qZw
  ·rw [if_pos c1] at hn
   cases hn
   obtain rfl:terms=[]:=List.length_eq_zero_iff.mp hlen
   cases ht
   rcases c1 with rfl | rfl | rfl | rfl | rfl <;> exact qIe (kw (by decide) (by decide)) qEo (by decide) (by decide) rfl
  rw [if_neg c1] at hn
  by_cases c2:word=qZu
  ·rw [if_pos c2] at hn
   cases hn
   subst c2
   match terms,hlen with
   | [u],_ =>
    obtain ⟨a,ha,ht⟩:=qQe.mp ht
    cases ht
    obtain ⟨a1,a2⟩:=qYj sg ha
    refine qIe (w:=qZu) (l:=[a]) (kw (by decide) (by decide)) (cleans qEo a1) (by decide) (by decide) ?_
    have e:qWt { B0 with cmds:=[]++l1 } [qZu,a]=(must true 222 >>= fun _=>qZg B0.sig a >>= fun l=>.ok { B0 with cmds:=[]++l1++[⟨qZu,[l]⟩] }):=rfl
    rw [e,a2]; rfl
  rw [if_neg c2] at hn
  by_cases c3:word=qJu
  ·rw [if_pos c3] at hn
   cases hn
   subst c3
   match terms,hlen with
   | [u,v],_ =>
    obtain ⟨a,ha,ht⟩:=qQe.mp ht
    obtain ⟨r,hr,ht⟩:=qQe.mp ht
    cases ht
    obtain ⟨b,hb,hr⟩:=qQe.mp hr
    cases hr
    obtain ⟨a1,a2⟩:=qYj sg ha
    obtain ⟨b1,b2⟩:=qYj sg hb
    refine qIe (w:=qJu) (l:=[a,wIs,b]) (kw (by decide) (by decide)) (cleans (cleans (cleans qEo b1) (kw (by decide) (by decide))) a1) (by decide) (by decide) ?_
    have e:qWt { B0 with cmds:=[]++l1 } [qJu,a,wIs,b]=((must true 222 >>= fun _=>qZg B0.sig a >>= fun l=>qZg B0.sig b >>= fun r=>.ok (l,r)) >>= fun r=>.ok { B0 with cmds:=[]++l1++[⟨qJu,[r.1,r.2]⟩] }):=rfl
    rw [e,a2,b2]; rfl
  rw [if_neg c3] at hn
  cases hn
def NZ {α:Type} (x:Except Int α):Prop:=∀ e,x=.error e→e≠0
theorem qQj {α β:Type} {x:Except Int α} {f:α→Except Int β} (h:NZ x) (g:∀ a,NZ (f a)):NZ (x >>= f):=fun e he=>by
 cases x with
 | error e'=>cases he; exact h _ rfl
 | ok a=>exact g a e he
theorem qVt {α:Type} (a:α):NZ (.ok a):=fun e h=>by cases h
theorem qVl {b:Bool} {c:Int} (h:c≠0):NZ (must b c):=fun e he=>by
 unfold must at he
 split at he
 ·cases he
 ·cases he; exact h
theorem xUl {α:Type} {x:Option α} {c:Int} (h:c≠0):NZ (opt x c):=fun e he=>by
 unfold opt at he
 split at he
 ·cases he
 ·cases he; exact h
theorem qTf {sig:Sg} {w:Bs}:NZ (qZg sig w):=fun e he=>by
 unfold qZg at he
 split at he
 ·rename_i e' hr
  obtain rfl:=Except.error.inj he
  exact qOh _ _ _ hr
 ·split at he
  ·cases he
  ·obtain rfl:=Except.error.inj he; decide
theorem qTe {sig:Sg} {w:List Bs} {m:Bs}:NZ (qJq sig w m):=qQj (qVl (by decide)) fun _=>qQj qTf fun _=>qQj qTf fun _=>qVt _
theorem qPv {w:List Bs} {n:Nat}:NZ (count w n):=qVl (by decide)
theorem qTh {B:Bk}:NZ (qJr B):=xUl (by decide)
theorem xHn {B:Bk} {w:List Bs}:NZ (qWt B w):=by
 have o:∀ {α:Type} {x:Option α} {c:Int},(decide (c≠0)=true)→NZ (opt x c):=fun h=>xUl (of_decide_eq_true h)
 have m:∀ {x:Bool} {c:Int},(decide (c≠0)=true)→NZ (must x c):=fun h=>qVl (of_decide_eq_true h)
 unfold qWt
 dsimp only
 by_cases c0:at1 w 0=qKj
 ·rw [if_pos c0]; exact qQj qTe fun _=>qQj (m rfl) fun _=>qVt _
 rw [if_neg c0]
 by_cases c0:at1 w 0=wEq
 ·rw [if_pos c0]; exact qQj qTe fun _=>qQj (m rfl) fun _=>qVt _
 rw [if_neg c0]
 by_cases c0:at1 w 0=qWc
 ·rw [if_pos c0]; exact qQj qPv fun _=>qQj (o rfl) fun _=>qQj (o rfl) fun _=>qVt _
 rw [if_neg c0]
 by_cases c0:at1 w 0=qEg
 ·rw [if_pos c0]; exact qQj qPv fun _=>qQj (m rfl) fun _=>qQj (o rfl) fun _=>qVt _
 rw [if_neg c0]
 by_cases c0:at1 w 0=qUr
 ·rw [if_pos c0]; exact qQj qPv fun _=>qQj qTh fun _=>qQj (o rfl) fun _=>qQj (o rfl) fun _=>qVt _
 rw [if_neg c0]
 by_cases c0:at1 w 0=wSet
 ·rw [if_pos c0]; exact qQj qPv fun _=>qQj qTh fun _=>qQj (o rfl) fun _=>qVt _
 rw [if_neg c0]
 by_cases c0:at1 w 0=qUn
 ·rw [if_pos c0]; exact qQj (m rfl) fun _=>qQj qTh fun _=>qQj (o rfl) fun _=>qQj (o rfl) fun _=>qQj (o rfl) fun _=>qVt _
 rw [if_neg c0]
 by_cases c0:at1 w 0=qUs∨at1 w 0=qZv∨at1 w 0=qFp∨at1 w 0=qUj∨at1 w 0=qZw
 ·rw [if_pos c0]; exact qQj qPv fun _=>qVt _
 rw [if_neg c0]
 by_cases c0:at1 w 0=qZu
 ·rw [if_pos c0]; exact qQj qPv fun _=>qQj qTf fun _=>qVt _
 rw [if_neg c0]
 by_cases c0:at1 w 0=qJu
 ·rw [if_pos c0]; exact qQj qTe fun _=>qVt _
 rw [if_neg c0]
 intro e he
 cases he; decide
theorem xCj {B:Bk} {p:Bool} {w:List Bs}:NZ (qEi B p w):=by
 unfold qEi
 split
 ·refine qQj ?_ fun _=>qVt _
  exact qQj qPv fun _=>qQj (qVl (by decide)) fun _=>qQj (qVl (by decide)) fun _=>qQj (xUl (by decide)) fun _=>qQj (qVl (by decide)) fun _=>qVt _
 ·exact qQj xHn fun _=>qVt _
theorem qGp:∀ {ls:List Bs} {B:Bk} {p:Bool} {n:Nat} {y:Nat × Int},qVp B p n ls=.error y→y.2≠0∧y.1≤n+ls.length
 | [],B,p,n,y,h=>by cases h
 | l::ls,B,p,n,y,h=>by
  unfold qVp at h
  rw [List.length_cons]
  split at h
  ·obtain ⟨h1,h2⟩:=qGp h
   exact ⟨h1,by omega⟩
  ·split at h
   ·obtain ⟨h1,h2⟩:=qGp h
    exact ⟨h1,by omega⟩
   ·rename_i e he
    cases h
    exact ⟨xCj e he,by dsimp only; omega⟩
theorem xVw {B:Bk} {s:Bs} (sg:SgOk B.sig) (h:qGg 0 B=.ok s):(∃ p,qVp Bk.nil false 0 (qVv 10 s)=.ok (B,p))∧validD s=true∧s.length≤65536∧s.count 10<4096:=by
 unfold qGg at h
 rw [if_neg (by simp)] at h
 obtain ⟨_,h⟩:=qZm h
 obtain ⟨s1,h1,h⟩:=qQe.mp h
 obtain ⟨s2,h2,h⟩:=qQe.mp h
 obtain ⟨s3,h3,h⟩:=qQe.mp h
 obtain ⟨s4,h4,h⟩:=qQe.mp h
 obtain ⟨s5,h5,h⟩:=qQe.mp h
 obtain ⟨s6,h6,h⟩:=qQe.mp h
 obtain ⟨hb,h⟩:=qZm h
 cases h
 rw [Bool.and_eq_true] at hb
 have b1:=of_decide_eq_true hb.1
 have b2:=of_decide_eq_true hb.2
 have r1:=xBw sg h1
 have r2:=xVn (B0:={ Bk.nil with sig:=B.sig }) sg B.rules h2
 have r3:=xDd (B0:={ Bk.nil with sig:=B.sig,rules:=B.rules }) sg B.eqs h3
 have r4:=xWa (B0:={ Bk.nil with sig:=B.sig,rules:=B.rules,eqs:=B.eqs }) sg B.prec h4
 have r5:=xKi (B0:={ Bk.nil with sig:=B.sig,rules:=B.rules,eqs:=B.eqs,prec:=B.prec }) sg B.cert h5
 have r6:=xEz (B0:={ Bk.nil with sig:=B.sig,rules:=B.rules,eqs:=B.eqs,prec:=B.prec,cert:=B.cert }) sg B.cmds h6
 obtain ⟨p',hr⟩:=(((r2.trans r3).trans r4).trans r5).trans r6 false
 have all:=r1.trans hr
 have hs:s1++(s2++s3++s4++s5++s6)=s1++s2++s3++s4++s5++s6:=by simp only [List.append_assoc]
 rw [hs] at all
 generalize s1++s2++s3++s4++s5++s6=s at all b1 b2
 refine ⟨?_,?_,b1,b2⟩
 ·obtain ⟨k,hk⟩:=all.go
  have:=hk 0 []
  rw [List.append_nil,qGq] at this
  have hfin:qDe { Bk.nil with sig:=B.sig,rules:=B.rules,eqs:=B.eqs,prec:=B.prec,cert:=B.cert,cmds:=B.cmds } p' (0+k) (qVv 10 [])=(B,0,0):=rfl
  rw [hfin] at this
  cases hl:qVp Bk.nil false 0 (qVv 10 s) with
  | error y =>
   rw [hl] at this
   have h0:=(qGp hl).1
   have:y.2=0:=congrArg (fun x=>x.2.2) this
   exact absurd this h0
  | ok y =>
   rw [hl] at this
   have:y.1=B:=congrArg (fun x=>x.1) this
   exact ⟨y.2,by rw [← this]⟩
 ·have:=all.ok []
  rw [List.append_nil] at this
  rw [this]; rfl
structure Sz (s:Bs) (n c:Nat):Prop where
 len:s.length=n
 cnt:s.count 10=c
theorem Sz.app {s t:Bs} {n c m d:Nat} (h:Sz s n c) (g:Sz t m d):Sz (s++t) (n+m) (c+d):=⟨by rw [List.length_append,h.len,g.len],by rw [List.count_append,h.cnt,g.cnt]⟩
structure Pw (B:Bk) (n c:Nat) where
 s1:Bs
 s2:Bs
 s3:Bs
 s4:Bs
 s5:Bs
 s6:Bs
 h1:allM symW B.sig=.ok s1
 h2:allM (qGb B.sig qKj qJv) B.rules=.ok s2
 h3:allM (qGb B.sig wEq wIs) B.eqs=.ok s3
 h4:allM (qEh B.sig qWc false) B.prec=.ok s4
 h5:allM (qGm B.sig) B.cert=.ok s5
 h6:allM (cmdW B.sig) B.cmds=.ok s6
 len:s1.length+s2.length+s3.length+s4.length+s5.length+s6.length=n
 cnt:s1.count 10+s2.count 10+s3.count 10+s4.count 10+s5.count 10+s6.count 10=c
structure Ag (B:Bk) (p:Bool) (n c:Nat):Prop where
 sg:SgOk B.sig
 bare:p=false→B={ Bk.nil with sig:=B.sig }
 rules:B.rules.length≤64
 eqs:B.eqs.length≤64
 pw:Nonempty (Pw B n c)
end Go.Proofs.Sp
