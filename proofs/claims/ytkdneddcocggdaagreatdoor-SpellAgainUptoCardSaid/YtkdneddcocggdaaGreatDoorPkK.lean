/-
  Packed: The document's way: a text's lines, a line's words. The document's way: what stands in a line behind its word, and whether a line fits. The document's way: whether a line's words fit. A line is taken as the document takes it, word by word: plain. The document's way: a word of a line is read by its letter. The document's way: a line is taken into a book. The document's way: what a line says is put into a book. The document's way: a text is read as a book. What is printed of a book is read as that book: plain. What is read of a text is printed, no longer than the text: plain.
-/
import Derived.Test.YtkdneddcocggdaaGreatDoorPkI
import Derived.Test.YtkdneddcocggdaaGreatDoorPkH
set_option linter.unusedVariables false
set_option linter.unusedSimpArgs false
set_option linter.unnecessarySimpa false
namespace Go.Proofs.YtkdneddcocggdaaGreatDoor.Am
open Go Go.Proofs Go.RowKit Go.Lib Sys Sp
set_option maxRecDepth 100000
variable {D:Orc} {E:Dorc} {h h' h0:H} {k:Kv} {kp:Kp} {L R:List Res}
end Go.Proofs.YtkdneddcocggdaaGreatDoor.Am
namespace Go.Proofs.Sp
open Go Go.Lib Sys
end Go.Proofs.Sp
namespace Go.Proofs.YtkdneddcocggdaaGreatDoor.Am
open Go Go.Proofs Go.RowKit Go.Lib Sys Sp
set_option maxRecDepth 100000
variable {D:Orc} {E:Dorc} {h h' h0 g:H} {k:Kv} {kp:Kp} {L R:List Res} {B:Bk} {V:BkV} {N:Nat}
variable {D:Orc} {E:Dorc} {h h' h0 g:H} {k:Kv} {kp:Kp} {L R:List Res} {B:Bk} {V:BkV} {N:Nat}
end Go.Proofs.YtkdneddcocggdaaGreatDoor.Am
namespace Go.Proofs.Sp
open Go Go.Lib Sys
structure Ln where
 names:List Bs
 codes:List Int
 terms:List (List Int)
 nums:List Int
 coef:List Nat
def Ln.nil:Ln:=⟨[],[],[],[],[]⟩
theorem list4 {w:List Bs} (h:w.length=4):w=[at1 w 0,at1 w 1,at1 w 2,at1 w 3]:=by
 match w,h with
 | [a,b,c,d],_=>rfl
theorem xCy {w:List Bs} (h:w.length=3):w=[at1 w 0,at1 w 1,at1 w 2]:=by
 match w,h with
 | [a,b,c],_=>rfl
theorem xNo {w:List Bs} (h:w.length=2):w=[at1 w 0,at1 w 1]:=by
 match w,h with
 | [a,b],_=>rfl
theorem list1 {w:List Bs} (h:w.length=1):w=[at1 w 0]:=by
 match w,h with
 | [a],_=>rfl
structure Bd (B:Bk):Prop where
 s:B.sig.length≤64
 r:B.rules.length≤64
 e:B.eqs.length≤64
end Go.Proofs.Sp
namespace Go.Proofs.YtkdneddcocggdaaGreatDoor.Am
open Go Go.Proofs Go.RowKit Go.Lib Sys Sp
set_option maxRecDepth 100000
variable {D:Orc} {E:Dorc} {h h' h0 g g':H} {k:Kv} {kp:Kp} {L R:List Res} {B:Bk} {V:BkV} {N:Nat}
theorem xPs:∀ (l pre:List Sy),(∀ x∈l,qPi (bts x.1)=true∧0≤x.2∧x.2≤8)→(∀ (a b:List Sy) x,pre++l=a++x::b→pre.length≤a.length→∀ y∈a,bts y.1≠bts x.1)→sigL pre l=0
 | [],pre,_,_=>rfl
 | x::l,pre,h1,h2=>by
  unfold sigL
  have hx:=h1 x (.head _)
  have hn:qZs x.1=true:=by
   unfold qZs
   have:qVx x.1=true:=by rw [← qPy x.1]; exact hx.1
   rw [this]; rfl
  have hs:qUa pre x=0:=by
   unfold qUa
   rw [if_neg (by rw [hn]; decide),if_neg (by omega),if_neg]
   intro hh
   obtain ⟨y,hy,he⟩:=List.any_eq_true.mp hh
   rw [qKl] at he
   exact h2 pre l x rfl (Nat.le_refl _) y hy (eq_of_beq he)
  rw [if_pos hs]
  refine xPs l (pre++[x]) (fun y hy=>h1 y (.tail _ hy)) fun a b y hab hl=>h2 a b y (by rw [← hab,List.append_assoc]; rfl) ?_
  rw [List.length_append] at hl
  omega
theorem xNa {sig:Sg} (h:SgOk sig):qVd (toSy sig)=0:=by
 unfold qVd
 rw [qXp,if_neg (by have:=h.len; omega)]
 refine xPs _ [] (fun x hx=>?_) fun a b x hab _ y hy he=>?_
 ·obtain ⟨z,hz,rfl⟩:=List.mem_map.mp hx
  rw [qQt]
  exact ⟨h.nm z hz,h.ar z hz⟩
 ·rw [List.nil_append] at hab
  obtain ⟨i,hi⟩:=List.getElem?_of_mem hy
  have hil:=(List.getElem?_eq_some_iff.mp hi).1
  have e1:(toSy sig)[i]?=some y:=by rw [hab,List.getElem?_append_left hil]; exact hi
  have e2:(toSy sig)[a.length]?=some x:=by rw [hab,List.getElem?_append_right (Nat.le_refl _),Nat.sub_self]; rfl
  have pick:∀ (j:Nat) (z:Sy),(toSy sig)[j]?=some z→symI (sig.map (·.1)) (bts z.1)=some j:=fun j z hz=>by
   unfold toSy at hz
   rw [List.getElem?_map] at hz
   obtain ⟨u,hu,rfl⟩:=Option.map_eq_some_iff.mp hz
   rw [qQt]
   exact h.own j u hu
  have p1:=pick i y e1
  have p2:=pick a.length x e2
  rw [he,p2] at p1
  have:=Option.some.inj p1
  omega
structure LnV where
 nm:Value
 cd:Value
 tm:Value
 nu:Value
 cf:Value
 tmr:List Value
structure LnI (m:Nat) (g:H) (X:LnV) (x:Ln):Prop where
 tm:Rel2 (Oz g) X.tmr x.terms
 cd:∀ c∈x.codes,inI c
 nu:∀ c∈x.nums,inI c
 cf:Nr g X.cf x.coef
 l1:x.names.length≤m
 l2:x.codes.length≤m
 l3:x.terms.length≤m
 l4:x.nums.length≤m
theorem LnI.ext {m:Nat} {X:LnV} {x:Ln} (I:LnI m g X x) (e:Ext g g'):LnI m g' X x:=⟨I.tm.mono fun _ _ o=>o.ext e,I.cd,I.nu,I.cf.ext e,I.l1,I.l2,I.l3,I.l4⟩
theorem LnI.up {m:Nat} {X:LnV} {x:Ln} (I:LnI m g X x):LnI (m+1) g X x:=⟨I.tm,I.cd,I.nu,I.cf,Nat.le_succ_of_le I.l1,Nat.le_succ_of_le I.l2,Nat.le_succ_of_le I.l3,Nat.le_succ_of_le I.l4⟩
theorem Hp.grow {q i j:Nat} {l vs:List Value} {s v z:Value} (o:Hp h0 h (qQm q l::L)) (hL:L[i]?=some (bufR s vs)) (hj:l[j]?=some s) (hv:one v=true) {bytes:Nat} (hb:bytes≤64) (hl:vs.length<2 ^ 40) {O U T:Prop} (hO:O) (hU:U) (hT:T) {K:H→Prop}
  (hK:∀ s' h',Hp h0 h' (qQm q (l.set j s')::L.set i (bufR s' (vs++[v])))→K h') :
  qQh (Pt q)=true∧ptrW (Pt q) (fun ad18=>∃ v19:Value,rd h (Addr.add ad18 j)=some v19∧O∧U∧qXc h 1 [v] (fun s20 h21=>qXm s20 (fun n22=>srcW h21 1 s20 (n22) (fun w23=>apW h21 1 bytes [z] v19 (n22) w23 (fun s24 h25=>qQh (Pt q)=true∧ptrW (Pt q) (fun ad26=>one s24=true∧T∧∃ h27,wr1 h25 (Addr.add ad26 j) s24=some h27∧K h27)))))):=by
 refine ⟨rfl,ldj (o.cell (i:=0) rfl) hj ?_⟩
 refine o.push (i:=i+1) (s:=s) (vs:=vs) (v:=v) (by simpa using hL) hb hl hv hO hU fun s' h' o'=>⟨rfl,?_⟩
 have o':Hp h0 h' (qQm q l::L.set i (bufR s' (vs++[v]))):=o'
 have hil:=(List.getElem?_eq_some_iff.mp hL).1
 have hrow:Row h' s' (vs++[v]):=o'.row (i:=i+1) (by simp [hil])
 exact o'.stj (i:=0) (j:=j) rfl (List.getElem?_eq_some_iff.mp hj).1 (qZj hrow) hT fun h2 o2=>hK s' h2 o2
end Go.Proofs.YtkdneddcocggdaaGreatDoor.Am
namespace Go.Proofs.Sp
open Go Go.Lib Sys
end Go.Proofs.Sp
namespace Go.Proofs.YtkdneddcocggdaaGreatDoor.Am
open Go Go.Proofs Go.RowKit Go.Lib Sys Sp
set_option maxRecDepth 100000
variable {D:Orc} {E:Dorc} {h h' h0 g g':H} {k:Kv} {kp:Kp} {L R:List Res} {B:Bk} {V:BkV} {N bp:Nat} {w:List Bs} {wv:Value}
variable {D:Orc} {E:Dorc} {h h' h0 g g':H} {k:Kv} {kp:Kp} {L R:List Res} {B:Bk} {V:BkV} {N bp:Nat} {w:List Bs} {wv:Value}
end Go.Proofs.YtkdneddcocggdaaGreatDoor.Am
namespace Go.Proofs.Sp
open Go Go.Lib Sys
theorem qHs (x:UInt8):∀ l:Bs,(qZh x l).length=l.count x+1
 | []=>rfl
 | b::l=>by
  have ih:=qHs x l
  unfold qZh
  by_cases hb:b=x
  ·rw [if_pos hb,List.length_cons,ih,hb,List.count_cons_self]
  ·rw [if_neg hb,List.count_cons_of_ne hb]
   cases hc:qZh x l with
   | nil=>rw [hc] at ih; simp at ih
   | cons c cs =>
    rw [hc] at ih
    simpa using ih
theorem xPi {l:List Bs} {s a:Bs}:symI (l++[a]) s=match symI l s with
  | some c=>some c
  | none=>if a=s then some l.length else none:=by
 unfold symI
 rw [List.findIdx?_append]
 cases h:l.findIdx? (·==s) with
 | some c=>rfl
 | none =>
  by_cases ha:a=s
  ·simp [List.findIdx?_cons,ha]
  ·simp [List.findIdx?_cons,ha]
theorem SgOk.push {sig:Sg} (o:SgOk sig) {a:Bs} {n:Int} (h1:qPi a=true) (h2:symI (sig.map (·.1)) a=none) (h3:0≤n∧n≤8) (h4:sig.length+1≤64):SgOk (sig++[(a,n)]):=by
 refine ⟨fun x hx=>?_,fun c x hc=>?_,fun x hx=>?_,by rw [List.length_append]; exact h4⟩
 ·rcases List.mem_append.mp hx with hx | hx
  ·exact o.nm x hx
  ·rw [List.mem_singleton.mp hx]; exact h1
 ·rw [List.map_append]
  show symI (sig.map (·.1)++[a]) x.1=some c
  rw [xPi]
  by_cases hc2:c<sig.length
  ·rw [List.getElem?_append_left hc2] at hc
   rw [o.own c x hc]
  ·rw [List.getElem?_append_right (by omega)] at hc
   have hc0:c - sig.length=0:=by
    have:=(List.getElem?_eq_some_iff.mp hc).1
    simp at this; omega
   rw [hc0] at hc
   obtain rfl:(a,n)=x:=Option.some.inj hc
   rw [h2]
   show (if a=a then some (sig.map (·.1)).length else none)=some c
   rw [if_pos rfl,List.length_map]
   congr 1
   omega
 ·rcases List.mem_append.mp hx with hx | hx
  ·exact o.ar x hx
  ·rw [List.mem_singleton.mp hx]; exact h3
theorem qXb {α β:Type} {x:Option α} {e:Int} {f:α→Except Int β} {b:β} (h:(opt x e >>= f)=.ok b):∃ a,x=some a∧f a=.ok b:=by
 obtain ⟨a,ha,h⟩:=qQc.mp h
 exact ⟨a,qGt.mp ha,h⟩
theorem qQv {β:Type} {x:Bool} {e:Int} {f:Unit→Except Int β} {b:β} (h:(must x e >>= f)=.ok b):x=true∧f ()=.ok b:=by
 obtain ⟨a,ha,h⟩:=qQc.mp h
 exact ⟨qEy.mp ha,h⟩
theorem xAn {B B':Bk} {w:List Bs} (h:qVs B w=.ok B'):B'.sig=B.sig:=by
 unfold qVs at h
 dsimp only at h
 by_cases c0:at1 w 0=qPa
 ·rw [if_pos c0] at h
  obtain ⟨r,_,h⟩:=qQc.mp h
  obtain ⟨_,h⟩:=qQv h
  cases h; rfl
 rw [if_neg c0] at h
 by_cases c1:at1 w 0=wEq
 ·rw [if_pos c1] at h
  obtain ⟨r,_,h⟩:=qQc.mp h
  obtain ⟨_,h⟩:=qQv h
  cases h; rfl
 rw [if_neg c1] at h
 by_cases c2:at1 w 0=qVb
 ·rw [if_pos c2] at h
  obtain ⟨_,_,h⟩:=qQc.mp h
  obtain ⟨_,_,h⟩:=qXb h
  obtain ⟨_,_,h⟩:=qXb h
  cases h; rfl
 rw [if_neg c2] at h
 by_cases c3:at1 w 0=qJa
 ·rw [if_pos c3] at h
  obtain ⟨_,_,h⟩:=qQc.mp h
  obtain ⟨_,h⟩:=qQv h
  obtain ⟨_,_,h⟩:=qXb h
  cases h; rfl
 rw [if_neg c3] at h
 by_cases c4:at1 w 0=qYm
 ·rw [if_pos c4] at h
  obtain ⟨_,_,h⟩:=qQc.mp h
  obtain ⟨_,_,h⟩:=qQc.mp h
  obtain ⟨_,_,h⟩:=qXb h
  obtain ⟨_,_,h⟩:=qXb h
  cases h; rfl
 rw [if_neg c4] at h
 by_cases c5:at1 w 0=wSet
 ·rw [if_pos c5] at h
  obtain ⟨_,_,h⟩:=qQc.mp h
  obtain ⟨_,_,h⟩:=qQc.mp h
  obtain ⟨_,_,h⟩:=qXb h
  cases h; rfl
 rw [if_neg c5] at h
 by_cases c6:at1 w 0=qYe
 ·rw [if_pos c6] at h
  obtain ⟨_,h⟩:=qQv h
  obtain ⟨_,_,h⟩:=qQc.mp h
  obtain ⟨_,_,h⟩:=qXb h
  obtain ⟨_,_,h⟩:=qXb h
  obtain ⟨_,_,h⟩:=qXb h
  cases h; rfl
 rw [if_neg c6] at h
 by_cases c7:at1 w 0=qJe∨at1 w 0=qZc∨at1 w 0=qKi∨at1 w 0=qYl∨at1 w 0=qZd
 ·rw [if_pos c7] at h
  obtain ⟨_,_,h⟩:=qQc.mp h
  cases h; rfl
 rw [if_neg c7] at h
 by_cases c8:at1 w 0=qZi
 ·rw [if_pos c8] at h
  obtain ⟨_,_,h⟩:=qQc.mp h
  obtain ⟨_,_,h⟩:=qQc.mp h
  cases h; rfl
 rw [if_neg c8] at h
 by_cases c9:at1 w 0=qYc
 ·rw [if_pos c9] at h
  obtain ⟨_,_,h⟩:=qQc.mp h
  cases h; rfl
 ·rw [if_neg c9] at h
  cases h
theorem xHq {B B':Bk} {p p':Bool} {w:List Bs} (o:SgOk B.sig) (h:qPj B p w=.ok (B',p')):SgOk B'.sig:=by
 unfold qPj at h
 split at h
 ·obtain ⟨b,hb,h⟩:=qQc.mp h
  cases h
  unfold symM at hb
  obtain ⟨_,_,h⟩:=qQc.mp hb
  obtain ⟨_,h⟩:=qQv h
  obtain ⟨h1,h⟩:=qQv h
  obtain ⟨n,hn,h⟩:=qXb h
  obtain ⟨h2,h⟩:=qQv h
  cases h
  rw [Bool.and_eq_true] at h1
  have:=(qZr hn).2
  exact o.push h1.1 (Option.isNone_iff_eq_none.mp h1.2) ⟨by omega,by omega⟩ (of_decide_eq_true h2)
 ·obtain ⟨b,hb,h⟩:=qQc.mp h
  cases h
  rw [xAn hb]; exact o
end Go.Proofs.Sp
namespace Go.Proofs.YtkdneddcocggdaaGreatDoor.Am
open Go Go.Proofs Go.RowKit Go.Lib Sys Sp
set_option maxRecDepth 100000
variable {D:Orc} {E:Dorc} {h h' h0 g g':H} {k:Kv} {kp:Kp} {L R:List Res} {B:Bk} {V:BkV} {N bp:Nat} {w:List Bs} {wv:Value}
end Go.Proofs.YtkdneddcocggdaaGreatDoor.Am
namespace Go.Proofs.Sp
open Go Go.Lib Sys Nats
theorem qMj {n:Int} {w:Bs} (h:numM n=.ok w):Clean w∧numT w most=some n.toNat∧(n.toNat:Int)=n:=by
 obtain ⟨h1,h2⟩:=qQv h
 cases h2
 rw [Bool.and_eq_true] at h1
 have h3:=of_decide_eq_true h1.1
 have h4:=of_decide_eq_true h1.2
 exact ⟨qSg _,qKv (by omega),by omega⟩
theorem qUz {sig:Sg} (sg:SgOk sig) {c:Int} {marked:Bool} {w:Bs} (h:qDz sig c marked=.ok w):Clean w∧qXu sig w marked=some c:=by
 obtain ⟨h1,h2⟩:=qQv h
 rw [Bool.and_eq_true,Bool.or_eq_true,Bool.and_eq_true,decide_eq_true_eq,decide_eq_true_eq,decide_eq_true_eq] at h1
 obtain ⟨h0,h1⟩:=h1
 by_cases hc:c<sig.length
 ·rw [if_pos hc] at h2
  have hl:c.toNat<sig.length:=by omega
  rw [List.getElem?_eq_getElem hl] at h2
  cases h2
  show Clean sig[c.toNat].1∧qXu sig sig[c.toNat].1 marked=some c
  refine ⟨qEd (sg.nm _ (List.getElem_mem hl)),?_⟩
  unfold qXu
  rw [sg.own c.toNat _ (List.getElem?_eq_getElem hl)]
  show some ((c.toNat:Nat):Int)=some c
  congr 1; omega
 ·rw [if_neg hc] at h2
  obtain ⟨hm,hc2⟩:=h1.resolve_left hc
  have hl:(c - sig.length).toNat<sig.length:=by omega
  rw [List.getElem?_eq_getElem hl] at h2
  cases h2
  show Clean (sig[(c - sig.length).toNat].1++[35])∧qXu sig (sig[(c - sig.length).toNat].1++[35]) marked=some c
  have hmem:=List.getElem_mem hl
  refine ⟨xYt (qEd (sg.nm _ hmem)),?_⟩
  have hnone:symI (sig.map (·.1)) (sig[(c - sig.length).toNat].1++[35])=none:=by
   cases hs:symI (sig.map (·.1)) (sig[(c - sig.length).toNat].1++[35]) with
   | none=>rfl
   | some j =>
    have hx:=List.mem_of_getElem? (qYp hs)
    obtain ⟨y,hy,he⟩:=List.mem_map.mp hx
    refine absurd ?_ (qSj (sg.nm y hy))
    rw [he,List.getLast?_concat]
  unfold qXu
  rw [hnone,List.getLast?_concat,List.dropLast_concat,hm,sg.own _ _ (List.getElem?_eq_getElem hl)]
  show some (((c - sig.length).toNat+sig.length:Nat):Int)=some c
  congr 1; omega
theorem qYo {sig:Sg} (sg:SgOk sig) {u:List Int} {w:Bs} (h:qVr sig u=.ok w):Clean w∧qZg sig w=.ok u:=by
 unfold qVr at h
 split at h
 ·cases h
 ·rename_i h0
  cases h
  have hw:=qLt (sig:=sig) (u:=u) (show scan sig 1 u=0 from by simpa using h0)
  exact ⟨xFd sg.nm hw,xCm sg.nms hw⟩
theorem xKf {l:List Nat} {w:Bs} (h:qSf l=.ok w):Clean w∧qHt w=some l:=by
 obtain ⟨h1,h2⟩:=qQv h
 cases h2
 rw [Bool.and_eq_true] at h1
 have h3:=of_decide_eq_true h1.1
 have h4:=of_decide_eq_true h1.2
 refine ⟨qSg _,?_⟩
 unfold qHt
 rw [xZa]
 show (if (limbs (val l)).length≤64 then some (limbs (val l)) else none)=some l
 rw [← h4,if_pos h3]
theorem xAt {n:Int} (h:(decide (0<n) && decide (n<6))=true):Clean (at1 kinds n.toNat)∧qWd (at1 kinds n.toNat)=n.toNat∧0<n.toNat:=by
 rw [Bool.and_eq_true] at h
 have h3:=of_decide_eq_true h.1
 have h4:=of_decide_eq_true h.2
 have k1:∀ i:_root_.Fin 6,0<i.val→at1 kinds i.val≠[]∧(∀ b∈at1 kinds i.val,b≠32∧b≠10∧b.toNat<128)∧qWd (at1 kinds i.val)=i.val:=by decide
 obtain ⟨a1,a2,a3⟩:=k1 ⟨n.toNat,by omega⟩ (by show 0<n.toNat; omega)
 exact ⟨qBp a1 a2,a3,by omega⟩
theorem qRi:∀ {l:List Int} {ws:List Bs},rowM numM l=.ok ws→(∀ w∈ws,Clean w)∧qJx most ws=some l
 | [],ws,h=>by
  cases h
  exact ⟨fun w hw=>(by cases hw),rfl⟩
 | x::l,ws,h=>by
  obtain ⟨a,ha,h⟩:=qQc.mp h
  obtain ⟨b,hb,h⟩:=qQc.mp h
  cases h
  obtain ⟨h1,h2,h3⟩:=qMj ha
  obtain ⟨h4,h5⟩:=qRi hb
  refine ⟨fun w hw=>?_,?_⟩
  ·rcases List.mem_cons.mp hw with rfl | hw
   ·exact h1
   ·exact h4 w hw
  ·show (match numT a most with | some n=>(qJx most b).map ((n:Int)::·) | none=>none)=_
   rw [h2,h5]
   show some ((x.toNat:Int)::l)=_
   rw [h3]
theorem qMs {B:Bk} {pre:List Nd} {n:Nd} (h:B.cert=pre++[n]):qJd B=.ok n:=by
 unfold qJd
 rw [h,List.getLast?_concat]; rfl
theorem qCd {B:Bk} {pre:List Nd} {n m:Nd} (h:B.cert=pre++[n]):qZb B m={ B with cert:=pre++[m] }:=by
 unfold qZb
 rw [h,List.dropLast_concat]
theorem kw {w:Bs} (h0:w≠[]) (h:∀ b∈w,b≠32∧b≠10∧b.toNat<128):Clean w:=qBp h0 h
theorem cleans {ws:List Bs} (h:∀ w∈ws,Clean w) {w:Bs} (hw:Clean w):∀ x∈w::ws,Clean x:=fun x hx=>by
 rcases List.mem_cons.mp hx with rfl | hx
 ·exact hw
 ·exact h x hx
theorem qEl:∀ w∈([]:List Bs),Clean w:=fun w hw=>by cases hw
theorem xVz {B:Bk} {a c:Bs} {l r:List Int} (ha:qZg B.sig a=.ok l) (hc:qZg B.sig c=.ok r) (h:B.rules.length+1≤64):qVs B [qPa,a,qYd,c]=.ok { B with rules:=B.rules++[(l,r)] }:=by
 have e:qVs B [qPa,a,qYd,c]=((must true 222 >>= fun _=>qZg B.sig a >>= fun l=>qZg B.sig c >>= fun r=>.ok (l,r)) >>= fun r=>must (decide (B.rules.length+1≤64)) 226 >>= fun _=>.ok { B with rules:=B.rules++[r] }):=rfl
 rw [e,ha,hc,decide_eq_true h]; rfl
theorem xDs {B:Bk} {a c:Bs} {l r:List Int} (ha:qZg B.sig a=.ok l) (hc:qZg B.sig c=.ok r) (h:B.eqs.length+1≤64):qVs B [wEq,a,wIs,c]=.ok { B with eqs:=B.eqs++[(l,r)] }:=by
 have e:qVs B [wEq,a,wIs,c]=((must true 222 >>= fun _=>qZg B.sig a >>= fun l=>qZg B.sig c >>= fun r=>.ok (l,r)) >>= fun r=>must (decide (B.eqs.length+1≤64)) 226 >>= fun _=>.ok { B with eqs:=B.eqs++[r] }):=rfl
 rw [e,ha,hc,decide_eq_true h]; rfl
theorem xXa {B:Bk} {a c:Bs} {i j:Int} (ha:qXu B.sig a false=some i) (hc:qXu B.sig c false=some j):qVs B [qVb,a,c]=.ok { B with prec:=B.prec++[(i,j)] }:=by
 have e:qVs B [qVb,a,c]=(must true 222 >>= fun _=>opt (qXu B.sig a false) 223 >>= fun i=>opt (qXu B.sig c false) 223 >>= fun j=>.ok { B with prec:=B.prec++[(i,j)] }):=rfl
 rw [e,ha,hc]; rfl
theorem xWq {B:Bk} {a c:Bs} {k n:Nat} (ha:qWd a=k) (hp:0<k) (hc:numT c most=some n):qVs B [qJa,a,c]=.ok { B with cert:=B.cert++[⟨(k:Nat),(n:Int),[],[]⟩] }:=by
 have e:qVs B [qJa,a,c]=(must true 222 >>= fun _=>must (decide (0<qWd a)) 223 >>= fun _=>opt (numT c most) 225 >>= fun n=>.ok { B with cert:=B.cert++[⟨(qWd a:Nat),(n:Int),[],[]⟩] }):=rfl
 rw [e,hc,ha,decide_eq_true hp]; rfl
theorem xWn {B:Bk} {pre:List Nd} {n:Nd} (hB:B.cert=pre++[n]) {a c:Bs} {i j:Int} (ha:qXu B.sig a true=some i) (hc:qXu B.sig c true=some j):qVs B [qYm,a,c]=.ok { B with cert:=pre++[{ n with prec:=n.prec++[(i,j)] }] }:=by
 have e:qVs B [qYm,a,c]=(must true 222 >>= fun _=>qJd B >>= fun n=>opt (qXu B.sig a true) 223 >>= fun i=>opt (qXu B.sig c true) 223 >>= fun j=>.ok (qZb B { n with prec:=n.prec++[(i,j)] })):=rfl
 rw [e,ha,hc,qMs hB]
 show Except.ok (qZb B { n with prec:=n.prec++[(i,j)] })=_
 rw [qCd hB]
theorem xPv {B:Bk} {pre:List Nd} {n:Nd} (hB:B.cert=pre++[n]) {a:Bs} {i:Int} (ha:qXu B.sig a true=some i):qVs B [wSet,a]=.ok { B with cert:=pre++[{ n with ints:=n.ints++[⟨i,[]⟩] }] }:=by
 have e:qVs B [wSet,a]=(must true 222 >>= fun _=>qJd B >>= fun n=>opt (qXu B.sig a true) 223 >>= fun i=>.ok (qZb B { n with ints:=n.ints++[⟨i,[]⟩] })):=rfl
 rw [e,ha,qMs hB]
 show Except.ok (qZb B { n with ints:=n.ints++[⟨i,[]⟩] })=_
 rw [qCd hB]
theorem xWu {B:Bk} {pre:List Nd} {n:Nd} (hB:B.cert=pre++[n]) {ip:List It} {i:It} (hI:n.ints=ip++[i]) {c:Bs} {es:List Bs} {co:List Nat} {xs:List Int} (hc:qHt c=some co) (he:qJx most es=some xs) :
  qVs B (qYe::c::es)=.ok { B with cert:=pre++[{ n with ints:=ip++[{ i with p:=i.p++[⟨co,xs⟩] }] }] }:=by
 have e:qVs B (qYe::c::es)=(must (decide (1<(qYe::c::es).length)) 222 >>= fun _=>qJd B >>= fun n=>opt n.ints.getLast? 222 >>= fun i=>opt (qHt c) 225 >>= fun co=>opt (qJx most es) 225 >>= fun es=>.ok (qZb B { n with ints:=n.ints.dropLast++[{ i with p:=i.p++[⟨co,es⟩] }] })):=rfl
 rw [e,hc,he,qMs hB,decide_eq_true (by simp)]
 show (opt n.ints.getLast? 222 >>= fun i=>Except.ok (qZb B { n with ints:=n.ints.dropLast++[{ i with p:=i.p++[⟨co,xs⟩] }] }))=_
 rw [hI,List.getLast?_concat,List.dropLast_concat]
 show Except.ok (qZb B _)=_
 rw [qCd hB]
theorem qIr {B B':Bk} {w:Bs} {l:List Bs} (hw:Clean w) (hl:∀ x∈l,Clean x) (hm:w.head?≠some 35) (hs:w≠wSym) (h:qVs B (w::l)=.ok B'):RN B (qXr (w::l)) B':=xHs (cleans hl hw) hm hs h
theorem xCf {sig:Sg} (sg:SgOk sig) {s:Bs} (h:allM symW sig=.ok s):Reads Bk.nil false s { Bk.nil with sig:=sig } false:=by
 have:=qVm (f:=symW) (Q:=fun B s B'=>Reads B false s B' false) (fun B=>.refl B false) (fun B s B' t B'' h g=>h.trans g) (st:=fun l=>{ Bk.nil with sig:=l }) sig [] s (fun l1 x l2 s e hx=>?_) h
 ·exact this
 ·obtain ⟨_,hx⟩:=qQv hx
  obtain ⟨n,hn,hx⟩:=qQc.mp hx
  cases hx
  obtain ⟨n1,n2,n3⟩:=qMj hn
  have hmem:x∈sig:=by rw [e]; simp
  have har:=sg.ar x hmem
  have hat:sig[l1.length]?=some x:=by rw [e]; simp
  have hown:=sg.own _ _ hat
  have hnone:symI (l1.map (·.1)) x.1=none:=by
   cases hs:symI (l1.map (·.1)) x.1 with
   | none=>rfl
   | some j =>
    have hj:=qYp hs
    have hjl:=(List.getElem?_eq_some_iff.mp hj).1
    rw [List.length_map] at hjl
    rw [List.getElem?_map,List.getElem?_eq_getElem hjl] at hj
    have hj:l1[j].1=x.1:=Option.some.inj hj
    have h2:=sg.own j l1[j] (by rw [e,List.getElem?_append_left hjl,List.getElem?_eq_getElem hjl])
    rw [hj,hown] at h2
    have:=Option.some.inj h2
    omega
  rw [List.nil_append]
  have hlen:l1.length+1≤64:=by
   have:=sg.len
   rw [e,List.length_append,List.length_cons] at this
   omega
  refine qLc rfl (cleans (cleans (cleans qEl n1) (qEd (sg.nm x hmem))) (kw (w:=wSym) (by decide) (by decide))) (by decide) ?_
  have e2:qPj { Bk.nil with sig:=l1 } false [wSym,x.1,n]=((must true 222 >>= fun _=>must true 222 >>= fun _=>must (qPi x.1 && (symI (l1.map (·.1)) x.1).isNone) 223 >>= fun _=>opt (numT n 8) 225 >>= fun m=>must (decide (l1.length+1≤64)) 226 >>= fun _=>.ok { Bk.nil with sig:=l1++[(x.1,(m:Int))] }) >>= fun B=>.ok (B,false)):=rfl
  have hn8:numT n 8=some x.2.toNat:=by
   rw [(qZr n2).1]
   exact qKv (by omega)
  rw [e2,sg.nm x hmem,hnone,hn8,decide_eq_true hlen]
  show Except.ok (({ Bk.nil with sig:=l1++[(x.1,(x.2.toNat:Int))] }:Bk),false)=_
  rw [n3]
theorem xWm {B0:Bk} (sg:SgOk B0.sig) (l:List (Int × Int)) {s:Bs} (h:allM (qPg B0.sig qVb false) l=.ok s):RN { B0 with prec:=[] } s { B0 with prec:=l }:=by
 have:=qVm (f:=qPg B0.sig qVb false) (Q:=RN) RN.refl (fun B s B' t B'' h g=>h.trans g) (st:=fun l=>{ B0 with prec:=l }) l [] s (fun l1 x l2 s e hx=>?_) h
 ·exact this
 ·obtain ⟨a,ha,hx⟩:=qQc.mp hx
  obtain ⟨b,hb,hx⟩:=qQc.mp hx
  cases hx
  obtain ⟨a1,a2⟩:=qUz sg ha
  obtain ⟨b1,b2⟩:=qUz sg hb
  exact qIr (kw (by decide) (by decide)) (cleans (cleans qEl b1) a1) (by decide) (by decide) (xXa a2 b2)
theorem xVy {B0:Bk} (sg:SgOk B0.sig) (l:List Ru) {s:Bs} (h:qJg B0.sig qPa qYd l=.ok s):RN { B0 with rules:=[] } s { B0 with rules:=l }:=by
 obtain ⟨t,ht,h⟩:=qQc.mp h
 obtain ⟨hl,h⟩:=qQv h
 have hl:=of_decide_eq_true hl
 cases h
 have:=qVm (f:=qEu B0.sig qPa qYd) (Q:=RN) RN.refl (fun B s B' t B'' h g=>h.trans g) (st:=fun l=>{ B0 with rules:=l }) l [] s (fun l1 x l2 s e hx=>?_) ht
 ·exact this
 ·obtain ⟨a,ha,hx⟩:=qQc.mp hx
  obtain ⟨b,hb,hx⟩:=qQc.mp hx
  cases hx
  obtain ⟨a1,a2⟩:=qYo sg ha
  obtain ⟨b1,b2⟩:=qYo sg hb
  refine qIr (kw (by decide) (by decide)) (cleans (cleans (cleans qEl b1) (kw (by decide) (by decide))) a1) (by decide) (by decide) (xVz a2 b2 ?_)
  rw [e,List.length_append,List.length_cons] at hl
  show (([]:List Ru)++l1).length+1≤64
  rw [List.nil_append]; omega
theorem xDr {B0:Bk} (sg:SgOk B0.sig) (l:List Ru) {s:Bs} (h:qJg B0.sig wEq wIs l=.ok s):RN { B0 with eqs:=[] } s { B0 with eqs:=l }:=by
 obtain ⟨t,ht,h⟩:=qQc.mp h
 obtain ⟨hl,h⟩:=qQv h
 have hl:=of_decide_eq_true hl
 cases h
 have:=qVm (f:=qEu B0.sig wEq wIs) (Q:=RN) RN.refl (fun B s B' t B'' h g=>h.trans g) (st:=fun l=>{ B0 with eqs:=l }) l [] s (fun l1 x l2 s e hx=>?_) ht
 ·exact this
 ·obtain ⟨a,ha,hx⟩:=qQc.mp hx
  obtain ⟨b,hb,hx⟩:=qQc.mp hx
  cases hx
  obtain ⟨a1,a2⟩:=qYo sg ha
  obtain ⟨b1,b2⟩:=qYo sg hb
  refine qIr (kw (by decide) (by decide)) (cleans (cleans (cleans qEl b1) (kw (by decide) (by decide))) a1) (by decide) (by decide) (xDs a2 b2 ?_)
  rw [e,List.length_append,List.length_cons] at hl
  show (([]:List Ru)++l1).length+1≤64
  rw [List.nil_append]; omega
theorem xUq {B0:Bk} (sg:SgOk B0.sig) (pre:List Nd) (n:Nd) (l:List (Int × Int)) {s:Bs} (h:allM (qPg B0.sig qYm true) l=.ok s):RN { B0 with cert:=pre++[{ n with prec:=[] }] } s { B0 with cert:=pre++[{ n with prec:=l }] }:=by
 have:=qVm (f:=qPg B0.sig qYm true) (Q:=RN) RN.refl (fun B s B' t B'' h g=>h.trans g) (st:=fun l=>{ B0 with cert:=pre++[{ n with prec:=l }] }) l [] s (fun l1 x l2 s e hx=>?_) h
 ·exact this
 ·obtain ⟨a,ha,hx⟩:=qQc.mp hx
  obtain ⟨b,hb,hx⟩:=qQc.mp hx
  cases hx
  obtain ⟨a1,a2⟩:=qUz sg ha
  obtain ⟨b1,b2⟩:=qUz sg hb
  exact qIr (kw (by decide) (by decide)) (cleans (cleans qEl b1) a1) (by decide) (by decide) (xWn (B:={ B0 with cert:=pre++[{ n with prec:=[]++l1 }] }) (pre:=pre) (n:={ n with prec:=[]++l1 }) rfl a2 b2)
theorem xAc {B0:Bk} (pre:List Nd) (n:Nd) (ip:List It) (i:It) (l:List Mo) {s:Bs} (h:allM qBa l=.ok s):RN { B0 with cert:=pre++[{ n with ints:=ip++[{ i with p:=[] }] }] } s { B0 with cert:=pre++[{ n with ints:=ip++[{ i with p:=l }] }] }:=by
 have:=qVm (f:=qBa) (Q:=RN) RN.refl (fun B s B' t B'' h g=>h.trans g) (st:=fun l=>{ B0 with cert:=pre++[{ n with ints:=ip++[{ i with p:=l }] }] }) l [] s (fun l1 x l2 s e hx=>?_) h
 ·exact this
 ·obtain ⟨a,ha,hx⟩:=qQc.mp hx
  obtain ⟨b,hb,hx⟩:=qQc.mp hx
  cases hx
  obtain ⟨a1,a2⟩:=xKf ha
  obtain ⟨b1,b2⟩:=qRi hb
  exact qIr (kw (by decide) (by decide)) (cleans b1 a1) (by decide) (by decide) (xWu (B:={ B0 with cert:=pre++[{ n with ints:=ip++[{ i with p:=[]++l1 }] }] }) (pre:=pre) (n:={ n with ints:=ip++[{ i with p:=[]++l1 }] }) rfl (ip:=ip) (i:={ i with p:=[]++l1 }) rfl a2 b2)
theorem xEb {B0:Bk} (sg:SgOk B0.sig) (pre:List Nd) (n:Nd) (l:List It) {s:Bs} (h:allM (intW B0.sig) l=.ok s):RN { B0 with cert:=pre++[{ n with ints:=[] }] } s { B0 with cert:=pre++[{ n with ints:=l }] }:=by
 have:=qVm (f:=intW B0.sig) (Q:=RN) RN.refl (fun B s B' t B'' h g=>h.trans g) (st:=fun l=>{ B0 with cert:=pre++[{ n with ints:=l }] }) l [] s (fun l1 x l2 s e hx=>?_) h
 ·exact this
 ·obtain ⟨a,ha,hx⟩:=qQc.mp hx
  obtain ⟨b,hb,hx⟩:=qQc.mp hx
  cases hx
  obtain ⟨a1,a2⟩:=qUz sg ha
  refine (qIr (kw (by decide) (by decide)) (cleans qEl a1) (by decide) (by decide) (xPv (B:={ B0 with cert:=pre++[{ n with ints:=[]++l1 }] }) (pre:=pre) (n:={ n with ints:=[]++l1 }) rfl a2)).trans ?_
  exact xAc (B0:=B0) pre n ([]++l1) x x.p hb
theorem xKs {B0:Bk} (sg:SgOk B0.sig) (l:List Nd) {s:Bs} (h:allM (qUy B0.sig) l=.ok s):RN { B0 with cert:=[] } s { B0 with cert:=l }:=by
 have:=qVm (f:=qUy B0.sig) (Q:=RN) RN.refl (fun B s B' t B'' h g=>h.trans g) (st:=fun l=>{ B0 with cert:=l }) l [] s (fun l1 x l2 s e hx=>?_) h
 ·exact this
 ·obtain ⟨hk,hx⟩:=qQv hx
  obtain ⟨k,hkk,hx⟩:=qQc.mp hx
  obtain ⟨s1,h1,hx⟩:=qQc.mp hx
  obtain ⟨s2,h2,hx⟩:=qQc.mp hx
  cases hx
  obtain ⟨q1,q2,q3⟩:=xAt hk
  obtain ⟨r1,r2,r3⟩:=qMj hkk
  have hkd:((x.kind.toNat:Nat):Int)=x.kind:=by omega
  have first:=qIr (kw (w:=qJa) (by decide) (by decide)) (cleans (cleans qEl r1) q1) (by decide) (by decide) (xWq (B:={ B0 with cert:=[]++l1 }) q2 q3 r2)
  rw [hkd,r3] at first
  exact (first.trans (xUq (B0:=B0) sg ([]++l1) ⟨x.kind,x.kids,[],[]⟩ x.prec h1)).trans (xEb (B0:=B0) sg ([]++l1) ⟨x.kind,x.kids,x.prec,[]⟩ x.ints h2)
theorem xKj {B0:Bk} (sg:SgOk B0.sig) (l:List Cm) {s:Bs} (h:allM (cmdW B0.sig) l=.ok s):RN { B0 with cmds:=[] } s { B0 with cmds:=l }:=by
 have:=qVm (f:=cmdW B0.sig) (Q:=RN) RN.refl (fun B s B' t B'' h g=>h.trans g) (st:=fun l=>{ B0 with cmds:=l }) l [] s (fun l1 x l2 s e hx=>?_) h
 ·exact this
 ·obtain ⟨n,hn,hx⟩:=qQc.mp hx
  obtain ⟨hlen,hx⟩:=qQv hx
  obtain ⟨ts,ht,hx⟩:=qQc.mp hx
  cases hx
  have hlen:x.terms.length=n:=eq_of_beq hlen
  obtain ⟨word,terms⟩:=x
  unfold qGd at hn
  by_cases c1:word=qJe∨word=qZc∨word=qKi∨word=qYl∨word=qZd
  ·rw [if_pos c1] at hn
   cases hn
   obtain rfl:terms=[]:=List.length_eq_zero_iff.mp hlen
   cases ht
   rcases c1 with rfl | rfl | rfl | rfl | rfl <;> exact qIr (kw (by decide) (by decide)) qEl (by decide) (by decide) rfl
  rw [if_neg c1] at hn
  by_cases c2:word=qZi
  ·rw [if_pos c2] at hn
   cases hn
   subst c2
   match terms,hlen with
   | [u],_ =>
    obtain ⟨a,ha,ht⟩:=qQc.mp ht
    cases ht
    obtain ⟨a1,a2⟩:=qYo sg ha
    refine qIr (w:=qZi) (l:=[a]) (kw (by decide) (by decide)) (cleans qEl a1) (by decide) (by decide) ?_
    have e:qVs { B0 with cmds:=[]++l1 } [qZi,a]=(must true 222 >>= fun _=>qZg B0.sig a >>= fun l=>.ok { B0 with cmds:=[]++l1++[⟨qZi,[l]⟩] }):=rfl
    rw [e,a2]; rfl
  rw [if_neg c2] at hn
  by_cases c3:word=qYc
  ·rw [if_pos c3] at hn
   cases hn
   subst c3
   match terms,hlen with
   | [u,v],_ =>
    obtain ⟨a,ha,ht⟩:=qQc.mp ht
    obtain ⟨r,hr,ht⟩:=qQc.mp ht
    cases ht
    obtain ⟨b,hb,hr⟩:=qQc.mp hr
    cases hr
    obtain ⟨a1,a2⟩:=qYo sg ha
    obtain ⟨b1,b2⟩:=qYo sg hb
    refine qIr (w:=qYc) (l:=[a,wIs,b]) (kw (by decide) (by decide)) (cleans (cleans (cleans qEl b1) (kw (by decide) (by decide))) a1) (by decide) (by decide) ?_
    have e:qVs { B0 with cmds:=[]++l1 } [qYc,a,wIs,b]=((must true 222 >>= fun _=>qZg B0.sig a >>= fun l=>qZg B0.sig b >>= fun r=>.ok (l,r)) >>= fun r=>.ok { B0 with cmds:=[]++l1++[⟨qYc,[r.1,r.2]⟩] }):=rfl
    rw [e,a2,b2]; rfl
  rw [if_neg c3] at hn
  cases hn
def NZ {α:Type} (x:Except Int α):Prop:=∀ e,x=.error e→e≠0
theorem qXg {α β:Type} {x:Except Int α} {f:α→Except Int β} (h:NZ x) (g:∀ a,NZ (f a)):NZ (x >>= f):=fun e he=>by
 cases x with
 | error e'=>cases he; exact h _ rfl
 | ok a=>exact g a e he
theorem qKu {α:Type} (a:α):NZ (.ok a):=fun e h=>by cases h
theorem qCm {b:Bool} {c:Int} (h:c≠0):NZ (must b c):=fun e he=>by
 unfold must at he
 split at he
 ·cases he
 ·cases he; exact h
theorem xUu {α:Type} {x:Option α} {c:Int} (h:c≠0):NZ (opt x c):=fun e he=>by
 unfold opt at he
 split at he
 ·cases he
 ·cases he; exact h
theorem qTq {sig:Sg} {w:Bs}:NZ (qZg sig w):=fun e he=>by
 unfold qZg at he
 split at he
 ·rename_i e' hr
  obtain rfl:=Except.error.inj he
  exact qOr _ _ _ hr
 ·split at he
  ·cases he
  ·obtain rfl:=Except.error.inj he; decide
theorem qTp {sig:Sg} {w:List Bs} {m:Bs}:NZ (qJb sig w m):=qXg (qCm (by decide)) fun _=>qXg qTq fun _=>qXg qTq fun _=>qKu _
theorem qUd {w:List Bs} {n:Nat}:NZ (count w n):=qCm (by decide)
theorem qTr {B:Bk}:NZ (qJd B):=xUu (by decide)
theorem xIa {B:Bk} {w:List Bs}:NZ (qVs B w):=by
 have o:∀ {α:Type} {x:Option α} {c:Int},(decide (c≠0)=true)→NZ (opt x c):=fun h=>xUu (of_decide_eq_true h)
 have m:∀ {x:Bool} {c:Int},(decide (c≠0)=true)→NZ (must x c):=fun h=>qCm (of_decide_eq_true h)
 unfold qVs
 dsimp only
 by_cases c0:at1 w 0=qPa
 ·rw [if_pos c0]; exact qXg qTp fun _=>qXg (m rfl) fun _=>qKu _
 rw [if_neg c0]
 by_cases c0:at1 w 0=wEq
 ·rw [if_pos c0]; exact qXg qTp fun _=>qXg (m rfl) fun _=>qKu _
 rw [if_neg c0]
 by_cases c0:at1 w 0=qVb
 ·rw [if_pos c0]; exact qXg qUd fun _=>qXg (o rfl) fun _=>qXg (o rfl) fun _=>qKu _
 rw [if_neg c0]
 by_cases c0:at1 w 0=qJa
 ·rw [if_pos c0]; exact qXg qUd fun _=>qXg (m rfl) fun _=>qXg (o rfl) fun _=>qKu _
 rw [if_neg c0]
 by_cases c0:at1 w 0=qYm
 ·rw [if_pos c0]; exact qXg qUd fun _=>qXg qTr fun _=>qXg (o rfl) fun _=>qXg (o rfl) fun _=>qKu _
 rw [if_neg c0]
 by_cases c0:at1 w 0=wSet
 ·rw [if_pos c0]; exact qXg qUd fun _=>qXg qTr fun _=>qXg (o rfl) fun _=>qKu _
 rw [if_neg c0]
 by_cases c0:at1 w 0=qYe
 ·rw [if_pos c0]; exact qXg (m rfl) fun _=>qXg qTr fun _=>qXg (o rfl) fun _=>qXg (o rfl) fun _=>qXg (o rfl) fun _=>qKu _
 rw [if_neg c0]
 by_cases c0:at1 w 0=qJe∨at1 w 0=qZc∨at1 w 0=qKi∨at1 w 0=qYl∨at1 w 0=qZd
 ·rw [if_pos c0]; exact qXg qUd fun _=>qKu _
 rw [if_neg c0]
 by_cases c0:at1 w 0=qZi
 ·rw [if_pos c0]; exact qXg qUd fun _=>qXg qTq fun _=>qKu _
 rw [if_neg c0]
 by_cases c0:at1 w 0=qYc
 ·rw [if_pos c0]; exact qXg qTp fun _=>qKu _
 rw [if_neg c0]
 intro e he
 cases he; decide
theorem xCt {B:Bk} {p:Bool} {w:List Bs}:NZ (qPj B p w):=by
 unfold qPj
 split
 ·refine qXg ?_ fun _=>qKu _
  exact qXg qUd fun _=>qXg (qCm (by decide)) fun _=>qXg (qCm (by decide)) fun _=>qXg (xUu (by decide)) fun _=>qXg (qCm (by decide)) fun _=>qKu _
 ·exact qXg xIa fun _=>qKu _
theorem qBd:∀ {ls:List Bs} {B:Bk} {p:Bool} {n:Nat} {y:Nat × Int},qVa B p n ls=.error y→y.2≠0∧y.1≤n+ls.length
 | [],B,p,n,y,h=>by cases h
 | l::ls,B,p,n,y,h=>by
  unfold qVa at h
  rw [List.length_cons]
  split at h
  ·obtain ⟨h1,h2⟩:=qBd h
   exact ⟨h1,by omega⟩
  ·split at h
   ·obtain ⟨h1,h2⟩:=qBd h
    exact ⟨h1,by omega⟩
   ·rename_i e he
    cases h
    exact ⟨xCt e he,by dsimp only; omega⟩
theorem xWi {B:Bk} {s:Bs} (sg:SgOk B.sig) (h:qKr 0 B=.ok s):(∃ p,qVa Bk.nil false 0 (qZh 10 s)=.ok (B,p))∧validD s=true∧s.length≤65536∧s.count 10<4096:=by
 unfold qKr at h
 rw [if_neg (by simp)] at h
 obtain ⟨_,h⟩:=qQv h
 obtain ⟨s1,h1,h⟩:=qQc.mp h
 obtain ⟨s2,h2,h⟩:=qQc.mp h
 obtain ⟨s3,h3,h⟩:=qQc.mp h
 obtain ⟨s4,h4,h⟩:=qQc.mp h
 obtain ⟨s5,h5,h⟩:=qQc.mp h
 obtain ⟨s6,h6,h⟩:=qQc.mp h
 obtain ⟨hb,h⟩:=qQv h
 cases h
 rw [Bool.and_eq_true] at hb
 have b1:=of_decide_eq_true hb.1
 have b2:=of_decide_eq_true hb.2
 have r1:=xCf sg h1
 have r2:=xVy (B0:={ Bk.nil with sig:=B.sig }) sg B.rules h2
 have r3:=xDr (B0:={ Bk.nil with sig:=B.sig,rules:=B.rules }) sg B.eqs h3
 have r4:=xWm (B0:={ Bk.nil with sig:=B.sig,rules:=B.rules,eqs:=B.eqs }) sg B.prec h4
 have r5:=xKs (B0:={ Bk.nil with sig:=B.sig,rules:=B.rules,eqs:=B.eqs,prec:=B.prec }) sg B.cert h5
 have r6:=xKj (B0:={ Bk.nil with sig:=B.sig,rules:=B.rules,eqs:=B.eqs,prec:=B.prec,cert:=B.cert }) sg B.cmds h6
 obtain ⟨p',hr⟩:=(((r2.trans r3).trans r4).trans r5).trans r6 false
 have all:=r1.trans hr
 have hs:s1++(s2++s3++s4++s5++s6)=s1++s2++s3++s4++s5++s6:=by simp only [List.append_assoc]
 rw [hs] at all
 generalize s1++s2++s3++s4++s5++s6=s at all b1 b2
 refine ⟨?_,?_,b1,b2⟩
 ·obtain ⟨k,hk⟩:=all.go
  have:=hk 0 []
  rw [List.append_nil,qHb] at this
  have hfin:qDq { Bk.nil with sig:=B.sig,rules:=B.rules,eqs:=B.eqs,prec:=B.prec,cert:=B.cert,cmds:=B.cmds } p' (0+k) (qZh 10 [])=(B,0,0):=rfl
  rw [hfin] at this
  cases hl:qVa Bk.nil false 0 (qZh 10 s) with
  | error y =>
   rw [hl] at this
   have h0:=(qBd hl).1
   have:y.2=0:=congrArg (fun x=>x.2.2) this
   exact absurd this h0
  | ok y =>
   rw [hl] at this
   have:y.1=B:=congrArg (fun x=>x.1) this
   exact ⟨y.2,by rw [← this]⟩
 ·have:=all.ok []
  rw [List.append_nil] at this
  rw [this]; rfl
theorem qCr {α:Type} {l:List α} {a:α} (h:l.getLast?=some a):l=l.dropLast++[a]:=by
 obtain ⟨ys,rfl⟩:=List.getLast?_eq_some_iff.mp h
 simp
theorem qTs {w:Bs} {n:Nat} (h:numT w most=some n):numM (n:Int)=.ok w:=by
 obtain ⟨h1,h2⟩:=qZr h
 unfold numM
 rw [decide_eq_true (show (0:Int)≤(n:Int) by omega),decide_eq_true (show (n:Int)≤(most:Int) by omega),h1]
 rfl
theorem qMl {sig:Sg} {w:Bs} {marked:Bool} {c:Int} (h:qXu sig w marked=some c):qDz sig c marked=.ok w:=by
 unfold qXu at h
 split at h
 ·rename_i i hi
  cases h
  have hx:=qYp hi
  rw [List.getElem?_map] at hx
  obtain ⟨y,hy,he⟩:=Option.map_eq_some_iff.mp hx
  have hil:=(List.getElem?_eq_some_iff.mp hy).1
  unfold qDz
  rw [decide_eq_true (show (0:Int)≤(i:Int) by omega),decide_eq_true (show (i:Int)<(sig.length:Int) by omega),if_pos (by omega),Int.toNat_natCast,hy,← he]
  rfl
 ·split at h
  ·rename_i hm
   rw [Bool.and_eq_true] at hm
   obtain ⟨i,hi,hc⟩:=Option.map_eq_some_iff.mp h
   have hx:=qYp hi
   rw [List.getElem?_map] at hx
   obtain ⟨y,hy,he⟩:=Option.map_eq_some_iff.mp hx
   have hil:=(List.getElem?_eq_some_iff.mp hy).1
   have hlast:w=w.dropLast++[35]:=qCr (eq_of_beq hm.2)
   unfold qDz
   rw [hm.1,decide_eq_true (show (0:Int)≤c by omega),decide_eq_false (show ¬ c<(sig.length:Int) by omega),decide_eq_true (show c<2*(sig.length:Int) by omega),if_neg (by omega),show (c - sig.length).toNat=i by omega,hy]
   show Except.ok (y.1++[35])=_
   rw [he,← hlast]
  ·cases h
theorem xFb {w:Bs} {l:List Nat} (h:qHt w=some l):qSf l=.ok w:=by
 unfold qHt at h
 split at h
 ·rename_i n hn
  split at h
  ·rename_i h64
   cases h
   unfold qSf
   rw [qWo,decide_eq_true h64,decide_eq_true rfl,qRk hn]
   rfl
  ·cases h
 ·cases h
theorem qKk {sig:Sg} {s:Bs} {u:List Int} (h:qZg sig s=.ok u):qVr sig u=.ok s:=by
 have w:=qKp h
 unfold qVr
 have h0:scan sig 1 u=0:=w.term
 rw [if_neg (by rw [h0]; simp),W_of w]
theorem xDc {w:Bs} (h:0<qWd w):at1 kinds (qWd w)=w∧qWd w<6:=by
 unfold qWd at h ⊢
 split at h
 ·rename_i hm
  rw [if_pos hm]
  have hl:kinds.idxOf w<kinds.length:=List.idxOf_lt_length_of_mem hm
  refine ⟨?_,hl⟩
  unfold at1
  rw [List.getElem?_eq_getElem hl,List.getElem_idxOf]; rfl
 ·omega
theorem xXz:∀ {ws:List Bs} {l:List Int},qJx most ws=some l→rowM numM l=.ok ws
 | [],l,h=>by
  cases h; rfl
 | w::ws,l,h=>by
  unfold qJx at h
  split at h
  ·rename_i n hn
   obtain ⟨m,hm,rfl⟩:=Option.map_eq_some_iff.mp h
   show (numM (n:Int) >>= fun a=>rowM numM m >>= fun b=>.ok (a::b))=_
   rw [qTs hn,xXz hm]; rfl
  ·cases h
structure Sz (s:Bs) (n c:Nat):Prop where
 len:s.length=n
 cnt:s.count 10=c
theorem Sz.app {s t:Bs} {n c m d:Nat} (h:Sz s n c) (g:Sz t m d):Sz (s++t) (n+m) (c+d):=⟨by rw [List.length_append,h.len,g.len],by rw [List.count_append,h.cnt,g.cnt]⟩
theorem xDf {ws:List Bs} (h0:ws≠[]):([32].intercalate ws).length+1=ttl ws:=by
 induction ws with
 | nil=>exact absurd rfl h0
 | cons a l ih =>
  cases l with
  | nil=>rw [qBf]; rfl
  | cons b l =>
   have:=ih (by simp)
   rw [qAy,List.length_append,List.length_cons]
   have ht:ttl (a::b::l)=a.length+1+ttl (b::l):=rfl
   omega
theorem xEc {ws:List Bs} (h:∀ w∈ws,(10:UInt8) ∉ w):([32].intercalate ws).count 10=0:=by
 rw [List.count_eq_zero]
 intro hm
 rcases qHj hm with h1 | ⟨w,h1,h2⟩
 ·exact absurd h1 (by decide)
 ·exact h w h1 h2
theorem xAl {ws:List Bs} (h0:ws≠[]) (h:∀ w∈ws,(10:UInt8) ∉ w):Sz (qXr ws) (ttl ws) 1:=by
 refine ⟨?_,?_⟩
 ·unfold qXr
  rw [List.length_append,List.length_singleton,xDf h0]
 ·unfold qXr
  rw [List.count_append,xEc h]; rfl
theorem qVo {α:Type} {f:α→Except Int Bs}:∀ {l:List α} {x:α} {a b:Bs},allM f l=.ok a→f x=.ok b→allM f (l++[x])=.ok (a++b)
 | [],x,a,b,h,g=>by
  cases h
  show (f x >>= fun a=>allM f [] >>= fun b=>.ok (a++b))=_
  rw [g]
  show Except.ok (b++[])=_
  rw [List.append_nil]; rfl
 | y::l,x,a,b,h,g=>by
  obtain ⟨c,hc,h⟩:=qQc.mp h
  obtain ⟨d,hd,h⟩:=qQc.mp h
  cases h
  show (f y >>= fun a=>allM f (l++[x]) >>= fun b=>.ok (a++b))=_
  rw [hc,qVo hd g]
  show Except.ok (c++(d++b))=_
  rw [List.append_assoc]
theorem qIb {α:Type} {f:α→Except Int Bs}:∀ {l:List α} {x:α} {s:Bs},allM f (l++[x])=.ok s→∃ a b,allM f l=.ok a∧f x=.ok b∧s=a++b
 | [],x,s,h=>by
  obtain ⟨c,hc,h⟩:=qQc.mp h
  cases h
  exact ⟨[],c,rfl,hc,by simp⟩
 | y::l,x,s,h=>by
  obtain ⟨c,hc,h⟩:=qQc.mp h
  obtain ⟨d,hd,h⟩:=qQc.mp h
  cases h
  obtain ⟨a,b,ha,hb,rfl⟩:=qIb hd
  refine ⟨c++a,b,?_,hb,by rw [List.append_assoc]⟩
  show (f y >>= fun a=>allM f l >>= fun b=>.ok (a++b))=_
  rw [hc,ha]; rfl
structure Pw (B:Bk) (n c:Nat) where
 s1:Bs
 s2:Bs
 s3:Bs
 s4:Bs
 s5:Bs
 s6:Bs
 h1:allM symW B.sig=.ok s1
 h2:allM (qEu B.sig qPa qYd) B.rules=.ok s2
 h3:allM (qEu B.sig wEq wIs) B.eqs=.ok s3
 h4:allM (qPg B.sig qVb false) B.prec=.ok s4
 h5:allM (qUy B.sig) B.cert=.ok s5
 h6:allM (cmdW B.sig) B.cmds=.ok s6
 len:s1.length+s2.length+s3.length+s4.length+s5.length+s6.length=n
 cnt:s1.count 10+s2.count 10+s3.count 10+s4.count 10+s5.count 10+s6.count 10=c
theorem qCf {sig:Sg} {w:List Bs} {mid:Bs} {r:Ru} (h:qJb sig w mid=.ok r):w=[at1 w 0,at1 w 1,mid,at1 w 3]∧qZg sig (at1 w 1)=.ok r.1∧qZg sig (at1 w 3)=.ok r.2:=by
 obtain ⟨h0,h⟩:=qQv h
 obtain ⟨a,ha,h⟩:=qQc.mp h
 obtain ⟨b,hb,h⟩:=qQc.mp h
 cases h
 simp only [Bool.and_eq_true,beq_iff_eq] at h0
 refine ⟨?_,ha,hb⟩
 have:=list4 h0.1
 rw [h0.2] at this
 exact this
theorem qYw {α:Type} {w:List Bs} {n:Nat} {f:Unit→Except Int α} {x:α} (h:(count w n >>= f)=.ok x):w.length=n∧f ()=.ok x:=by
 obtain ⟨h0,h⟩:=qQv h
 exact ⟨eq_of_beq h0,h⟩
theorem qCs {α:Type} {B:Bk} {f:Nd→Except Int α} {x:α} (h:(qJd B >>= f)=.ok x):∃ pre n,B.cert=pre++[n]∧f n=.ok x:=by
 obtain ⟨n,hn,h⟩:=qXb h
 refine ⟨B.cert.dropLast,n,?_,h⟩
 exact qCr hn
theorem xXp {sig:Sg} {first mid a b:Bs} {r:Ru} (ha:qZg sig a=.ok r.1) (hb:qZg sig b=.ok r.2):qEu sig first mid r=.ok (qXr [first,a,mid,b]):=by
 unfold qEu
 rw [qKk ha,qKk hb]; rfl
theorem xXw {sig:Sg} {first a b:Bs} {marked:Bool} {i j:Int} (ha:qXu sig a marked=some i) (hb:qXu sig b marked=some j):qPg sig first marked (i,j)=.ok (qXr [first,a,b]):=by
 unfold qPg
 rw [qMl ha,qMl hb]; rfl
theorem qCn {sig:Sg} {n:Nd} {b:Bs} (h:qUy sig n=.ok b):∃ k s1 s2,(decide (0<n.kind) && decide (n.kind<6))=true∧numM n.kids=.ok k∧allM (qPg sig qYm true) n.prec=.ok s1∧allM (intW sig) n.ints=.ok s2∧b=qXr [qJa,at1 kinds n.kind.toNat,k]++s1++s2:=by
 obtain ⟨h0,h⟩:=qQv h
 obtain ⟨k,hk,h⟩:=qQc.mp h
 obtain ⟨s1,h1,h⟩:=qQc.mp h
 obtain ⟨s2,h2,h⟩:=qQc.mp h
 cases h
 exact ⟨k,s1,s2,h0,hk,h1,h2,rfl⟩
theorem qKw {sig:Sg} {n:Nd} {k s1 s2:Bs} (h0:(decide (0<n.kind) && decide (n.kind<6))=true) (hk:numM n.kids=.ok k) (h1:allM (qPg sig qYm true) n.prec=.ok s1) (h2:allM (intW sig) n.ints=.ok s2):qUy sig n=.ok (qXr [qJa,at1 kinds n.kind.toNat,k]++s1++s2):=by
 unfold qUy
 rw [h0,hk,h1,h2]; rfl
theorem xHv {B:Bk} {n c:Nat} (p:Pw B n c) {r:Ru} {s:Bs} (h:qEu B.sig qPa qYd r=.ok s):Nonempty (Pw { B with rules:=B.rules++[r] } (n+s.length) (c+s.count 10)) :=
 ⟨⟨p.s1,p.s2++s,p.s3,p.s4,p.s5,p.s6,p.h1,qVo p.h2 h,p.h3,p.h4,p.h5,p.h6,by have:=p.len; rw [List.length_append]; omega,by have:=p.cnt; rw [List.count_append]; omega⟩⟩
theorem pw_eq {B:Bk} {n c:Nat} (p:Pw B n c) {r:Ru} {s:Bs} (h:qEu B.sig wEq wIs r=.ok s):Nonempty (Pw { B with eqs:=B.eqs++[r] } (n+s.length) (c+s.count 10)) :=
 ⟨⟨p.s1,p.s2,p.s3++s,p.s4,p.s5,p.s6,p.h1,p.h2,qVo p.h3 h,p.h4,p.h5,p.h6,by have:=p.len; rw [List.length_append]; omega,by have:=p.cnt; rw [List.count_append]; omega⟩⟩
theorem xHw {B:Bk} {n c:Nat} (p:Pw B n c) {r:Int × Int} {s:Bs} (h:qPg B.sig qVb false r=.ok s):Nonempty (Pw { B with prec:=B.prec++[r] } (n+s.length) (c+s.count 10)) :=
 ⟨⟨p.s1,p.s2,p.s3,p.s4++s,p.s5,p.s6,p.h1,p.h2,p.h3,qVo p.h4 h,p.h5,p.h6,by have:=p.len; rw [List.length_append]; omega,by have:=p.cnt; rw [List.count_append]; omega⟩⟩
theorem xHx {B:Bk} {n c:Nat} (p:Pw B n c) {r:Nd} {s:Bs} (h:qUy B.sig r=.ok s):Nonempty (Pw { B with cert:=B.cert++[r] } (n+s.length) (c+s.count 10)) :=
 ⟨⟨p.s1,p.s2,p.s3,p.s4,p.s5++s,p.s6,p.h1,p.h2,p.h3,p.h4,qVo p.h5 h,p.h6,by have:=p.len; rw [List.length_append]; omega,by have:=p.cnt; rw [List.count_append]; omega⟩⟩
theorem xUk {B:Bk} {n c:Nat} (p:Pw B n c) {r:Cm} {s:Bs} (h:cmdW B.sig r=.ok s):Nonempty (Pw { B with cmds:=B.cmds++[r] } (n+s.length) (c+s.count 10)) :=
 ⟨⟨p.s1,p.s2,p.s3,p.s4,p.s5,p.s6++s,p.h1,p.h2,p.h3,p.h4,p.h5,qVo p.h6 h,by have:=p.len; rw [List.length_append]; omega,by have:=p.cnt; rw [List.count_append]; omega⟩⟩
theorem qTj {B:Bk} {n c:Nat} (p:Pw B n c) {pre:List Nd} {x y:Nd} (hB:B.cert=pre++[x]) {m:Nat} (h:∀ b,qUy B.sig x=.ok b→∃ b',qUy B.sig y=.ok b'∧b'.length=b.length+m∧b'.count 10=b.count 10+1):Nonempty (Pw { B with cert:=pre++[y] } (n+m) (c+1)):=by
 have h5:=p.h5
 rw [hB] at h5
 obtain ⟨a,b,ha,hb,hs⟩:=qIb h5
 obtain ⟨b',hb',h1,h2⟩:=h b hb
 have e1:=p.len
 have e2:=p.cnt
 rw [hs,List.length_append] at e1
 rw [hs,List.count_append] at e2
 exact ⟨⟨p.s1,p.s2,p.s3,p.s4,a++b',p.s6,p.h1,p.h2,p.h3,p.h4,qVo ha hb',p.h6,by rw [List.length_append]; omega,by rw [List.count_append]; omega⟩⟩
theorem qJk {B:Bk} {n c:Nat} {w:List Bs} (hw:w≠[]) (h10:∀ x∈w,(10:UInt8) ∉ x) {C:Bk} (h:Nonempty (Pw C (n+(qXr w).length) (c+(qXr w).count 10))):Nonempty (Pw C (n+ttl w) (c+1)):=by
 have s:=xAl hw h10
 rw [s.len,s.cnt] at h
 exact h
theorem xCz {B B':Bk} {w:List Bs} {n c:Nat} (p:Pw B n c) (hw:w≠[]) (h10:∀ x∈w,(10:UInt8) ∉ x) (h:qVs B w=.ok B'):Nonempty (Pw B' (n+ttl w) (c+1)):=by
 have sz:=xAl hw h10
 unfold qVs at h
 dsimp only at h
 by_cases c0:at1 w 0=qPa
 ·rw [if_pos c0] at h
  obtain ⟨r,hr,h⟩:=qQc.mp h
  obtain ⟨_,h⟩:=qQv h
  cases h
  obtain ⟨e,r1,r2⟩:=qCf hr
  rw [c0] at e
  have hf:=xXp (first:=qPa) (mid:=qYd) r1 r2
  rw [← e] at hf
  exact qJk (B:=B) hw h10 (xHv p hf)
 rw [if_neg c0] at h
 by_cases c1:at1 w 0=wEq
 ·rw [if_pos c1] at h
  obtain ⟨r,hr,h⟩:=qQc.mp h
  obtain ⟨_,h⟩:=qQv h
  cases h
  obtain ⟨e,r1,r2⟩:=qCf hr
  rw [c1] at e
  have hf:=xXp (first:=wEq) (mid:=wIs) r1 r2
  rw [← e] at hf
  exact qJk (B:=B) hw h10 (pw_eq p hf)
 rw [if_neg c1] at h
 by_cases c2:at1 w 0=qVb
 ·rw [if_pos c2] at h
  obtain ⟨hl,h⟩:=qYw h
  obtain ⟨i,hi,h⟩:=qXb h
  obtain ⟨j,hj,h⟩:=qXb h
  cases h
  have e:=xCy hl
  rw [c2] at e
  have hf:=xXw (first:=qVb) hi hj
  rw [← e] at hf
  exact qJk (B:=B) hw h10 (xHw p hf)
 rw [if_neg c2] at h
 by_cases c3:at1 w 0=qJa
 ·rw [if_pos c3] at h
  obtain ⟨hl,h⟩:=qYw h
  obtain ⟨hk,h⟩:=qQv h
  obtain ⟨m,hm,h⟩:=qXb h
  cases h
  have hk:=of_decide_eq_true hk
  obtain ⟨k1,k2⟩:=xDc hk
  have e:=xCy hl
  rw [c3] at e
  have hf:qUy B.sig ⟨(qWd (at1 w 1):Nat),(m:Int),[],[]⟩=.ok (qXr w):=by
   have:=qKw (sig:=B.sig) (n:=⟨(qWd (at1 w 1):Nat),(m:Int),[],[]⟩) (k:=at1 w 2) (s1:=[]) (s2:=[]) (by rw [decide_eq_true (show (0:Int)<((qWd (at1 w 1):Nat):Int) by omega),decide_eq_true (show ((qWd (at1 w 1):Nat):Int)<6 by omega)]; rfl) (qTs hm) rfl rfl
   rw [this,List.append_nil,List.append_nil]
   show Except.ok (qXr [qJa,at1 kinds ((qWd (at1 w 1):Nat):Int).toNat,at1 w 2])=_
   rw [Int.toNat_natCast,k1,← e]
  exact qJk (B:=B) hw h10 (xHx p hf)
 rw [if_neg c3] at h
 by_cases c4:at1 w 0=qYm
 ·rw [if_pos c4] at h
  obtain ⟨hl,h⟩:=qYw h
  obtain ⟨pre,x,hB,h⟩:=qCs h
  obtain ⟨i,hi,h⟩:=qXb h
  obtain ⟨j,hj,h⟩:=qXb h
  cases h
  have e:=xCy hl
  rw [c4] at e
  have hf:=xXw (first:=qYm) hi hj
  rw [← e] at hf
  rw [qCd hB]
  refine qTj p hB fun b hb=>?_
  obtain ⟨k,s1,s2,q0,q1,q2,q3,rfl⟩:=qCn hb
  refine ⟨_,qKw (n:={ x with prec:=x.prec++[(i,j)] }) q0 q1 (qVo q2 hf) q3,?_,?_⟩
  ·have:=sz.len
   simp only [List.length_append]; omega
  ·have:=sz.cnt
   simp only [List.count_append]; omega
 rw [if_neg c4] at h
 by_cases c5:at1 w 0=wSet
 ·rw [if_pos c5] at h
  obtain ⟨hl,h⟩:=qYw h
  obtain ⟨pre,x,hB,h⟩:=qCs h
  obtain ⟨i,hi,h⟩:=qXb h
  cases h
  have e:=xNo hl
  rw [c5] at e
  have hf:intW B.sig ⟨i,[]⟩=.ok (qXr w):=by
   unfold intW
   rw [qMl hi]
   show Except.ok (qXr [wSet,at1 w 1]++[])=_
   rw [List.append_nil,← e]
  rw [qCd hB]
  refine qTj p hB fun b hb=>?_
  obtain ⟨k,s1,s2,q0,q1,q2,q3,rfl⟩:=qCn hb
  refine ⟨_,qKw (n:={ x with ints:=x.ints++[⟨i,[]⟩] }) q0 q1 q2 (qVo q3 hf),?_,?_⟩
  ·have:=sz.len
   simp only [List.length_append]; omega
  ·have:=sz.cnt
   simp only [List.count_append]; omega
 rw [if_neg c5] at h
 by_cases c6:at1 w 0=qYe
 ·rw [if_pos c6] at h
  obtain ⟨hl,h⟩:=qQv h
  have hl:=of_decide_eq_true hl
  obtain ⟨pre,x,hB,h⟩:=qCs h
  obtain ⟨i,hi,h⟩:=qXb h
  obtain ⟨co,hco,h⟩:=qXb h
  obtain ⟨es,hes,h⟩:=qXb h
  cases h
  have e:w=qYe::at1 w 1::w.drop 2:=by
   match w,hl,c6 with
   | a::b::l,_,c6 =>
    have c6:a=qYe:=c6
    rw [c6]; rfl
  have hf:qBa ⟨co,es⟩=.ok (qXr w):=by
   unfold qBa
   rw [xFb hco,xXz hes]
   show Except.ok (qXr (qYe::at1 w 1::w.drop 2))=_
   rw [← e]
  rw [qCd hB]
  have hI:x.ints=x.ints.dropLast++[i]:=qCr hi
  refine qTj p hB fun b hb=>?_
  obtain ⟨k,s1,s2,q0,q1,q2,q3,rfl⟩:=qCn hb
  rw [hI] at q3
  obtain ⟨u,v,hu,hv,rfl⟩:=qIb q3
  obtain ⟨a,ha,hv⟩:=qQc.mp hv
  obtain ⟨t,ht,hv⟩:=qQc.mp hv
  cases hv
  have hi2:intW B.sig { i with p:=i.p++[⟨co,es⟩] }=.ok (qXr [wSet,a]++(t++qXr w)):=by
   unfold intW
   rw [ha,qVo ht hf]; rfl
  refine ⟨_,qKw (n:={ x with ints:=x.ints.dropLast++[{ i with p:=i.p++[⟨co,es⟩] }] }) q0 q1 q2 (qVo hu hi2),?_,?_⟩
  ·have:=sz.len
   simp only [List.length_append]; omega
  ·have:=sz.cnt
   simp only [List.count_append]; omega
 rw [if_neg c6] at h
 by_cases c7:at1 w 0=qJe∨at1 w 0=qZc∨at1 w 0=qKi∨at1 w 0=qYl∨at1 w 0=qZd
 ·rw [if_pos c7] at h
  obtain ⟨hl,h⟩:=qYw h
  cases h
  have e:=list1 hl
  have hf:cmdW B.sig ⟨at1 w 0,[]⟩=.ok (qXr w):=by
   unfold cmdW qGd
   rw [if_pos c7]
   show Except.ok (qXr [at1 w 0])=_
   rw [← e]
  exact qJk (B:=B) hw h10 (xUk p hf)
 rw [if_neg c7] at h
 by_cases c8:at1 w 0=qZi
 ·rw [if_pos c8] at h
  obtain ⟨hl,h⟩:=qYw h
  obtain ⟨l,hr,h⟩:=qQc.mp h
  cases h
  have e:=xNo hl
  have hf:cmdW B.sig ⟨at1 w 0,[l]⟩=.ok (qXr w):=by
   unfold cmdW qGd
   rw [if_neg c7,if_pos c8]
   show (rowM (qVr B.sig) [l] >>= fun ts=>Except.ok (qXr (at1 w 0::between wIs ts)))=_
   have hrow:rowM (qVr B.sig) [l]=.ok [at1 w 1]:=by
    show (qVr B.sig l >>= fun a=>rowM (qVr B.sig) [] >>= fun b=>.ok (a::b))=_
    rw [qKk hr]; rfl
   rw [hrow]
   show Except.ok (qXr [at1 w 0,at1 w 1])=_
   rw [← e]
  exact qJk (B:=B) hw h10 (xUk p hf)
 rw [if_neg c8] at h
 by_cases c9:at1 w 0=qYc
 ·rw [if_pos c9] at h
  obtain ⟨r,hr,h⟩:=qQc.mp h
  cases h
  obtain ⟨e,r1,r2⟩:=qCf hr
  have hf:cmdW B.sig ⟨at1 w 0,[r.1,r.2]⟩=.ok (qXr w):=by
   unfold cmdW qGd
   rw [if_neg c7,if_neg c8,if_pos c9]
   show (rowM (qVr B.sig) [r.1,r.2] >>= fun ts=>Except.ok (qXr (at1 w 0::between wIs ts)))=_
   have hrow:rowM (qVr B.sig) [r.1,r.2]=.ok [at1 w 1,at1 w 3]:=by
    show (qVr B.sig r.1 >>= fun a=>(qVr B.sig r.2 >>= fun a=>rowM (qVr B.sig) [] >>= fun b=>.ok (a::b)) >>= fun b=>.ok (a::b))=_
    rw [qKk r1,qKk r2]; rfl
   rw [hrow]
   show Except.ok (qXr [at1 w 0,at1 w 1,wIs,at1 w 3])=_
   rw [← e]
  exact qJk (B:=B) hw h10 (xUk p hf)
 rw [if_neg c9] at h
 cases h
structure Ag (B:Bk) (p:Bool) (n c:Nat):Prop where
 sg:SgOk B.sig
 bare:p=false→B={ Bk.nil with sig:=B.sig }
 rules:B.rules.length≤64
 eqs:B.eqs.length≤64
 pw:Nonempty (Pw B n c)
theorem xAo {B B':Bk} {w:List Bs} (h:qVs B w=.ok B') (h1:B.rules.length≤64) (h2:B.eqs.length≤64):B'.rules.length≤64∧B'.eqs.length≤64:=by
 unfold qVs at h
 dsimp only at h
 by_cases c0:at1 w 0=qPa
 ·rw [if_pos c0] at h
  obtain ⟨r,hr,h⟩:=qQc.mp h
  obtain ⟨hm,h⟩:=qQv h
  cases h
  exact ⟨by show (B.rules++[r]).length≤64; rw [List.length_append]; exact of_decide_eq_true hm,h2⟩
 rw [if_neg c0] at h
 by_cases c1:at1 w 0=wEq
 ·rw [if_pos c1] at h
  obtain ⟨r,hr,h⟩:=qQc.mp h
  obtain ⟨hm,h⟩:=qQv h
  cases h
  exact ⟨h1,by show (B.eqs++[r]).length≤64; rw [List.length_append]; exact of_decide_eq_true hm⟩
 rw [if_neg c1] at h
 by_cases c2:at1 w 0=qVb
 ·rw [if_pos c2] at h
  obtain ⟨_,_,h⟩:=qQc.mp h
  obtain ⟨_,_,h⟩:=qXb h
  obtain ⟨_,_,h⟩:=qXb h
  cases h; exact ⟨h1,h2⟩
 rw [if_neg c2] at h
 by_cases c3:at1 w 0=qJa
 ·rw [if_pos c3] at h
  obtain ⟨_,_,h⟩:=qQc.mp h
  obtain ⟨_,h⟩:=qQv h
  obtain ⟨_,_,h⟩:=qXb h
  cases h; exact ⟨h1,h2⟩
 rw [if_neg c3] at h
 by_cases c4:at1 w 0=qYm
 ·rw [if_pos c4] at h
  obtain ⟨_,_,h⟩:=qQc.mp h
  obtain ⟨_,_,h⟩:=qQc.mp h
  obtain ⟨_,_,h⟩:=qXb h
  obtain ⟨_,_,h⟩:=qXb h
  cases h; exact ⟨h1,h2⟩
 rw [if_neg c4] at h
 by_cases c5:at1 w 0=wSet
 ·rw [if_pos c5] at h
  obtain ⟨_,_,h⟩:=qQc.mp h
  obtain ⟨_,_,h⟩:=qQc.mp h
  obtain ⟨_,_,h⟩:=qXb h
  cases h; exact ⟨h1,h2⟩
 rw [if_neg c5] at h
 by_cases c6:at1 w 0=qYe
 ·rw [if_pos c6] at h
  obtain ⟨_,h⟩:=qQv h
  obtain ⟨_,_,h⟩:=qQc.mp h
  obtain ⟨_,_,h⟩:=qXb h
  obtain ⟨_,_,h⟩:=qXb h
  obtain ⟨_,_,h⟩:=qXb h
  cases h; exact ⟨h1,h2⟩
 rw [if_neg c6] at h
 by_cases c7:at1 w 0=qJe∨at1 w 0=qZc∨at1 w 0=qKi∨at1 w 0=qYl∨at1 w 0=qZd
 ·rw [if_pos c7] at h
  obtain ⟨_,_,h⟩:=qQc.mp h
  cases h; exact ⟨h1,h2⟩
 rw [if_neg c7] at h
 by_cases c8:at1 w 0=qZi
 ·rw [if_pos c8] at h
  obtain ⟨_,_,h⟩:=qQc.mp h
  obtain ⟨_,_,h⟩:=qQc.mp h
  cases h; exact ⟨h1,h2⟩
 rw [if_neg c8] at h
 by_cases c9:at1 w 0=qYc
 ·rw [if_pos c9] at h
  obtain ⟨_,_,h⟩:=qQc.mp h
  cases h; exact ⟨h1,h2⟩
 rw [if_neg c9] at h
 cases h
theorem xIf {B B':Bk} {p p':Bool} {w:List Bs} {n c:Nat} (a:Ag B p n c) (hw:w≠[]) (h10:∀ x∈w,(10:UInt8) ∉ x) (h:qPj B p w=.ok (B',p')):Ag B' p' (n+ttl w) (c+1):=by
 have sg':=xHq a.sg h
 unfold qPj at h
 by_cases c0:at1 w 0=wSym
 ·rw [if_pos c0] at h
  obtain ⟨b,hb,h⟩:=qQc.mp h
  cases h
  obtain ⟨hl,h⟩:=qYw hb
  obtain ⟨hp,h⟩:=qQv h
  obtain ⟨h1,h⟩:=qQv h
  obtain ⟨m,hm,h⟩:=qXb h
  obtain ⟨h2,h⟩:=qQv h
  cases h
  have hp:p=false:=by simpa using hp
  have hB:=a.bare hp
  have e:=xCy hl
  rw [c0] at e
  rw [Bool.and_eq_true] at h1
  have hm8:=(qZr hm).2
  have hf:symW (at1 w 1,(m:Int))=.ok (qXr w):=by
   unfold symW
   have hno:((at1 w 1).getLast?==some 35)=false:=beq_eq_false_iff_ne.mpr (qSj h1.1)
   rw [hno]
   show (numM (m:Int) >>= fun n=>Except.ok (qXr [wSym,at1 w 1,n]))=_
   rw [qTs (w:=at1 w 2) (by rw [(qZr hm).1]; exact qKv (by unfold most; omega))]
   show Except.ok (qXr [wSym,at1 w 1,at1 w 2])=_
   rw [← e]
  refine ⟨sg',fun _=>?_,a.rules,a.eqs,?_⟩
  ·show ({ B with sig:=B.sig++[(at1 w 1,(m:Int))] }:Bk)=_
   conv=>lhs; rw [hB]
  ·obtain ⟨q⟩:=a.pw
   refine qJk (B:=B) hw h10 ?_
   have z2:B.rules=[]:=by rw [hB]; rfl
   have z3:B.eqs=[]:=by rw [hB]; rfl
   have z4:B.prec=[]:=by rw [hB]; rfl
   have z5:B.cert=[]:=by rw [hB]; rfl
   have z6:B.cmds=[]:=by rw [hB]; rfl
   have e2:q.s2=[]:=by have g:=q.h2; rw [z2] at g; exact (Except.ok.inj g).symm
   have e3:q.s3=[]:=by have g:=q.h3; rw [z3] at g; exact (Except.ok.inj g).symm
   have e4:q.s4=[]:=by have g:=q.h4; rw [z4] at g; exact (Except.ok.inj g).symm
   have e5:q.s5=[]:=by have g:=q.h5; rw [z5] at g; exact (Except.ok.inj g).symm
   have e6:q.s6=[]:=by have g:=q.h6; rw [z6] at g; exact (Except.ok.inj g).symm
   have hq:=q.len
   have hc:=q.cnt
   refine ⟨⟨q.s1++qXr w,[],[],[],[],[],qVo q.h1 hf,by rw [show ({ B with sig:=B.sig++[(at1 w 1,(m:Int))] }:Bk).rules=[] from z2]; rfl,by rw [show ({ B with sig:=B.sig++[(at1 w 1,(m:Int))] }:Bk).eqs=[] from z3]; rfl,
    by rw [show ({ B with sig:=B.sig++[(at1 w 1,(m:Int))] }:Bk).prec=[] from z4]; rfl,by rw [show ({ B with sig:=B.sig++[(at1 w 1,(m:Int))] }:Bk).cert=[] from z5]; rfl,by rw [show ({ B with sig:=B.sig++[(at1 w 1,(m:Int))] }:Bk).cmds=[] from z6]; rfl,?_,?_⟩⟩
   ·rw [List.length_append]
    simp only [List.length_nil]
    rw [e2,e3,e4,e5,e6] at hq
    simp only [List.length_nil] at hq
    omega
   ·rw [List.count_append]
    simp only [List.count_nil]
    rw [e2,e3,e4,e5,e6] at hc
    simp only [List.count_nil] at hc
    omega
 ·rw [if_neg c0] at h
  obtain ⟨b,hb,h⟩:=qQc.mp h
  cases h
  obtain ⟨q⟩:=a.pw
  obtain ⟨l1,l2⟩:=xAo hb a.rules a.eqs
  exact ⟨sg',(fun h=>by cases h),l1,l2,xCz q hw h10 hb⟩
theorem xNx {x:UInt8} {l:Bs}:∀ w∈qZh x l,x ∉ w:=by
 have key:∀ (n:Nat) (l:Bs),l.length≤n→∀ w∈qZh x l,x ∉ w:=by
  intro n
  induction n with
  | zero =>
   intro l hl w hw
   obtain rfl:l=[]:=List.length_eq_zero_iff.mp (by omega)
   rw [List.mem_singleton.mp hw]; simp
  | succ n ih =>
   intro l hl w hw
   rcases qCu x l with ⟨_,h2⟩ | ⟨i,_,h2,h3,h4⟩
   ·rw [qBo x _ h2] at hw
    rw [List.mem_singleton.mp hw]
    exact fun hm=>h2 x hm rfl
   ·rw [h3,qLp x _ _ h4] at hw
    rcases List.mem_cons.mp hw with hw | hw
    ·rw [hw]; exact fun hm=>h4 x hm rfl
    ·exact ih _ (by rw [List.length_drop]; omega) w hw
 exact key _ l (Nat.le_refl _)
theorem qNg {x:UInt8}:∀ {l:Bs} {w:Bs},w∈qZh x l→∀ y∈w,y∈l
 | [],w,h,y,hy=>by
  rw [List.mem_singleton.mp h] at hy; exact hy
 | b::l,w,h,y,hy=>by
  unfold qZh at h
  split at h
  ·rcases List.mem_cons.mp h with h | h
   ·rw [h] at hy; cases hy
   ·exact .tail _ (qNg h y hy)
  ·split at h
   ·rename_i hc
    exact absurd hc (xNy x l)
   ·rename_i c cs hc
    rcases List.mem_cons.mp h with h | h
    ·rw [h] at hy
     rcases List.mem_cons.mp hy with hy | hy
     ·rw [hy]; exact .head _
     ·exact .tail _ (qNg (by rw [hc]; exact .head _) y hy)
    ·exact .tail _ (qNg (by rw [hc]; exact .tail _ h) y hy)
theorem qMq:∀ {ls:List Bs} {B:Bk} {p:Bool} {m n c:Nat} {y:Bk × Bool},Ag B p n c→(∀ l∈ls,(10:UInt8) ∉ l)→qVa B p m ls=.ok y→∃ n' c',Ag y.1 y.2 n' c'∧n'≤n+ttl ls∧c'≤c+ls.length
 | [],B,p,m,n,c,y,a,_,h=>by
  cases h
  exact ⟨n,c,a,Nat.le_add_right _ _,Nat.le_add_right _ _⟩
 | l::ls,B,p,m,n,c,y,a,h10,h=>by
  have ht:ttl (l::ls)=l.length+1+ttl ls:=rfl
  unfold qVa at h
  split at h
  ·obtain ⟨n',c',a',h1,h2⟩:=qMq a (fun x hx=>h10 x (.tail _ hx)) h
   exact ⟨n',c',a',by omega,by rw [List.length_cons]; omega⟩
  ·rename_i hm
   split at h
   ·rename_i B1 p1 hl
    have hw:qQz l≠[]:=fun e=>hm (by rw [e]; rfl)
    have a1:=xIf a hw (fun x hx hm10=>h10 l (.head _) (by
     unfold qQz at hx
     rw [List.mem_filter] at hx
     exact qNg hx.1 10 hm10)) hl
    obtain ⟨n',c',a',h1,h2⟩:=qMq a1 (fun x hx=>h10 x (.tail _ hx)) h
    have:=qOa l
    exact ⟨n',c',a',by omega,by rw [List.length_cons]; omega⟩
   ·cases h
theorem xWe {t:Bs} {y:Bk × Bool} (ht:t.length≤65536) (hc:t.count 10<4096) (h:qVa Bk.nil false 0 (qZh 10 t)=.ok y) :
  SgOk y.1.sig∧((∃ s,qKr 0 y.1=.ok s∧s.length≤t.length+1)∨(qKr 0 y.1=.error 220∧(t.length=65536∨t.count 10+1=4096))):=by
 have g0:SgOk Bk.nil.sig:=⟨fun x hx=>(by cases hx),fun c x hx=>(by cases hx),fun x hx=>(by cases hx),by decide⟩
 have a0:Ag Bk.nil false 0 0:=⟨g0,fun _=>rfl,by decide,by decide,⟨⟨[],[],[],[],[],[],rfl,rfl,rfl,rfl,rfl,rfl,rfl,rfl⟩⟩⟩
 obtain ⟨n,c,a,h1,h2⟩:=qMq a0 (fun l hl=>xNx l hl) h
 rw [qNf] at h1
 rw [qHs] at h2
 refine ⟨a.sg,?_⟩
 obtain ⟨q⟩:=a.pw
 have hl:=q.len
 have hcn:=q.cnt
 have e2:qJg y.1.sig qPa qYd y.1.rules=.ok q.s2:=by
  unfold qJg
  rw [q.h2,decide_eq_true a.rules]; rfl
 have e3:qJg y.1.sig wEq wIs y.1.eqs=.ok q.s3:=by
  unfold qJg
  rw [q.h3,decide_eq_true a.eqs]; rfl
 have hlen:(q.s1++q.s2++q.s3++q.s4++q.s5++q.s6).length=n:=by simp only [List.length_append]; omega
 have hcnt:(q.s1++q.s2++q.s3++q.s4++q.s5++q.s6).count 10=c:=by simp only [List.count_append]; omega
 have hp:qKr 0 y.1=(must (decide ((q.s1++q.s2++q.s3++q.s4++q.s5++q.s6).length≤65536) && decide ((q.s1++q.s2++q.s3++q.s4++q.s5++q.s6).count 10<4096)) 220 >>= fun _=>.ok (q.s1++q.s2++q.s3++q.s4++q.s5++q.s6)):=by
  unfold qKr
  rw [if_neg (by simp),decide_eq_true a.sg.len,q.h1,e2,e3,q.h4,q.h5,q.h6]; rfl
 rw [hlen,hcnt] at hp
 by_cases hb:n≤65536∧c<4096
 ·left
  rw [decide_eq_true hb.1,decide_eq_true hb.2] at hp
  exact ⟨_,hp,by rw [hlen]; omega⟩
 ·right
  have:(decide (n≤65536) && decide (c<4096))=false:=by
   rw [← Bool.not_eq_true,Bool.and_eq_true,decide_eq_true_eq,decide_eq_true_eq]
   exact hb
  rw [this] at hp
  refine ⟨hp,?_⟩
  by_cases hn:n≤65536
  ·right
   have:¬ c<4096:=fun h=>hb ⟨hn,h⟩
   omega
  ·left; omega
end Go.Proofs.Sp
