/-
  Packed: The document's way: a text's lines, a line's words. The document's way: what stands in a line behind its word, and whether a line fits. The document's way: whether a line's words fit. A line is taken as the document takes it, word by word: plain. The document's way: a word of a line is read by its letter. The document's way: a line is taken into a book. The document's way: what a line says is put into a book. The document's way: a text is read as a book. What is printed of a book is read as that book: plain. What is read of a text is printed, no longer than the text: plain. Lines that say nothing, and more blanks, change nothing: plain.
-/
import Derived.Test.YtkdneddcocggdaaGreatDoorPkI
import Derived.Test.YtkdneddcocggdaaGreatDoorPkH
set_option linter.unusedVariables false
set_option linter.unusedSimpArgs false
set_option linter.unnecessarySimpa false
namespace Go.Proofs.YtkdneddcocggdaaGreatDoor.Am
open Go Go.Proofs Go.RowKit Go.Lib Sys Sp
set_option maxRecDepth 100000
variable {D:Orc} {E:Dorc} {h h' h0:H} {k:Kv} {kp:Kp} {L R:List Res}
end Go.Proofs.YtkdneddcocggdaaGreatDoor.Am
namespace Go.Proofs.Sp
open Go Go.Lib Sys
end Go.Proofs.Sp
namespace Go.Proofs.YtkdneddcocggdaaGreatDoor.Am
open Go Go.Proofs Go.RowKit Go.Lib Sys Sp
set_option maxRecDepth 100000
variable {D:Orc} {E:Dorc} {h h' h0 g:H} {k:Kv} {kp:Kp} {L R:List Res} {B:Bk} {V:BkV} {N:Nat}
variable {D:Orc} {E:Dorc} {h h' h0 g:H} {k:Kv} {kp:Kp} {L R:List Res} {B:Bk} {V:BkV} {N:Nat}
end Go.Proofs.YtkdneddcocggdaaGreatDoor.Am
namespace Go.Proofs.Sp
open Go Go.Lib Sys
structure Ln where
 names:List Bs
 codes:List Int
 terms:List (List Int)
 nums:List Int
 coef:List Nat
def Ln.nil:Ln:=⟨[],[],[],[],[]⟩
structure Bd (B:Bk):Prop where
 s:B.sig.length≤64
 r:B.rules.length≤64
 e:B.eqs.length≤64
end Go.Proofs.Sp
namespace Go.Proofs.YtkdneddcocggdaaGreatDoor.Am
open Go Go.Proofs Go.RowKit Go.Lib Sys Sp
set_option maxRecDepth 100000
variable {D:Orc} {E:Dorc} {h h' h0 g g':H} {k:Kv} {kp:Kp} {L R:List Res} {B:Bk} {V:BkV} {N:Nat}
structure LnV where
 nm:Value
 cd:Value
 tm:Value
 nu:Value
 cf:Value
 tmr:List Value
structure LnI (m:Nat) (g:H) (X:LnV) (x:Ln):Prop where
 tm:Rel2 (Oz g) X.tmr x.terms
 cd:∀ c∈x.codes,inI c
 nu:∀ c∈x.nums,inI c
 cf:Nr g X.cf x.coef
 l1:x.names.length≤m
 l2:x.codes.length≤m
 l3:x.terms.length≤m
 l4:x.nums.length≤m
theorem LnI.ext {m:Nat} {X:LnV} {x:Ln} (I:LnI m g X x) (e:Ext g g'):LnI m g' X x:=⟨I.tm.mono fun _ _ o=>o.ext e,I.cd,I.nu,I.cf.ext e,I.l1,I.l2,I.l3,I.l4⟩
theorem LnI.up {m:Nat} {X:LnV} {x:Ln} (I:LnI m g X x):LnI (m+1) g X x:=⟨I.tm,I.cd,I.nu,I.cf,Nat.le_succ_of_le I.l1,Nat.le_succ_of_le I.l2,Nat.le_succ_of_le I.l3,Nat.le_succ_of_le I.l4⟩
theorem Hp.grow {q i j:Nat} {l vs:List Value} {s v z:Value} (o:Hp h0 h (qQn q l::L)) (hL:L[i]?=some (bufR s vs)) (hj:l[j]?=some s) (hv:one v=true) {bytes:Nat} (hb:bytes≤64) (hl:vs.length<2 ^ 40) {O U T:Prop} (hO:O) (hU:U) (hT:T) {K:H→Prop}
  (hK:∀ s' h',Hp h0 h' (qQn q (l.set j s')::L.set i (bufR s' (vs++[v])))→K h') :
  qQh (Pt q)=true∧ptrW (Pt q) (fun ad18=>∃ v19:Value,rd h (Addr.add ad18 j)=some v19∧O∧U∧qQz h 1 [v] (fun s20 h21=>qXi s20 (fun n22=>srcW h21 1 s20 (n22) (fun w23=>apW h21 1 bytes [z] v19 (n22) w23 (fun s24 h25=>qQh (Pt q)=true∧ptrW (Pt q) (fun ad26=>one s24=true∧T∧∃ h27,wr1 h25 (Addr.add ad26 j) s24=some h27∧K h27)))))):=by
 refine ⟨rfl,ldj (o.cell (i:=0) rfl) hj ?_⟩
 refine o.push (i:=i+1) (s:=s) (vs:=vs) (v:=v) (by simpa using hL) hb hl hv hO hU fun s' h' o'=>⟨rfl,?_⟩
 have o':Hp h0 h' (qQn q l::L.set i (bufR s' (vs++[v]))):=o'
 have hil:=(List.getElem?_eq_some_iff.mp hL).1
 have hrow:Row h' s' (vs++[v]):=o'.row (i:=i+1) (by simp [hil])
 exact o'.stj (i:=0) (j:=j) rfl (List.getElem?_eq_some_iff.mp hj).1 (qZd hrow) hT fun h2 o2=>hK s' h2 o2
end Go.Proofs.YtkdneddcocggdaaGreatDoor.Am
namespace Go.Proofs.Sp
open Go Go.Lib Sys
end Go.Proofs.Sp
namespace Go.Proofs.YtkdneddcocggdaaGreatDoor.Am
open Go Go.Proofs Go.RowKit Go.Lib Sys Sp
set_option maxRecDepth 100000
variable {D:Orc} {E:Dorc} {h h' h0 g g':H} {k:Kv} {kp:Kp} {L R:List Res} {B:Bk} {V:BkV} {N bp:Nat} {w:List Bs} {wv:Value}
variable {D:Orc} {E:Dorc} {h h' h0 g g':H} {k:Kv} {kp:Kp} {L R:List Res} {B:Bk} {V:BkV} {N bp:Nat} {w:List Bs} {wv:Value}
end Go.Proofs.YtkdneddcocggdaaGreatDoor.Am
namespace Go.Proofs.Sp
open Go Go.Lib Sys
theorem qOz (x:UInt8):∀ l:Bs,(qXl x l).length=l.count x+1
 | []=>rfl
 | b::l=>by
  have ih:=qOz x l
  unfold qXl
  by_cases hb:b=x
  ·rw [if_pos hb,List.length_cons,ih,hb,List.count_cons_self]
  ·rw [if_neg hb,List.count_cons_of_ne hb]
   cases hc:qXl x l with
   | nil=>rw [hc] at ih; simp at ih
   | cons c cs =>
    rw [hc] at ih
    simpa using ih
theorem xYr {l:List Bs} {s a:Bs}:symI (l++[a]) s=match symI l s with
  | some c=>some c
  | none=>if a=s then some l.length else none:=by
 unfold symI
 rw [List.findIdx?_append]
 cases h:l.findIdx? (·==s) with
 | some c=>rfl
 | none =>
  by_cases ha:a=s
  ·simp [List.findIdx?_cons,ha]
  ·simp [List.findIdx?_cons,ha]
theorem SgOk.push {sig:Sg} (o:SgOk sig) {a:Bs} {n:Int} (h1:qId a=true) (h2:symI (sig.map (·.1)) a=none) (h3:0≤n∧n≤8) (h4:sig.length+1≤64):SgOk (sig++[(a,n)]):=by
 refine ⟨fun x hx=>?_,fun c x hc=>?_,fun x hx=>?_,by rw [List.length_append]; exact h4⟩
 ·rcases List.mem_append.mp hx with hx | hx
  ·exact o.nm x hx
  ·rw [List.mem_singleton.mp hx]; exact h1
 ·rw [List.map_append]
  show symI (sig.map (·.1)++[a]) x.1=some c
  rw [xYr]
  by_cases hc2:c<sig.length
  ·rw [List.getElem?_append_left hc2] at hc
   rw [o.own c x hc]
  ·rw [List.getElem?_append_right (by omega)] at hc
   have hc0:c - sig.length=0:=by
    have:=(List.getElem?_eq_some_iff.mp hc).1
    simp at this; omega
   rw [hc0] at hc
   obtain rfl:(a,n)=x:=Option.some.inj hc
   rw [h2]
   show (if a=a then some (sig.map (·.1)).length else none)=some c
   rw [if_pos rfl,List.length_map]
   congr 1
   omega
 ·rcases List.mem_append.mp hx with hx | hx
  ·exact o.ar x hx
  ·rw [List.mem_singleton.mp hx]; exact h3
end Go.Proofs.Sp
namespace Go.Proofs.YtkdneddcocggdaaGreatDoor.Am
open Go Go.Proofs Go.RowKit Go.Lib Sys Sp
set_option maxRecDepth 100000
variable {D:Orc} {E:Dorc} {h h' h0 g g':H} {k:Kv} {kp:Kp} {L R:List Res} {B:Bk} {V:BkV} {N bp:Nat} {w:List Bs} {wv:Value}
end Go.Proofs.YtkdneddcocggdaaGreatDoor.Am
namespace Go.Proofs.Sp
open Go Go.Lib Sys Nats
def NZ {α:Type} (x:Except Int α):Prop:=∀ e,x=.error e→e≠0
theorem qXe {α β:Type} {x:Except Int α} {f:α→Except Int β} (h:NZ x) (g:∀ a,NZ (f a)):NZ (x >>= f):=fun e he=>by
 cases x with
 | error e'=>cases he; exact h _ rfl
 | ok a=>exact g a e he
theorem qEw {α:Type} (a:α):NZ (.ok a):=fun e h=>by cases h
theorem qBi {b:Bool} {c:Int} (h:c≠0):NZ (must b c):=fun e he=>by
 unfold must at he
 split at he
 ·cases he
 ·cases he; exact h
theorem xPb {α:Type} {x:Option α} {c:Int} (h:c≠0):NZ (opt x c):=fun e he=>by
 unfold opt at he
 split at he
 ·cases he
 ·cases he; exact h
theorem qSh {sig:Sg} {w:Bs}:NZ (qWj sig w):=fun e he=>by
 unfold qWj at he
 split at he
 ·rename_i e' hr
  obtain rfl:=Except.error.inj he
  exact qNo _ _ _ hr
 ·split at he
  ·cases he
  ·obtain rfl:=Except.error.inj he; decide
theorem qSg {sig:Sg} {w:List Bs} {m:Bs}:NZ (qJa sig w m):=qXe (qBi (by decide)) fun _=>qXe qSh fun _=>qXe qSh fun _=>qEw _
theorem qJz {w:List Bs} {n:Nat}:NZ (count w n):=qBi (by decide)
theorem qSi {B:Bk}:NZ (qAg B):=xPb (by decide)
theorem xFv {B:Bk} {w:List Bs}:NZ (qSo B w):=by
 have o:∀ {α:Type} {x:Option α} {c:Int},(decide (c≠0)=true)→NZ (opt x c):=fun h=>xPb (of_decide_eq_true h)
 have m:∀ {x:Bool} {c:Int},(decide (c≠0)=true)→NZ (must x c):=fun h=>qBi (of_decide_eq_true h)
 unfold qSo
 dsimp only
 by_cases c0:at1 w 0=qHh
 ·rw [if_pos c0]; exact qXe qSg fun _=>qXe (m rfl) fun _=>qEw _
 rw [if_neg c0]
 by_cases c0:at1 w 0=wEq
 ·rw [if_pos c0]; exact qXe qSg fun _=>qXe (m rfl) fun _=>qEw _
 rw [if_neg c0]
 by_cases c0:at1 w 0=qYl
 ·rw [if_pos c0]; exact qXe qJz fun _=>qXe (o rfl) fun _=>qXe (o rfl) fun _=>qEw _
 rw [if_neg c0]
 by_cases c0:at1 w 0=qKx
 ·rw [if_pos c0]; exact qXe qJz fun _=>qXe (m rfl) fun _=>qXe (o rfl) fun _=>qEw _
 rw [if_neg c0]
 by_cases c0:at1 w 0=qKw
 ·rw [if_pos c0]; exact qXe qJz fun _=>qXe qSi fun _=>qXe (o rfl) fun _=>qXe (o rfl) fun _=>qEw _
 rw [if_neg c0]
 by_cases c0:at1 w 0=wSet
 ·rw [if_pos c0]; exact qXe qJz fun _=>qXe qSi fun _=>qXe (o rfl) fun _=>qEw _
 rw [if_neg c0]
 by_cases c0:at1 w 0=qAs
 ·rw [if_pos c0]; exact qXe (m rfl) fun _=>qXe qSi fun _=>qXe (o rfl) fun _=>qXe (o rfl) fun _=>qXe (o rfl) fun _=>qEw _
 rw [if_neg c0]
 by_cases c0:at1 w 0=qAi∨at1 w 0=qVb∨at1 w 0=qHi∨at1 w 0=qPs∨at1 w 0=qVc
 ·rw [if_pos c0]; exact qXe qJz fun _=>qEw _
 rw [if_neg c0]
 by_cases c0:at1 w 0=qVt
 ·rw [if_pos c0]; exact qXe qJz fun _=>qXe qSh fun _=>qEw _
 rw [if_neg c0]
 by_cases c0:at1 w 0=qEn
 ·rw [if_pos c0]; exact qXe qSg fun _=>qEw _
 rw [if_neg c0]
 intro e he
 cases he; decide
theorem xKw {B:Bk} {p:Bool} {w:List Bs}:NZ (qCw B p w):=by
 unfold qCw
 split
 ·refine qXe ?_ fun _=>qEw _
  exact qXe qJz fun _=>qXe (qBi (by decide)) fun _=>qXe (qBi (by decide)) fun _=>qXe (xPb (by decide)) fun _=>qXe (qBi (by decide)) fun _=>qEw _
 ·exact qXe xFv fun _=>qEw _
theorem qGa:∀ {ls:List Bs} {B:Bk} {p:Bool} {n:Nat} {y:Nat × Int},qXo B p n ls=.error y→y.2≠0∧y.1≤n+ls.length
 | [],B,p,n,y,h=>by cases h
 | l::ls,B,p,n,y,h=>by
  unfold qXo at h
  rw [List.length_cons]
  split at h
  ·obtain ⟨h1,h2⟩:=qGa h
   exact ⟨h1,by omega⟩
  ·split at h
   ·obtain ⟨h1,h2⟩:=qGa h
    exact ⟨h1,by omega⟩
   ·rename_i e he
    cases h
    exact ⟨xKw e he,by dsimp only; omega⟩
structure Sz (s:Bs) (n c:Nat):Prop where
 len:s.length=n
 cnt:s.count 10=c
theorem Sz.app {s t:Bs} {n c m d:Nat} (h:Sz s n c) (g:Sz t m d):Sz (s++t) (n+m) (c+d):=⟨by rw [List.length_append,h.len,g.len],by rw [List.count_append,h.cnt,g.cnt]⟩
structure Pw (B:Bk) (n c:Nat) where
 s1:Bs
 s2:Bs
 s3:Bs
 s4:Bs
 s5:Bs
 s6:Bs
 h1:allM symW B.sig=.ok s1
 h2:allM (qIw B.sig qHh qEo) B.rules=.ok s2
 h3:allM (qIw B.sig wEq wIs) B.eqs=.ok s3
 h4:allM (qFs B.sig qYl false) B.prec=.ok s4
 h5:allM (qOg B.sig) B.cert=.ok s5
 h6:allM (cmdW B.sig) B.cmds=.ok s6
 len:s1.length+s2.length+s3.length+s4.length+s5.length+s6.length=n
 cnt:s1.count 10+s2.count 10+s3.count 10+s4.count 10+s5.count 10+s6.count 10=c
structure Ag (B:Bk) (p:Bool) (n c:Nat):Prop where
 sg:SgOk B.sig
 bare:p=false→B={ Bk.nil with sig:=B.sig }
 rules:B.rules.length≤64
 eqs:B.eqs.length≤64
 pw:Nonempty (Pw B n c)
end Go.Proofs.Sp
namespace Go.Proofs.Sp
open Go Go.Lib Sys
def qYk (c:UInt8):Bs:=if c=32∨c=10 then [32,c,32] else [c]
def blow (t:Bs):Bs:=t.flatMap qYk
def qYj:Bs:=[32,35,32,97,110,100,32,115,111,32,111,110]
theorem qMd (a b:Bs):blow (a++b)=blow a++blow b:=by unfold blow; rw [List.flatMap_append]
theorem xCd (t:Bs):t.length≤(blow t).length:=by
 induction t with
 | nil=>exact Nat.le_refl _
 | cons c t ih =>
  show _≤(qYk c++blow t).length
  rw [List.length_append,List.length_cons]
  unfold qYk
  split <;> simp only [List.length_cons,List.length_nil] <;> omega
theorem xWg (t:Bs):(blow t).count 10=t.count 10:=by
 induction t with
 | nil=>rfl
 | cons c t ih =>
  show (qYk c++blow t).count 10=_
  rw [List.count_append,ih,List.count_cons]
  unfold qYk
  by_cases h:c=32∨c=10
  ·rw [if_pos h]
   rcases h with rfl | rfl
   ·have:([32,32,32]:Bs).count 10=0:=by decide
    rw [this]; simp
   ·have:([32,10,32]:Bs).count 10=1:=by decide
    rw [this]; simp; omega
  ·rw [if_neg h]
   simp only [List.count_cons,List.count_nil]; omega
theorem xWe:∀ (n:Nat) (t r:Bs),t.length≤n→(∀ x∈r,x.toNat<128)→validD (blow t++32::r)=validD t:=by
 intro n
 have hr:∀ r:Bs,(∀ x∈r,x.toNat<128)→validD r=true:=fun r h=>by
  have:=qMz (a:=r) (b:=[]) h
  rw [List.append_nil] at this
  rw [this]; rfl
 induction n with
 | zero =>
  intro t r ht h
  obtain rfl:t=[]:=List.length_eq_zero_iff.mp (by omega)
  show validD (32::r)=true
  exact hr _ fun x hx=>by
   rcases List.mem_cons.mp hx with rfl | hx
   ·decide
   ·exact h x hx
 | succ n ih =>
  intro t r ht h
  by_cases hex:∃ c∈t,c=32∨c=10
  ·obtain ⟨c,hc,hcc⟩:=hex
   obtain ⟨a,b,rfl⟩:=List.append_of_mem hc
   have h128:c.toNat<128:=by rcases hcc with rfl | rfl <;> decide
   rw [List.length_append,List.length_cons] at ht
   have e:blow (a++c::b)++32::r=blow a++32::(c::32::(blow b++32::r)):=by
    rw [qMd]
    show blow a++(qYk c++blow b)++32::r=_
    unfold qYk
    rw [if_pos hcc]
    simp only [List.append_assoc,List.cons_append,List.nil_append]
   have ha:=ih a [] (by omega) (fun x hx=>by cases hx)
   rw [qUr (by decide)] at ha
   have ha:(validD (blow a) && true)=validD a:=ha
   rw [Bool.and_true] at ha
   rw [e,qUr (by decide),validD_cons c _ h128,validD_cons 32 _ (by decide),ih b r (by omega) h,qUr h128,ha]
  ·have hfree:∀ c∈t,¬ (c=32∨c=10):=fun c hc hcc=>hex ⟨c,hc,hcc⟩
   have e:blow t=t:=by
    clear ih ht hex
    induction t with
    | nil=>rfl
    | cons c t ih2 =>
     show qYk c++blow t=_
     unfold qYk
     rw [if_neg (hfree c (.head _)),ih2 fun x hx=>hfree x (.tail _ hx)]; rfl
   rw [e,qUr (by decide),hr r h,Bool.and_true]
theorem qKm {x b:UInt8} {l:Bs} (h:b≠x):∃ c cs,qXl x l=c::cs∧qXl x (b::l)=(b::c)::cs:=by
 cases hc:qXl x l with
 | nil=>exact absurd hc (xLn x l)
 | cons c cs =>
  refine ⟨c,cs,rfl,?_⟩
  show (if b=x then []::qXl x l else match qXl x l with | []=>[[b]] | c::cs=>(b::c)::cs)=_
  rw [if_neg h,hc]
theorem qUh {x:UInt8} {l:Bs}:qXl x (x::l)=[]::qXl x l:=by
 show (if x=x then []::qXl x l else _)=_
 rw [if_pos rfl]
theorem qRl {l:Bs}:qQj (32::l)=qQj l:=by
 unfold qQj
 rw [qUh]; rfl
theorem xAf (x:UInt8):∀ l:Bs,qXl x (l++[x])=qXl x l++[[]]
 | []=>by
  show qXl x (x::[])=_
  rw [qUh]; rfl
 | b::l=>by
  have ih:=xAf x l
  by_cases hb:b=x
  ·subst hb
   show qXl b (b::(l++[b]))=_
   rw [qUh,qUh,ih]; rfl
  ·obtain ⟨c,cs,h1,h2⟩:=qKm (l:=l++[x]) hb
   obtain ⟨d,ds,h3,h4⟩:=qKm (l:=l) hb
   show qXl x (b::(l++[x]))=_
   rw [h2,h4]
   rw [h1,h3] at ih
   injection ih with i1 i2
   rw [i1,i2]; rfl
theorem qKv {l:Bs}:qQj (l++[32])=qQj l:=by
 unfold qQj
 rw [xAf,List.filter_append]
 simp
theorem xXm:∀ l:Bs,(∀ b∈l,b≠10)→∃ c cs ds,qXl 32 l=c::cs∧qXl 32 (blow l)=c::ds∧cs.filter (·≠[])=ds.filter (·≠[])
 | [],_=>⟨[],[],[],rfl,rfl,rfl⟩
 | b::l,h=>by
  obtain ⟨c,cs,ds,h1,h2,h3⟩:=xXm l fun x hx=>h x (.tail _ hx)
  by_cases hb:b=32
  ·subst hb
   have e:blow (32::l)=32::32::32::blow l:=rfl
   refine ⟨[],c::cs,[]::[]::c::ds,by rw [qUh,h1],by rw [e,qUh,qUh,qUh,h2],?_⟩
   have:∀ w:Bs,∀ xs ys:List Bs,xs.filter (·≠[])=ys.filter (·≠[])→(w::xs).filter (·≠[])=(w::ys).filter (·≠[]):=fun w xs ys hh=>by
    by_cases hw:w=[]
    ·rw [List.filter_cons_of_neg (by simp [hw]),List.filter_cons_of_neg (by simp [hw])]; exact hh
    ·rw [List.filter_cons_of_pos (by simp [hw]),List.filter_cons_of_pos (by simp [hw]),hh]
   have h4:=this c cs ds h3
   rw [h4]
   have f0:∀ xs:List Bs,([]::xs).filter (·≠[])=xs.filter (·≠[]):=fun xs=>List.filter_cons_of_neg (by simp)
   rw [f0,f0]
  ·have e:blow (b::l)=b::blow l:=by
    show qYk b++blow l=_
    unfold qYk
    rw [if_neg fun hh=>hh.elim hb (h b (.head _))]; rfl
   obtain ⟨c1,cs1,g1,g2⟩:=qKm (x:=32) (l:=l) hb
   obtain ⟨c2,cs2,g3,g4⟩:=qKm (x:=32) (l:=blow l) hb
   rw [h1] at g1
   rw [h2] at g3
   injection g1 with i1 i2
   injection g3 with i3 i4
   exact ⟨b::c1,cs1,cs2,g2,by rw [e,g4,← i3,← i1],by rw [← i2,← i4]; exact h3⟩
theorem qHo {l:Bs} (h:∀ b∈l,b≠10):qQj (blow l)=qQj l:=by
 obtain ⟨c,cs,ds,h1,h2,h3⟩:=xXm l h
 unfold qQj
 rw [h1,h2]
 by_cases hc:c=[]
 ·rw [List.filter_cons_of_neg (by simp [hc]),List.filter_cons_of_neg (by simp [hc]),h3]
 ·rw [List.filter_cons_of_pos (by simp [hc]),List.filter_cons_of_pos (by simp [hc]),h3]
theorem xWf:∀ (n:Nat) (t pre:Bs),t.length≤n→(pre=[]∨pre=[32])→(qXl 10 (pre++blow t++[32,32,10]++qYj)).map qQj=(qXl 10 t).map qQj++[qQj qYj]:=by
 intro n
 have wpre:∀ (pre l:Bs),(pre=[]∨pre=[32])→qQj (pre++l)=qQj l:=fun pre l h=>by
  rcases h with rfl | rfl
  ·rfl
  ·exact qRl
 have blow_free:∀ a:Bs,(∀ b∈a,b≠10)→∀ b∈blow a,b≠10:=fun a ha b hb=>by
  unfold blow at hb
  obtain ⟨c,hc,hb⟩:=List.mem_flatMap.mp hb
  unfold qYk at hb
  split at hb
  ·rename_i hcc
   have h32:c=32:=hcc.resolve_right (ha c hc)
   subst h32
   simp at hb
   rw [hb]; decide
  ·rw [List.mem_singleton.mp hb]; exact ha c hc
 have pre_free:∀ pre:Bs,(pre=[]∨pre=[32])→∀ b∈pre,b≠10:=fun pre h b hb=>by
  rcases h with rfl | rfl
  ·cases hb
  ·rw [List.mem_singleton.mp hb]; decide
 have free:∀ (t pre:Bs),(∀ b∈t,b≠10)→(pre=[]∨pre=[32])→(qXl 10 (pre++blow t++[32,32,10]++qYj)).map qQj=(qXl 10 t).map qQj++[qQj qYj]:=fun t pre ht hp=>by
  have e:pre++blow t++[32,32,10]++qYj=(pre++blow t++[32]++[32])++10::qYj:=by simp only [List.append_assoc,List.cons_append,List.nil_append]
  rw [e,qCs 10 _ _ fun c hc=>?_,qKl 10 t ht,qKl 10 qYj (by decide)]
  ·show [qQj (pre++blow t++[32]++[32]),qQj qYj]=[qQj t,qQj qYj]
   rw [qKv,qKv,wpre _ _ hp,qHo ht]
  ·rcases List.mem_append.mp hc with hc | hc
   ·rcases List.mem_append.mp hc with hc | hc
    ·rcases List.mem_append.mp hc with hc | hc
     ·exact pre_free pre hp c hc
     ·exact blow_free t ht c hc
    ·rw [List.mem_singleton.mp hc]; decide
   ·rw [List.mem_singleton.mp hc]; decide
 induction n with
 | zero =>
  intro t pre ht hp
  obtain rfl:t=[]:=List.length_eq_zero_iff.mp (by omega)
  exact free [] pre (fun b hb=>by cases hb) hp
 | succ n ih =>
  intro t pre ht hp
  rcases qBp 10 t with ⟨_,h2⟩ | ⟨i,_,h2,h3,h4⟩
  ·exact free t pre h2 hp
  ·have hlen:(t.drop (i+1)).length≤n:=by rw [List.length_drop]; omega
   generalize t.take i=a at h3 h4
   generalize t.drop (i+1)=b at h3 hlen
   subst h3
   have e:pre++blow (a++10::b)++[32,32,10]++qYj=(pre++blow a++[32])++10::([32]++blow b++[32,32,10]++qYj):=by
    rw [qMd]
    show pre++(blow a++(qYk 10++blow b))++[32,32,10]++qYj=_
    have:qYk 10=[32,10,32]:=by decide
    rw [this]
    simp only [List.append_assoc,List.cons_append,List.nil_append]
   rw [e,qCs 10 _ _ fun c hc=>?_,qCs 10 a b h4]
   ·show qQj (pre++blow a++[32])::(qXl 10 ([32]++blow b++[32,32,10]++qYj)).map qQj=qQj a::((qXl 10 b).map qQj++[qQj qYj])
    rw [qKv,wpre _ _ hp,qHo h4,ih b [32] hlen (.inr rfl)]
   ·rcases List.mem_append.mp hc with hc | hc
    ·rcases List.mem_append.mp hc with hc | hc
     ·exact pre_free pre hp c hc
     ·exact blow_free a h4 c hc
    ·rw [List.mem_singleton.mp hc]; decide
theorem qEc:∀ {ls ls':List Bs} {B:Bk} {p:Bool} {n:Nat},ls.map qQj=ls'.map qQj→qXo B p n ls=qXo B p n ls'
 | [],[],B,p,n,_=>rfl
 | [],l::ls',B,p,n,h=>by cases h
 | l::ls,[],B,p,n,h=>by cases h
 | l::ls,l'::ls',B,p,n,h=>by
  injection h with h1 h2
  unfold qXo
  rw [h1]
  split
  ·exact qEc h2
  ·split
   ·exact qEc h2
   ·rfl
def xJc (d:Nat) (x:Except (Nat × Int) (Bk × Bool)):Except (Nat × Int) (Bk × Bool):=match x with
 | .ok y=>.ok y
 | .error y=>.error (y.1+d,y.2)
theorem qEd (d:Nat):∀ {ls:List Bs} {B:Bk} {p:Bool} {n:Nat},qXo B p (n+d) ls=xJc d (qXo B p n ls)
 | [],B,p,n=>rfl
 | l::ls,B,p,n=>by
  unfold qXo
  have e:n+d+1=n+1+d:=by omega
  split
  ·rw [e]; exact qEd d
  ·split
   ·rw [e]; exact qEd d
   ·rw [e]; rfl
theorem qBm {l:Bs} (hm:mute (qQj l)=true):∀ {ls:List Bs} {B:Bk} {p:Bool} {n:Nat},qXo B p n (ls++[l])=qXo B p n ls
 | [],B,p,n=>by
  show qXo B p n (l::[])=_
  unfold qXo
  rw [if_pos hm]
  unfold qXo
  rfl
 | l'::ls,B,p,n=>by
  show qXo B p n (l'::(ls++[l]))=_
  unfold qXo
  split
  ·exact qBm hm
  ·split
   ·exact qBm hm
   ·rfl
theorem qFz:∀ {ls:List Bs} {B:Bk} {p:Bool} {n:Nat} {y:Nat × Int},qXo B p n ls=.error y→n<y.1
 | [],B,p,n,y,h=>by cases h
 | l::ls,B,p,n,y,h=>by
  unfold qXo at h
  split at h
  ·have:=qFz h; omega
  ·split at h
   ·have:=qFz h; omega
   ·cases h; exact Nat.lt_succ_self n
def qPb (N t:Bs):Bs:=[35]++N++[10,32,32,10]++blow t++[32,32,10]++qYj
theorem xPk:∀ N:Bs,mute (qQj (35::N))=true:=fun N=>by
 obtain ⟨c,cs,h1,h2⟩:=qKm (x:=32) (b:=35) (l:=N) (by decide)
 unfold qQj
 rw [h2,List.filter_cons_of_pos (by simp)]
 rfl
theorem xVf {N t:Bs} (hN:∀ b∈N,b≠10):qXo Bk.nil false 0 (qXl 10 (qPb N t))=xJc 2 (qXo Bk.nil false 0 (qXl 10 t)):=by
 have e:qPb N t=(35::N)++10::([32,32]++10::([]++blow t++[32,32,10]++qYj)):=by
  unfold qPb
  simp only [List.append_assoc,List.cons_append,List.nil_append]
 rw [e,qCs 10 _ _ fun c hc=>by
  rcases List.mem_cons.mp hc with rfl | hc
  ·decide
  ·exact hN c hc,qCs 10 [32,32] _ (by decide)]
 have h1:qXo Bk.nil false 0 ((35::N)::[32,32]::qXl 10 ([]++blow t++[32,32,10]++qYj))=qXo Bk.nil false (0+2) (qXl 10 ([]++blow t++[32,32,10]++qYj)):=by
  rw [qXo,if_pos (xPk N),qXo,if_pos (by decide)]
 have h2:(qXl 10 ([]++blow t++[32,32,10]++qYj)).map qQj=((qXl 10 t)++[qYj]).map qQj:=by
  rw [xWf t.length t [] (Nat.le_refl _) (.inl rfl),List.map_append]; rfl
 rw [h1,qEc h2,qEd,qBm (by decide)]
theorem xVe {N t:Bs} (hN:∀ b∈N,b.toNat<128):validD (qPb N t)=validD t:=by
 have e:qPb N t=([35]++N++[10,32,32,10])++(blow t++32::([32,10]++qYj)):=by
  unfold qPb
  simp only [List.append_assoc,List.cons_append,List.nil_append]
 rw [e,qMz fun x hx=>?_,xWe t.length t _ (Nat.le_refl _) (by decide)]
 rcases List.mem_append.mp hx with hx | hx
 ·rcases List.mem_append.mp hx with hx | hx
  ·rw [List.mem_singleton.mp hx]; decide
  ·exact hN x hx
 ·have:∀ y∈([10,32,32,10]:Bs),y.toNat<128:=by decide
  exact this x hx
theorem qIe {N t:Bs}:t.count 10+1≤(qPb N t).count 10:=by
 unfold qPb
 simp only [List.count_append,xWg]
 have:([10,32,32,10]:Bs).count 10=2:=by decide
 omega
theorem xQs {N t:Bs}:t.length+1≤(qPb N t).length:=by
 unfold qPb
 have:=xCd t
 simp only [List.length_append,List.length_singleton]
 omega
end Go.Proofs.Sp
