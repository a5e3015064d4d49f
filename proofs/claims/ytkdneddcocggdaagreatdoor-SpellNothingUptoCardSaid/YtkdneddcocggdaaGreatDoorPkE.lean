/-
  Packed: Rows of terms, one behind the other: plain Lean. Terms as they are written, and read again: plain. Naturals in limbs: plain arithmetic, no program in sight. Books, read from lines of words and written as lines: plain. UTF-8, one text behind another: plain. What is written of a book is read as that book: plain. Numbers: strconv.ParseUint, strconv.FormatUint, spell.number.
-/
import Derived.Test.YtkdneddcocggdaaGreatDoorPkS
import Derived.Test.YtkdneddcocggdaaGreatDoorPkD
import Derived.Lib.ValidLaws
import Derived.Lib.DecodeN
set_option linter.unusedVariables false
set_option linter.unusedSimpArgs false
set_option linter.unnecessarySimpa false
namespace Go.Proofs.Sys
theorem qPv (sig:Sg):∀ (u:List Int) (n:Nat) (r:List Int),scan sig n u=0→eat sig n (u++r)=(0,r)
 | [],0,r,_=>by cases r <;> simp [eat]
 | [],n+1,r,h=>by simp [scan] at h
 | c::u,0,r,h=>by simp [scan] at h
 | c::u,n+1,r,h=>by
  unfold scan at h
  split at h
  ·simp at h
  ·rename_i hb
   rw [List.cons_append,eat,if_neg hb]
   exact qPv sig u _ r h
theorem xQh (sig:Sg):∀ (u:List Int) (m n:Nat) (r:List Int),scan sig m u=0→scan sig (m+n) (u++r)=scan sig n r
 | [],0,n,r,_=>by simp
 | [],m+1,n,r,h=>by simp [scan] at h
 | c::u,0,n,r,h=>by simp [scan] at h
 | c::u,m+1,n,r,h=>by
  unfold scan at h
  split at h
  ·simp at h
  ·rename_i hb
   rw [List.cons_append,show m+1+n=(m+n)+1 by omega,scan,if_neg hb,show m+n+kids sig c=(m+kids sig c)+n by omega]
   exact xQh sig u _ n r h
theorem qNi (sig:Sg):∀ us:List (List Int),(∀ u∈us,qZn sig u)→scan sig us.length us.flatten=0
 | [],_=>rfl
 | u::us,h=>by
  rw [List.flatten_cons,List.length_cons,Nat.add_comm]
  rw [xQh sig u 1 us.length us.flatten (h u (by simp))]
  exact qNi sig us fun v hv=>h v (by simp [hv])
theorem qRq {sig:Sg} {u v r s:List Int} (hu:qZn sig u) (hv:qZn sig v) (h:u++r=v++s):u=v∧r=s:=by
 have h1:=qPv sig u 1 r hu
 have h2:=qPv sig v 1 s hv
 rw [h,h2] at h1
 have:r=s:=by injection h1 with _ e; exact e.symm
 subst this
 exact ⟨List.append_cancel_right h,rfl⟩
theorem xQx {sig:Sg}:∀ {us vs:List (List Int)},(∀ u∈us,qZn sig u)→(∀ v∈vs,qZn sig v)→us.length=vs.length→us.flatten=vs.flatten→us=vs
 | [],[],_,_,_,_=>rfl
 | [],_::_,_,_,h,_=>by simp at h
 | _::_,[],_,_,h,_=>by simp at h
 | u::us,v::vs,hu,hv,hl,h=>by
  rw [List.flatten_cons,List.flatten_cons] at h
  obtain ⟨e1,e2⟩:=qRq (hu u (by simp)) (hv v (by simp)) h
  rw [e1,xQx (fun x hx=>hu x (by simp [hx])) (fun x hx=>hv x (by simp [hx])) (by simpa using hl) e2]
theorem qFj {sig:Sg}:∀ (n:Nat) (t:List Int),scan sig n t=0→∃ us:List (List Int),us.length=n∧(∀ u∈us,qZn sig u)∧us.flatten=t
 | 0,t,h=>by
  cases t with
  | nil=>exact ⟨[],rfl,by simp,rfl⟩
  | cons c t=>simp [scan] at h
 | n+1,t,h=>by
  have h1:=qDg sig t (n+1)
  rw [h] at h1
  have he:(eat sig (n+1) t).1=0:=by
   rcases xUw sig t (n+1) with e | e | e
   ·exact e
   ·rw [e] at h1; simp at h1
   ·rw [e] at h1; simp at h1
  rw [he] at h1
  have h2:(eat sig (n+1) t).2=[]:=Classical.byContradiction fun hn=>by simp [hn] at h1
  rw [Nat.add_comm,qLx] at he h2
  have he1:(eat sig 1 t).1=0:=Classical.byContradiction fun hn=>by
   rw [if_neg hn] at he; exact hn he
  rw [if_pos he1] at he h2
  obtain ⟨u,hu⟩:=qBs sig t 1
  have hut:qZn sig u:=by
   unfold qZn
   have key:∀ (u:List Int) (m:Nat) (r:List Int),eat sig m (u++r)=(0,r)→scan sig m u=0:=by
    intro u
    induction u with
    | nil =>
     intro m r hh
     cases m with
     | zero=>rfl
     | succ m =>
      exfalso
      have:=xLl sig (t:=r) (n:=m) (by rw [List.nil_append] at hh; rw [hh])
      rw [List.nil_append] at hh
      rw [hh] at this; simp at this
    | cons c u ih =>
     intro m r hh
     cases m with
     | zero =>
      simp only [List.cons_append,eat] at hh
      have:=congrArg (fun x:Int × List Int=>x.2.length) hh
      simp at this; omega
     | succ m =>
      rw [List.cons_append,eat] at hh
      unfold scan
      split at hh
      ·cases hh
      ·rename_i hb
       rw [if_neg hb]
       exact ih _ r hh
   refine key u 1 (eat sig 1 t).2 ?_
   rw [← hu]
   exact Prod.ext he1 rfl
  obtain ⟨us,h3,h4,h5⟩:=qFj n (eat sig 1 t).2 (by
   rw [qDg,he,h2]; rfl)
  refine ⟨u::us,by simp [h3],fun v hv=>?_,?_⟩
  ·rcases List.mem_cons.mp hv with rfl | hv
   ·exact hut
   ·exact h4 v hv
  ·rw [List.flatten_cons,h5]; exact hu.symm
theorem xKn {sig:Sg} {c:Int} {t:List Int} (h:qZn sig (c::t)) (hc:0≤c):c<sig.length∧scan sig (kids sig c) t=0:=by
 unfold qZn scan at h
 split at h
 ·simp at h
 ·rename_i hb
  simp only [badC,Bool.or_eq_true,decide_eq_true_eq,not_or] at hb
  rw [Nat.zero_add] at h
  exact ⟨by omega,h⟩
theorem xKm {sig:Sg} {c:Int} {t:List Int} (h:qZn sig (c::t)) (hc:c<0):t=[]∧-1048576≤c:=by
 unfold qZn scan at h
 split at h
 ·simp at h
 ·rename_i hb
  simp only [badC,Bool.or_eq_true,decide_eq_true_eq,not_or] at hb
  have:kids sig c=0:=by unfold kids; rw [if_pos hc]
  rw [this] at h
  refine ⟨?_,by omega⟩
  cases t with
  | nil=>rfl
  | cons d t=>simp [scan] at h
end Go.Proofs.Sys
namespace Go.Proofs.Sp
open Go Go.Lib Sys
def qMe:List Bs→Bs
 | []=>[41]
 | s::ss=>44::(s++qMe ss)
def qDa:List Bs→Bs
 | []=>[]
 | s::ss=>40::(s++qMe ss)
inductive Wt (sig:Sg):List Int→Bs→Prop
 | var {n:Nat}:n<1048576→Wt sig [-1 - (n:Int)] (95::decDigits n)
 | app {c:Nat} {nm:Bs} {a:Int} {us:List (List Int)} {ss:List Bs}:sig[c]?=some (nm,a)→us.length=a.toNat→ss.length=us.length →
   (∀ (j:Nat) u s,us[j]?=some u→ss[j]?=some s→Wt sig u s)→Wt sig ((c:Int)::us.flatten) (nm++qDa ss)
theorem qLo {sig:Sg} {c:Nat} {nm:Bs} {a:Int} (h:sig[c]?=some (nm,a)):kids sig (c:Int)=a.toNat:=by
 unfold kids
 rw [if_neg (by omega),Int.toNat_natCast,h]; rfl
theorem xKd {sig:Sg} {c:Nat} {nm:Bs} {a:Int} {us:List (List Int)} (h:sig[c]?=some (nm,a)) (hl:us.length=a.toNat) (hu:∀ u∈us,qZn sig u):qZn sig ((c:Int)::us.flatten):=by
 have hc:=(List.getElem?_eq_some_iff.mp h).1
 unfold qZn scan
 rw [if_neg (by unfold badC; simp; omega),Nat.zero_add,qLo h,← hl]
 exact qNi sig us hu
theorem Wt.term {sig:Sg} {u:List Int} {s:Bs} (w:Wt sig u s):qZn sig u:=by
 induction w with
 | var h =>
  unfold qZn scan
  rw [if_neg (by unfold badC; simp; omega)]
  have:∀ c:Int,c<0→kids sig c=0:=fun c hc=>by unfold kids; rw [if_pos hc]
  rw [this _ (by omega)]; rfl
 | app h hl hs _ ih =>
  refine xKd h hl fun u hu=>?_
  obtain ⟨j,hj,rfl⟩:=List.getElem_of_mem hu
  exact ih j _ _ (List.getElem?_eq_getElem hj) (List.getElem?_eq_getElem (by omega))
theorem wt_ex {sig:Sg}:∀ (n:Nat) (u:List Int),u.length≤n→qZn sig u→∃ s,Wt sig u s:=by
 intro n
 induction n with
 | zero=>intro u hn hu; exact absurd (List.length_eq_zero_iff.mp (by omega)) (qGf hu)
 | succ n ih =>
  intro u hn hu
  obtain ⟨c,t,rfl⟩:=List.exists_cons_of_ne_nil (qGf hu)
  by_cases hc:c<0
  ·obtain ⟨rfl,h2⟩:=xKm hu hc
   have:=Wt.var (sig:=sig) (n:=(-1 - c).toNat) (by omega)
   rw [show -1 - (((-1 - c).toNat:Nat):Int)=c by omega] at this
   exact ⟨_,this⟩
  ·obtain ⟨h1,h2⟩:=xKn hu (by omega)
   obtain ⟨us,h3,h4,rfl⟩:=qFj _ _ h2
   obtain ⟨m,rfl⟩:=Int.eq_ofNat_of_zero_le (show 0≤c by omega)
   have hm:m<sig.length:=by omega
   have he:sig[m]?=some (sig[m].1,sig[m].2):=List.getElem?_eq_getElem hm
   have key:∀ us:List (List Int),us.flatten.length≤n→(∀ u∈us,qZn sig u)→∃ ss:List Bs,ss.length=us.length∧∀ (j:Nat) u s,us[j]?=some u→ss[j]?=some s→Wt sig u s:=by
    intro us
    induction us with
    | nil=>intro _ _; exact ⟨[],rfl,fun j u s h=>by simp at h⟩
    | cons v us ih2 =>
     intro hl hv
     rw [List.flatten_cons,List.length_append] at hl
     obtain ⟨s,hs⟩:=ih v (by omega) (hv v (by simp))
     obtain ⟨ss,h5,h6⟩:=ih2 (by omega) fun x hx=>hv x (by simp [hx])
     refine ⟨s::ss,by simp [h5],fun j u t hu ht=>?_⟩
     cases j with
     | zero =>
      simp at hu ht
      subst hu; subst ht; exact hs
     | succ j=>exact h6 j u t (by simpa using hu) (by simpa using ht)
   obtain ⟨ss,h5,h6⟩:=key us (by simp only [List.length_cons] at hn; omega) h4
   exact ⟨_,.app he (by rw [h3,qLo he]) h5 h6⟩
theorem Wt.uni {sig:Sg} {u:List Int} {s:Bs} (w:Wt sig u s):∀ {t:Bs},Wt sig u t→s=t:=by
 induction w with
 | @var n h =>
  intro t w
  generalize hu:[-1 - (n:Int)]=u at w
  cases w with
  | @var m _ =>
   have:n=m:=by injection hu with e _; omega
   rw [this]
  | app h2 _ _ _=>injection hu with e _; omega
 | @app c nm a us ss h hl hs hw ih =>
  intro t w
  generalize hu:(c:Int)::us.flatten=u at w
  cases w with
  | var _=>injection hu with e _; omega
  | @app c' nm' a' us' ss' h' hl' hs' hw' =>
   injection hu with e1 e2
   obtain rfl:c=c':=by omega
   rw [h] at h'
   obtain ⟨rfl,rfl⟩:=Prod.mk.inj (Option.some.inj h')
   have tm:∀ (us:List (List Int)) (ss:List Bs),ss.length=us.length→(∀ (j:Nat) u s,us[j]?=some u→ss[j]?=some s→Wt sig u s)→∀ u∈us,qZn sig u:=fun us ss hs hw u hu=>by
    obtain ⟨j,hj,rfl⟩:=List.getElem_of_mem hu
    exact (hw j _ _ (List.getElem?_eq_getElem hj) (List.getElem?_eq_getElem (by omega))).term
   obtain rfl:=xQx (tm us ss hs hw) (tm us' ss' hs' hw') (by omega) e2
   have:ss=ss':=by
    apply List.ext_getElem (by omega)
    intro j h1 h2
    exact ih j us[j] ss[j] (List.getElem?_eq_getElem (by omega)) (List.getElem?_eq_getElem h1) (hw' j us[j] ss'[j] (List.getElem?_eq_getElem (by omega)) (List.getElem?_eq_getElem h2))
   rw [this]
def xCy (m:Bs):Prop:=∃ b r,m=b::r∧qZj b=true∧∀ x∈r,qYh x=true
def isNm (m:Bs):Prop:=xCy m∨∃ n,xCy n∧m=n++[35]
def Stop (r:Bs):Prop:=∀ b t,r=b::t→qYh b=false∧b≠35
structure Nms (sig:Sg):Prop where
 nm:∀ x∈sig,isNm x.1
 own:∀ (c:Nat) x,sig[c]?=some x→symI (sig.map (·.1)) x.1=some c
theorem qFf {l:List Bs} {s:Bs} {c:Nat} (h:symI l s=some c):l[c]?=some s:=by
 unfold symI at h
 rw [List.findIdx?_eq_some_iff_getElem] at h
 obtain ⟨h1,h2,_⟩:=h
 rw [List.getElem?_eq_getElem h1,eq_of_beq h2]
theorem qNq {sig:Sg} {g:Bs→Except Int (List Int × Bs)} (hg:∀ s u r,g s=.ok (u,r)→∃ t,Wt sig u t∧s=t++r):∀ (n:Nat) (b:Bool) (s:Bs) (l:List Int) (r:Bs),qPq g n b s=.ok (l,r) →
  ∃ (us:List (List Int)) (ss:List Bs),us.length=n∧ss.length=us.length∧l=us.flatten∧(∀ (j:Nat) u s,us[j]?=some u→ss[j]?=some s→Wt sig u s)∧s=(if b then qDa ss else qMe ss)++r
 | 0,true,s,l,r,h=>by
  injection h with h
  obtain ⟨rfl,rfl⟩:=Prod.mk.inj h
  exact ⟨[],[],rfl,rfl,rfl,fun j u s h=>by simp at h,rfl⟩
 | 0,false,s,l,r,h=>by
  unfold qPq at h
  split at h
  ·rename_i hh
   injection h with h
   obtain ⟨rfl,rfl⟩:=Prod.mk.inj h
   refine ⟨[],[],rfl,rfl,rfl,fun j u s h=>by simp at h,?_⟩
   cases s with
   | nil=>simp at hh
   | cons c s =>
    obtain rfl:c=41:=by simpa using hh
    rfl
  ·cases h
 | n+1,b,s,l,r,h=>by
  rw [qPq] at h
  by_cases hh:s.head?=some (if b then 40 else 44)
  ·rw [if_pos hh] at h
   split at h
   ·cases h
   ·rename_i l1 r1 h1
    split at h
    ·cases h
    ·rename_i m r2 h2
     injection h with h
     obtain ⟨rfl,rfl⟩:=Prod.mk.inj h
     obtain ⟨t,ht,e1⟩:=hg _ _ _ h1
     obtain ⟨us,ss,h3,h4,rfl,h5,e2⟩:=qNq hg n false r1 m r2 h2
     refine ⟨l1::us,t::ss,by simp [h3],by simp [h4],rfl,fun j u s hu hs=>?_,?_⟩
     ·cases j with
      | zero =>
       simp at hu hs
       subst hu; subst hs; exact ht
      | succ j=>exact h5 j u s (by simpa using hu) (by simpa using hs)
     ·cases s with
      | nil=>simp at hh
      | cons c s =>
       have hc:c=if b then 40 else 44:=by simpa using hh
       rw [List.drop_succ_cons,List.drop_zero] at e1
       rw [e1,e2,hc]
       cases b <;> simp [qDa,qMe]
  ·rw [if_neg hh] at h
   cases h
theorem xPe {s:Bs} {n:Nat} (h:numT (s.takeWhile qXu) 1048575=some n):n<1048576∧s=decDigits n++s.dropWhile qXu:=by
 obtain ⟨h1,h2⟩:=qYa h
 refine ⟨by omega,?_⟩
 conv=>lhs; rw [← List.takeWhile_append_dropWhile (p:=qXu) (l:=s),h1]
theorem xKq {sig:Sg}:∀ (f:Nat) (s:Bs) (u:List Int) (r:Bs),qAw sig f s=.ok (u,r)→∃ t,Wt sig u t∧s=t++r:=by
 intro f
 induction f with
 | zero=>intro s u r h; cases h
 | succ f ih =>
  intro s u r h
  unfold qAw at h
  split at h
  ·rename_i hh
   split at h
   ·rename_i n hn
    injection h with h
    obtain ⟨rfl,rfl⟩:=Prod.mk.inj h
    obtain ⟨h1,h2⟩:=xPe hn
    refine ⟨_,.var h1,?_⟩
    cases s with
    | nil=>simp at hh
    | cons c s =>
     obtain rfl:c=95:=by simpa using hh
     rw [List.drop_succ_cons,List.drop_zero] at h2 ⊢
     rw [List.cons_append,← h2]
   ·cases h
  ·split at h
   ·cases h
   ·rename_i c hc
    split at h
    ·rename_i l r1 h1
     injection h with h
     obtain ⟨rfl,rfl⟩:=Prod.mk.inj h
     obtain ⟨us,ss,h2,h3,rfl,h4,h5⟩:=qNq ih _ _ _ _ _ h1
     have h6:=qFf hc
     rw [List.getElem?_map] at h6
     obtain ⟨x,hx,hx2⟩:=Option.map_eq_some_iff.mp h6
     refine ⟨_,.app (nm:=x.1) (a:=x.2) hx (by rw [h2]; exact qLo hx) h3 h4,?_⟩
     conv=>lhs; rw [← List.take_append_drop (qPo s) s]
     rw [h5,← hx2,List.append_assoc]; rfl
    ·cases h
theorem qFq {sig:Sg} {u:List Int} {s:Bs} (h:qWj sig s=.ok u):Wt sig u s:=by
 unfold qWj at h
 split at h
 ·cases h
 ·rename_i l r h1
  split at h
  ·rename_i hr
   subst hr
   injection h with h
   subst h
   obtain ⟨t,ht,e⟩:=xKq _ _ _ _ h1
   rw [List.append_nil] at e
   rw [e]; exact ht
  ·cases h
theorem qNp {g:Bs→Except Int (List Int × Bs)} (hg:∀ s u r,g s=.ok (u,r)→u.length+r.length≤s.length+1):∀ (n:Nat) (b:Bool) (s:Bs) (l:List Int) (r:Bs),qPq g n b s=.ok (l,r)→l.length+r.length≤s.length
 | 0,true,s,l,r,h=>by
  injection h with h
  obtain ⟨rfl,rfl⟩:=Prod.mk.inj h
  simp
 | 0,false,s,l,r,h=>by
  unfold qPq at h
  split at h
  ·injection h with h
   obtain ⟨rfl,rfl⟩:=Prod.mk.inj h
   simp
  ·cases h
 | n+1,b,s,l,r,h=>by
  rw [qPq] at h
  by_cases hh:s.head?=some (if b then 40 else 44)
  ·rw [if_pos hh] at h
   split at h
   ·cases h
   ·rename_i l1 r1 h1
    split at h
    ·cases h
    ·rename_i m r2 h2
     injection h with h
     obtain ⟨rfl,rfl⟩:=Prod.mk.inj h
     have e1:=hg _ _ _ h1
     have e2:=qNp hg n false r1 m r2 h2
     have:s≠[]:=by rintro rfl; simp at hh
     have:=List.length_pos_iff.mpr this
     simp only [List.length_drop] at e1
     rw [List.length_append]; omega
  ·rw [if_neg hh] at h
   cases h
theorem qCq {p:UInt8→Bool}:∀ l:Bs,(l.dropWhile p).length≤l.length
 | []=>by simp
 | a::l=>by
  rw [List.dropWhile_cons]
  split
  ·have:=qCq (p:=p) l; simp only [List.length_cons]; omega
  ·simp
theorem qLa {sig:Sg}:∀ (f:Nat) (s:Bs) (u:List Int) (r:Bs),qAw sig f s=.ok (u,r)→u.length+r.length≤s.length+1:=by
 intro f
 induction f with
 | zero=>intro s u r h; cases h
 | succ f ih =>
  intro s u r h
  unfold qAw at h
  split at h
  ·split at h
   ·injection h with h
    obtain ⟨rfl,rfl⟩:=Prod.mk.inj h
    have:=qCq (p:=qXu) (s.drop 1)
    simp only [List.length_drop] at this
    simp only [List.length_singleton]; omega
   ·cases h
  ·split at h
   ·cases h
   ·split at h
    ·rename_i l r1 h1
     injection h with h
     obtain ⟨rfl,rfl⟩:=Prod.mk.inj h
     have:=qNp ih _ _ _ _ _ h1
     simp only [List.length_drop] at this
     rw [List.length_cons]; omega
    ·cases h
end Go.Proofs.Sp
namespace Go.Proofs.Nats
abbrev B:Nat:=4294967296
def val:List Nat→Nat
 | []=>0
 | x::l=>x+B*val l
def limbs (n:Nat):List Nat:=if h:n=0 then [] else (n % B)::limbs (n / B)
termination_by n
decreasing_by exact Nat.div_lt_self (Nat.pos_of_ne_zero h) (by decide)
def Ok (l:List Nat):Prop:=∀ x∈l,x<B
theorem qVj:limbs 0=[]:=by rw [limbs]; simp
theorem qKc {n:Nat} (h:n≠0):limbs n=(n % B)::limbs (n / B):=by rw [limbs]; simp [h]
theorem qWx (n:Nat):val (limbs n)=n:=by
 induction n using Nat.strongRecOn with
 | _ n ih =>
  by_cases h:n=0
  ·subst h; rw [qVj]; rfl
  ·rw [qKc h,val,ih (n / B) (Nat.div_lt_self (Nat.pos_of_ne_zero h) (by decide))]
   exact Nat.mod_add_div n B
theorem qLe (n:Nat):Ok (limbs n):=by
 induction n using Nat.strongRecOn with
 | _ n ih =>
  by_cases h:n=0
  ·subst h; rw [qVj]; intro x hx; simp at hx
  ·rw [qKc h]
   intro x hx
   rcases List.mem_cons.mp hx with rfl | hx
   ·exact Nat.mod_lt _ (by decide)
   ·exact ih (n / B) (Nat.div_lt_self (Nat.pos_of_ne_zero h) (by decide)) x hx
theorem Ok.tail {x:Nat} {l:List Nat} (h:Ok (x::l)):Ok l:=fun y hy=>h y (by simp [hy])
theorem Ok.take {l:List Nat} (h:Ok l) (n:Nat):Ok (l.take n):=fun y hy=>h y (List.mem_of_mem_take hy)
theorem qYq:∀ {l:List Nat},Ok l→(l=[]∨l.getLast?≠some 0)→l=limbs (val l)
 | [],_,_=>by rw [val,qVj]
 | x::l,ok,hl=>by
  have hx:x<B:=ok x (by simp)
  have htail:l=[]∨l.getLast?≠some 0:=by
   rcases l with _ | ⟨y,l⟩
   ·exact .inl rfl
   ·refine .inr fun h0=>?_
    rcases hl with hl | hl
    ·cases hl
    ·apply hl; rw [List.getLast?_cons_cons]; exact h0
  have ih:=qYq ok.tail htail
  have hne:val (x::l)≠0:=by
   intro h0
   rw [val] at h0
   have hx0:x=0:=by omega
   have hv0:val l=0:=by
    have:B*val l=0:=by omega
    rcases Nat.mul_eq_zero.mp this with h | h
    ·exact absurd h (by decide)
    ·exact h
   rw [hv0,qVj] at ih
   subst ih hx0
   rcases hl with hl | hl
   ·cases hl
   ·exact hl rfl
  rw [qKc hne]
  have h1:val (x::l) % B=x:=by rw [val,Nat.add_mul_mod_self_left,Nat.mod_eq_of_lt hx]
  have h2:val (x::l) / B=val l:=by rw [val,Nat.add_mul_div_left _ _ (by decide),Nat.div_eq_of_lt hx,Nat.zero_add]
  rw [h1,h2,← ih]
theorem qIg (n:Nat):limbs n=[]∨(limbs n).getLast?≠some 0:=by
  induction n using Nat.strongRecOn with
  | _ n ih =>
    by_cases h:n=0
    · subst h; exact .inl qVj
    · refine .inr ?_
      rw [qKc h]
      rcases ih (n / B) (Nat.div_lt_self (Nat.pos_of_ne_zero h) (by decide)) with h1 | h1
      · rw [h1]
        have h0:n / B=0:=by
          have:=congrArg val h1
          rw [qWx] at this; exact this
        have:n % B=n:=Nat.mod_eq_of_lt ((Nat.div_eq_zero_iff_lt (by decide)).mp h0)
        rw [this]
        simpa using h
      · cases hl:limbs (n / B) with
        | nil => rw [hl] at h1; simp at h1
                 have h0:n / B=0:=by
                   have:=congrArg val hl
                   rw [qWx] at this; exact this
                 have:n % B=n:=Nat.mod_eq_of_lt ((Nat.div_eq_zero_iff_lt (by decide)).mp h0)
                 rw [this]
                 simpa using h
        | cons y l=>rw [hl] at h1; rw [List.getLast?_cons_cons]; exact h1
theorem qJe:∀ (l m:List Nat),val (l++m)=val l+B ^ l.length*val m
 | [],m=>by simp [val]
 | x::l,m=>by
  rw [List.cons_append,val,qJe l m,val,List.length_cons,Nat.pow_succ]
  rw [Nat.mul_add,← Nat.mul_assoc,Nat.mul_comm B (B ^ l.length),Nat.add_assoc]
theorem qNa:∀ {l:List Nat},(∀ x∈l,x=0)→val l=0
 | [],_=>rfl
 | x::l,h=>by
  rw [val,h x (by simp),qNa fun y hy=>h y (by simp [hy])]
  rfl
theorem qKz {l:List Nat} (ok:Ok l) {k:Nat} (hz:∀ j,k≤j→∀ x,l[j]?=some x→x=0) (hk:k=0∨∃ x,l[k - 1]?=some x∧x≠0) (hle:k≤l.length):l.take k=limbs (val l):=by
 have hv:val l=val (l.take k):=by
  conv=>lhs; rw [← List.take_append_drop k l]
  rw [qJe,qNa (l:=l.drop k),Nat.mul_zero,Nat.add_zero]
  intro x hx
  obtain ⟨i,hi⟩:=List.getElem?_of_mem hx
  rw [List.getElem?_drop] at hi
  exact hz (k+i) (by omega) x hi
 rw [hv]
 refine qYq (ok.take k) ?_
 rcases hk with rfl | ⟨x,hx,hne⟩
 ·exact .inl (by simp)
 ·by_cases h0:k=0
  ·subst h0; exact .inl (by simp)
  ·refine .inr ?_
   rw [List.getLast?_eq_getElem?,List.length_take,Nat.min_eq_left hle,List.getElem?_take,if_pos (by omega),hx]
   simpa using hne
def right (l:List Nat):Prop:=l.length≤64∧l=limbs (val l)
instance (l:List Nat):Decidable (right l):=inferInstanceAs (Decidable (_∧_))
theorem xJk {l:List Nat} (ok:Ok l):right l↔l.length≤64∧(l=[]∨l.getLast?≠some 0):=by
 constructor
 ·rintro ⟨h1,h2⟩
  refine ⟨h1,?_⟩
  have:=qIg (val l)
  rw [← h2] at this; exact this
 ·rintro ⟨h1,h2⟩
  exact ⟨h1,qYq ok h2⟩
def dig (l:List Nat) (i:Nat):Nat:=l[i]?.getD 0
theorem xLm {l:List Nat} (ok:Ok l) (i:Nat):dig l i<B:=by
 unfold dig
 cases h:l[i]? with
 | none=>decide
 | some x=>exact ok x (List.mem_of_getElem? h)
theorem qOx {l:List Nat} {i x:Nat} (h:l[i]?=some x):dig l i=x:=by simp [dig,h]
theorem xGo {l:List Nat} {i:Nat} (h:l.length≤i):dig l i=0:=by simp [dig,List.getElem?_eq_none h]
theorem qZv (l:List Nat) (i:Nat):val (l.take (i+1))=val (l.take i)+B ^ i*dig l i:=by
 by_cases h:i<l.length
 ·rw [List.take_add_one,qJe,List.length_take,Nat.min_eq_left (by omega)]
  rw [List.getElem?_eq_getElem h]
  simp [val,dig,h]
 ·rw [List.take_of_length_le (by omega),List.take_of_length_le (by omega),xGo (by omega)]; simp
theorem qDc {l:List Nat} {n:Nat} (h:l.length≤n):val (l.take n)=val l:=by rw [List.take_of_length_le h]
theorem qIu {l:List Nat} {i x:Nat} (h:i<l.length):(l.set i x).take (i+1)=l.take i++[x]:=by
 apply List.ext_getElem?
 intro j
 rw [List.getElem?_take,List.getElem?_set,List.getElem?_append,List.length_take,Nat.min_eq_left (by omega)]
 by_cases h1:j<i
 ·rw [if_pos (by omega),if_neg (by omega),if_pos h1,List.getElem?_take,if_pos h1]
 ·rw [if_neg h1]
  by_cases h2:i=j
  ·subst h2; simp [h]
  ·rw [if_neg (by omega),List.getElem?_eq_none (by simp; omega)]
theorem qNb {l:List Nat} {i x:Nat} (h:i<l.length):val ((l.set i x).take (i+1))=val (l.take i)+B ^ i*x:=by
 rw [qIu h,qJe,List.length_take,Nat.min_eq_left (by omega)]; simp [val]
theorem Ok.set {l:List Nat} (h:Ok l) {i x:Nat} (hx:x<B):Ok (l.set i x):=fun y hy=>by
 rcases List.mem_or_eq_of_mem_set hy with h1 | rfl
 ·exact h y h1
 ·exact hx
theorem xKv (n:Nat):Ok (List.replicate n 0):=fun y hy=>by rw [(List.mem_replicate.mp hy).2]; decide
theorem xWz {l:List Nat} (ok:Ok l):val l<B ^ l.length:=by
 induction l with
 | nil=>simp [val]
 | cons x l ih =>
  have h1:=ih ok.tail
  have h2:=ok x (by simp)
  rw [val,List.length_cons,Nat.pow_succ]
  have h3:B*(val l+1)≤B*B ^ l.length:=Nat.mul_le_mul_left _ h1
  have h4:B*(val l+1)=B*val l+B:=by rw [Nat.mul_add,Nat.mul_one]
  rw [Nat.mul_comm (B ^ l.length) B]
  omega
theorem qRn {l:List Nat} (ok:Ok l) (i:Nat):val (l.take i)<B ^ i:=by
 induction i with
 | zero=>simp [val]
 | succ i ih =>
  rw [qZv,Nat.pow_succ]
  have h1:=xLm ok i
  have:B ^ i*(dig l i+1)≤B ^ i*B:=Nat.mul_le_mul_left _ h1
  rw [Nat.mul_add,Nat.mul_one] at this
  omega
theorem xWa {o c s t p q:Nat} (h:o+p*c=s) (ht:t=c+q):(o+p*(t % B))+(p*B)*(t / B)=s+p*q:=by
 subst ht
 have h1:p*((c+q) % B)+(p*B)*((c+q) / B)=p*(c+q):=by
  rw [Nat.mul_assoc,← Nat.mul_add,Nat.mod_add_div]
 rw [Nat.add_assoc,h1,Nat.mul_add,← h]; omega
def outcome (ok:Bool) (v:Nat):List Nat × Int:=if ok then (if (limbs v).length≤64 then (limbs v,0) else ([],2)) else ([],10)
def both (l m:List Nat):Bool:=decide (right l) && decide (right m)
end Go.Proofs.Nats
namespace Go.Proofs.Sp
open Go Go.Lib Sys Nats
def Out {α:Type} (x:Except Int α) (ok:α→Prop) (bad:Int→Prop):Prop:=match x with
 | .ok a=>ok a
 | .error e=>bad e
def must (b:Bool) (e:Int):Except Int Unit:=if b then .ok () else .error e
theorem qQk {α β:Type} {x:Except Int α} {f:α→Except Int β} {ok:β→Prop} {bad:Int→Prop}:Out (x >>= f) ok bad↔Out x (fun a=>Out (f a) ok bad) bad:=by
 cases x <;> rfl
theorem qAk {α:Type} {a:α} {ok:α→Prop} {bad:Int→Prop}:Out (.ok a) ok bad=ok a:=rfl
theorem qXx {b:Bool} {e:Int} {ok:Unit→Prop} {bad:Int→Prop}:Out (must b e) ok bad↔(b=true→ok ())∧(b=false→bad e):=by
 cases b <;> simp [must,Out]
theorem qQg {α β:Type} {x:Except Int α} {f:α→Except Int β} {b:β}:(x >>= f)=.ok b↔∃ a,x=.ok a∧f a=.ok b:=by
 cases x <;> simp [Bind.bind,Except.bind]
theorem qBk {b:Bool} {e:Int} {u:Unit}:must b e=.ok u↔b=true:=by cases b <;> simp [must]
def opt {α:Type} (x:Option α) (e:Int):Except Int α:=match x with
 | some a=>.ok a
 | none=>.error e
theorem qIb {α:Type} {x:Option α} {e:Int} {a:α}:opt x e=.ok a↔x=some a:=by cases x <;> simp [opt]
structure Mo where
 coef:List Nat
 exps:List Int
structure It where
 sym:Int
 p:List Mo
structure Nd where
 kind:Int
 kids:Int
 prec:List (Int × Int)
 ints:List It
structure Cm where
 word:Bs
 terms:List (List Int)
abbrev Ru:=List Int × List Int
structure Bk where
 sig:Sg
 rules:List Ru
 eqs:List Ru
 prec:List (Int × Int)
 cert:List Nd
 cmds:List Cm
def Bk.nil:Bk:=⟨[],[],[],[],[],[]⟩
def wSym:Bs:=[115,121,109]
def qHh:Bs:=[114,117,108,101]
def wEq:Bs:=[101,113]
def qYl:Bs:=[97,98,111,118,101]
def qKx:Bs:=[110,111,100,101]
def qKw:Bs:=[111,118,101,114]
def wSet:Bs:=[115,101,116]
def qAs:Bs:=[109,111,110,111]
def qAi:Bs:=[99,104,101,99,107]
def qVb:Bs:=[99,114,105,116,105,99,97,108]
def qHi:Bs:=[106,111,105,110]
def qPs:Bs:=[112,97,105,114,115]
def qVc:Bs:=[99,111,109,112,108,101,116,101]
def qVt:Bs:=[110,111,114,109,97,108]
def qEn:Bs:=[101,113,117,97,108]
def qEo:Bs:=[45,62]
def wIs:Bs:=[61]
def kinds:List Bs:=[[],[108,112,111],[112,111,108,121],qPs,[100,114,111,112,108,112,111],[100,114,111,112,112,111,108,121]]
def most:Nat:=2147483647
def qEf (w:Bs):Nat:=if w∈kinds then kinds.idxOf w else 0
def qId (m:Bs):Bool:=qVs ⟨m.toArray⟩
def qWf (sig:Sg) (w:Bs) (marked:Bool):Option Int:=match symI (sig.map (·.1)) w with
 | some c=>some (c:Int)
 | none=>if marked && w.getLast?==some 35 then (symI (sig.map (·.1)) w.dropLast).map (fun c=>((c+sig.length:Nat):Int)) else none
def xAk (l:Bs):Option (List Nat):=match numV l with
 | some n=>if (limbs n).length≤64 then some (limbs n) else none
 | none=>none
def qAy (top:Nat):List Bs→Option (List Int)
 | []=>some []
 | w::ws=>match numT w top with
  | some n=>(qAy top ws).map ((n:Int)::·)
  | none=>none
def at1 (w:List Bs) (i:Nat):Bs:=(w[i]?).getD []
def count (w:List Bs) (n:Nat):Except Int Unit:=must (w.length==n) 222
def qJa (sig:Sg) (w:List Bs) (mid:Bs):Except Int Ru :=
 must (w.length==4 && at1 w 2==mid) 222 >>= fun _=>qWj sig (at1 w 1) >>= fun l=>qWj sig (at1 w 3) >>= fun r=>.ok (l,r)
def qAg (B:Bk):Except Int Nd:=opt B.cert.getLast? 222
def qVn (B:Bk) (n:Nd):Bk:={ B with cert:=B.cert.dropLast++[n] }
def qSo (B:Bk) (w:List Bs):Except Int Bk :=
 let c:=at1 w 0
 if c=qHh then qJa B.sig w qEo >>= fun r=>must (decide (B.rules.length+1≤64)) 226 >>= fun _=>.ok { B with rules:=B.rules++[r] }
 else if c=wEq then qJa B.sig w wIs >>= fun r=>must (decide (B.eqs.length+1≤64)) 226 >>= fun _=>.ok { B with eqs:=B.eqs++[r] }
 else if c=qYl then count w 3 >>= fun _=>opt (qWf B.sig (at1 w 1) false) 223 >>= fun a=>opt (qWf B.sig (at1 w 2) false) 223 >>= fun b=>.ok { B with prec:=B.prec++[(a,b)] }
 else if c=qKx then count w 3 >>= fun _=>must (decide (0<qEf (at1 w 1))) 223 >>= fun _=>opt (numT (at1 w 2) most) 225 >>= fun n=>.ok { B with cert:=B.cert++[⟨(qEf (at1 w 1):Nat),(n:Int),[],[]⟩] }
 else if c=qKw then count w 3 >>= fun _=>qAg B >>= fun n=>opt (qWf B.sig (at1 w 1) true) 223 >>= fun a=>opt (qWf B.sig (at1 w 2) true) 223 >>= fun b=>.ok (qVn B { n with prec:=n.prec++[(a,b)] })
 else if c=wSet then count w 2 >>= fun _=>qAg B >>= fun n=>opt (qWf B.sig (at1 w 1) true) 223 >>= fun a=>.ok (qVn B { n with ints:=n.ints++[⟨a,[]⟩] })
 else if c=qAs then must (decide (1<w.length)) 222 >>= fun _=>qAg B >>= fun n=>opt n.ints.getLast? 222 >>= fun i=>opt (xAk (at1 w 1)) 225 >>= fun co=>opt (qAy most (w.drop 2)) 225 >>= fun es =>
  .ok (qVn B { n with ints:=n.ints.dropLast++[{ i with p:=i.p++[⟨co,es⟩] }] })
 else if c=qAi∨c=qVb∨c=qHi∨c=qPs∨c=qVc then count w 1 >>= fun _=>.ok { B with cmds:=B.cmds++[⟨c,[]⟩] }
 else if c=qVt then count w 2 >>= fun _=>qWj B.sig (at1 w 1) >>= fun l=>.ok { B with cmds:=B.cmds++[⟨c,[l]⟩] }
 else if c=qEn then qJa B.sig w wIs >>= fun r=>.ok { B with cmds:=B.cmds++[⟨c,[r.1,r.2]⟩] }
 else .error 222
def symM (B:Bk) (past:Bool) (w:List Bs):Except Int Bk :=
 count w 3 >>= fun _=>must (!past) 222 >>= fun _=>must (qId (at1 w 1) && (symI (B.sig.map (·.1)) (at1 w 1)).isNone) 223 >>= fun _=>opt (numT (at1 w 2) 8) 225 >>= fun n =>
  must (decide (B.sig.length+1≤64)) 226 >>= fun _=>.ok { B with sig:=B.sig++[(at1 w 1,(n:Int))] }
def qCw (B:Bk) (past:Bool) (w:List Bs):Except Int (Bk × Bool) :=
 if at1 w 0=wSym then symM B past w >>= fun B=>.ok (B,past) else qSo B w >>= fun B=>.ok (B,true)
def qXl (x:UInt8):Bs→List Bs
 | []=>[[]]
 | b::l=>if b=x then []::qXl x l else match qXl x l with
  | []=>[[b]]
  | c::cs=>(b::c)::cs
def qQj (l:Bs):List Bs:=(qXl 32 l).filter (·≠[])
def mute (w:List Bs):Bool:=match w with
 | []=>true
 | x::_=>x.head?==some 35
def xQt:Bk→Bool→Nat→List Bs→Bk × Nat × Int
 | B,_,_,[]=>(B,0,0)
 | B,past,n,l::ls=>if mute (qQj l) then xQt B past (n+1) ls else match qCw B past (qQj l) with
  | .ok (B,past)=>xQt B past (n+1) ls
  | .error e=>(Bk.nil,n+1,e)
open Classical in
noncomputable def W (sig:Sg) (u:List Int):Bs:=if h:∃ s,Wt sig u s then h.choose else []
theorem qRh {sig:Sg} {u:List Int} (h:qZn sig u):Wt sig u (W sig u):=by
 have h1:=wt_ex u.length u (Nat.le_refl _) h
 unfold W
 rw [dif_pos h1]
 exact h1.choose_spec
theorem W_of {sig:Sg} {u:List Int} {s:Bs} (h:Wt sig u s):W sig u=s:=(qRh h.term).uni h
noncomputable def qJv (sig:Sg) (u:List Int):Except Int Bs:=if scan sig 1 u≠0 then .error (scan sig 1 u) else .ok (W sig u)
def qLj (sig:Sg) (c:Int) (marked:Bool):Except Int Bs :=
 must (decide (0≤c) && (decide (c<sig.length) || marked && decide (c<2*sig.length))) 223 >>= fun _ =>
  .ok (if c<sig.length then ((sig[c.toNat]?).map (·.1)).getD [] else ((sig[(c - sig.length).toNat]?).map (·.1)).getD []++[35])
def numM (n:Int):Except Int Bs:=must (decide (0≤n) && decide (n≤most)) 225 >>= fun _=>.ok (decDigits n.toNat)
def qYi (ws:List Bs):Bs:=[32].intercalate ws++[10]
def allM {α:Type} (f:α→Except Int Bs):List α→Except Int Bs
 | []=>.ok []
 | x::l=>f x >>= fun a=>allM f l >>= fun b=>.ok (a++b)
def rowM {α:Type} (f:α→Except Int Bs):List α→Except Int (List Bs)
 | []=>.ok []
 | x::l=>f x >>= fun a=>rowM f l >>= fun b=>.ok (a::b)
def symW (x:Bs × Int):Except Int Bs:=must (!(x.1.getLast?==some 35)) 223 >>= fun _=>numM x.2 >>= fun n=>.ok (qYi [wSym,x.1,n])
noncomputable def qIw (sig:Sg) (first mid:Bs) (r:Ru):Except Int Bs:=qJv sig r.1 >>= fun a=>qJv sig r.2 >>= fun b=>.ok (qYi [first,a,mid,b])
noncomputable def qCk (sig:Sg) (first mid:Bs) (l:List Ru):Except Int Bs:=allM (qIw sig first mid) l >>= fun s=>must (decide (l.length≤64)) 226 >>= fun _=>.ok s
def qFs (sig:Sg) (first:Bs) (marked:Bool) (x:Int × Int):Except Int Bs:=qLj sig x.1 marked >>= fun a=>qLj sig x.2 marked >>= fun b=>.ok (qYi [first,a,b])
def xAl (l:List Nat):Except Int Bs:=must (decide (l.length≤64) && decide (l=limbs (val l))) 225 >>= fun _=>.ok (decDigits (val l))
def qHl (m:Mo):Except Int Bs:=xAl m.coef >>= fun c=>rowM numM m.exps >>= fun es=>.ok (qYi (qAs::c::es))
def intW (sig:Sg) (i:It):Except Int Bs:=qLj sig i.sym true >>= fun a=>allM qHl i.p >>= fun s=>.ok (qYi [wSet,a]++s)
def qOg (sig:Sg) (n:Nd):Except Int Bs:=must (decide (0<n.kind) && decide (n.kind<6)) 222 >>= fun _=>numM n.kids >>= fun k=>allM (qFs sig qKw true) n.prec >>= fun s1=>allM (intW sig) n.ints >>= fun s2 =>
 .ok (qYi [qKx,at1 kinds n.kind.toNat,k]++s1++s2)
def qRm (w:Bs):Except Int Nat:=if w=qAi∨w=qVb∨w=qHi∨w=qPs∨w=qVc then .ok 0 else if w=qVt then .ok 1 else if w=qEn then .ok 2 else .error 222
def between (x:Bs):List Bs→List Bs
 | []=>[]
 | [a]=>[a]
 | a::l=>a::x::between x l
noncomputable def cmdW (sig:Sg) (c:Cm):Except Int Bs:=qRm c.word >>= fun n=>must (c.terms.length==n) 224 >>= fun _=>rowM (qJv sig) c.terms >>= fun ts=>.ok (qYi (c.word::between wIs ts))
noncomputable def xJt (sgE:Int) (B:Bk):Except Int Bs :=
 if sgE≠0 then .error sgE else must (decide (B.sig.length≤64)) 226 >>= fun _=>allM symW B.sig >>= fun s1=>qCk B.sig qHh qEo B.rules >>= fun s2=>qCk B.sig wEq wIs B.eqs >>= fun s3 =>
  allM (qFs B.sig qYl false) B.prec >>= fun s4=>allM (qOg B.sig) B.cert >>= fun s5=>allM (cmdW B.sig) B.cmds >>= fun s6 =>
  must (decide ((s1++s2++s3++s4++s5++s6).length≤65536) && decide ((s1++s2++s3++s4++s5++s6).count 10<4096)) 220 >>= fun _=>.ok (s1++s2++s3++s4++s5++s6)
end Go.Proofs.Sp
namespace Go.Proofs.Sp
open Go Go.Lib
theorem xBl (l:List UInt8) (i:Nat):(⟨l.toArray⟩:ByteArray).get! i=l.getD i 0:=by
 unfold ByteArray.get!
 simp only [List.getD_eq_getElem?_getD]
 by_cases h:i<l.length
 ·rw [getElem!_pos _ _ (by simpa using h)]; simp [h]
 ·rw [getElem!_neg _ _ (by simpa using h)]
  rw [List.getElem?_eq_none (by omega)]; rfl
theorem decL (l:List UInt8):decodeL l=decodeN l.length (l.getD 0 0).toNat (l.getD 1 0).toNat (l.getD 2 0).toNat (l.getD 3 0).toNat:=by
 unfold decodeL
 rw [decode_at]
 simp only [xBl]
 rfl
set_option maxHeartbeats 4000000 in
theorem qOy {n m b0 b1 b2 b3 c1 c2 c3:Nat} (hm:n≤m) (h1:1<n→c1=b1) (h2:2<n→c2=b2) (h3:3<n→c3=b3) (hok:decodeN n b0 b1 b2 b3≠(65533,1)):decodeN m b0 c1 c2 c3=decodeN n b0 b1 b2 b3:=by
 unfold decodeN at hok ⊢
 by_cases g0:b0<128
 ·rw [if_pos g0,if_pos g0]
 rw [if_neg g0] at hok ⊢
 rw [if_neg g0]
 by_cases g1:b0 / 32=6∧(1<n∧b1 / 64=2)
 ·obtain rfl:=h1 g1.2.1
  rw [if_pos g1,if_pos ⟨g1.1,by omega,g1.2.2⟩]
 rw [if_neg g1] at hok ⊢
 by_cases g2:b0 / 16=14∧(1<n∧b1 / 64=2)∧(2<n∧b2 / 64=2)
 ·obtain rfl:=h1 g2.2.1.1
  obtain rfl:=h2 g2.2.2.1
  rw [if_pos g2,if_neg (by omega),if_pos ⟨g2.1,⟨by omega,g2.2.1.2⟩,by omega,g2.2.2.2⟩]
 rw [if_neg g2] at hok ⊢
 by_cases g3:b0 / 8=30∧(1<n∧b1 / 64=2)∧(2<n∧b2 / 64=2)∧(3<n∧b3 / 64=2)
 ·obtain rfl:=h1 g3.2.1.1
  obtain rfl:=h2 g3.2.2.1.1
  obtain rfl:=h3 g3.2.2.2.1
  rw [if_pos g3,if_neg (by omega),if_neg (by omega),if_pos ⟨g3.1,⟨by omega,g3.2.1.2⟩,⟨by omega,g3.2.2.1.2⟩,by omega,g3.2.2.2.2⟩]
 rw [if_neg g3] at hok
 exact absurd rfl hok
set_option maxHeartbeats 4000000 in
theorem qTe {n m b0 b1 b2 b3 c1 c2 c3:Nat} (hn:1≤n) (hm:n≤m) (h1:1<n→c1=b1) (h2:2<n→c2=b2) (h3:3<n→c3=b3) (g1:n=1→c1<128) (g2:n=2→c2<128) (g3:n=3→c3<128):decodeN m b0 c1 c2 c3=decodeN n b0 b1 b2 b3:=by
 by_cases hok:decodeN n b0 b1 b2 b3=(65533,1)
 ·rw [hok]
  unfold decodeN at hok ⊢
  by_cases e0:b0<128
  ·rw [if_pos e0] at hok ⊢; exact hok
  rw [if_neg e0] at hok ⊢
  by_cases e1:b0 / 32=6∧(1<n∧b1 / 64=2)
  ·obtain rfl:=h1 e1.2.1
   rw [if_pos e1] at hok
   rw [if_pos ⟨e1.1,by omega,e1.2.2⟩]; exact hok
  rw [if_neg e1] at hok
  rw [if_neg]
  ·by_cases e2:b0 / 16=14∧(1<n∧b1 / 64=2)∧(2<n∧b2 / 64=2)
   ·obtain rfl:=h1 e2.2.1.1
    obtain rfl:=h2 e2.2.2.1
    rw [if_pos e2] at hok
    rw [if_pos ⟨e2.1,⟨by omega,e2.2.1.2⟩,by omega,e2.2.2.2⟩]; exact hok
   rw [if_neg e2] at hok
   rw [if_neg]
   ·by_cases e3:b0 / 8=30∧(1<n∧b1 / 64=2)∧(2<n∧b2 / 64=2)∧(3<n∧b3 / 64=2)
    ·obtain rfl:=h1 e3.2.1.1
     obtain rfl:=h2 e3.2.2.1.1
     obtain rfl:=h3 e3.2.2.2.1
     rw [if_pos e3] at hok
     rw [if_pos ⟨e3.1,⟨by omega,e3.2.1.2⟩,⟨by omega,e3.2.2.1.2⟩,by omega,e3.2.2.2.2⟩]; exact hok
    rw [if_neg]
    rintro ⟨q0,⟨q1,q2⟩,⟨q3,q4⟩,q5,q6⟩
    rcases (by omega:n=1∨n=2∨n=3∨3<n) with rfl | rfl | rfl | hn3
    ·have:=g1 rfl; omega
    ·have:=g2 rfl; omega
    ·have:=g3 rfl; omega
    ·have a1:=h1 (by omega); have a2:=h2 (by omega); have a3:=h3 hn3
     subst a1; subst a2; subst a3
     exact e3 ⟨q0,⟨by omega,q2⟩,⟨by omega,q4⟩,hn3,q6⟩
   ·rintro ⟨q0,⟨q1,q2⟩,q3,q4⟩
    rcases (by omega:n=1∨n=2∨2<n) with rfl | rfl | hn3
    ·have:=g1 rfl; omega
    ·have:=g2 rfl; omega
    ·have a1:=h1 (by omega); have a2:=h2 (by omega)
     subst a1; subst a2
     exact e2 ⟨q0,⟨by omega,q2⟩,hn3,q4⟩
  ·rintro ⟨q0,q1,q2⟩
   rcases (by omega:n=1∨1<n) with rfl | hn3
   ·have:=g1 rfl; omega
   ·have a1:=h1 hn3
    subst a1
    exact e1 ⟨q0,hn3,q2⟩
 ·exact qOy hm h1 h2 h3 hok
theorem xAb {n b0 b1 b2 b3:Nat} (hn:1≤n):1≤(decodeN n b0 b1 b2 b3).2∧(decodeN n b0 b1 b2 b3).2≤n:=by
 unfold decodeN
 repeat' split
 all_goals (dsimp only; omega)
theorem qDp {a b:List UInt8} {i:Nat} (h:i<a.length):(a++b).getD i 0=a.getD i 0:=by
 rw [List.getD_eq_getElem?_getD,List.getD_eq_getElem?_getD,List.getElem?_append_left h]
theorem xGq {a b:List UInt8} {c:UInt8} (ha:a≠[]) (hc:c.toNat<128):decodeL (a++c::b)=decodeL a:=by
 have hl:=List.length_pos_iff.mpr ha
 have hx:∀ n,a.length=n→((a++c::b).getD n 0).toNat<128:=fun n hn=>by
  rw [List.getD_eq_getElem?_getD,List.getElem?_append_right (by omega),show n - a.length=0 by omega]
  exact hc
 rw [decL,decL,qDp (i:=0) hl]
 exact qTe hl (by simp) (fun h=>by rw [qDp h]) (fun h=>by rw [qDp h]) (fun h=>by rw [qDp h]) (hx 1) (hx 2) (hx 3)
theorem xVx {a:List UInt8} (ha:a≠[]):1≤(decodeL a).2∧(decodeL a).2≤a.length:=by
 rw [decL]; exact xAb (List.length_pos_iff.mpr ha)
theorem xWx {b:List UInt8} {c:UInt8} (hc:c.toNat<128):∀ (n:Nat) (a:List UInt8),a.length≤n→validD (a++c::b)=(validD a && validD (c::b)):=by
 intro n
 induction n with
 | zero =>
  intro a ha
  obtain rfl:=List.length_eq_zero_iff.mp (show a.length=0 by omega)
  rfl
 | succ n ih =>
  intro a ha
  by_cases h0:a=[]
  ·subst h0; rfl
  ·obtain ⟨w1,w2⟩:=xVx h0
   rw [validD_step _ (by simp),validD_step a h0,xGq h0 hc]
   split
   ·rfl
   ·rw [List.drop_append_of_le_length w2]
    exact ih _ (by rw [List.length_drop]; omega)
theorem qUr {a b:List UInt8} {c:UInt8} (hc:c.toNat<128):validD (a++c::b)=(validD a && validD b):=by
 rw [xWx hc a.length a (Nat.le_refl _),validD_cons c b hc]
theorem qMz {a b:List UInt8} (h:∀ x∈a,x.toNat<128):validD (a++b)=validD b:=by
 rw [validD_ascii a.length (a++b) (by rw [List.take_left' rfl]; exact h),List.drop_left' rfl]
end Go.Proofs.Sp
namespace Go.Proofs.Sp
open Go Go.Lib Sys Nats
structure SgOk (sig:Sg):Prop where
 nm:∀ x∈sig,qId x.1=true
 own:∀ (c:Nat) x,sig[c]?=some x→symI (sig.map (·.1)) x.1=some c
 ar:∀ x∈sig,0≤x.2∧x.2≤8
 len:sig.length≤64
structure Clean (w:Bs):Prop where
 ne:w≠[]
 no:∀ b∈w,b≠32∧b≠10
 ok:∀ r,validD (w++r)=validD r
theorem xLn (x:UInt8):∀ l:Bs,qXl x l≠[]
 | []=>by simp [qXl]
 | b::l=>by
  unfold qXl
  split
  ·simp
  ·split <;> simp
theorem qCs (x:UInt8):∀ (a b:Bs),(∀ c∈a,c≠x)→qXl x (a++x::b)=a::qXl x b
 | [],b,_=>by simp [qXl]
 | c::a,b,h=>by
  have h1:=qCs x a b fun d hd=>h d (by simp [hd])
  rw [List.cons_append,qXl,if_neg (h c (by simp)),h1]
theorem qKl (x:UInt8):∀ a:Bs,(∀ c∈a,c≠x)→qXl x a=[a]
 | [],_=>rfl
 | c::a,h=>by
  have h1:=qKl x a fun d hd=>h d (by simp [hd])
  unfold qXl
  rw [if_neg (h c (by simp)),h1]
structure Reads (B:Bk) (p:Bool) (s:Bs) (B':Bk) (p':Bool):Prop where
 go:∃ k,∀ n t,xQt B p n (qXl 10 (s++t))=xQt B' p' (n+k) (qXl 10 t)
 ok:∀ r,validD (s++r)=validD r
theorem Reads.refl (B:Bk) (p:Bool):Reads B p [] B p:=⟨⟨0,fun n t=>rfl⟩,fun r=>rfl⟩
theorem Reads.trans {B B' B'':Bk} {p p' p'':Bool} {s t:Bs} (h:Reads B p s B' p') (g:Reads B' p' t B'' p''):Reads B p (s++t) B'' p'':=by
 obtain ⟨k,hk⟩:=h.go
 obtain ⟨m,hm⟩:=g.go
 refine ⟨⟨k+m,fun n r=>?_⟩,fun r=>by rw [List.append_assoc,h.ok,g.ok]⟩
 rw [List.append_assoc,hk,hm,Nat.add_assoc]
def RN (B:Bk) (s:Bs) (B':Bk):Prop:=∀ p,∃ p',Reads B p s B' p'
theorem RN.refl (B:Bk):RN B [] B:=fun p=>⟨p,.refl B p⟩
theorem RN.trans {B B' B'':Bk} {s t:Bs} (h:RN B s B') (g:RN B' t B''):RN B (s++t) B'':=fun p=>by
 obtain ⟨p',h'⟩:=h p
 obtain ⟨p'',g'⟩:=g p'
 exact ⟨p'',h'.trans g'⟩
end Go.Proofs.Sp
namespace Go.Proofs.Sp
open Go Go.Lib
theorem xYa (a:Nat):∀ l:Bs,a≤valF a l
 | []=>Nat.le_refl _
 | b::l=>by
  have:=xYa (10*a+(b.toNat - 48)) l
  show a≤valF (10*a+(b.toNat - 48)) l
  omega
theorem qTy (l:Bs) (i:Nat):valD (l.take i)≤valD l:=by
 conv=>rhs; rw [← List.take_append_drop i l]
 unfold valD
 rw [qDd]; exact xYa _ _
theorem qZv {l:Bs} {i:Nat} {b:UInt8} (h:l[i]?=some b):valD (l.take (i+1))=10*valD (l.take i)+(b.toNat - 48):=by
 rw [List.take_add_one,h]
 unfold valD
 rw [qDd]; rfl
def qSt (s:Bs):Prop:=s≠[]∧(∀ b∈s,qXu b=true)∧valD s<2 ^ 62
theorem qFw {s:Bs} {top n:Nat} (h:numT s top=some n) (ht:top<2 ^ 62):qSt s∧valD s=n∧s=decDigits n∧n≤top:=by
 obtain ⟨h1,h2⟩:=qYa h
 refine ⟨⟨by rw [h1]; exact xAc n,by rw [h1]; exact qIm n,by rw [h1,qRo]; omega⟩,by rw [h1,qRo],h1,h2⟩
theorem xFw {s:Bs} {top:Nat} (h1:s=decDigits (valD s)) (h2:valD s≤top):numT s top=some (valD s):=by
 conv=>lhs; rw [h1]
 exact xKy h2
end Go.Proofs.Sp
namespace Go.Proofs.YtkdneddcocggdaaGreatDoor.Am
open Go Go.Proofs Go.RowKit Go.Lib Sys Sp
set_option maxRecDepth 100000
variable {D:Orc} {h h0:H} {k:Kv} {kp:Kp}
def xEs (D:Orc) (f:Nat):Prop:=∀ (s:ByteArray) h (k:Kv) kp,s.size<2 ^ 40→(qSt (bts s)→∀ h',Ext h h'→k (.tuple #[.int .u64 (valD (bts s):Int),.nilIface]) h') →
 (¬ qSt (bts s)→∀ (v c:Int) h',Ext h h'→(c=1∨c=2)→k (.tuple #[.int .u64 v,.iface 215 (.int .i64 c)]) h')→D f [.string s,.int .i64 10,.int .i64 62] h k kp
def lowV (x:Int):Int:=IntKind.u8.wrap ((BitVec.ofInt (IntKind.bits IntKind.u8) x ||| BitVec.ofInt (IntKind.bits IntKind.u8) 32).toNat:Int)
theorem qBl (c:Cl164 D) {x:Int} (hk:k (.int .u8 (lowV x)) h):D 164 [.int .u8 x] h k kp:=by
 refine c _ _ _ _ ?_
 unfold F164
 rw [qQa]
 exact hk
theorem xKa {n:Int} (h0:0≤n) (h1:n≤255):IntKind.u8.wrap n=n:=IntWalk.u8_in n ⟨h0,h1⟩
theorem qKj (s:ByteArray):(s.toList==(ByteArray.mk #[]).toList)=decide (bts s=[]):=by
 have:(ByteArray.mk #[]).toList=[]:=by rw [qQw]; rfl
 rw [qQw,this,Bool.eq_iff_iff,beq_iff_eq,decide_eq_true_eq]
theorem xIt {s:ByteArray} {b c:Nat} (hc:s.size≤c):Row (h.set b (.ro ((s.data.toList.map fun y=>Value.int .u8 (y.toNat:Int))++List.replicate (c - s.size) (.int .u8 0)))) (.slice (some ⟨b,0,none⟩) s.size c) (U8 (bts s)):=by
 have hl:(U8 (bts s)).length=s.size:=by rw [qXz,qQq]
 refine ⟨some ⟨b,0,none⟩,c,by rw [hl],by rw [hl]; exact hc,.inr ⟨_,rfl,rfl,_,by show qZm ((h.set b _) b)=_; rw [qQf]; rfl,?_,?_⟩⟩
 ·show 0+c≤_
  simp only [List.length_append,List.length_map,List.length_replicate]
  have:s.data.toList.length=s.size:=rfl
  omega
 ·rw [List.drop_zero,hl,List.take_left' (by
   rw [List.length_map]; rfl)]
  rfl
theorem xIy:IntKind.u64.wrap ((IntKind.u64.wrap (1*2 ^ (min (Int.toNat (IntKind.wrap IntKind.u64 62)) (IntKind.bits IntKind.u64)))) - 1)=4611686018427387903:=by decide
theorem xFt (cl:Cl164 D) {s:ByteArray} (hs:s.size<2 ^ 40) (h0:bts s≠[]) {sv:Value} (hr:Row h sv (U8 (bts s))) {K:Kl} (hK1:qSt (bts s)→K (.e 3) [.string s,.bool false,.int .u64 (valD (bts s):Int)] h)
  (hK2:¬ qSt (bts s)→∀ v c:Int,(c=1∨c=2)→K .r [.int .u64 v,.iface 215 (.int .i64 c)] h) :
  loop150_36 D [.int .i64 10,.bool false,.string s,.int .u64 1844674407370955162,.int .u64 4611686018427387903,.bool false,.int .u64 0,sv,.int .i64 (s.size:Int),.int .i64 0] h K:=by
 intro I hI
 have hl:(bts s).length=s.size:=rfl
 have key:∀ d i:Nat,i+d=s.size→(∀ j b,j<i→(bts s)[j]?=some b→qXu b=true)→valD ((bts s).take i)<2 ^ 62 →
   I [.int .i64 10,.bool false,.string s,.int .u64 1844674407370955162,.int .u64 4611686018427387903,.bool false,.int .u64 (valD ((bts s).take i):Int),sv,.int .i64 (s.size:Int),.int .i64 (i:Int)] h:=by
  intro d
  induction d with
  | zero =>
   intro i hi hd hv
   refine hI _ _ _ _ _ _ _ _ _ _ _ ?_
   unfold round150_36
   rw [qQa,qQc,qQb,qQa,qQa,qQc,qQa,qQa,qQa,qQd]
   refine ⟨fun hlt=>by omega,fun _=>?_⟩
   rw [List.take_of_length_le (by omega)] at hv ⊢
   exact hK1 ⟨h0,fun x hx=>by
    obtain ⟨j,hj⟩:=List.getElem?_of_mem hx
    have:=(List.getElem?_eq_some_iff.mp hj).1
    exact hd j x (by omega) hj,hv⟩
  | succ d ih =>
   intro i hi hd hv
   refine hI _ _ _ _ _ _ _ _ _ _ _ ?_
   unfold round150_36
   rw [qQa,qQc,qQb,qQa,qQa,qQc,qQa,qQa,qQa,qQd]
   refine ⟨fun _=>?_,fun hge=>by omega⟩
   have hib:i<(bts s).length:=by omega
   obtain ⟨x,hx⟩:∃ x,(bts s)[i]?=some x:=⟨_,List.getElem?_eq_getElem hib⟩
   refine hr.at_ (by omega) (by rw [qXz]; omega) fun ad v hv' hrd=>?_
   rw [Int.toNat_natCast] at hv'
   obtain rfl:v=.int .u8 (x.toNat:Int):=by
    unfold U8 at hv'
    rw [List.getElem?_map,hx] at hv'
    exact (Option.some.inj hv').symm
   refine ⟨_,hrd,?_⟩
   have hx255:x.toNat<256:=x.toNat_lt
   have hxm:x∈bts s:=List.mem_of_getElem? hx
   have vle:=qTy (bts s) i
   have vle1:=qTy (bts s) (i+1)
   have vs:=qZv hx
   have core:∀ (dv:Int),(qXu x=true→dv=((x.toNat - 48:Nat):Int))→(qXu x=false→10≤dv)→0≤dv→dv≤255 →
     j150_36_46 D I K (.int .i64 10) (.bool false) (.string s) (.int .u64 1844674407370955162) (.int .u64 4611686018427387903) (.bool false) (.int .u64 (valD ((bts s).take i):Int)) (.int .u8 dv) sv (.int .i64 (s.size:Int)) (.int .i64 (i:Int)) h:=by
    intro dv hd1 hd2 hd0 hd9
    unfold j150_36_46
    rw [qQa,qQc,qQb,qQa,qQa,qQc,qQa,qQa,qQa,qQa,xKa (n:=10) (by decide) (by decide),qQd]
    refine ⟨fun h10=>hK2 (fun g=>?_) _ _ (.inr rfl),fun h10=>?_⟩
    ·have h3:=g.2.1 x hxm
     have h4:=hd1 h3
     unfold qXu at h3
     simp only [Bool.and_eq_true,decide_eq_true_eq] at h3
     omega
    ·have hdx:qXu x=true:=by
      cases hq:qXu x with
      | true=>rfl
      | false=>exact absurd (hd2 hq) h10
     have hdv:=hd1 hdx
     rw [qQd]
     refine ⟨fun hcut=>hK2 (fun g=>?_) _ _ (.inl rfl),fun hcut=>?_⟩
     ·have h3:=g.2.2
      omega
     ·rw [qWy (n:=10) (by decide) (by decide),qWy (n:=dv) (by omega) (by omega),qWy (n:=(valD ((bts s).take i):Int)*10) (by omega) (by omega)]
      by_cases hover:(valD ((bts s).take i):Int)*10+dv>18446744073709551615
      ·rw [IntKind.wrap_u64,show (!(decide (((valD ((bts s).take i):Int)*10+dv) % 18446744073709551616<(valD ((bts s).take i):Int)*10)))=false by rw [decide_eq_true (by omega)]; rfl,cond_false]
       unfold j150_36_53
       rw [qQa,qQc,qQb,qQa,qQa,qQc,qQa,qQa,qQa,qQc,cond_true]
       refine hK2 (fun g=>?_) _ _ (.inl rfl)
       have h3:=g.2.2
       omega
      rw [qWy (n:=(valD ((bts s).take i):Int)*10+dv) (by omega) (by omega)]
      rw [show (!(decide ((valD ((bts s).take i):Int)*10+dv<(valD ((bts s).take i):Int)*10)))=true by rw [decide_eq_false (by omega)]; rfl,cond_true]
      unfold j150_36_53
      rw [qQa,qQc,qQb,qQa,qQa,qQc,qQa,qQa,qQa,qQc,qQd]
      refine ⟨fun hbig=>hK2 (fun g=>?_) _ _ (.inl rfl),fun hbig=>?_⟩
      ·have h3:=g.2.2
       omega
      ·unfold j150_36_55
       rw [qQa,qQc,qQb,qQa,qQa,qQc,qQa,qQa,qQa,qQr (by omega) (by omega)]
       have e1:(valD ((bts s).take i):Int)*10+dv=((valD ((bts s).take (i+1)):Nat):Int):=by rw [vs]; omega
       have e2:(i:Int)+1=((i+1:Nat):Int):=by omega
       rw [e1,e2]
       refine ih (i+1) (by omega) (fun j y hj hy=>?_) (by omega)
       rcases Nat.lt_succ_iff_lt_or_eq.mp hj with hj | rfl
       ·exact hd j y hj hy
       ·rw [hx] at hy; obtain rfl:=Option.some.inj hy; exact hdx
   have bad45:qXu x=false→j150_36_45 D I K (.int .i64 10) (.bool false) (.string s) (.int .u64 1844674407370955162) (.int .u64 4611686018427387903) (.bool false) (.int .u64 (valD ((bts s).take i):Int)) (.int .u8 (x.toNat:Int)) sv (.int .i64 (s.size:Int)) (.int .i64 (i:Int)) (.bool false) h:=fun hq=>by
    unfold j150_36_45
    rw [qQa,qQc,qQb,qQa,qQa,qQc,qQa,qQa,qQa,qQa,qQc,cond_false]
    exact hK2 (fun g=>by rw [g.2.1 x hxm] at hq; cases hq) _ _ (.inr rfl)
   have bad43:qXu x=false→j150_36_43 D I K (.int .i64 10) (.bool false) (.string s) (.int .u64 1844674407370955162) (.int .u64 4611686018427387903) (.bool false) (.int .u64 (valD ((bts s).take i):Int)) (.int .u8 (x.toNat:Int)) sv (.int .i64 (s.size:Int)) (.int .i64 (i:Int)) (.bool false) h:=fun hq=>by
    unfold j150_36_43
    rw [qQa,qQc,qQb,qQa,qQa,qQc,qQa,qQa,qQa,qQa,qQc,cond_false]
    refine qBl cl ⟨_,rfl,?_⟩
    rw [qQd]
    refine ⟨fun hy97=>?_,fun _=>bad45 hq⟩
    refine qBl cl ⟨_,rfl,?_⟩
    by_cases hz:lowV (x.toNat:Int)≤122
    ·rw [decide_eq_true hz]
     unfold j150_36_45
     rw [qQa,qQc,qQb,qQa,qQa,qQc,qQa,qQa,qQa,qQa,qQc,cond_true]
     refine qBl cl ⟨_,rfl,?_⟩
     rw [xKa (n:=lowV (x.toNat:Int) - 97) (by omega) (by omega),xKa (by omega) (by omega)]
     exact core _ (fun hh=>by rw [hq] at hh; cases hh) (fun _=>by omega) (by omega) (by omega)
    ·rw [decide_eq_false hz]
     exact bad45 hq
   have mid:j150_36_41 D I K (.int .i64 10) (.bool false) (.string s) (.int .u64 1844674407370955162) (.int .u64 4611686018427387903) (.bool false) (.int .u64 (valD ((bts s).take i):Int)) (.int .u8 (x.toNat:Int)) sv (.int .i64 (s.size:Int)) (.int .i64 (i:Int)) (.bool false) h:=by
    unfold j150_36_41
    rw [qQa,qQc,qQb,qQa,qQa,qQc,qQa,qQa,qQa,qQa,qQc,cond_false,qQd]
    have hdf:qXu x=(decide (48≤x.toNat) && decide (x.toNat≤57)):=rfl
    refine ⟨fun h48=>?_,fun h48=>bad43 (by rw [hdf,Bool.and_eq_false_iff]; exact .inl (decide_eq_false (by omega)))⟩
    by_cases h57:(x.toNat:Int)≤57
    ·rw [decide_eq_true h57]
     unfold j150_36_43
     rw [qQa,qQc,qQb,qQa,qQa,qQc,qQa,qQa,qQa,qQa,qQc,cond_true,xKa (by omega) (by omega)]
     exact core _ (fun _=>by omega) (fun hq=>by
      rw [hdf,Bool.and_eq_false_iff] at hq
      rcases hq with hq | hq <;> (have:=of_decide_eq_false hq; omega)) (by omega) (by omega)
    ·rw [decide_eq_false h57]
     exact bad43 (by rw [hdf,Bool.and_eq_false_iff]; exact .inr (decide_eq_false (by omega)))
   rw [qZf]
   exact ⟨fun _=>mid,fun _=>mid⟩
 exact key s.size 0 (by omega) (fun j b hj=>by omega) (by show valD []<_; decide)
theorem xDu (c:Cl150 D) (cl:Cl164 D):xEs D 150:=by
 intro s h k kp hs hk1 hk2
 refine c _ _ _ _ _ _ ?_
 unfold F150
 rw [qQb,qQa,qQa,qKj,qQd]
 refine ⟨fun h0=>hk2 (fun g=>g.1 h0) _ _ _ (Ext.refl h) (.inr rfl),fun h0=>?_⟩
 rw [show decide ((2:Int)≤10)=true from rfl,cond_true,show decide ((10:Int)≤36)=true from rfl]
 unfold j150__7
 rw [qQb,qQa,qQa,qQc,qQb,qQc,cond_true]
 unfold j150__21
 rw [qQb,qQa,qQa,qQc,qQb,show ((62:Int)==0)=false from rfl,cond_false,show (!(decide ((62:Int)<0)))=true from rfl,cond_true,show decide ((62:Int)>64)=false from rfl]
 unfold j150__24
 rw [qQb,qQa,qQa,qQc,qQb,qQc,cond_false]
 unfold j150__25
 rw [qQb,qQa,qQa,qQc,qQb,show ((10:Int)==10)=true from rfl,cond_true]
 unfold j150__32
 rw [qQb,qQa,qQa,qQc,qQb,qQa,xIy,show ((10:Int)==0)=false from rfl]
 refine ⟨by decide,fun b cc hb hcc=>?_⟩
 have e0:Ext h (h.set b (.ro ((s.data.toList.map fun y=>Value.int .u8 (y.toNat:Int))++List.replicate (cc - s.size) (.int .u8 0)))):=Ext.new hb
 have hr:=xIt (h:=h) (b:=b) hcc
 generalize h.set b (.ro ((s.data.toList.map fun y=>Value.int .u8 (y.toNat:Int))++List.replicate (cc - s.size) (.int .u8 0)))=h1 at e0 hr ⊢
 dsimp only
 rw [xVk]
 refine xFt cl hs h0 hr (fun g=>?_) fun g v c hc=>hk2 g v c h1 e0 hc
 rw [xs_e]
 show cond true _ _
 rw [cond_true,nth0,nth1,nth2,qQb,qQc,qQa,cond_false]
 unfold j150__57
 rw [qQa,qQc,cond_false]
 exact hk1 g h1 e0
def qTx (D:Orc) (f:Nat) (T:H→Prop):Prop:=∀ (a s:ByteArray) (c:Int) h (k:Kv) kp,s.size<2 ^ 40→T h→(c=1∨c=2)→(∀ t v h',Ext h h'→k (.iface t v) h') →
 D f [.string a,.string s,.int .i64 10,.int .i64 62,.iface 215 (.int .i64 c)] h k kp
theorem xPc {f g:Nat} {a s:ByteArray} (hs:s.size<2 ^ 40) (sc:qKu D 180) {u:TypeId} {v:Value} (hg:h g=some (.ro [.iface u v])) (hk:∀ p h',Ext h h'→k (Pt p) h') :
  ∃ v2:Value,rd h ⟨g,0,none⟩=some v2∧D 180 [(.string s)] h (fun v3 h4=>∃ s5:ByteArray,v3=(.string s5)∧(rd h4 ⟨g,0,none⟩=some v2)∧one (.string a)=true∧0<3∧one (.string s5)=true∧1<3∧one v2=true∧2<3∧newW h4 [(.string a),(.string s5),v2] (fun p6 h7=>k p6 h7)) kp:=by
 have hrd:rd h ⟨g,0,none⟩=some (.iface u v):=by simp [rd,hg,qZm]
 refine ⟨_,hrd,sc _ _ _ _ (by omega) ⟨_,rfl,hrd,rfl,by decide,rfl,by decide,rfl,by decide,fun b hb=>hk b _ (Ext.new hb)⟩⟩
theorem xJl {t:TypeId} {x y:Int} {K:Bool→Prop} (hk:K (x==y)):refE Tryz.prog h 133 (.iface 215 (.int .i64 x)) (.iface 215 (.int .i64 y)) K:=by
 have e:∀ (h:H) (x y:Int) (K:Bool→Prop),refE Tryz.prog h 133 (.iface 215 (.int .i64 x)) (.iface 215 (.int .i64 y)) K=(xAm Tryz.prog 215=true∧xUd Tryz.prog 215=true∧IntKind.i64=IntKind.i64∧K (x==y)):=fun h x y K=>by kernel_rfl
 rw [e]
 exact ⟨by kernel_rfl,by kernel_rfl,rfl,hk⟩
theorem xDt (c:Cl151 D) (c1:Cl166 D) (c2:Cl167 D) (sc:qKu D 180):qTx D 151 Tbl:=by
 intro a s e h k kp hs ht he hk
 refine c _ _ _ _ _ _ _ _ ?_
 unfold F151
 rw [qQb,qQb,qQa,qQa]
 refine xJl (t:=0) ?_
 rw [qZf]
 refine ⟨fun _=>?_,fun h2=>?_⟩
 ·refine c1 _ _ _ _ _ ?_
  unfold F166
  obtain ⟨u,v,hg⟩:=ht.syn
  rw [qQb,qQb]
  exact xPc (f:=0) hs sc hg fun p h' e'=>⟨_,rfl,hk _ _ h' e'⟩
 ·refine xJl (t:=0) ?_
  rw [qZf]
  refine ⟨fun _=>?_,fun h1=>by omega⟩
  refine c2 _ _ _ _ _ ?_
  unfold F167
  obtain ⟨u,v,hg⟩:=ht.rng
  rw [qQb,qQb]
  exact xPc (f:=0) hs sc hg fun p h' e'=>⟨_,rfl,hk _ _ h' e'⟩
def qTv (D:Orc) (f:Nat) (T:H→Prop):Prop:=∀ (s:ByteArray) h (k:Kv) kp,s.size<2 ^ 40→T h→(qSt (bts s)→∀ h',Ext h h'→k (.tuple #[.int .u64 (valD (bts s):Int),.nilIface]) h') →
 (¬ qSt (bts s)→∀ (v:Int) t e h',Ext h h'→k (.tuple #[.int .u64 v,.iface t e]) h')→D f [.string s,.int .i64 10,.int .i64 62] h k kp
theorem xUq {c:Bool} {K:Bool→Prop}:eqIf c .nilIface .nilIface K=(c=true∧K true):=rfl
theorem xFg (c:Cl123 D) (pu:xEs D 150) (te:qTx D 151 Tbl):qTv D 123 Tbl:=by
 intro s h k kp hs ht hk1 hk2
 refine c _ _ _ _ _ _ ?_
 unfold F123
 rw [qQb,qQa,qQa]
 refine pu _ _ _ _ hs (fun g h' e=>⟨_,_,rfl,?_⟩) fun g v cc h' e hc=>⟨_,_,rfl,?_⟩
 ·rw [xUq]
  exact ⟨rfl,hk1 g h' e⟩
 ·rw [qTa]
  show cond true _ _
  rw [cond_true]
  exact te _ _ _ _ _ _ hs (qQt _ _ e ht) hc fun t v h2 e2=>⟨_,rfl,hk2 g _ _ _ h2 (e.trans e2)⟩
def qIq (D:Orc) (f:Nat) (T:H→Prop):Prop:=∀ (n:Nat) h (k:Kv) kp,n<2 ^ 62→T h→(∀ h',Ext h h'→k (.string (strB (decDigits n))) h')→D f [.int .u64 (n:Int),.int .i64 10] h k kp
theorem xUy (n:Nat) (hn:n<2 ^ 64):nDigits n≤20:=by
 rcases Nat.eq_zero_or_pos n with rfl | hp
 ·rw [nDigits_small (by omega)]; omega
 ·have:=numDigits_eq n hp (by omega)
  split at this <;> omega
theorem xDs (c:Cl152 D) (s1:qGx D 158) (s2:qMu D 159 Tbl) (s3:qTw D 160):qIq D 152 Tbl:=by
 intro n h k kp hn ht hk
 refine c _ _ _ _ _ ?_
 unfold F152
 rw [qQa,qQa,show ((10:Int)==10)=true from rfl,cond_true,qQd]
 refine ⟨fun h100=>?_,fun h100=>?_⟩
 ·rw [qQr (by omega) (by omega)]
  exact s1 n _ _ _ (by omega) ⟨_,rfl,hk h (Ext.refl h)⟩
 ·intro p hp
  have e1:Ext h (h.set p (.cells (List.replicate 24 (.int .u8 0)))):=Ext.new hp
  have h20:=xUy n (by omega)
  have hsplit:(List.replicate 24 (Value.int .u8 0))=List.replicate (nDigits n) (.int .u8 0)++List.replicate (24 - nDigits n) (.int .u8 0):=by
   rw [List.replicate_append_replicate]; congr 1; omega
  show D _ _ (h.set p (.cells (List.replicate 24 (.int .u8 0)))) _ _
  refine s2 n _ _ _ (by omega) (by omega) (qQt _ _ e1 ht) ⟨_,rfl,?_⟩
  rw [qQe]
  have cut:∀ {K:Value→Prop},K (.slice (some ⟨p,0,none⟩) (nDigits n) 24)→qXy (.slice (some ⟨p,0,none⟩) 24 24) none (some (nDigits n:Int)) none 1 K:=fun hK =>
   xXh (s:=.slice (some ⟨p,0,none⟩) 24 24) trivial (by omega) (by show (nDigits n:Int)≤((24:Nat):Int); omega) (by
    rw [Int.toNat_natCast]; exact hK)
  refine cut (s3 p n 24 (List.replicate (24 - nDigits n) (.int .u8 0)) _ _ _ (by omega) (by rw [qQf,hsplit]) ⟨rfl,?_⟩)
  rw [qQe,qJf]
  refine cut ?_
  have hdl:=decDigits_length n
  have hrow:Row (h.set p (.cells (U8 (decDigits n)++List.replicate (24 - nDigits n) (.int .u8 0)))) (.slice (some ⟨p,0,none⟩) (nDigits n) 24) (U8 (decDigits n)):=by
   refine ⟨some ⟨p,0,none⟩,24,by rw [qXz,hdl],by rw [qXz,hdl]; omega,.inr ⟨_,rfl,rfl,_,by show qZm ((h.set p _) p)=_; rw [qQf]; rfl,?_,?_⟩⟩
   ·show 0+24≤_
    simp only [List.length_append,qXz,hdl,List.length_replicate]; omega
   ·rw [List.drop_zero,List.take_left' rfl]
  refine qGq hrow fun t ht'=>?_
  obtain rfl:t=strB (decDigits n):=xAy (by rw [ht',qQv])
  exact hk _ (Ext.new hp)
theorem xFf (c:Cl124 D) (fu:qIq D 152 Tbl):qIq D 124 Tbl:=by
 intro n h k kp hn ht hk
 refine c _ _ _ _ _ ?_
 unfold F124
 rw [qQa,qQa]
 exact fu n _ _ _ hn ht fun h' e=>⟨_,rfl,hk h' e⟩
def qMo (D:Orc) (f:Nat) (T:H→Prop):Prop:=∀ (s:ByteArray) (top:Nat) h (k:Kv) kp,s.size<2 ^ 40→top<2 ^ 62→T h→(∀ n h',Ext h h'→numT (bts s) top=some n→k (.int .i64 (n:Int)) h') →
 (∀ h',Ext h h'→numT (bts s) top=none→kp (chain 225) h')→D f [.string s,.int .i64 (top:Int)] h k kp
theorem xHh (c:Cl90 D) (cm:Cl28 D) (pu:qTv D 123 Tbl) (fu:qIq D 124 Tbl):qMo D 90 Tbl:=by
 intro s top h k kp hs htop ht hk1 hk2
 refine c _ _ _ _ _ ?_
 unfold F90
 rw [qQb,qQa]
 refine pu _ _ _ _ hs ht (fun g h' e=>⟨_,_,rfl,?_⟩) fun g v t er h' e=>⟨_,_,rfl,?_⟩
 ·rw [xUq]
  refine ⟨rfl,?_⟩
  rw [cond_true]
  refine fu _ _ _ _ g.2.2 (qQt _ _ e ht) fun h2 e2=>⟨_,rfl,?_⟩
  rw [qQw,qQw,qQv]
  by_cases hc:decDigits (valD (bts s))=bts s
  ·rw [beq_iff_eq.mpr hc,cond_true,qWy (by omega) (by omega)]
   refine qQl cm (fun hle=>⟨rfl,?_⟩) fun hgt=>hk2 h2 (e.trans e2) ?_
   ·have hle:=of_decide_eq_true hle
    unfold j90__3
    rw [qQa,qQr (by omega) (by have:=g.2.2; omega)]
    exact hk1 _ h2 (e.trans e2) (xFw hc.symm (by omega))
   ·have hgt:=of_decide_eq_false hgt
    cases hn:numT (bts s) top with
    | none=>rfl
    | some n =>
     obtain ⟨_,h3,_,h4⟩:=qFw hn htop
     omega
  ·rw [beq_eq_false_iff_ne.mpr hc,cond_false]
   refine qQl cm (fun hle=>by cases hle) fun _=>hk2 h2 (e.trans e2) ?_
   cases hn:numT (bts s) top with
   | none=>rfl
   | some n =>
    obtain ⟨_,h3,h4,_⟩:=qFw hn htop
    exact absurd (by rw [h3]; exact h4.symm) hc
 ·rw [qTa,cond_false]
  refine qQl cm (fun hle=>by cases hle) fun _=>hk2 h' e ?_
  cases hn:numT (bts s) top with
  | none=>rfl
  | some n=>exact absurd (qFw hn htop).1 g
end Go.Proofs.YtkdneddcocggdaaGreatDoor.Am
