/-
  Packed: Rows of terms, one behind the other: plain Lean. Terms as they are written, and read again: plain. Naturals in limbs: plain arithmetic, no program in sight. Books, read from lines of words and written as lines: plain. UTF-8, one text behind another: plain. What is written of a book is read as that book: plain. Numbers: strconv.ParseUint, strconv.FormatUint, spell.number.
-/
import Derived.Test.YtkdneddcocggdaaGreatDoorPkS
import Derived.Test.YtkdneddcocggdaaGreatDoorPkD
import Derived.Lib.ValidLaws
import Derived.Lib.DecodeN
set_option linter.unusedVariables false
set_option linter.unusedSimpArgs false
set_option linter.unnecessarySimpa false
namespace Go.Proofs.Sys
theorem qUv (sig:Sg):∀ (u:List Int) (n:Nat) (r:List Int),scan sig n u=0→eat sig n (u++r)=(0,r)
 | [],0,r,_=>by cases r <;> simp [eat]
 | [],n+1,r,h=>by simp [scan] at h
 | c::u,0,r,h=>by simp [scan] at h
 | c::u,n+1,r,h=>by
  unfold scan at h
  split at h
  ·simp at h
  ·rename_i hb
   rw [List.cons_append,eat,if_neg hb]
   exact qUv sig u _ r h
theorem xXf (sig:Sg):∀ (u:List Int) (m n:Nat) (r:List Int),scan sig m u=0→scan sig (m+n) (u++r)=scan sig n r
 | [],0,n,r,_=>by simp
 | [],m+1,n,r,h=>by simp [scan] at h
 | c::u,0,n,r,h=>by simp [scan] at h
 | c::u,m+1,n,r,h=>by
  unfold scan at h
  split at h
  ·simp at h
  ·rename_i hb
   rw [List.cons_append,show m+1+n=(m+n)+1 by omega,scan,if_neg hb,show m+n+kids sig c=(m+kids sig c)+n by omega]
   exact xXf sig u _ n r h
theorem qOb (sig:Sg):∀ us:List (List Int),(∀ u∈us,qZn sig u)→scan sig us.length us.flatten=0
 | [],_=>rfl
 | u::us,h=>by
  rw [List.flatten_cons,List.length_cons,Nat.add_comm]
  rw [xXf sig u 1 us.length us.flatten (h u (by simp))]
  exact qOb sig us fun v hv=>h v (by simp [hv])
theorem qSk {sig:Sg} {u v r s:List Int} (hu:qZn sig u) (hv:qZn sig v) (h:u++r=v++s):u=v∧r=s:=by
 have h1:=qUv sig u 1 r hu
 have h2:=qUv sig v 1 s hv
 rw [h,h2] at h1
 have:r=s:=by injection h1 with _ e; exact e.symm
 subst this
 exact ⟨List.append_cancel_right h,rfl⟩
theorem xXw {sig:Sg}:∀ {us vs:List (List Int)},(∀ u∈us,qZn sig u)→(∀ v∈vs,qZn sig v)→us.length=vs.length→us.flatten=vs.flatten→us=vs
 | [],[],_,_,_,_=>rfl
 | [],_::_,_,_,h,_=>by simp at h
 | _::_,[],_,_,h,_=>by simp at h
 | u::us,v::vs,hu,hv,hl,h=>by
  rw [List.flatten_cons,List.flatten_cons] at h
  obtain ⟨e1,e2⟩:=qSk (hu u (by simp)) (hv v (by simp)) h
  rw [e1,xXw (fun x hx=>hu x (by simp [hx])) (fun x hx=>hv x (by simp [hx])) (by simpa using hl) e2]
theorem qFx {sig:Sg}:∀ (n:Nat) (t:List Int),scan sig n t=0→∃ us:List (List Int),us.length=n∧(∀ u∈us,qZn sig u)∧us.flatten=t
 | 0,t,h=>by
  cases t with
  | nil=>exact ⟨[],rfl,by simp,rfl⟩
  | cons c t=>simp [scan] at h
 | n+1,t,h=>by
  have h1:=qDs sig t (n+1)
  rw [h] at h1
  have he:(eat sig (n+1) t).1=0:=by
   rcases xEj sig t (n+1) with e | e | e
   ·exact e
   ·rw [e] at h1; simp at h1
   ·rw [e] at h1; simp at h1
  rw [he] at h1
  have h2:(eat sig (n+1) t).2=[]:=Classical.byContradiction fun hn=>by simp [hn] at h1
  rw [Nat.add_comm,qMs] at he h2
  have he1:(eat sig 1 t).1=0:=Classical.byContradiction fun hn=>by
   rw [if_neg hn] at he; exact hn he
  rw [if_pos he1] at he h2
  obtain ⟨u,hu⟩:=qCk sig t 1
  have hut:qZn sig u:=by
   unfold qZn
   have key:∀ (u:List Int) (m:Nat) (r:List Int),eat sig m (u++r)=(0,r)→scan sig m u=0:=by
    intro u
    induction u with
    | nil =>
     intro m r hh
     cases m with
     | zero=>rfl
     | succ m =>
      exfalso
      have:=xNl sig (t:=r) (n:=m) (by rw [List.nil_append] at hh; rw [hh])
      rw [List.nil_append] at hh
      rw [hh] at this; simp at this
    | cons c u ih =>
     intro m r hh
     cases m with
     | zero =>
      simp only [List.cons_append,eat] at hh
      have:=congrArg (fun x:Int × List Int=>x.2.length) hh
      simp at this; omega
     | succ m =>
      rw [List.cons_append,eat] at hh
      unfold scan
      split at hh
      ·cases hh
      ·rename_i hb
       rw [if_neg hb]
       exact ih _ r hh
   refine key u 1 (eat sig 1 t).2 ?_
   rw [← hu]
   exact Prod.ext he1 rfl
  obtain ⟨us,h3,h4,h5⟩:=qFx n (eat sig 1 t).2 (by
   rw [qDs,he,h2]; rfl)
  refine ⟨u::us,by simp [h3],fun v hv=>?_,?_⟩
  ·rcases List.mem_cons.mp hv with rfl | hv
   ·exact hut
   ·exact h4 v hv
  ·rw [List.flatten_cons,h5]; exact hu.symm
theorem xBz {sig:Sg} {c:Int} {t:List Int} (h:qZn sig (c::t)) (hc:0≤c):c<sig.length∧scan sig (kids sig c) t=0:=by
 unfold qZn scan at h
 split at h
 ·simp at h
 ·rename_i hb
  simp only [badC,Bool.or_eq_true,decide_eq_true_eq,not_or] at hb
  rw [Nat.zero_add] at h
  exact ⟨by omega,h⟩
theorem xBy {sig:Sg} {c:Int} {t:List Int} (h:qZn sig (c::t)) (hc:c<0):t=[]∧-1048576≤c:=by
 unfold qZn scan at h
 split at h
 ·simp at h
 ·rename_i hb
  simp only [badC,Bool.or_eq_true,decide_eq_true_eq,not_or] at hb
  have:kids sig c=0:=by unfold kids; rw [if_pos hc]
  rw [this] at h
  refine ⟨?_,by omega⟩
  cases t with
  | nil=>rfl
  | cons d t=>simp [scan] at h
end Go.Proofs.Sys
namespace Go.Proofs.Sp
open Go Go.Lib Sys
def qYs:List Bs→Bs
 | []=>[41]
 | s::ss=>44::(s++qYs ss)
def qPl:List Bs→Bs
 | []=>[]
 | s::ss=>40::(s++qYs ss)
inductive Wt (sig:Sg):List Int→Bs→Prop
 | var {n:Nat}:n<1048576→Wt sig [-1 - (n:Int)] (95::decDigits n)
 | app {c:Nat} {nm:Bs} {a:Int} {us:List (List Int)} {ss:List Bs}:sig[c]?=some (nm,a)→us.length=a.toNat→ss.length=us.length →
   (∀ (j:Nat) u s,us[j]?=some u→ss[j]?=some s→Wt sig u s)→Wt sig ((c:Int)::us.flatten) (nm++qPl ss)
theorem qGv {sig:Sg} {c:Nat} {nm:Bs} {a:Int} (h:sig[c]?=some (nm,a)):kids sig (c:Int)=a.toNat:=by
 unfold kids
 rw [if_neg (by omega),Int.toNat_natCast,h]; rfl
theorem xBp {sig:Sg} {c:Nat} {nm:Bs} {a:Int} {us:List (List Int)} (h:sig[c]?=some (nm,a)) (hl:us.length=a.toNat) (hu:∀ u∈us,qZn sig u):qZn sig ((c:Int)::us.flatten):=by
 have hc:=(List.getElem?_eq_some_iff.mp h).1
 unfold qZn scan
 rw [if_neg (by unfold badC; simp; omega),Nat.zero_add,qGv h,← hl]
 exact qOb sig us hu
theorem Wt.term {sig:Sg} {u:List Int} {s:Bs} (w:Wt sig u s):qZn sig u:=by
 induction w with
 | var h =>
  unfold qZn scan
  rw [if_neg (by unfold badC; simp; omega)]
  have:∀ c:Int,c<0→kids sig c=0:=fun c hc=>by unfold kids; rw [if_pos hc]
  rw [this _ (by omega)]; rfl
 | app h hl hs _ ih =>
  refine xBp h hl fun u hu=>?_
  obtain ⟨j,hj,rfl⟩:=List.getElem_of_mem hu
  exact ih j _ _ (List.getElem?_eq_getElem hj) (List.getElem?_eq_getElem (by omega))
theorem wt_ex {sig:Sg}:∀ (n:Nat) (u:List Int),u.length≤n→qZn sig u→∃ s,Wt sig u s:=by
 intro n
 induction n with
 | zero=>intro u hn hu; exact absurd (List.length_eq_zero_iff.mp (by omega)) (qGw hu)
 | succ n ih =>
  intro u hn hu
  obtain ⟨c,t,rfl⟩:=List.exists_cons_of_ne_nil (qGw hu)
  by_cases hc:c<0
  ·obtain ⟨rfl,h2⟩:=xBy hu hc
   have:=Wt.var (sig:=sig) (n:=(-1 - c).toNat) (by omega)
   rw [show -1 - (((-1 - c).toNat:Nat):Int)=c by omega] at this
   exact ⟨_,this⟩
  ·obtain ⟨h1,h2⟩:=xBz hu (by omega)
   obtain ⟨us,h3,h4,rfl⟩:=qFx _ _ h2
   obtain ⟨m,rfl⟩:=Int.eq_ofNat_of_zero_le (show 0≤c by omega)
   have hm:m<sig.length:=by omega
   have he:sig[m]?=some (sig[m].1,sig[m].2):=List.getElem?_eq_getElem hm
   have key:∀ us:List (List Int),us.flatten.length≤n→(∀ u∈us,qZn sig u)→∃ ss:List Bs,ss.length=us.length∧∀ (j:Nat) u s,us[j]?=some u→ss[j]?=some s→Wt sig u s:=by
    intro us
    induction us with
    | nil=>intro _ _; exact ⟨[],rfl,fun j u s h=>by simp at h⟩
    | cons v us ih2 =>
     intro hl hv
     rw [List.flatten_cons,List.length_append] at hl
     obtain ⟨s,hs⟩:=ih v (by omega) (hv v (by simp))
     obtain ⟨ss,h5,h6⟩:=ih2 (by omega) fun x hx=>hv x (by simp [hx])
     refine ⟨s::ss,by simp [h5],fun j u t hu ht=>?_⟩
     cases j with
     | zero =>
      simp at hu ht
      subst hu; subst ht; exact hs
     | succ j=>exact h6 j u t (by simpa using hu) (by simpa using ht)
   obtain ⟨ss,h5,h6⟩:=key us (by simp only [List.length_cons] at hn; omega) h4
   exact ⟨_,.app he (by rw [h3,qGv he]) h5 h6⟩
theorem Wt.uni {sig:Sg} {u:List Int} {s:Bs} (w:Wt sig u s):∀ {t:Bs},Wt sig u t→s=t:=by
 induction w with
 | @var n h =>
  intro t w
  generalize hu:[-1 - (n:Int)]=u at w
  cases w with
  | @var m _ =>
   have:n=m:=by injection hu with e _; omega
   rw [this]
  | app h2 _ _ _=>injection hu with e _; omega
 | @app c nm a us ss h hl hs hw ih =>
  intro t w
  generalize hu:(c:Int)::us.flatten=u at w
  cases w with
  | var _=>injection hu with e _; omega
  | @app c' nm' a' us' ss' h' hl' hs' hw' =>
   injection hu with e1 e2
   obtain rfl:c=c':=by omega
   rw [h] at h'
   obtain ⟨rfl,rfl⟩:=Prod.mk.inj (Option.some.inj h')
   have tm:∀ (us:List (List Int)) (ss:List Bs),ss.length=us.length→(∀ (j:Nat) u s,us[j]?=some u→ss[j]?=some s→Wt sig u s)→∀ u∈us,qZn sig u:=fun us ss hs hw u hu=>by
    obtain ⟨j,hj,rfl⟩:=List.getElem_of_mem hu
    exact (hw j _ _ (List.getElem?_eq_getElem hj) (List.getElem?_eq_getElem (by omega))).term
   obtain rfl:=xXw (tm us ss hs hw) (tm us' ss' hs' hw') (by omega) e2
   have:ss=ss':=by
    apply List.ext_getElem (by omega)
    intro j h1 h2
    exact ih j us[j] ss[j] (List.getElem?_eq_getElem (by omega)) (List.getElem?_eq_getElem h1) (hw' j us[j] ss'[j] (List.getElem?_eq_getElem (by omega)) (List.getElem?_eq_getElem h2))
   rw [this]
def qRf (m:Bs):Prop:=∃ b r,m=b::r∧qXk b=true∧∀ x∈r,qVu x=true
def isNm (m:Bs):Prop:=qRf m∨∃ n,qRf n∧m=n++[35]
def Stop (r:Bs):Prop:=∀ b t,r=b::t→qVu b=false∧b≠35
theorem qJo {p:UInt8→Bool}:∀ {a r:Bs},(∀ x∈a,p x=true)→(∀ b t,r=b::t→p b=false)→(a++r).takeWhile p=a∧(a++r).dropWhile p=r
 | [],[],_,_=>by simp
 | [],b::t,_,h=>by simp [h b t rfl]
 | x::a,r,ha,h=>by
  have:=qJo (a:=a) (r:=r) (fun y hy=>ha y (by simp [hy])) h
  simp [ha x (by simp),this.1,this.2]
theorem xZl {m r:Bs} (hm:qRf m) (hr:∀ b t,r=b::t→qVu b=false):qCs (m++r)=m.length:=by
 obtain ⟨b,t,rfl,hb,ht⟩:=hm
 show (if qXk b then 1+((t++r).takeWhile qVu).length else 0)=_
 rw [if_pos hb,(qJo ht hr).1,List.length_cons]; omega
theorem xFh:qVu 35=false:=by decide
theorem xCw {m r:Bs} (hm:isNm m) (hr:Stop r):qJf (m++r)=m.length:=by
 unfold qJf
 rcases hm with hm | ⟨n,hn,rfl⟩
 ·rw [xZl hm fun b t e=>(hr b t e).1,if_neg]
  rintro ⟨_,h⟩
  rw [List.getElem?_append_right (Nat.le_refl _),Nat.sub_self] at h
  cases r with
  | nil=>simp at h
  | cons b t=>exact (hr b t rfl).2 (by simpa using h)
 ·rw [List.append_assoc,xZl hn fun b t e=>by cases e; exact xFh,if_pos ⟨by obtain ⟨b,t,rfl,_⟩:=hn; simp,by rw [List.getElem?_append_right (Nat.le_refl _),Nat.sub_self]; rfl⟩]
  simp
theorem xHp {m:Bs} (h:isNm m):∃ b t,m=b::t∧qXk b=true:=by
 rcases h with ⟨b,t,rfl,h,_⟩ | ⟨n,⟨b,t,rfl,h,_⟩,rfl⟩
 ·exact ⟨b,t,rfl,h⟩
 ·exact ⟨b,t++[35],rfl,h⟩
structure Nms (sig:Sg):Prop where
 nm:∀ x∈sig,isNm x.1
 own:∀ (c:Nat) x,sig[c]?=some x→symI (sig.map (·.1)) x.1=some c
theorem qUt {l:List Bs} {s:Bs} {c:Nat} (h:symI l s=some c):l[c]?=some s:=by
 unfold symI at h
 rw [List.findIdx?_eq_some_iff_getElem] at h
 obtain ⟨h1,h2,_⟩:=h
 rw [List.getElem?_eq_getElem h1,eq_of_beq h2]
def Close (r:Bs):Prop:=∀ b t,r=b::t→b=41∨b=44
theorem xYh {r:Bs} (h:Close r):Stop r:=fun b t e=>by
 rcases h b t e with rfl | rfl <;> decide
theorem xIi (n:Nat):∀ b∈decDigits n,qXo b=true:=qPi n
theorem xKc {r:Bs} (h:Close r):∀ b t,r=b::t→qXo b=false:=fun b t e=>by
 rcases h b t e with rfl | rfl <;> decide
theorem qHn (ss:List Bs) (r:Bs):Close (qYs ss++r):=fun b t e=>by
 cases ss with
 | nil=>exact .inl (by injection e with e _; exact e.symm)
 | cons s ss=>exact .inr (by injection e with e _; exact e.symm)
theorem xYs (ss:List Bs) {r:Bs} (h:Close r):Stop (qPl ss++r):=fun b t e=>by
 cases ss with
 | nil=>exact xYh h b t e
 | cons s ss =>
  obtain rfl:40=b:=by injection e
  decide
theorem qIs {g:Bs→Except Int (List Int × Bs)}:∀ (us:List (List Int)) (ss:List Bs) (r:Bs),ss.length=us.length→(∀ (j:Nat) u s,us[j]?=some u→ss[j]?=some s→∀ q,Close q→g (s++q)=.ok (u,q)) →
  qYv g us.length false (qYs ss++r)=.ok (us.flatten,r)
 | [],ss,r,hs,_=>by
  obtain rfl:=List.length_eq_zero_iff.mp hs
  rfl
 | u::us,[],r,hs,_=>by simp at hs
 | u::us,s::ss,r,hs,hg=>by
  have e:(qYs (s::ss)++r).drop 1=s++(qYs ss++r):=by simp [qYs]
  have e0:(qYs (s::ss)++r).head?=some (if false then 40 else 44):=rfl
  rw [List.length_cons,qYv,if_pos e0,e,hg 0 u s rfl rfl _ (qHn ss r)]
  dsimp only
  rw [qIs us ss r (by simpa using hs) fun j u' s' h1 h2=>hg (j+1) u' s' (by simpa using h1) (by simpa using h2)]
  rfl
theorem xVu {g:Bs→Except Int (List Int × Bs)} {us:List (List Int)} {ss:List Bs} {r:Bs} (hs:ss.length=us.length) (hg:∀ (j:Nat) u s,us[j]?=some u→ss[j]?=some s→∀ q,Close q→g (s++q)=.ok (u,q)) :
  qYv g us.length true (qPl ss++r)=.ok (us.flatten,r):=by
 cases us with
 | nil =>
  obtain rfl:=List.length_eq_zero_iff.mp hs
  rfl
 | cons u us =>
  cases ss with
  | nil=>simp at hs
  | cons s ss =>
   have e:(qPl (s::ss)++r).drop 1=s++(qYs ss++r):=by simp [qPl]
   have e0:(qPl (s::ss)++r).head?=some (if true then 40 else 44):=rfl
   rw [List.length_cons,qYv,if_pos e0,e,hg 0 u s rfl rfl _ (qHn ss r)]
   dsimp only
   rw [qIs us ss r (by simpa using hs) fun j u' s' h1 h2=>hg (j+1) u' s' (by simpa using h1) (by simpa using h2)]
   rfl
theorem qSc:∀ (ss:List Bs) (j:Nat) s,ss[j]?=some s→s.length<(qYs ss).length
 | [],j,s,h=>by simp at h
 | t::ss,0,s,h=>by
  obtain rfl:t=s:=by simpa using h
  show _<(44::(t++qYs ss)).length
  simp; omega
 | t::ss,j+1,s,h=>by
  have:=qSc ss j s (by simpa using h)
  show _<(44::(t++qYs ss)).length
  simp; omega
theorem xKy {ss:List Bs} {j:Nat} {s:Bs} (h:ss[j]?=some s):s.length<(qPl ss).length:=by
 cases ss with
 | nil=>simp at h
 | cons t ss =>
  have:=qSc (t::ss) j s h
  exact this
theorem xHg {sig:Sg} (hn:Nms sig) {u:List Int} {s:Bs} (w:Wt sig u s):∀ (f:Nat) (r:Bs),s.length<f→Close r→qUp sig f (s++r)=.ok (u,r):=by
 induction w with
 | @var n h =>
  intro f r hf hr
  obtain ⟨f,rfl⟩:∃ g,f=g+1:=⟨f - 1,by omega⟩
  have e0:((95::decDigits n)++r).head?=some 95:=rfl
  rw [qUp,if_pos e0]
  have e:((95::decDigits n)++r).drop 1=decDigits n++r:=rfl
  obtain ⟨e1,e2⟩:=qJo (p:=qXo) (xIi n) (xKc hr)
  rw [e,e1,e2,qDx (by omega)]
 | @app c nm a us ss h hl hs hw ih =>
  intro f r hf hr
  obtain ⟨f,rfl⟩:∃ g,f=g+1:=⟨f - 1,by omega⟩
  have hnm:=hn.nm _ (List.mem_of_getElem? h)
  obtain ⟨b,t,hbt,hlb⟩:=xHp hnm
  rw [List.append_assoc]
  have hf1:=xCw hnm (xYs ss hr)
  unfold qUp
  rw [if_neg,hf1,List.take_left' rfl,List.drop_left' rfl,hn.own c _ h]
  ·dsimp only
   rw [qGv h,← hl,xVu hs fun j u s h1 h2 q hq=>ih j u s h1 h2 f q (by
    have:=xKy h2
    simp only [List.length_append] at hf
    omega) hq]
  ·dsimp only at hbt
   rw [hbt]
   intro e
   obtain rfl:b=95:=by simpa using e
   revert hlb; decide
theorem qOj {sig:Sg} {g:Bs→Except Int (List Int × Bs)} (hg:∀ s u r,g s=.ok (u,r)→∃ t,Wt sig u t∧s=t++r):∀ (n:Nat) (b:Bool) (s:Bs) (l:List Int) (r:Bs),qYv g n b s=.ok (l,r) →
  ∃ (us:List (List Int)) (ss:List Bs),us.length=n∧ss.length=us.length∧l=us.flatten∧(∀ (j:Nat) u s,us[j]?=some u→ss[j]?=some s→Wt sig u s)∧s=(if b then qPl ss else qYs ss)++r
 | 0,true,s,l,r,h=>by
  injection h with h
  obtain ⟨rfl,rfl⟩:=Prod.mk.inj h
  exact ⟨[],[],rfl,rfl,rfl,fun j u s h=>by simp at h,rfl⟩
 | 0,false,s,l,r,h=>by
  unfold qYv at h
  split at h
  ·rename_i hh
   injection h with h
   obtain ⟨rfl,rfl⟩:=Prod.mk.inj h
   refine ⟨[],[],rfl,rfl,rfl,fun j u s h=>by simp at h,?_⟩
   cases s with
   | nil=>simp at hh
   | cons c s =>
    obtain rfl:c=41:=by simpa using hh
    rfl
  ·cases h
 | n+1,b,s,l,r,h=>by
  rw [qYv] at h
  by_cases hh:s.head?=some (if b then 40 else 44)
  ·rw [if_pos hh] at h
   split at h
   ·cases h
   ·rename_i l1 r1 h1
    split at h
    ·cases h
    ·rename_i m r2 h2
     injection h with h
     obtain ⟨rfl,rfl⟩:=Prod.mk.inj h
     obtain ⟨t,ht,e1⟩:=hg _ _ _ h1
     obtain ⟨us,ss,h3,h4,rfl,h5,e2⟩:=qOj hg n false r1 m r2 h2
     refine ⟨l1::us,t::ss,by simp [h3],by simp [h4],rfl,fun j u s hu hs=>?_,?_⟩
     ·cases j with
      | zero =>
       simp at hu hs
       subst hu; subst hs; exact ht
      | succ j=>exact h5 j u s (by simpa using hu) (by simpa using hs)
     ·cases s with
      | nil=>simp at hh
      | cons c s =>
       have hc:c=if b then 40 else 44:=by simpa using hh
       rw [List.drop_succ_cons,List.drop_zero] at e1
       rw [e1,e2,hc]
       cases b <;> simp [qPl,qYs]
  ·rw [if_neg hh] at h
   cases h
theorem xUp {s:Bs} {n:Nat} (h:numT (s.takeWhile qXo) 1048575=some n):n<1048576∧s=decDigits n++s.dropWhile qXo:=by
 obtain ⟨h1,h2⟩:=qWn h
 refine ⟨by omega,?_⟩
 conv=>lhs; rw [← List.takeWhile_append_dropWhile (p:=qXo) (l:=s),h1]
theorem xCc {sig:Sg}:∀ (f:Nat) (s:Bs) (u:List Int) (r:Bs),qUp sig f s=.ok (u,r)→∃ t,Wt sig u t∧s=t++r:=by
 intro f
 induction f with
 | zero=>intro s u r h; cases h
 | succ f ih =>
  intro s u r h
  unfold qUp at h
  split at h
  ·rename_i hh
   split at h
   ·rename_i n hn
    injection h with h
    obtain ⟨rfl,rfl⟩:=Prod.mk.inj h
    obtain ⟨h1,h2⟩:=xUp hn
    refine ⟨_,.var h1,?_⟩
    cases s with
    | nil=>simp at hh
    | cons c s =>
     obtain rfl:c=95:=by simpa using hh
     rw [List.drop_succ_cons,List.drop_zero] at h2 ⊢
     rw [List.cons_append,← h2]
   ·cases h
  ·split at h
   ·cases h
   ·rename_i c hc
    split at h
    ·rename_i l r1 h1
     injection h with h
     obtain ⟨rfl,rfl⟩:=Prod.mk.inj h
     obtain ⟨us,ss,h2,h3,rfl,h4,h5⟩:=qOj ih _ _ _ _ _ h1
     have h6:=qUt hc
     rw [List.getElem?_map] at h6
     obtain ⟨x,hx,hx2⟩:=Option.map_eq_some_iff.mp h6
     refine ⟨_,.app (nm:=x.1) (a:=x.2) hx (by rw [h2]; exact qGv hx) h3 h4,?_⟩
     conv=>lhs; rw [← List.take_append_drop (qJf s) s]
     rw [h5,← hx2,List.append_assoc]; rfl
    ·cases h
theorem xCd {sig:Sg} (hn:Nms sig) {u:List Int} {s:Bs} (w:Wt sig u s):qZg sig s=.ok u:=by
 have:=xHg hn w (s.length+1) [] (by omega) fun b t e=>by cases e
 rw [List.append_nil] at this
 unfold qZg
 rw [this]; rfl
theorem qGf {sig:Sg} {u:List Int} {s:Bs} (h:qZg sig s=.ok u):Wt sig u s:=by
 unfold qZg at h
 split at h
 ·cases h
 ·rename_i l r h1
  split at h
  ·rename_i hr
   subst hr
   injection h with h
   subst h
   obtain ⟨t,ht,e⟩:=xCc _ _ _ _ h1
   rw [List.append_nil] at e
   rw [e]; exact ht
  ·cases h
theorem qOi {g:Bs→Except Int (List Int × Bs)} (hg:∀ s u r,g s=.ok (u,r)→u.length+r.length≤s.length+1):∀ (n:Nat) (b:Bool) (s:Bs) (l:List Int) (r:Bs),qYv g n b s=.ok (l,r)→l.length+r.length≤s.length
 | 0,true,s,l,r,h=>by
  injection h with h
  obtain ⟨rfl,rfl⟩:=Prod.mk.inj h
  simp
 | 0,false,s,l,r,h=>by
  unfold qYv at h
  split at h
  ·injection h with h
   obtain ⟨rfl,rfl⟩:=Prod.mk.inj h
   simp
  ·cases h
 | n+1,b,s,l,r,h=>by
  rw [qYv] at h
  by_cases hh:s.head?=some (if b then 40 else 44)
  ·rw [if_pos hh] at h
   split at h
   ·cases h
   ·rename_i l1 r1 h1
    split at h
    ·cases h
    ·rename_i m r2 h2
     injection h with h
     obtain ⟨rfl,rfl⟩:=Prod.mk.inj h
     have e1:=hg _ _ _ h1
     have e2:=qOi hg n false r1 m r2 h2
     have:s≠[]:=by rintro rfl; simp at hh
     have:=List.length_pos_iff.mpr this
     simp only [List.length_drop] at e1
     rw [List.length_append]; omega
  ·rw [if_neg hh] at h
   cases h
theorem qDh {p:UInt8→Bool}:∀ l:Bs,(l.dropWhile p).length≤l.length
 | []=>by simp
 | a::l=>by
  rw [List.dropWhile_cons]
  split
  ·have:=qDh (p:=p) l; simp only [List.length_cons]; omega
  ·simp
theorem qLv {sig:Sg}:∀ (f:Nat) (s:Bs) (u:List Int) (r:Bs),qUp sig f s=.ok (u,r)→u.length+r.length≤s.length+1:=by
 intro f
 induction f with
 | zero=>intro s u r h; cases h
 | succ f ih =>
  intro s u r h
  unfold qUp at h
  split at h
  ·split at h
   ·injection h with h
    obtain ⟨rfl,rfl⟩:=Prod.mk.inj h
    have:=qDh (p:=qXo) (s.drop 1)
    simp only [List.length_drop] at this
    simp only [List.length_singleton]; omega
   ·cases h
  ·split at h
   ·cases h
   ·split at h
    ·rename_i l r1 h1
     injection h with h
     obtain ⟨rfl,rfl⟩:=Prod.mk.inj h
     have:=qOi ih _ _ _ _ _ h1
     simp only [List.length_drop] at this
     rw [List.length_cons]; omega
    ·cases h
end Go.Proofs.Sp
namespace Go.Proofs.Nats
abbrev B:Nat:=4294967296
def val:List Nat→Nat
 | []=>0
 | x::l=>x+B*val l
def limbs (n:Nat):List Nat:=if h:n=0 then [] else (n % B)::limbs (n / B)
termination_by n
decreasing_by exact Nat.div_lt_self (Nat.pos_of_ne_zero h) (by decide)
def Ok (l:List Nat):Prop:=∀ x∈l,x<B
theorem qVq:limbs 0=[]:=by rw [limbs]; simp
theorem qKx {n:Nat} (h:n≠0):limbs n=(n % B)::limbs (n / B):=by rw [limbs]; simp [h]
theorem qYh (n:Nat):val (limbs n)=n:=by
 induction n using Nat.strongRecOn with
 | _ n ih =>
  by_cases h:n=0
  ·subst h; rw [qVq]; rfl
  ·rw [qKx h,val,ih (n / B) (Nat.div_lt_self (Nat.pos_of_ne_zero h) (by decide))]
   exact Nat.mod_add_div n B
theorem qLz (n:Nat):Ok (limbs n):=by
 induction n using Nat.strongRecOn with
 | _ n ih =>
  by_cases h:n=0
  ·subst h; rw [qVq]; intro x hx; simp at hx
  ·rw [qKx h]
   intro x hx
   rcases List.mem_cons.mp hx with rfl | hx
   ·exact Nat.mod_lt _ (by decide)
   ·exact ih (n / B) (Nat.div_lt_self (Nat.pos_of_ne_zero h) (by decide)) x hx
theorem Ok.tail {x:Nat} {l:List Nat} (h:Ok (x::l)):Ok l:=fun y hy=>h y (by simp [hy])
theorem Ok.take {l:List Nat} (h:Ok l) (n:Nat):Ok (l.take n):=fun y hy=>h y (List.mem_of_mem_take hy)
theorem qJb:∀ {l:List Nat},Ok l→(l=[]∨l.getLast?≠some 0)→l=limbs (val l)
 | [],_,_=>by rw [val,qVq]
 | x::l,ok,hl=>by
  have hx:x<B:=ok x (by simp)
  have htail:l=[]∨l.getLast?≠some 0:=by
   rcases l with _ | ⟨y,l⟩
   ·exact .inl rfl
   ·refine .inr fun h0=>?_
    rcases hl with hl | hl
    ·cases hl
    ·apply hl; rw [List.getLast?_cons_cons]; exact h0
  have ih:=qJb ok.tail htail
  have hne:val (x::l)≠0:=by
   intro h0
   rw [val] at h0
   have hx0:x=0:=by omega
   have hv0:val l=0:=by
    have:B*val l=0:=by omega
    rcases Nat.mul_eq_zero.mp this with h | h
    ·exact absurd h (by decide)
    ·exact h
   rw [hv0,qVq] at ih
   subst ih hx0
   rcases hl with hl | hl
   ·cases hl
   ·exact hl rfl
  rw [qKx hne]
  have h1:val (x::l) % B=x:=by rw [val,Nat.add_mul_mod_self_left,Nat.mod_eq_of_lt hx]
  have h2:val (x::l) / B=val l:=by rw [val,Nat.add_mul_div_left _ _ (by decide),Nat.div_eq_of_lt hx,Nat.zero_add]
  rw [h1,h2,← ih]
theorem qLa (n:Nat):limbs n=[]∨(limbs n).getLast?≠some 0:=by
  induction n using Nat.strongRecOn with
  | _ n ih =>
    by_cases h:n=0
    · subst h; exact .inl qVq
    · refine .inr ?_
      rw [qKx h]
      rcases ih (n / B) (Nat.div_lt_self (Nat.pos_of_ne_zero h) (by decide)) with h1 | h1
      · rw [h1]
        have h0:n / B=0:=by
          have:=congrArg val h1
          rw [qYh] at this; exact this
        have:n % B=n:=Nat.mod_eq_of_lt ((Nat.div_eq_zero_iff_lt (by decide)).mp h0)
        rw [this]
        simpa using h
      · cases hl:limbs (n / B) with
        | nil => rw [hl] at h1; simp at h1
                 have h0:n / B=0:=by
                   have:=congrArg val hl
                   rw [qYh] at this; exact this
                 have:n % B=n:=Nat.mod_eq_of_lt ((Nat.div_eq_zero_iff_lt (by decide)).mp h0)
                 rw [this]
                 simpa using h
        | cons y l=>rw [hl] at h1; rw [List.getLast?_cons_cons]; exact h1
theorem qJw:∀ (l m:List Nat),val (l++m)=val l+B ^ l.length*val m
 | [],m=>by simp [val]
 | x::l,m=>by
  rw [List.cons_append,val,qJw l m,val,List.length_cons,Nat.pow_succ]
  rw [Nat.mul_add,← Nat.mul_assoc,Nat.mul_comm B (B ^ l.length),Nat.add_assoc]
theorem qNt:∀ {l:List Nat},(∀ x∈l,x=0)→val l=0
 | [],_=>rfl
 | x::l,h=>by
  rw [val,h x (by simp),qNt fun y hy=>h y (by simp [hy])]
  rfl
theorem qBs {l:List Nat} (ok:Ok l) {k:Nat} (hz:∀ j,k≤j→∀ x,l[j]?=some x→x=0) (hk:k=0∨∃ x,l[k - 1]?=some x∧x≠0) (hle:k≤l.length):l.take k=limbs (val l):=by
 have hv:val l=val (l.take k):=by
  conv=>lhs; rw [← List.take_append_drop k l]
  rw [qJw,qNt (l:=l.drop k),Nat.mul_zero,Nat.add_zero]
  intro x hx
  obtain ⟨i,hi⟩:=List.getElem?_of_mem hx
  rw [List.getElem?_drop] at hi
  exact hz (k+i) (by omega) x hi
 rw [hv]
 refine qJb (ok.take k) ?_
 rcases hk with rfl | ⟨x,hx,hne⟩
 ·exact .inl (by simp)
 ·by_cases h0:k=0
  ·subst h0; exact .inl (by simp)
  ·refine .inr ?_
   rw [List.getLast?_eq_getElem?,List.length_take,Nat.min_eq_left hle,List.getElem?_take,if_pos (by omega),hx]
   simpa using hne
def right (l:List Nat):Prop:=l.length≤64∧l=limbs (val l)
instance (l:List Nat):Decidable (right l):=inferInstanceAs (Decidable (_∧_))
theorem xPr {l:List Nat} (ok:Ok l):right l↔l.length≤64∧(l=[]∨l.getLast?≠some 0):=by
 constructor
 ·rintro ⟨h1,h2⟩
  refine ⟨h1,?_⟩
  have:=qLa (val l)
  rw [← h2] at this; exact this
 ·rintro ⟨h1,h2⟩
  exact ⟨h1,qJb ok h2⟩
def dig (l:List Nat) (i:Nat):Nat:=l[i]?.getD 0
theorem xNm {l:List Nat} (ok:Ok l) (i:Nat):dig l i<B:=by
 unfold dig
 cases h:l[i]? with
 | none=>decide
 | some x=>exact ok x (List.mem_of_getElem? h)
theorem qRq {l:List Nat} {i x:Nat} (h:l[i]?=some x):dig l i=x:=by simp [dig,h]
theorem xIh {l:List Nat} {i:Nat} (h:l.length≤i):dig l i=0:=by simp [dig,List.getElem?_eq_none h]
theorem qZz (l:List Nat) (i:Nat):val (l.take (i+1))=val (l.take i)+B ^ i*dig l i:=by
 by_cases h:i<l.length
 ·rw [List.take_add_one,qJw,List.length_take,Nat.min_eq_left (by omega)]
  rw [List.getElem?_eq_getElem h]
  simp [val,dig,h]
 ·rw [List.take_of_length_le (by omega),List.take_of_length_le (by omega),xIh (by omega)]; simp
theorem qDp {l:List Nat} {n:Nat} (h:l.length≤n):val (l.take n)=val l:=by rw [List.take_of_length_le h]
theorem qLq {l:List Nat} {i x:Nat} (h:i<l.length):(l.set i x).take (i+1)=l.take i++[x]:=by
 apply List.ext_getElem?
 intro j
 rw [List.getElem?_take,List.getElem?_set,List.getElem?_append,List.length_take,Nat.min_eq_left (by omega)]
 by_cases h1:j<i
 ·rw [if_pos (by omega),if_neg (by omega),if_pos h1,List.getElem?_take,if_pos h1]
 ·rw [if_neg h1]
  by_cases h2:i=j
  ·subst h2; simp [h]
  ·rw [if_neg (by omega),List.getElem?_eq_none (by simp; omega)]
theorem qNu {l:List Nat} {i x:Nat} (h:i<l.length):val ((l.set i x).take (i+1))=val (l.take i)+B ^ i*x:=by
 rw [qLq h,qJw,List.length_take,Nat.min_eq_left (by omega)]; simp [val]
theorem Ok.set {l:List Nat} (h:Ok l) {i x:Nat} (hx:x<B):Ok (l.set i x):=fun y hy=>by
 rcases List.mem_or_eq_of_mem_set hy with h1 | rfl
 ·exact h y h1
 ·exact hx
theorem xCi (n:Nat):Ok (List.replicate n 0):=fun y hy=>by rw [(List.mem_replicate.mp hy).2]; decide
theorem xJf {l:List Nat} (ok:Ok l):val l<B ^ l.length:=by
 induction l with
 | nil=>simp [val]
 | cons x l ih =>
  have h1:=ih ok.tail
  have h2:=ok x (by simp)
  rw [val,List.length_cons,Nat.pow_succ]
  have h3:B*(val l+1)≤B*B ^ l.length:=Nat.mul_le_mul_left _ h1
  have h4:B*(val l+1)=B*val l+B:=by rw [Nat.mul_add,Nat.mul_one]
  rw [Nat.mul_comm (B ^ l.length) B]
  omega
theorem qSg {l:List Nat} (ok:Ok l) (i:Nat):val (l.take i)<B ^ i:=by
 induction i with
 | zero=>simp [val]
 | succ i ih =>
  rw [qZz,Nat.pow_succ]
  have h1:=xNm ok i
  have:B ^ i*(dig l i+1)≤B ^ i*B:=Nat.mul_le_mul_left _ h1
  rw [Nat.mul_add,Nat.mul_one] at this
  omega
theorem xYi {o c s t p q:Nat} (h:o+p*c=s) (ht:t=c+q):(o+p*(t % B))+(p*B)*(t / B)=s+p*q:=by
 subst ht
 have h1:p*((c+q) % B)+(p*B)*((c+q) / B)=p*(c+q):=by
  rw [Nat.mul_assoc,← Nat.mul_add,Nat.mod_add_div]
 rw [Nat.add_assoc,h1,Nat.mul_add,← h]; omega
def outcome (ok:Bool) (v:Nat):List Nat × Int:=if ok then (if (limbs v).length≤64 then (limbs v,0) else ([],2)) else ([],10)
def both (l m:List Nat):Bool:=decide (right l) && decide (right m)
end Go.Proofs.Nats
namespace Go.Proofs.Sp
open Go Go.Lib Sys Nats
def Out {α:Type} (x:Except Int α) (ok:α→Prop) (bad:Int→Prop):Prop:=match x with
 | .ok a=>ok a
 | .error e=>bad e
def must (b:Bool) (e:Int):Except Int Unit:=if b then .ok () else .error e
theorem qQk {α β:Type} {x:Except Int α} {f:α→Except Int β} {ok:β→Prop} {bad:Int→Prop}:Out (x >>= f) ok bad↔Out x (fun a=>Out (f a) ok bad) bad:=by
 cases x <;> rfl
theorem qEn {α:Type} {a:α} {ok:α→Prop} {bad:Int→Prop}:Out (.ok a) ok bad=ok a:=rfl
theorem qXw {b:Bool} {e:Int} {ok:Unit→Prop} {bad:Int→Prop}:Out (must b e) ok bad↔(b=true→ok ())∧(b=false→bad e):=by
 cases b <;> simp [must,Out]
theorem qQe {α β:Type} {x:Except Int α} {f:α→Except Int β} {b:β}:(x >>= f)=.ok b↔∃ a,x=.ok a∧f a=.ok b:=by
 cases x <;> simp [Bind.bind,Except.bind]
theorem qKa {b:Bool} {e:Int} {u:Unit}:must b e=.ok u↔b=true:=by cases b <;> simp [must]
def opt {α:Type} (x:Option α) (e:Int):Except Int α:=match x with
 | some a=>.ok a
 | none=>.error e
theorem qIx {α:Type} {x:Option α} {e:Int} {a:α}:opt x e=.ok a↔x=some a:=by cases x <;> simp [opt]
structure Mo where
 coef:List Nat
 exps:List Int
structure It where
 sym:Int
 p:List Mo
structure Nd where
 kind:Int
 kids:Int
 prec:List (Int × Int)
 ints:List It
structure Cm where
 word:Bs
 terms:List (List Int)
abbrev Ru:=List Int × List Int
structure Bk where
 sig:Sg
 rules:List Ru
 eqs:List Ru
 prec:List (Int × Int)
 cert:List Nd
 cmds:List Cm
def Bk.nil:Bk:=⟨[],[],[],[],[],[]⟩
def wSym:Bs:=[115,121,109]
def qKj:Bs:=[114,117,108,101]
def wEq:Bs:=[101,113]
def qWc:Bs:=[97,98,111,118,101]
def qEg:Bs:=[110,111,100,101]
def qUr:Bs:=[111,118,101,114]
def wSet:Bs:=[115,101,116]
def qUn:Bs:=[109,111,110,111]
def qUs:Bs:=[99,104,101,99,107]
def qZv:Bs:=[99,114,105,116,105,99,97,108]
def qFp:Bs:=[106,111,105,110]
def qUj:Bs:=[112,97,105,114,115]
def qZw:Bs:=[99,111,109,112,108,101,116,101]
def qZu:Bs:=[110,111,114,109,97,108]
def qJu:Bs:=[101,113,117,97,108]
def qJv:Bs:=[45,62]
def wIs:Bs:=[61]
def kinds:List Bs:=[[],[108,112,111],[112,111,108,121],qUj,[100,114,111,112,108,112,111],[100,114,111,112,112,111,108,121]]
def most:Nat:=2147483647
def qPf (w:Bs):Nat:=if w∈kinds then kinds.idxOf w else 0
def qJa (m:Bs):Bool:=qVr ⟨m.toArray⟩
def qXx (sig:Sg) (w:Bs) (marked:Bool):Option Int:=match symI (sig.map (·.1)) w with
 | some c=>some (c:Int)
 | none=>if marked && w.getLast?==some 35 then (symI (sig.map (·.1)) w.dropLast).map (fun c=>((c+sig.length:Nat):Int)) else none
def qMw (l:Bs):Option (List Nat):=match numV l with
 | some n=>if (limbs n).length≤64 then some (limbs n) else none
 | none=>none
def qPw (top:Nat):List Bs→Option (List Int)
 | []=>some []
 | w::ws=>match numT w top with
  | some n=>(qPw top ws).map ((n:Int)::·)
  | none=>none
def at1 (w:List Bs) (i:Nat):Bs:=(w[i]?).getD []
def count (w:List Bs) (n:Nat):Except Int Unit:=must (w.length==n) 222
def qJq (sig:Sg) (w:List Bs) (mid:Bs):Except Int Ru :=
 must (w.length==4 && at1 w 2==mid) 222 >>= fun _=>qZg sig (at1 w 1) >>= fun l=>qZg sig (at1 w 3) >>= fun r=>.ok (l,r)
def qJr (B:Bk):Except Int Nd:=opt B.cert.getLast? 222
def qXy (B:Bk) (n:Nd):Bk:={ B with cert:=B.cert.dropLast++[n] }
def qWt (B:Bk) (w:List Bs):Except Int Bk :=
 let c:=at1 w 0
 if c=qKj then qJq B.sig w qJv >>= fun r=>must (decide (B.rules.length+1≤64)) 226 >>= fun _=>.ok { B with rules:=B.rules++[r] }
 else if c=wEq then qJq B.sig w wIs >>= fun r=>must (decide (B.eqs.length+1≤64)) 226 >>= fun _=>.ok { B with eqs:=B.eqs++[r] }
 else if c=qWc then count w 3 >>= fun _=>opt (qXx B.sig (at1 w 1) false) 223 >>= fun a=>opt (qXx B.sig (at1 w 2) false) 223 >>= fun b=>.ok { B with prec:=B.prec++[(a,b)] }
 else if c=qEg then count w 3 >>= fun _=>must (decide (0<qPf (at1 w 1))) 223 >>= fun _=>opt (numT (at1 w 2) most) 225 >>= fun n=>.ok { B with cert:=B.cert++[⟨(qPf (at1 w 1):Nat),(n:Int),[],[]⟩] }
 else if c=qUr then count w 3 >>= fun _=>qJr B >>= fun n=>opt (qXx B.sig (at1 w 1) true) 223 >>= fun a=>opt (qXx B.sig (at1 w 2) true) 223 >>= fun b=>.ok (qXy B { n with prec:=n.prec++[(a,b)] })
 else if c=wSet then count w 2 >>= fun _=>qJr B >>= fun n=>opt (qXx B.sig (at1 w 1) true) 223 >>= fun a=>.ok (qXy B { n with ints:=n.ints++[⟨a,[]⟩] })
 else if c=qUn then must (decide (1<w.length)) 222 >>= fun _=>qJr B >>= fun n=>opt n.ints.getLast? 222 >>= fun i=>opt (qMw (at1 w 1)) 225 >>= fun co=>opt (qPw most (w.drop 2)) 225 >>= fun es =>
  .ok (qXy B { n with ints:=n.ints.dropLast++[{ i with p:=i.p++[⟨co,es⟩] }] })
 else if c=qUs∨c=qZv∨c=qFp∨c=qUj∨c=qZw then count w 1 >>= fun _=>.ok { B with cmds:=B.cmds++[⟨c,[]⟩] }
 else if c=qZu then count w 2 >>= fun _=>qZg B.sig (at1 w 1) >>= fun l=>.ok { B with cmds:=B.cmds++[⟨c,[l]⟩] }
 else if c=qJu then qJq B.sig w wIs >>= fun r=>.ok { B with cmds:=B.cmds++[⟨c,[r.1,r.2]⟩] }
 else .error 222
def symM (B:Bk) (past:Bool) (w:List Bs):Except Int Bk :=
 count w 3 >>= fun _=>must (!past) 222 >>= fun _=>must (qJa (at1 w 1) && (symI (B.sig.map (·.1)) (at1 w 1)).isNone) 223 >>= fun _=>opt (numT (at1 w 2) 8) 225 >>= fun n =>
  must (decide (B.sig.length+1≤64)) 226 >>= fun _=>.ok { B with sig:=B.sig++[(at1 w 1,(n:Int))] }
def qEi (B:Bk) (past:Bool) (w:List Bs):Except Int (Bk × Bool) :=
 if at1 w 0=wSym then symM B past w >>= fun B=>.ok (B,past) else qWt B w >>= fun B=>.ok (B,true)
def qVv (x:UInt8):Bs→List Bs
 | []=>[[]]
 | b::l=>if b=x then []::qVv x l else match qVv x l with
  | []=>[[b]]
  | c::cs=>(b::c)::cs
def qQz (l:Bs):List Bs:=(qVv 32 l).filter (·≠[])
def mute (w:List Bs):Bool:=match w with
 | []=>true
 | x::_=>x.head?==some 35
def qDe:Bk→Bool→Nat→List Bs→Bk × Nat × Int
 | B,_,_,[]=>(B,0,0)
 | B,past,n,l::ls=>if mute (qQz l) then qDe B past (n+1) ls else match qEi B past (qQz l) with
  | .ok (B,past)=>qDe B past (n+1) ls
  | .error e=>(Bk.nil,n+1,e)
open Classical in
noncomputable def W (sig:Sg) (u:List Int):Bs:=if h:∃ s,Wt sig u s then h.choose else []
theorem qLl {sig:Sg} {u:List Int} (h:qZn sig u):Wt sig u (W sig u):=by
 have h1:=wt_ex u.length u (Nat.le_refl _) h
 unfold W
 rw [dif_pos h1]
 exact h1.choose_spec
theorem W_of {sig:Sg} {u:List Int} {s:Bs} (h:Wt sig u s):W sig u=s:=(qLl h.term).uni h
noncomputable def qYu (sig:Sg) (u:List Int):Except Int Bs:=if scan sig 1 u≠0 then .error (scan sig 1 u) else .ok (W sig u)
def qIg (sig:Sg) (c:Int) (marked:Bool):Except Int Bs :=
 must (decide (0≤c) && (decide (c<sig.length) || marked && decide (c<2*sig.length))) 223 >>= fun _ =>
  .ok (if c<sig.length then ((sig[c.toNat]?).map (·.1)).getD [] else ((sig[(c - sig.length).toNat]?).map (·.1)).getD []++[35])
def numM (n:Int):Except Int Bs:=must (decide (0≤n) && decide (n≤most)) 225 >>= fun _=>.ok (decDigits n.toNat)
def qWe (ws:List Bs):Bs:=[32].intercalate ws++[10]
def allM {α:Type} (f:α→Except Int Bs):List α→Except Int Bs
 | []=>.ok []
 | x::l=>f x >>= fun a=>allM f l >>= fun b=>.ok (a++b)
def rowM {α:Type} (f:α→Except Int Bs):List α→Except Int (List Bs)
 | []=>.ok []
 | x::l=>f x >>= fun a=>rowM f l >>= fun b=>.ok (a::b)
def symW (x:Bs × Int):Except Int Bs:=must (!(x.1.getLast?==some 35)) 223 >>= fun _=>numM x.2 >>= fun n=>.ok (qWe [wSym,x.1,n])
noncomputable def qGb (sig:Sg) (first mid:Bs) (r:Ru):Except Int Bs:=qYu sig r.1 >>= fun a=>qYu sig r.2 >>= fun b=>.ok (qWe [first,a,mid,b])
noncomputable def qUw (sig:Sg) (first mid:Bs) (l:List Ru):Except Int Bs:=allM (qGb sig first mid) l >>= fun s=>must (decide (l.length≤64)) 226 >>= fun _=>.ok s
def qEh (sig:Sg) (first:Bs) (marked:Bool) (x:Int × Int):Except Int Bs:=qIg sig x.1 marked >>= fun a=>qIg sig x.2 marked >>= fun b=>.ok (qWe [first,a,b])
def xYg (l:List Nat):Except Int Bs:=must (decide (l.length≤64) && decide (l=limbs (val l))) 225 >>= fun _=>.ok (decDigits (val l))
def qCd (m:Mo):Except Int Bs:=xYg m.coef >>= fun c=>rowM numM m.exps >>= fun es=>.ok (qWe (qUn::c::es))
def intW (sig:Sg) (i:It):Except Int Bs:=qIg sig i.sym true >>= fun a=>allM qCd i.p >>= fun s=>.ok (qWe [wSet,a]++s)
def qGm (sig:Sg) (n:Nd):Except Int Bs:=must (decide (0<n.kind) && decide (n.kind<6)) 222 >>= fun _=>numM n.kids >>= fun k=>allM (qEh sig qUr true) n.prec >>= fun s1=>allM (intW sig) n.ints >>= fun s2 =>
 .ok (qWe [qEg,at1 kinds n.kind.toNat,k]++s1++s2)
def qIb (w:Bs):Except Int Nat:=if w=qUs∨w=qZv∨w=qFp∨w=qUj∨w=qZw then .ok 0 else if w=qZu then .ok 1 else if w=qJu then .ok 2 else .error 222
def between (x:Bs):List Bs→List Bs
 | []=>[]
 | [a]=>[a]
 | a::l=>a::x::between x l
noncomputable def cmdW (sig:Sg) (c:Cm):Except Int Bs:=qIb c.word >>= fun n=>must (c.terms.length==n) 224 >>= fun _=>rowM (qYu sig) c.terms >>= fun ts=>.ok (qWe (c.word::between wIs ts))
noncomputable def qGg (sgE:Int) (B:Bk):Except Int Bs :=
 if sgE≠0 then .error sgE else must (decide (B.sig.length≤64)) 226 >>= fun _=>allM symW B.sig >>= fun s1=>qUw B.sig qKj qJv B.rules >>= fun s2=>qUw B.sig wEq wIs B.eqs >>= fun s3 =>
  allM (qEh B.sig qWc false) B.prec >>= fun s4=>allM (qGm B.sig) B.cert >>= fun s5=>allM (cmdW B.sig) B.cmds >>= fun s6 =>
  must (decide ((s1++s2++s3++s4++s5++s6).length≤65536) && decide ((s1++s2++s3++s4++s5++s6).count 10<4096)) 220 >>= fun _=>.ok (s1++s2++s3++s4++s5++s6)
end Go.Proofs.Sp
namespace Go.Proofs.Sp
open Go Go.Lib
theorem xXt (l:List UInt8) (i:Nat):(⟨l.toArray⟩:ByteArray).get! i=l.getD i 0:=by
 unfold ByteArray.get!
 simp only [List.getD_eq_getElem?_getD]
 by_cases h:i<l.length
 ·rw [getElem!_pos _ _ (by simpa using h)]; simp [h]
 ·rw [getElem!_neg _ _ (by simpa using h)]
  rw [List.getElem?_eq_none (by omega)]; rfl
theorem decL (l:List UInt8):decodeL l=decodeN l.length (l.getD 0 0).toNat (l.getD 1 0).toNat (l.getD 2 0).toNat (l.getD 3 0).toNat:=by
 unfold decodeL
 rw [decode_at]
 simp only [xXt]
 rfl
set_option maxHeartbeats 4000000 in
theorem qRs {n m b0 b1 b2 b3 c1 c2 c3:Nat} (hm:n≤m) (h1:1<n→c1=b1) (h2:2<n→c2=b2) (h3:3<n→c3=b3) (hok:decodeN n b0 b1 b2 b3≠(65533,1)):decodeN m b0 c1 c2 c3=decodeN n b0 b1 b2 b3:=by
 unfold decodeN at hok ⊢
 by_cases g0:b0<128
 ·rw [if_pos g0,if_pos g0]
 rw [if_neg g0] at hok ⊢
 rw [if_neg g0]
 by_cases g1:b0 / 32=6∧(1<n∧b1 / 64=2)
 ·obtain rfl:=h1 g1.2.1
  rw [if_pos g1,if_pos ⟨g1.1,by omega,g1.2.2⟩]
 rw [if_neg g1] at hok ⊢
 by_cases g2:b0 / 16=14∧(1<n∧b1 / 64=2)∧(2<n∧b2 / 64=2)
 ·obtain rfl:=h1 g2.2.1.1
  obtain rfl:=h2 g2.2.2.1
  rw [if_pos g2,if_neg (by omega),if_pos ⟨g2.1,⟨by omega,g2.2.1.2⟩,by omega,g2.2.2.2⟩]
 rw [if_neg g2] at hok ⊢
 by_cases g3:b0 / 8=30∧(1<n∧b1 / 64=2)∧(2<n∧b2 / 64=2)∧(3<n∧b3 / 64=2)
 ·obtain rfl:=h1 g3.2.1.1
  obtain rfl:=h2 g3.2.2.1.1
  obtain rfl:=h3 g3.2.2.2.1
  rw [if_pos g3,if_neg (by omega),if_neg (by omega),if_pos ⟨g3.1,⟨by omega,g3.2.1.2⟩,⟨by omega,g3.2.2.1.2⟩,by omega,g3.2.2.2.2⟩]
 rw [if_neg g3] at hok
 exact absurd rfl hok
theorem xEo {n b0 b1 b2 b3:Nat} (hn:1≤n):1≤(decodeN n b0 b1 b2 b3).2∧(decodeN n b0 b1 b2 b3).2≤n:=by
 unfold decodeN
 repeat' split
 all_goals (dsimp only; omega)
theorem qFc {a b:List UInt8} {i:Nat} (h:i<a.length):(a++b).getD i 0=a.getD i 0:=by
 rw [List.getD_eq_getElem?_getD,List.getD_eq_getElem?_getD,List.getElem?_append_left h]
theorem xIk {a b:List UInt8} (ha:a≠[]) (hok:decodeL a≠(65533,1)):decodeL (a++b)=decodeL a:=by
 have hl:=List.length_pos_iff.mpr ha
 rw [decL] at hok
 rw [decL,decL,qFc (i:=0) hl]
 exact qRs (by simp) (fun h=>by rw [qFc h]) (fun h=>by rw [qFc h]) (fun h=>by rw [qFc h]) hok
theorem xYd {a:List UInt8} (ha:a≠[]):1≤(decodeL a).2∧(decodeL a).2≤a.length:=by
 rw [decL]; exact xEo (List.length_pos_iff.mpr ha)
theorem xJd {b:List UInt8}:∀ (n:Nat) (a:List UInt8),a.length≤n→validD a=true→validD (a++b)=validD b:=by
 intro n
 induction n with
 | zero =>
  intro a ha _
  obtain rfl:=List.length_eq_zero_iff.mp (show a.length=0 by omega)
  rfl
 | succ n ih =>
  intro a ha hv
  by_cases h0:a=[]
  ·subst h0; rfl
  ·obtain ⟨w1,w2⟩:=xYd h0
   rw [validD_step a h0] at hv
   split at hv
   ·cases hv
   ·rename_i hne
    rw [validD_step _ (by simp [h0]),xIk h0 (fun e=>hne (by rw [e]; exact ⟨rfl,rfl⟩)),if_neg hne,List.drop_append_of_le_length w2]
    exact ih _ (by rw [List.length_drop]; omega) hv
theorem xZv {a b:List UInt8} (h:validD a=true):validD (a++b)=validD b:=xJd a.length a (Nat.le_refl _) h
theorem xJc {a b:List UInt8} (h:∀ x∈a,x.toNat<128):validD (a++b)=validD b:=by
 rw [validD_ascii a.length (a++b) (by rw [List.take_left' rfl]; exact h),List.drop_left' rfl]
end Go.Proofs.Sp
namespace Go.Proofs.Sp
open Go Go.Lib Sys Nats
theorem qTc {s:ByteArray}:∀ (d p:Nat),s.size - p≤d→qIf s p=true→∀ j,p≤j→j<s.size→qVu (s.get! j)=true∧(j=0→qXk (s.get! j)=true):=by
 intro d
 induction d with
 | zero=>intro p hp _ j h1 h2; omega
 | succ d ih =>
  intro p hp hok j h1 h2
  rw [qCb (by omega),Bool.and_eq_true] at hok
  have hw:1≤(Utf8.decode s p).2:=by
   by_cases hb:(s.get! p).toNat<128
   ·rw [qPh hb]; exact Nat.le_refl _
   ·exact (qUd hb).2.1
  by_cases hj:j<p+(Utf8.decode s p).2
  ·by_cases hjp:j=p
   ·subst hjp
    by_cases hb:(s.get! j).toNat<128
    ·rw [qPh hb] at hok
     by_cases h0:j=0
     ·rw [if_pos h0] at hok
      have hl:qXk (s.get! j)=true:=by
       have:=hok.1
       unfold letter at this
       unfold qXk
       exact this
      exact ⟨qVm hl,fun _=>hl⟩
     ·rw [if_neg h0] at hok
      refine ⟨?_,fun h=>absurd h h0⟩
      have:=hok.1
      unfold more letter at this
      unfold qVu qXk
      exact this
    ·have hl:qXk (s.get! j)=true:=by unfold qXk; simp; omega
     exact ⟨qVm hl,fun _=>hl⟩
   ·have hb:¬ (s.get! p).toNat<128:=fun hb=>by
     rw [qPh hb] at hj; dsimp only at hj; omega
    have:=(qUd hb).2.2 (j - p) (by omega) (by omega)
    rw [show p+(j - p)=j by omega] at this
    have hl:qXk (s.get! j)=true:=by unfold qXk; simp; omega
    exact ⟨qVm hl,fun _=>hl⟩
  ·exact ih _ (by omega) hok.2 j (by omega) h2
theorem qUx {m:Bs} (h:qJa m=true):qRf m∧validD m=true:=by
 unfold qJa qVr at h
 simp only [Bool.and_eq_true,bne_iff_ne,ne_eq,decide_eq_true_eq] at h
 obtain ⟨⟨⟨h0,_⟩,hv⟩,hok⟩:=h
 have hs:(⟨m.toArray⟩:ByteArray).size=m.length:=rfl
 have hb:=qTc _ 0 (Nat.le_refl _) hok
 refine ⟨?_,hv⟩
 have hm:∀ j x,m[j]?=some x→qVu x=true∧(j=0→qXk x=true):=fun j x hx=>by
  have hj:=(List.getElem?_eq_some_iff.mp hx).1
  have:=hb j (Nat.zero_le _) (by rw [hs]; exact hj)
  rw [xXt,List.getD_eq_getElem?_getD,hx] at this
  exact this
 cases m with
 | nil=>exact absurd rfl h0
 | cons b r =>
  refine ⟨b,r,rfl,(hm 0 b rfl).2 rfl,fun x hx=>?_⟩
  obtain ⟨j,hj⟩:=List.getElem?_of_mem hx
  exact (hm (j+1) x (by simpa using hj)).1
theorem xZm {m:Bs} (h:qRf m):∀ b∈m,qVu b=true:=by
 obtain ⟨b,r,rfl,hb,hr⟩:=h
 intro x hx
 rcases List.mem_cons.mp hx with rfl | hx
 ·exact qVm hb
 ·exact hr x hx
theorem xKp {m:Bs} (h:qJa m=true):m.getLast?≠some 35:=fun e=>by
 have:=xZm (qUx h).1 35 (List.mem_of_getLast? e)
 rw [xFh] at this; cases this
structure SgOk (sig:Sg):Prop where
 nm:∀ x∈sig,qJa x.1=true
 own:∀ (c:Nat) x,sig[c]?=some x→symI (sig.map (·.1)) x.1=some c
 ar:∀ x∈sig,0≤x.2∧x.2≤8
 len:sig.length≤64
theorem SgOk.nms {sig:Sg} (h:SgOk sig):Nms sig:=⟨fun x hx=>.inl (qUx (h.nm x hx)).1,h.own⟩
structure Clean (w:Bs):Prop where
 ne:w≠[]
 no:∀ b∈w,b≠32∧b≠10
 ok:∀ r,validD (w++r)=validD r
theorem xWg {b:UInt8} (h:qVu b=true):b≠32∧b≠10:=by
 constructor <;> (rintro rfl; revert h; decide)
theorem qBh {w:Bs} (h0:w≠[]) (h:∀ b∈w,b≠32∧b≠10∧b.toNat<128):Clean w:=⟨h0,fun b hb=>⟨(h b hb).1,(h b hb).2.1⟩,fun r=>xJc fun b hb=>(h b hb).2.2⟩
theorem qRr {b:UInt8} (h:qXo b=true):b≠32∧b≠10∧b.toNat<128:=by
 unfold qXo at h
 simp only [Bool.and_eq_true,decide_eq_true_eq] at h
 refine ⟨?_,?_,by omega⟩ <;> (rintro rfl; revert h; decide)
theorem qRu (n:Nat):Clean (decDigits n):=qBh (xZg n) fun b hb=>qRr (qPi n b hb)
theorem qYg {m:Bs} (h:qJa m=true):Clean m:=by
 obtain ⟨hb,hv⟩:=qUx h
 refine ⟨?_,fun b hx=>xWg (xZm hb b hx),fun r=>xZv hv⟩
 obtain ⟨b,r,rfl,_⟩:=hb
 simp
theorem qRv {a b:Bs} (ha:Clean a) (hb:∀ x∈b,x≠32∧x≠10) (hv:∀ r,validD (b++r)=validD r):Clean (a++b):=by
 refine ⟨fun e=>ha.ne (List.append_eq_nil_iff.mp e).1,fun x hx=>?_,fun r=>?_⟩
 ·rcases List.mem_append.mp hx with hx | hx
  ·exact ha.no x hx
  ·exact hb x hx
 ·rw [List.append_assoc,ha.ok,hv]
theorem qLh {m:Bs} (h:Clean m):Clean (m++[35]):=qRv h (fun x hx=>by
 rw [List.mem_singleton.mp hx]; decide) fun r=>validD_cons 35 r (by decide)
theorem qHh:∀ ss:List Bs,(∀ s∈ss,Clean s)→(∀ x∈qYs ss,x≠32∧x≠10)∧∀ r,validD (qYs ss++r)=validD r
 | [],_=>⟨fun x hx=>by rw [List.mem_singleton.mp hx]; decide,fun r=>validD_cons 41 r (by decide)⟩
 | s::ss,h=>by
  obtain ⟨h1,h2⟩:=qHh ss fun t ht=>h t (by simp [ht])
  have hs:=h s (by simp)
  refine ⟨fun x hx=>?_,fun r=>?_⟩
  ·rcases List.mem_cons.mp hx with rfl | hx
   ·decide
   ·rcases List.mem_append.mp hx with hx | hx
    ·exact hs.no x hx
    ·exact h1 x hx
  ·show validD (44::(s++qYs ss)++r)=_
   rw [List.cons_append,validD_cons 44 _ (by decide),List.append_assoc,hs.ok,h2]
theorem xQd {ss:List Bs} (h:∀ s∈ss,Clean s):(∀ x∈qPl ss,x≠32∧x≠10)∧∀ r,validD (qPl ss++r)=validD r:=by
 cases ss with
 | nil=>exact ⟨fun x hx=>(by cases hx),fun r=>rfl⟩
 | cons s ss =>
  obtain ⟨h1,h2⟩:=qHh ss fun t ht=>h t (by simp [ht])
  have hs:=h s (by simp)
  refine ⟨fun x hx=>?_,fun r=>?_⟩
  ·rcases List.mem_cons.mp hx with rfl | hx
   ·decide
   ·rcases List.mem_append.mp hx with hx | hx
    ·exact hs.no x hx
    ·exact h1 x hx
  ·show validD (40::(s++qYs ss)++r)=_
   rw [List.cons_append,validD_cons 40 _ (by decide),List.append_assoc,hs.ok,h2]
theorem xKd {sig:Sg} (hn:∀ x∈sig,Clean x.1) {u:List Int} {s:Bs} (w:Wt sig u s):Clean s:=by
 induction w with
 | @var n h =>
  refine qBh (by simp) fun b hb=>?_
  rcases List.mem_cons.mp hb with rfl | hb
  ·decide
  ·exact qRr (qPi n b hb)
 | @app c nm a us ss h hl hs hw ih =>
  have:=xQd (ss:=ss) fun s hs'=>by
   obtain ⟨j,hj,rfl⟩:=List.getElem_of_mem hs'
   exact ih j _ _ (List.getElem?_eq_getElem (by omega)) (List.getElem?_eq_getElem hj)
  exact qRv (hn _ (List.mem_of_getElem? h)) this.1 this.2
theorem xDo {sig:Sg} (hn:∀ x∈sig,qJa x.1=true) {u:List Int} {s:Bs} (w:Wt sig u s):Clean s:=xKd (fun x hx=>qYg (hn x hx)) w
theorem qRt (x:UInt8):∀ (a b:Bs),(∀ c∈a,c≠x)→qVv x (a++x::b)=a::qVv x b
 | [],b,_=>by simp [qVv]
 | c::a,b,h=>by
  have h1:=qRt x a b fun d hd=>h d (by simp [hd])
  rw [List.cons_append,qVv,if_neg (h c (by simp)),h1]
theorem qFi (x:UInt8):∀ a:Bs,(∀ c∈a,c≠x)→qVv x a=[a]
 | [],_=>rfl
 | c::a,h=>by
  have h1:=qFi x a fun d hd=>h d (by simp [hd])
  unfold qVv
  rw [if_neg (h c (by simp)),h1]
theorem qCh (x:UInt8) (a b:Bs) (l:List Bs):[x].intercalate (a::b::l)=a++x::[x].intercalate (b::l):=by
 simp [List.intercalate,List.intersperse]
theorem qGy (x:UInt8) (a:Bs):[x].intercalate [a]=a:=by simp [List.intercalate,List.intersperse]
theorem qFo:∀ ws:List Bs,ws≠[]→(∀ w∈ws,w≠[]∧∀ b∈w,b≠32)→qVv 32 ([32].intercalate ws)=ws
 | [],h,_=>absurd rfl h
 | [a],_,h=>by rw [qGy]; exact qFi 32 a (h a (by simp)).2
 | a::b::l,_,h=>by
  rw [qCh,qRt 32 a _ (h a (by simp)).2,qFo (b::l) (by simp) fun w hw=>h w (by simp [List.mem_cons.mp hw])]
theorem qRg {x y:UInt8}:∀ {ws:List Bs},y∈[x].intercalate ws→y=x∨∃ w∈ws,y∈w
 | [],h=>by simp [List.intercalate] at h
 | [a],h=>by rw [qGy] at h; exact .inr ⟨a,by simp,h⟩
 | a::b::l,h=>by
  rw [qCh] at h
  rcases List.mem_append.mp h with h | h
  ·exact .inr ⟨a,by simp,h⟩
  ·rcases List.mem_cons.mp h with h | h
   ·exact .inl h
   ·rcases qRg h with h | ⟨w,hw,h⟩
    ·exact .inl h
    ·exact .inr ⟨w,by simp [List.mem_cons.mp hw],h⟩
theorem qGx:∀ {ws:List Bs},(∀ w∈ws,Clean w)→∀ r,validD ([32].intercalate ws++r)=validD r
 | [],_,r=>by simp [List.intercalate]
 | [a],h,r=>by rw [qGy]; exact (h a (by simp)).ok r
 | a::b::l,h,r=>by
  rw [qCh,List.append_assoc,(h a (by simp)).ok,List.cons_append,validD_cons 32 _ (by decide)]
  exact qGx (ws:=b::l) (fun w hw=>h w (by simp [List.mem_cons.mp hw])) r
structure Reads (B:Bk) (p:Bool) (s:Bs) (B':Bk) (p':Bool):Prop where
 go:∃ k,∀ n t,qDe B p n (qVv 10 (s++t))=qDe B' p' (n+k) (qVv 10 t)
 ok:∀ r,validD (s++r)=validD r
theorem Reads.refl (B:Bk) (p:Bool):Reads B p [] B p:=⟨⟨0,fun n t=>rfl⟩,fun r=>rfl⟩
theorem Reads.trans {B B' B'':Bk} {p p' p'':Bool} {s t:Bs} (h:Reads B p s B' p') (g:Reads B' p' t B'' p''):Reads B p (s++t) B'' p'':=by
 obtain ⟨k,hk⟩:=h.go
 obtain ⟨m,hm⟩:=g.go
 refine ⟨⟨k+m,fun n r=>?_⟩,fun r=>by rw [List.append_assoc,h.ok,g.ok]⟩
 rw [List.append_assoc,hk,hm,Nat.add_assoc]
theorem qIz {ws:List Bs} (hw:∀ w∈ws,Clean w) (h0:ws≠[]):qQz ([32].intercalate ws)=ws:=by
 unfold qQz
 rw [qFo ws h0 fun w h=>⟨(hw w h).ne,fun b hb=>((hw w h).no b hb).1⟩,List.filter_eq_self]
 intro w h
 simpa using (hw w h).ne
theorem qIr {B B':Bk} {p p':Bool} {ws:List Bs} {w:Bs} {l:List Bs} (e:ws=w::l) (hw:∀ w∈ws,Clean w) (hm:w.head?≠some 35) (hl:qEi B p ws=.ok (B',p')):Reads B p (qWe ws) B' p':=by
 have h0:ws≠[]:=by rw [e]; simp
 refine ⟨⟨1,fun n t=>?_⟩,fun r=>?_⟩
 ·unfold qWe
  rw [List.append_assoc,List.singleton_append,qRt 10 _ _ fun c hc=>?_]
  ·have:mute (qQz ([32].intercalate ws))=false:=by
    rw [qIz hw h0,e]
    unfold mute
    simpa using hm
   rw [qDe,this,if_neg (by simp),qIz hw h0,hl]
  ·rcases qRg hc with rfl | ⟨w,h1,h2⟩
   ·decide
   ·exact ((hw w h1).no c h2).2
 ·unfold qWe
  rw [List.append_assoc,qGx hw,List.singleton_append,validD_cons 10 _ (by decide)]
theorem qVg {α:Type} {f:α→Except Int Bs} {Q:Bk→Bs→Bk→Prop} (refl:∀ B,Q B [] B) (tr:∀ B s B' t B'',Q B s B'→Q B' t B''→Q B (s++t) B'') {st:List α→Bk} :
  ∀ (l pre:List α) (s:Bs),(∀ l1 x l2 s,l=l1++x::l2→f x=.ok s→Q (st (pre++l1)) s (st (pre++l1++[x])))→allM f l=.ok s→Q (st pre) s (st (pre++l))
 | [],pre,s,_,h=>by
  obtain rfl:[]=s:=by injection h
  rw [List.append_nil]; exact refl _
 | x::l,pre,s,step,h=>by
  obtain ⟨a,ha,h⟩:=qQe.mp h
  obtain ⟨b,hb,h⟩:=qQe.mp h
  obtain rfl:a++b=s:=by injection h
  have h1:=step [] x l a rfl ha
  rw [List.append_nil] at h1
  have h2:=qVg refl tr (st:=st) l (pre++[x]) b (fun l1 y l2 s e hy=>by
   have:=step (x::l1) y l2 s (by rw [e]; rfl) hy
   simpa using this) hb
  have:=tr _ _ _ _ _ h1 h2
  simpa using this
def RN (B:Bk) (s:Bs) (B':Bk):Prop:=∀ p,∃ p',Reads B p s B' p'
theorem RN.refl (B:Bk):RN B [] B:=fun p=>⟨p,.refl B p⟩
theorem RN.trans {B B' B'':Bk} {s t:Bs} (h:RN B s B') (g:RN B' t B''):RN B (s++t) B'':=fun p=>by
 obtain ⟨p',h'⟩:=h p
 obtain ⟨p'',g'⟩:=g p'
 exact ⟨p'',h'.trans g'⟩
theorem xHe {B B':Bk} {w:Bs} {l:List Bs} (hw:∀ x∈w::l,Clean x) (hm:w.head?≠some 35) (hs:w≠wSym) (hl:qWt B (w::l)=.ok B'):RN B (qWe (w::l)) B':=fun p =>
 ⟨true,qIr rfl hw hm (by
  unfold qEi
  rw [if_neg (show ¬ at1 (w::l) 0=wSym from hs),hl]; rfl)⟩
end Go.Proofs.Sp
namespace Go.Proofs.Sp
open Go Go.Lib
theorem xJg (a:Nat):∀ l:Bs,a≤valF a l
 | []=>Nat.le_refl _
 | b::l=>by
  have:=xJg (10*a+(b.toNat - 48)) l
  show a≤valF (10*a+(b.toNat - 48)) l
  omega
theorem xQw (l:Bs) (i:Nat):valD (l.take i)≤valD l:=by
 conv=>rhs; rw [← List.take_append_drop i l]
 unfold valD
 rw [qDq]; exact xJg _ _
theorem qZz {l:Bs} {i:Nat} {b:UInt8} (h:l[i]?=some b):valD (l.take (i+1))=10*valD (l.take i)+(b.toNat - 48):=by
 rw [List.take_add_one,h]
 unfold valD
 rw [qDq]; rfl
def qTp (s:Bs):Prop:=s≠[]∧(∀ b∈s,qXo b=true)∧valD s<2 ^ 62
theorem qGl {s:Bs} {top n:Nat} (h:numT s top=some n) (ht:top<2 ^ 62):qTp s∧valD s=n∧s=decDigits n∧n≤top:=by
 obtain ⟨h1,h2⟩:=qWn h
 refine ⟨⟨by rw [h1]; exact xZg n,by rw [h1]; exact qPi n,by rw [h1,qSh]; omega⟩,by rw [h1,qSh],h1,h2⟩
theorem xHo {s:Bs} {top:Nat} (h1:s=decDigits (valD s)) (h2:valD s≤top):numT s top=some (valD s):=by
 conv=>lhs; rw [h1]
 exact qDx h2
end Go.Proofs.Sp
namespace Go.Proofs.YtkdneddcocggdaaGreatDoor.Am
open Go Go.Proofs Go.RowKit Go.Lib Sys Sp
set_option maxRecDepth 100000
variable {D:Orc} {h h0:H} {k:Kv} {kp:Kp}
def xBg (D:Orc) (f:Nat):Prop:=∀ (s:ByteArray) h (k:Kv) kp,s.size<2 ^ 40→(qTp (bts s)→∀ h',Ext h h'→k (.tuple #[.int .u64 (valD (bts s):Int),.nilIface]) h') →
 (¬ qTp (bts s)→∀ (v c:Int) h',Ext h h'→(c=1∨c=2)→k (.tuple #[.int .u64 v,.iface 215 (.int .i64 c)]) h')→D f [.string s,.int .i64 10,.int .i64 62] h k kp
def lowV (x:Int):Int:=IntKind.u8.wrap ((BitVec.ofInt (IntKind.bits IntKind.u8) x ||| BitVec.ofInt (IntKind.bits IntKind.u8) 32).toNat:Int)
theorem qCe (c:Cl164 D) {x:Int} (hk:k (.int .u8 (lowV x)) h):D 164 [.int .u8 x] h k kp:=by
 refine c _ _ _ _ ?_
 unfold F164
 rw [qQa]
 exact hk
theorem xBm {n:Int} (h0:0≤n) (h1:n≤255):IntKind.u8.wrap n=n:=IntWalk.u8_in n ⟨h0,h1⟩
theorem qBf (s:ByteArray):(s.toList==(ByteArray.mk #[]).toList)=decide (bts s=[]):=by
 have:(ByteArray.mk #[]).toList=[]:=by rw [qQw]; rfl
 rw [qQw,this,Bool.eq_iff_iff,beq_iff_eq,decide_eq_true_eq]
theorem xMo {s:ByteArray} {b c:Nat} (hc:s.size≤c):Row (h.set b (.ro ((s.data.toList.map fun y=>Value.int .u8 (y.toNat:Int))++List.replicate (c - s.size) (.int .u8 0)))) (.slice (some ⟨b,0,none⟩) s.size c) (U8 (bts s)):=by
 have hl:(U8 (bts s)).length=s.size:=by rw [qWb,qQp]
 refine ⟨some ⟨b,0,none⟩,c,by rw [hl],by rw [hl]; exact hc,.inr ⟨_,rfl,rfl,_,by show qZk ((h.set b _) b)=_; rw [qQg]; rfl,?_,?_⟩⟩
 ·show 0+c≤_
  simp only [List.length_append,List.length_map,List.length_replicate]
  have:s.data.toList.length=s.size:=rfl
  omega
 ·rw [List.drop_zero,hl,List.take_left' (by
   rw [List.length_map]; rfl)]
  rfl
theorem xMt:IntKind.u64.wrap ((IntKind.u64.wrap (1*2 ^ (min (Int.toNat (IntKind.wrap IntKind.u64 62)) (IntKind.bits IntKind.u64)))) - 1)=4611686018427387903:=by decide
theorem xHh (cl:Cl164 D) {s:ByteArray} (hs:s.size<2 ^ 40) (h0:bts s≠[]) {sv:Value} (hr:Row h sv (U8 (bts s))) {K:Kl} (hK1:qTp (bts s)→K (.e 3) [.string s,.bool false,.int .u64 (valD (bts s):Int)] h)
  (hK2:¬ qTp (bts s)→∀ v c:Int,(c=1∨c=2)→K .r [.int .u64 v,.iface 215 (.int .i64 c)] h) :
  loop150_36 D [.int .i64 10,.bool false,.string s,.int .u64 1844674407370955162,.int .u64 4611686018427387903,.bool false,.int .u64 0,sv,.int .i64 (s.size:Int),.int .i64 0] h K:=by
 intro I hI
 have hl:(bts s).length=s.size:=rfl
 have key:∀ d i:Nat,i+d=s.size→(∀ j b,j<i→(bts s)[j]?=some b→qXo b=true)→valD ((bts s).take i)<2 ^ 62 →
   I [.int .i64 10,.bool false,.string s,.int .u64 1844674407370955162,.int .u64 4611686018427387903,.bool false,.int .u64 (valD ((bts s).take i):Int),sv,.int .i64 (s.size:Int),.int .i64 (i:Int)] h:=by
  intro d
  induction d with
  | zero =>
   intro i hi hd hv
   refine hI _ _ _ _ _ _ _ _ _ _ _ ?_
   unfold round150_36
   rw [qQa,qQc,qQb,qQa,qQa,qQc,qQa,qQa,qQa,qQd]
   refine ⟨fun hlt=>by omega,fun _=>?_⟩
   rw [List.take_of_length_le (by omega)] at hv ⊢
   exact hK1 ⟨h0,fun x hx=>by
    obtain ⟨j,hj⟩:=List.getElem?_of_mem hx
    have:=(List.getElem?_eq_some_iff.mp hj).1
    exact hd j x (by omega) hj,hv⟩
  | succ d ih =>
   intro i hi hd hv
   refine hI _ _ _ _ _ _ _ _ _ _ _ ?_
   unfold round150_36
   rw [qQa,qQc,qQb,qQa,qQa,qQc,qQa,qQa,qQa,qQd]
   refine ⟨fun _=>?_,fun hge=>by omega⟩
   have hib:i<(bts s).length:=by omega
   obtain ⟨x,hx⟩:∃ x,(bts s)[i]?=some x:=⟨_,List.getElem?_eq_getElem hib⟩
   refine hr.at_ (by omega) (by rw [qWb]; omega) fun ad v hv' hrd=>?_
   rw [Int.toNat_natCast] at hv'
   obtain rfl:v=.int .u8 (x.toNat:Int):=by
    unfold U8 at hv'
    rw [List.getElem?_map,hx] at hv'
    exact (Option.some.inj hv').symm
   refine ⟨_,hrd,?_⟩
   have hx255:x.toNat<256:=x.toNat_lt
   have hxm:x∈bts s:=List.mem_of_getElem? hx
   have vle:=xQw (bts s) i
   have vle1:=xQw (bts s) (i+1)
   have vs:=qZz hx
   have core:∀ (dv:Int),(qXo x=true→dv=((x.toNat - 48:Nat):Int))→(qXo x=false→10≤dv)→0≤dv→dv≤255 →
     j150_36_46 D I K (.int .i64 10) (.bool false) (.string s) (.int .u64 1844674407370955162) (.int .u64 4611686018427387903) (.bool false) (.int .u64 (valD ((bts s).take i):Int)) (.int .u8 dv) sv (.int .i64 (s.size:Int)) (.int .i64 (i:Int)) h:=by
    intro dv hd1 hd2 hd0 hd9
    unfold j150_36_46
    rw [qQa,qQc,qQb,qQa,qQa,qQc,qQa,qQa,qQa,qQa,xBm (n:=10) (by decide) (by decide),qQd]
    refine ⟨fun h10=>hK2 (fun g=>?_) _ _ (.inr rfl),fun h10=>?_⟩
    ·have h3:=g.2.1 x hxm
     have h4:=hd1 h3
     unfold qXo at h3
     simp only [Bool.and_eq_true,decide_eq_true_eq] at h3
     omega
    ·have hdx:qXo x=true:=by
      cases hq:qXo x with
      | true=>rfl
      | false=>exact absurd (hd2 hq) h10
     have hdv:=hd1 hdx
     rw [qQd]
     refine ⟨fun hcut=>hK2 (fun g=>?_) _ _ (.inl rfl),fun hcut=>?_⟩
     ·have h3:=g.2.2
      omega
     ·rw [qYi (n:=10) (by decide) (by decide),qYi (n:=dv) (by omega) (by omega),qYi (n:=(valD ((bts s).take i):Int)*10) (by omega) (by omega)]
      by_cases hover:(valD ((bts s).take i):Int)*10+dv>18446744073709551615
      ·rw [IntKind.wrap_u64,show (!(decide (((valD ((bts s).take i):Int)*10+dv) % 18446744073709551616<(valD ((bts s).take i):Int)*10)))=false by rw [decide_eq_true (by omega)]; rfl,cond_false]
       unfold j150_36_53
       rw [qQa,qQc,qQb,qQa,qQa,qQc,qQa,qQa,qQa,qQc,cond_true]
       refine hK2 (fun g=>?_) _ _ (.inl rfl)
       have h3:=g.2.2
       omega
      rw [qYi (n:=(valD ((bts s).take i):Int)*10+dv) (by omega) (by omega)]
      rw [show (!(decide ((valD ((bts s).take i):Int)*10+dv<(valD ((bts s).take i):Int)*10)))=true by rw [decide_eq_false (by omega)]; rfl,cond_true]
      unfold j150_36_53
      rw [qQa,qQc,qQb,qQa,qQa,qQc,qQa,qQa,qQa,qQc,qQd]
      refine ⟨fun hbig=>hK2 (fun g=>?_) _ _ (.inl rfl),fun hbig=>?_⟩
      ·have h3:=g.2.2
       omega
      ·unfold j150_36_55
       rw [qQa,qQc,qQb,qQa,qQa,qQc,qQa,qQa,qQa,qQt (by omega) (by omega)]
       have e1:(valD ((bts s).take i):Int)*10+dv=((valD ((bts s).take (i+1)):Nat):Int):=by rw [vs]; omega
       have e2:(i:Int)+1=((i+1:Nat):Int):=by omega
       rw [e1,e2]
       refine ih (i+1) (by omega) (fun j y hj hy=>?_) (by omega)
       rcases Nat.lt_succ_iff_lt_or_eq.mp hj with hj | rfl
       ·exact hd j y hj hy
       ·rw [hx] at hy; obtain rfl:=Option.some.inj hy; exact hdx
   have bad45:qXo x=false→j150_36_45 D I K (.int .i64 10) (.bool false) (.string s) (.int .u64 1844674407370955162) (.int .u64 4611686018427387903) (.bool false) (.int .u64 (valD ((bts s).take i):Int)) (.int .u8 (x.toNat:Int)) sv (.int .i64 (s.size:Int)) (.int .i64 (i:Int)) (.bool false) h:=fun hq=>by
    unfold j150_36_45
    rw [qQa,qQc,qQb,qQa,qQa,qQc,qQa,qQa,qQa,qQa,qQc,cond_false]
    exact hK2 (fun g=>by rw [g.2.1 x hxm] at hq; cases hq) _ _ (.inr rfl)
   have bad43:qXo x=false→j150_36_43 D I K (.int .i64 10) (.bool false) (.string s) (.int .u64 1844674407370955162) (.int .u64 4611686018427387903) (.bool false) (.int .u64 (valD ((bts s).take i):Int)) (.int .u8 (x.toNat:Int)) sv (.int .i64 (s.size:Int)) (.int .i64 (i:Int)) (.bool false) h:=fun hq=>by
    unfold j150_36_43
    rw [qQa,qQc,qQb,qQa,qQa,qQc,qQa,qQa,qQa,qQa,qQc,cond_false]
    refine qCe cl ⟨_,rfl,?_⟩
    rw [qQd]
    refine ⟨fun hy97=>?_,fun _=>bad45 hq⟩
    refine qCe cl ⟨_,rfl,?_⟩
    by_cases hz:lowV (x.toNat:Int)≤122
    ·rw [decide_eq_true hz]
     unfold j150_36_45
     rw [qQa,qQc,qQb,qQa,qQa,qQc,qQa,qQa,qQa,qQa,qQc,cond_true]
     refine qCe cl ⟨_,rfl,?_⟩
     rw [xBm (n:=lowV (x.toNat:Int) - 97) (by omega) (by omega),xBm (by omega) (by omega)]
     exact core _ (fun hh=>by rw [hq] at hh; cases hh) (fun _=>by omega) (by omega) (by omega)
    ·rw [decide_eq_false hz]
     exact bad45 hq
   have mid:j150_36_41 D I K (.int .i64 10) (.bool false) (.string s) (.int .u64 1844674407370955162) (.int .u64 4611686018427387903) (.bool false) (.int .u64 (valD ((bts s).take i):Int)) (.int .u8 (x.toNat:Int)) sv (.int .i64 (s.size:Int)) (.int .i64 (i:Int)) (.bool false) h:=by
    unfold j150_36_41
    rw [qQa,qQc,qQb,qQa,qQa,qQc,qQa,qQa,qQa,qQa,qQc,cond_false,qQd]
    have hdf:qXo x=(decide (48≤x.toNat) && decide (x.toNat≤57)):=rfl
    refine ⟨fun h48=>?_,fun h48=>bad43 (by rw [hdf,Bool.and_eq_false_iff]; exact .inl (decide_eq_false (by omega)))⟩
    by_cases h57:(x.toNat:Int)≤57
    ·rw [decide_eq_true h57]
     unfold j150_36_43
     rw [qQa,qQc,qQb,qQa,qQa,qQc,qQa,qQa,qQa,qQa,qQc,cond_true,xBm (by omega) (by omega)]
     exact core _ (fun _=>by omega) (fun hq=>by
      rw [hdf,Bool.and_eq_false_iff] at hq
      rcases hq with hq | hq <;> (have:=of_decide_eq_false hq; omega)) (by omega) (by omega)
    ·rw [decide_eq_false h57]
     exact bad43 (by rw [hdf,Bool.and_eq_false_iff]; exact .inr (decide_eq_false (by omega)))
   rw [qZj]
   exact ⟨fun _=>mid,fun _=>mid⟩
 exact key s.size 0 (by omega) (fun j b hj=>by omega) (by show valD []<_; decide)
theorem xGe (c:Cl150 D) (cl:Cl164 D):xBg D 150:=by
 intro s h k kp hs hk1 hk2
 refine c _ _ _ _ _ _ ?_
 unfold F150
 rw [qQb,qQa,qQa,qBf,qQd]
 refine ⟨fun h0=>hk2 (fun g=>g.1 h0) _ _ _ (Ext.refl h) (.inr rfl),fun h0=>?_⟩
 rw [show decide ((2:Int)≤10)=true from rfl,cond_true,show decide ((10:Int)≤36)=true from rfl]
 unfold j150__7
 rw [qQb,qQa,qQa,qQc,qQb,qQc,cond_true]
 unfold j150__21
 rw [qQb,qQa,qQa,qQc,qQb,show ((62:Int)==0)=false from rfl,cond_false,show (!(decide ((62:Int)<0)))=true from rfl,cond_true,show decide ((62:Int)>64)=false from rfl]
 unfold j150__24
 rw [qQb,qQa,qQa,qQc,qQb,qQc,cond_false]
 unfold j150__25
 rw [qQb,qQa,qQa,qQc,qQb,show ((10:Int)==10)=true from rfl,cond_true]
 unfold j150__32
 rw [qQb,qQa,qQa,qQc,qQb,qQa,xMt,show ((10:Int)==0)=false from rfl]
 refine ⟨by decide,fun b cc hb hcc=>?_⟩
 have e0:Ext h (h.set b (.ro ((s.data.toList.map fun y=>Value.int .u8 (y.toNat:Int))++List.replicate (cc - s.size) (.int .u8 0)))):=Ext.new hb
 have hr:=xMo (h:=h) (b:=b) hcc
 generalize h.set b (.ro ((s.data.toList.map fun y=>Value.int .u8 (y.toNat:Int))++List.replicate (cc - s.size) (.int .u8 0)))=h1 at e0 hr ⊢
 dsimp only
 rw [xWr]
 refine xHh cl hs h0 hr (fun g=>?_) fun g v c hc=>hk2 g v c h1 e0 hc
 rw [xs_e]
 show cond true _ _
 rw [cond_true,nth0,nth1,nth2,qQb,qQc,qQa,cond_false]
 unfold j150__57
 rw [qQa,qQc,cond_false]
 exact hk1 g h1 e0
def xQv (D:Orc) (f:Nat) (T:H→Prop):Prop:=∀ (a s:ByteArray) (c:Int) h (k:Kv) kp,s.size<2 ^ 40→T h→(c=1∨c=2)→(∀ t v h',Ext h h'→k (.iface t v) h') →
 D f [.string a,.string s,.int .i64 10,.int .i64 62,.iface 215 (.int .i64 c)] h k kp
theorem xUn {f g:Nat} {a s:ByteArray} (hs:s.size<2 ^ 40) (sc:qBq D 180) {u:TypeId} {v:Value} (hg:h g=some (.ro [.iface u v])) (hk:∀ p h',Ext h h'→k (Pt p) h') :
  ∃ v2:Value,rd h ⟨g,0,none⟩=some v2∧D 180 [(.string s)] h (fun v3 h4=>∃ s5:ByteArray,v3=(.string s5)∧(rd h4 ⟨g,0,none⟩=some v2)∧one (.string a)=true∧0<3∧one (.string s5)=true∧1<3∧one v2=true∧2<3∧newW h4 [(.string a),(.string s5),v2] (fun p6 h7=>k p6 h7)) kp:=by
 have hrd:rd h ⟨g,0,none⟩=some (.iface u v):=by simp [rd,hg,qZk]
 refine ⟨_,hrd,sc _ _ _ _ (by omega) ⟨_,rfl,hrd,rfl,by decide,rfl,by decide,rfl,by decide,fun b hb=>hk b _ (Ext.new hb)⟩⟩
theorem xPs {t:TypeId} {x y:Int} {K:Bool→Prop} (hk:K (x==y)):refE Tryz.prog h 133 (.iface 215 (.int .i64 x)) (.iface 215 (.int .i64 y)) K:=by
 have e:∀ (h:H) (x y:Int) (K:Bool→Prop),refE Tryz.prog h 133 (.iface 215 (.int .i64 x)) (.iface 215 (.int .i64 y)) K=(xEw Tryz.prog 215=true∧xAp Tryz.prog 215=true∧IntKind.i64=IntKind.i64∧K (x==y)):=fun h x y K=>by kernel_rfl
 rw [e]
 exact ⟨by kernel_rfl,by kernel_rfl,rfl,hk⟩
theorem xGd (c:Cl151 D) (c1:Cl166 D) (c2:Cl167 D) (sc:qBq D 180):xQv D 151 Tbl:=by
 intro a s e h k kp hs ht he hk
 refine c _ _ _ _ _ _ _ _ ?_
 unfold F151
 rw [qQb,qQb,qQa,qQa]
 refine xPs (t:=0) ?_
 rw [qZj]
 refine ⟨fun _=>?_,fun h2=>?_⟩
 ·refine c1 _ _ _ _ _ ?_
  unfold F166
  obtain ⟨u,v,hg⟩:=ht.syn
  rw [qQb,qQb]
  exact xUn (f:=0) hs sc hg fun p h' e'=>⟨_,rfl,hk _ _ h' e'⟩
 ·refine xPs (t:=0) ?_
  rw [qZj]
  refine ⟨fun _=>?_,fun h1=>by omega⟩
  refine c2 _ _ _ _ _ ?_
  unfold F167
  obtain ⟨u,v,hg⟩:=ht.rng
  rw [qQb,qQb]
  exact xUn (f:=0) hs sc hg fun p h' e'=>⟨_,rfl,hk _ _ h' e'⟩
def xQt (D:Orc) (f:Nat) (T:H→Prop):Prop:=∀ (s:ByteArray) h (k:Kv) kp,s.size<2 ^ 40→T h→(qTp (bts s)→∀ h',Ext h h'→k (.tuple #[.int .u64 (valD (bts s):Int),.nilIface]) h') →
 (¬ qTp (bts s)→∀ (v:Int) t e h',Ext h h'→k (.tuple #[.int .u64 v,.iface t e]) h')→D f [.string s,.int .i64 10,.int .i64 62] h k kp
theorem xEd {c:Bool} {K:Bool→Prop}:eqIf c .nilIface .nilIface K=(c=true∧K true):=rfl
theorem xGr (c:Cl123 D) (pu:xBg D 150) (te:xQv D 151 Tbl):xQt D 123 Tbl:=by
 intro s h k kp hs ht hk1 hk2
 refine c _ _ _ _ _ _ ?_
 unfold F123
 rw [qQb,qQa,qQa]
 refine pu _ _ _ _ hs (fun g h' e=>⟨_,_,rfl,?_⟩) fun g v cc h' e hc=>⟨_,_,rfl,?_⟩
 ·rw [xEd]
  exact ⟨rfl,hk1 g h' e⟩
 ·rw [qTw]
  show cond true _ _
  rw [cond_true]
  exact te _ _ _ _ _ _ hs (qQu _ _ e ht) hc fun t v h2 e2=>⟨_,rfl,hk2 g _ _ _ h2 (e.trans e2)⟩
def qLm (D:Orc) (f:Nat) (T:H→Prop):Prop:=∀ (n:Nat) h (k:Kv) kp,n<2 ^ 62→T h→(∀ h',Ext h h'→k (.string (strB (decDigits n))) h')→D f [.int .u64 (n:Int),.int .i64 10] h k kp
theorem xEl (n:Nat) (hn:n<2 ^ 64):nDigits n≤20:=by
 rcases Nat.eq_zero_or_pos n with rfl | hp
 ·rw [nDigits_small (by omega)]; omega
 ·have:=numDigits_eq n hp (by omega)
  split at this <;> omega
theorem xGc (c:Cl152 D) (s1:qHr D 158) (s2:qNo D 159 Tbl) (s3:xQu D 160):qLm D 152 Tbl:=by
 intro n h k kp hn ht hk
 refine c _ _ _ _ _ ?_
 unfold F152
 rw [qQa,qQa,show ((10:Int)==10)=true from rfl,cond_true,qQd]
 refine ⟨fun h100=>?_,fun h100=>?_⟩
 ·rw [qQt (by omega) (by omega)]
  exact s1 n _ _ _ (by omega) ⟨_,rfl,hk h (Ext.refl h)⟩
 ·intro p hp
  have e1:Ext h (h.set p (.cells (List.replicate 24 (.int .u8 0)))):=Ext.new hp
  have h20:=xEl n (by omega)
  have hsplit:(List.replicate 24 (Value.int .u8 0))=List.replicate (nDigits n) (.int .u8 0)++List.replicate (24 - nDigits n) (.int .u8 0):=by
   rw [List.replicate_append_replicate]; congr 1; omega
  show D _ _ (h.set p (.cells (List.replicate 24 (.int .u8 0)))) _ _
  refine s2 n _ _ _ (by omega) (by omega) (qQu _ _ e1 ht) ⟨_,rfl,?_⟩
  rw [qQf]
  have cut:∀ {K:Value→Prop},K (.slice (some ⟨p,0,none⟩) (nDigits n) 24)→qXu (.slice (some ⟨p,0,none⟩) 24 24) none (some (nDigits n:Int)) none 1 K:=fun hK =>
   xZh (s:=.slice (some ⟨p,0,none⟩) 24 24) trivial (by omega) (by show (nDigits n:Int)≤((24:Nat):Int); omega) (by
    rw [Int.toNat_natCast]; exact hK)
  refine cut (s3 p n 24 (List.replicate (24 - nDigits n) (.int .u8 0)) _ _ _ (by omega) (by rw [qQg,hsplit]) ⟨rfl,?_⟩)
  rw [qQf,qJx]
  refine cut ?_
  have hdl:=decDigits_length n
  have hrow:Row (h.set p (.cells (U8 (decDigits n)++List.replicate (24 - nDigits n) (.int .u8 0)))) (.slice (some ⟨p,0,none⟩) (nDigits n) 24) (U8 (decDigits n)):=by
   refine ⟨some ⟨p,0,none⟩,24,by rw [qWb,hdl],by rw [qWb,hdl]; omega,.inr ⟨_,rfl,rfl,_,by show qZk ((h.set p _) p)=_; rw [qQg]; rfl,?_,?_⟩⟩
   ·show 0+24≤_
    simp only [List.length_append,qWb,hdl,List.length_replicate]; omega
   ·rw [List.drop_zero,List.take_left' rfl]
  refine xKn hrow fun t ht'=>?_
  obtain rfl:t=strB (decDigits n):=xKm (by rw [ht',qQv])
  exact hk _ (Ext.new hp)
theorem xGq (c:Cl124 D) (fu:qLm D 152 Tbl):qLm D 124 Tbl:=by
 intro n h k kp hn ht hk
 refine c _ _ _ _ _ ?_
 unfold F124
 rw [qQa,qQa]
 exact fu n _ _ _ hn ht fun h' e=>⟨_,rfl,hk h' e⟩
def qNi (D:Orc) (f:Nat) (T:H→Prop):Prop:=∀ (s:ByteArray) (top:Nat) h (k:Kv) kp,s.size<2 ^ 40→top<2 ^ 62→T h→(∀ n h',Ext h h'→numT (bts s) top=some n→k (.int .i64 (n:Int)) h') →
 (∀ h',Ext h h'→numT (bts s) top=none→kp (chain 225) h')→D f [.string s,.int .i64 (top:Int)] h k kp
theorem xLb (c:Cl90 D) (cm:Cl28 D) (pu:xQt D 123 Tbl) (fu:qLm D 124 Tbl):qNi D 90 Tbl:=by
 intro s top h k kp hs htop ht hk1 hk2
 refine c _ _ _ _ _ ?_
 unfold F90
 rw [qQb,qQa]
 refine pu _ _ _ _ hs ht (fun g h' e=>⟨_,_,rfl,?_⟩) fun g v t er h' e=>⟨_,_,rfl,?_⟩
 ·rw [xEd]
  refine ⟨rfl,?_⟩
  rw [cond_true]
  refine fu _ _ _ _ g.2.2 (qQu _ _ e ht) fun h2 e2=>⟨_,rfl,?_⟩
  rw [qQw,qQw,qQv]
  by_cases hc:decDigits (valD (bts s))=bts s
  ·rw [beq_iff_eq.mpr hc,cond_true,qYi (by omega) (by omega)]
   refine qQl cm (fun hle=>⟨rfl,?_⟩) fun hgt=>hk2 h2 (e.trans e2) ?_
   ·have hle:=of_decide_eq_true hle
    unfold j90__3
    rw [qQa,qQt (by omega) (by have:=g.2.2; omega)]
    exact hk1 _ h2 (e.trans e2) (xHo hc.symm (by omega))
   ·have hgt:=of_decide_eq_false hgt
    cases hn:numT (bts s) top with
    | none=>rfl
    | some n =>
     obtain ⟨_,h3,_,h4⟩:=qGl hn htop
     omega
  ·rw [beq_eq_false_iff_ne.mpr hc,cond_false]
   refine qQl cm (fun hle=>by cases hle) fun _=>hk2 h2 (e.trans e2) ?_
   cases hn:numT (bts s) top with
   | none=>rfl
   | some n =>
    obtain ⟨_,h3,h4,_⟩:=qGl hn htop
    exact absurd (by rw [h3]; exact h4.symm) hc
 ·rw [qTw,cond_false]
  refine qQl cm (fun hle=>by cases hle) fun _=>hk2 h' e ?_
  cases hn:numT (bts s) top with
  | none=>rfl
  | some n=>exact absurd (qGl hn htop).1 g
end Go.Proofs.YtkdneddcocggdaaGreatDoor.Am
