/-
  Packed: A region's reading holds of the model's region, in whatever order its operations come. What an operation that writes nothing comes to: a value that hangs on the slots alone, a value read, a new block. An operation hangs on the slots that it looks at alone; what writes nothing has one of four forms, and moves past others. What is asked of the end may be weakened. Operations that stand apart change places. A region whose order is drawn: one order speaks for all, where a check says so. Code, loops and a function's body: what is read holds of the model's run. A function's loops, each the least that its rounds make; its calls. Calls that are deferred, and what is recovered. A round of a loop over a function.
-/
import Derived.Test.YtkdneddcocggdaaGreatDoorPkA
import Derived.OrdersIn
import Derived.Control
import Derived.KernelRfl
import Derived.Recover
import Derived.RangeFuncRecord
set_option linter.unusedVariables false
set_option linter.unusedSimpArgs false
set_option linter.unnecessarySimpa false
namespace Go.Proofs.YtkdneddcocggdaaGreatDoor.Am
open Go
variable {P:Program} {h:H} {w:World} {C:Orc} {kp:Kp} {Q:Exit→Act→World→Prop} {ops:Array Oper} {ds:List Deferred × Nat} {S:List (Nat × Value)}
def putE (e:Env) (d:Option Nat) (v:Option Value):Env:=match d with | some d=>e.set d (some (v.getD undef)) | none=>e
theorem qJh {e:Env} {d:Option Nat} {v:Value} {k:Env→Prop}:putk e d (some v) k↔k (putE e d (some v)):=by
 cases d with
 | none=>rfl
 | some d=>exact qJx
theorem qJg {e:Env} {d:Option Nat} {k:Env→Prop}:putk e d (some undef) k↔k (putE e d none):=by
 cases d with
 | none=>rfl
 | some d=>exact qJx
def step (P:Program) (C:Orc) (ops:Array Oper) (o:Oper) (e:Env) (h:H) (k:Option Value→H→Prop) (kp:Kp):Prop :=
 match o.guard with
 | none=>opW P C o e h (fun v h'=>k (some v) h') kp
 | some (j,want)=>∃ s c,qAj ops j=some s∧e[s]?=some (some c)∧(c=.bool want→opW P C o e h (fun v h'=>k (some v) h') kp)∧(c≠.bool want→k none h)
theorem qDf {e:Env} {s:Nat} {x:Option Value} (hs:e[s]?=some x):e.set s x=e:=by
 apply List.ext_getElem?
 intro i
 rw [List.getElem?_set]
 split
 ·rename_i hi
  subst hi
  rw [hs]
  have:s<e.length:=by
   rcases Nat.lt_or_ge s e.length with h | h
   ·exact h
   ·simp [List.getElem?_eq_none h] at hs
  simp [this]
 ·rfl
theorem qCv {rs:List Oper} {e:Env} {k:Prop}:qYx P rs e h k↔(∀ r∈rs,again P r e h)∧k:=by
 induction rs with
 | nil=>simp [qYx]
 | cons r rs ih=>simp [qYx,ih,and_assoc]
theorem xQj {o:Oper} {chk:List Oper} {rest:List (Oper × List Oper)} {e:Env} {k:Env→H→Prop} (hk:rgn P C ops ((o,chk)::rest) e h k kp) :
  step P C ops o e h (fun v h'=>(∀ r∈chk,v≠none→again P r (putE e o.dst v) h')∧rgn P C ops rest (putE e o.dst v) h' k kp) kp:=by
 unfold rgn at hk
 unfold step
 split at hk
 ·rename_i hg
  simp only [hg]
  have e1:(fun v h'=>putk e o.dst (some v) fun e'=>qYx P chk e' h' (rgn P C ops rest e' h' k kp)) =
    (fun v h'=>(∀ r∈chk,some v≠none→again P r (putE e o.dst (some v)) h')∧rgn P C ops rest (putE e o.dst (some v)) h' k kp):=by
   funext v h'
   rw [qJh,qCv]
   simp
  rw [e1] at hk; exact hk
 ·rename_i j want hg
  simp only [hg]
  split at hk
  ·exact hk.elim
  ·rename_i s hs
   obtain ⟨c,hc,hk1⟩:=qYt hk
   clear hk
   have e1:(fun v h'=>putk e o.dst (some v) fun e'=>qYx P chk e' h' (rgn P C ops rest e' h' k kp)) =
     (fun v h'=>(∀ r∈chk,some v≠none→again P r (putE e o.dst (some v)) h')∧rgn P C ops rest (putE e o.dst (some v)) h' k kp):=by
    funext v h'
    rw [qJh,qCv]
    simp
   refine ⟨s,c,hs,hc,fun htw=>?_,fun htw=>?_⟩
   ·subst htw
    have:(bif want then want else !want)=true:=by cases want <;> rfl
    simp only [grdW] at hk1
    rw [this,cond_true,qJx,qDf hc,e1] at hk1
    exact hk1
   ·refine ⟨by simp,?_⟩
    unfold grdW at hk1
    split at hk1
    ·rename_i t
     have htw:t≠want:=fun h=>htw (by rw [h])
     have h1:(bif want then t else !t)=false:=by cases t <;> cases want <;> simp_all
     have h2:(!want)=t:=by cases t <;> cases want <;> simp_all
     rw [h1,cond_false,qJx,h2,qDf hc,qJg] at hk1
     exact hk1
    ·rw [qJg] at hk1
     exact hk1
def yb:Value→Option Bool
 | .bool b=>some b
 | _=>none
theorem qBa (hC:Sound P C) {ro:Option Nat} {o:Oper} {e:Env} {a:Act} {i:Nat} {K:Act→World→Prop} (hi:ops[i]?=some o) (he:EnvR e a.tmps) (r:Rel h w) {k:Option Value→H→Prop} (hk:step P C ops o e h k kp)
  (hn:∀ v h' w',k v h'→Rel h' w'→Frame h w h' w'→K (a.put o.dst (v.getD undef)) w') (hp:∀ c h' w',kp c h'→Rel h' w'→Frame h w h' w'→Q (.panic c) a w') :
  wpOpIn (Fo ro) 0 P ops Q i K a w:=by
 unfold wpOpIn
 simp only [hi]
 unfold step at hk
 split at hk
 ·rename_i hg
  have:Region.wanted o (yielded ops a.tmps)=true:=by simp [Region.wanted,hg]
  rw [if_pos this]
  exact (qOa hC he r hk (fun v h' w' hv r' f=>by simpa using hn (some v) h' w' hv r' f) hp)
 ·rename_i j want hg
  obtain ⟨s,c,hs,hc,h1,h2⟩:=hk
  have hy:yielded ops a.tmps j=yb c:=by
   unfold qAj at hs
   unfold yielded
   rw [hs]
   simp only [Option.bind_some,he.2 _ _ hc]
   cases c <;> rfl
  by_cases ht:c=.bool want
  ·have:Region.wanted o (yielded ops a.tmps)=true:=by
    unfold Region.wanted
    rw [hg]
    show (yielded ops a.tmps j==some want)=true
    rw [hy,ht]
    exact beq_self_eq_true _
   rw [if_pos this]
   exact (qOa hC he r (h1 ht) (fun v h' w' hv r' f=>by simpa using hn (some v) h' w' hv r' f) hp)
  ·have:¬ Region.wanted o (yielded ops a.tmps)=true:=by
    cases c <;> simp [Region.wanted,hg,hy,yb] at ht ⊢
    exact ht
   rw [if_neg this]
   exact ⟨fun _ _=>trivial,by simpa using hn none h w (h2 ht) r (Frame.refl _ _)⟩
theorem EnvR.putE {e:Env} {a:Act} (r:EnvR e a.tmps) (d:Option Nat) (v:Option Value):EnvR (putE e d v) (a.put d (v.getD undef)).tmps:=by
 exact r.put d (v.getD undef)
def Jn (ds:List Deferred × Nat) (S:List (Nat × Value)) (a:Act):Prop:=a.defers=ds.1∧a.tmps.size=ds.2∧∀ x∈S,a.tmps[x.1]?=some x.2
def offS (S:List (Nat × Value)) (d:Option Nat):Prop:=∀ x∈S,d≠some x.1
theorem qWv (a:Act) (d:Option Nat) (v:Value):(a.put d v).defers=a.defers:=by cases d <;> rfl
theorem Jn.put {a:Act} {d:Option Nat} (j:Jn ds S a) (o:offS S d) (v:Value):Jn ds S (a.put d v):=by
 refine ⟨by rw [qWv]; exact j.1,?_,fun x hx=>?_⟩
 ·cases d with
  | none=>exact j.2.1
  | some s =>
   show (a.tmps.setIfInBounds s v).size=_
   rw [Array.size_setIfInBounds]; exact j.2.1
 cases d with
 | none=>exact j.2.2 x hx
 | some s =>
  show (a.tmps.setIfInBounds s v)[x.1]?=some x.2
  rw [Array.getElem?_setIfInBounds_ne (fun e=>o x hx (by rw [e]))]
  exact j.2.2 x hx
theorem qNh (hC:Sound P C) {ro:Option Nat}:∀ (is:List Nat) (items:List (Oper × List Oper)) (e:Env) (h:H) (a:Act) (w:World) (k:Env→H→Prop),items.map (·.1)=is.filterMap (ops[·]?)→(∀ i∈is,∃ o,ops[i]?=some o∧offS S o.dst) →
  EnvR e a.tmps→Jn ds S a→Rel h w→rgn P C ops items e h k kp →
  (∀ e h' a w',k e h'→EnvR e a.tmps→Jn ds S a→Rel h' w'→Frame h w h' w'→Q .normal a w')→(∀ c h' a w',kp c h'→Jn ds S a→Rel h' w'→Frame h w h' w'→Q (.panic c) a w') →
  wpOpsIn (Fo ro) 0 P ops Q is a w
 | [],items,e,h,a,w,k,hi,_,he,hd,r,hk,hn,_=>by
  simp at hi
  subst hi
  exact hn _ _ _ _ hk he hd r (Frame.refl _ _)
 | i::is,items,e,h,a,w,k,hi,hv,he,hd,r,hk,hn,hp=>by
  obtain ⟨o,ho,hoff⟩:=hv i (by simp)
  simp only [List.filterMap_cons,ho] at hi
  cases items with
  | nil=>simp at hi
  | cons x rest =>
   obtain ⟨o',chk⟩:=x
   simp only [List.map_cons,List.cons.injEq] at hi
   obtain ⟨rfl,hi⟩:=hi
   rw [wpOpsIn_cons]
   refine qBa hC ho he r (xQj hk) ?_ ?_
   ·intro v h' w' hv' r' f
    refine qNh hC is rest (putE e o'.dst v) h' _ w' k hi (fun j hj=>hv j (by simp [hj])) (he.putE _ _) (hd.put hoff _) r' hv'.2 ?_ ?_
    ·intro e'' h'' a'' w'' hk' he' hd' r'' f'
     exact hn _ _ _ _ hk' he' hd' r'' (f.trans f')
    ·intro c h'' a'' w'' hc hd' r'' f'
     exact hp _ _ _ _ hc hd' r'' (f.trans f')
   ·intro c h' w' hc r' f
    exact hp _ _ _ _ hc hd r' f
theorem qPp (l:List Oper):∀ n,n≤l.length→(List.range n).filterMap (l[·]?)=l.take n
 | 0,_=>by simp
 | n+1,hn=>by
  rw [List.range_succ,List.filterMap_append,qPp l n (by omega),List.take_add_one]
  simp [List.getElem?_eq_getElem (show n<l.length by omega)]
theorem qYd (l:List Oper):(List.range l.length).filterMap (l[·]?)=l:=by
 rw [qPp l _ (Nat.le_refl _),List.take_length]
variable {P:Program} {C:Orc} {ops:Array Oper}
def Det {α:Type} (W:(α→Prop)→Prop):Prop:=(∀ φ,¬ W φ)∨∃ v,∀ φ,W φ↔φ v
theorem Det.pt {α:Type} (v:α):Det (fun φ:α→Prop=>φ v):=.inr ⟨v,fun _=>Iff.rfl⟩
theorem Det.no {α:Type}:Det (fun _:α→Prop=>False):=.inl fun _ h=>h
theorem Det.bind {α β:Type} {W:(α→Prop)→Prop} {V:α→(β→Prop)→Prop} (hW:Det W) (hV:∀ a,Det (V a)):Det (fun φ=>W fun a=>V a φ):=by
 rcases hW with hW | ⟨v,hW⟩
 ·exact .inl fun φ h=>hW _ h
 ·rcases hV v with hV | ⟨u,hV⟩
  ·exact .inl fun φ h=>hV φ ((hW _).mp h)
  ·exact .inr ⟨u,fun φ=>(hW _).trans (hV φ)⟩
theorem Det.and {α:Type} {p:Prop} {W:(α→Prop)→Prop} (hW:Det W):Det (fun φ=>p∧W φ):=by
 rcases hW with hW | ⟨v,hW⟩
 ·exact .inl fun φ h=>hW φ h.2
 ·by_cases hp:p
  ·exact .inr ⟨v,fun φ=>by simp [hp,hW]⟩
  ·exact .inl fun φ h=>hp h.1
theorem Det.map {α β:Type} {W:(α→Prop)→Prop} (hW:Det W) (f:α→β):Det (fun φ=>W fun a=>φ (f a)):=hW.bind fun a=>Det.pt (f a)
theorem qLz:∀ (e:Env) (s:Nat),Det (getk e s)
 | [],s=>.inl fun φ h=>by cases s <;> exact h
 | some v::_,0=>.inr ⟨v,fun _=>Iff.rfl⟩
 | none::_,0=>.inl fun _ h=>h
 | some _::e,n+1=>qLz e n
 | none::e,n+1=>qLz e n
theorem qXh (e:Env) (x:Operand):Det (ev e x):=by
 cases x
 ·exact qLz e _
 ·exact Det.pt _
 ·exact Det.pt _
 ·exact Det.pt _
theorem qWp (e:Env):∀ xs,Det (evs e xs)
 | []=>Det.pt _
 | x::xs=>(qXh e x).bind fun v=>(qWp e xs).map _
theorem qMa (e:Env) (x:Option Operand):Det (evo e x):=by
 cases x with
 | none=>exact Det.pt _
 | some x=>exact (qXh e x).map _
theorem qAa (v:Value):Det (qQp v):=by
 unfold qQp; cases v <;> first | exact Det.no | exact Det.pt _
theorem qWo (v:Value):Det (strW v):=by
 unfold strW; cases v <;> first | exact Det.no | exact Det.pt _
theorem qBu (v:Value):Det (ptrW v):=by
 unfold ptrW
 cases v <;> first | exact Det.no | skip
 rename_i a; cases a <;> first | exact Det.no | exact Det.pt _
theorem qUg (v:Value):Det (aggW v):=by
 unfold aggW; cases v <;> first | exact Det.no | exact Det.pt _
theorem xAa (v:Value):Det (lenW v):=by
 unfold lenW; cases v <;> first | exact Det.no | exact Det.pt _
theorem qDr (v:Option Value):Det (optI v):=by
 unfold optI
 cases v with
 | none=>exact Det.pt _
 | some v=>cases v <;> first | exact Det.no | exact Det.pt _
theorem qDt (place:Nat→Option (Nat × Nat × Bool)) (e:Env):∀ (ps:List (Nat × Operand)) (cs:List Value),Det (qJb place e ps cs)
 | [],cs=>Det.pt _
 | (i,x)::ps,cs=>by
  change Det fun k=>ev e x fun v =>
   match place i with
   | none=>False
   | some (off,n,true)=>aggW v fun vs=>vs.length=n∧off+n≤cs.length∧qJb place e ps (splice cs off vs) k
   | some (off,_,false)=>one v=true∧off<cs.length∧qJb place e ps (splice cs off [v]) k
  refine (qXh e x).bind fun v=>?_
  split
  ·exact Det.no
  ·exact (qUg v).bind fun vs=>(Det.and (Det.and (qDt place e ps _)))
  ·exact Det.and (Det.and (qDt place e ps _))
theorem qPf (agg:Bool) (cs:List Value) (off n:Nat):Det (qEu agg cs off n):=by
 unfold qEu
 split
 ·exact Det.pt _
 ·split <;> first | exact Det.pt _ | exact Det.no
theorem xUz (op:BinOp) (j:IntKind) (a b:Int):Det (xZj op j a b):=by
 unfold xZj; split <;> first | exact Det.no | exact Det.and (Det.pt _)
theorem xVv (op:BinOp) (j:IntKind) (a b:Int):Det (qIp op j a b):=by
 unfold qIp; split <;> first | exact Det.no | exact Det.pt _ | exact Det.and (Det.pt _)
theorem xVu (op:BinOp) (a b:ByteArray):Det (qIo op a b):=by
 unfold qIo; split <;> first | exact Det.no | exact Det.pt _ | exact Det.and (Det.pt _)
theorem qGl {α:Type} (v:Value) {V:IntKind→Int→(α→Prop)→Prop} (hV:∀ j n,Det (V j n)):Det (fun φ=>intW v fun j n=>V j n φ):=by
 unfold intW; cases v <;> first | exact Det.no | exact hV _ _
theorem qPg {α:Type} (j:IntKind) (v:Value) {V:Int→(α→Prop)→Prop} (hV:∀ n,Det (V n)):Det (fun φ=>intK j v fun n=>V n φ):=by
 unfold intK
 cases v <;> try exact Det.no
 dsimp only
 split
 ·exact hV _
 ·exact Det.no
theorem qUf (op:BinOp) {q:(Bool→Prop)→Prop} (hq:Det q):Det (eqn op q):=by
 unfold eqn
 split
 ·exact hq.map _
 ·exact hq.map _
 ·exact Det.no
theorem xBv (op:BinOp) (c:Bool) (t:TypeId) (x y:Value):Det (binW P op c t x y):=by
 unfold binW
 split
 ·split
  ·exact qPg _ x fun a=>qGl y fun _ b=>xUz _ _ _ _
  ·exact qPg _ x fun a=>qPg _ y fun b=>xVv _ _ _ _
 ·exact (qWo x).bind fun a=>(qWo y).bind fun b=>xVu _ _ _
 ·exact qUf _ ((qAa x).bind fun a=>(qAa y).map _)
 ·refine qUf _ ?_; unfold eqSl; split <;> first | exact Det.no | exact Det.pt _
 ·refine qUf _ ?_; unfold xGk; split <;> first | exact Det.no | exact Det.pt _
 ·refine qUf _ ?_; unfold eqFn; split <;> first | exact Det.no | exact Det.pt _
 ·refine qUf _ ?_; unfold eqIf; split <;> first | exact Det.no | exact Det.pt _ | exact Det.and (Det.pt _)
 ·refine qUf _ ?_; unfold xGj; split <;> first | exact Det.no | exact Det.pt _
 ·exact Det.no
theorem qDu:∀ (fs:List Field) (xs ys:List Value),Det (eqFs P fs xs ys)
 | [],_,_=>Det.pt _
 | f::fs,xs,ys=>by
  unfold Det
  simp only [eqFs]
  split
  ·exact (qPf _ xs _ _).bind fun x=>(qPf _ ys _ _).bind fun y=>qPg _ x fun a=>qPg _ y fun b=>(qDu fs xs ys).map _
  ·exact (qPf _ xs _ _).bind fun x=>(qPf _ ys _ _).bind fun y=>(qWo x).bind fun a=>(qWo y).bind fun b=>(qDu fs xs ys).map _
  ·exact (qPf _ xs _ _).bind fun x=>(qPf _ ys _ _).bind fun y=>(qAa x).bind fun a=>(qAa y).bind fun b=>(qDu fs xs ys).map _
  ·exact Det.no
theorem xXf (j:IntKind):∀ (n:Nat) (xs ys:List Value),Det (eqIs j n xs ys)
 | 0,[],[]=>Det.pt _
 | 0,[],_::_=>Det.no
 | 0,_::_,_=>Det.no
 | n+1,[],_=>Det.no
 | n+1,_::_,[]=>Det.no
 | n+1,x::xs,y::ys=>qPg _ x fun a=>qPg _ y fun b=>(xXf j n xs ys).map _
theorem xBw (op:BinOp) (t:TypeId) (x y:Value):Det (binA P op t x y):=by
 unfold binA
 split
 ·split
  ·exact qUf _ ((qUg x).bind fun xs=>(qUg y).bind fun ys=>xXf _ _ xs ys)
  ·exact Det.no
 ·split
  ·exact qUf _ ((qUg x).bind fun xs=>(qUg y).bind fun ys=>qDu _ xs ys)
  ·exact Det.no
 ·exact Det.no
theorem xGp (op:UnOp) (x:Value):Det (unW op x):=by
 unfold unW
 split
 ·exact qGl x fun _ _=>Det.pt _
 ·exact qGl x fun _ _=>Det.pt _
 ·exact (qAa x).map _
 ·exact Det.no
theorem qTd (v:Value) (i:Nat):Det (qZk v i):=by
 unfold qZk
 split
 ·split <;> first | exact Det.no | exact Det.pt _
 ·exact Det.no
theorem qCr (mx:Bool) (j:IntKind):∀ (vs:List Value) (a:Int),Det (qPa mx j a vs)
 | [],a=>Det.pt _
 | v::vs,a=>by
  cases v <;> first | exact Det.no | exact Det.and (qCr mx j vs _)
theorem qUz (mx:Bool) (vs:List Value):Det (qKb mx vs):=by
 unfold qKb
 split
 ·exact qCr _ _ _ _
 ·exact Det.no
theorem xVw (x:Value) (t:TypeId) (ok:Bool):Det (qUk P x t ok):=by
 unfold qUk
 split
 ·exact Det.no
 ·split
  ·split
   ·split <;> first | exact Det.pt _ | exact Det.no
   ·rename_i u v
    split
    ·rename_i z _
     by_cases e:u=t
     ·exact .inr ⟨.tuple #[v,.bool true],fun φ=>by simp [e]⟩
     ·exact .inr ⟨.tuple #[z,.bool false],fun φ=>by simp [e]⟩
    ·exact Det.no
   ·exact Det.no
  ·split
   ·exact Det.and (Det.pt _)
   ·exact Det.no
 ·exact Det.no
theorem qDs {α:Type} (v:Value) {V:Int→(α→Prop)→Prop} (hV:∀ n,Det (V n)):Det (fun φ=>intW v fun _ n=>V n φ):=by
 unfold intW; cases v <;> first | exact Det.no | exact hV _
theorem qNv {o:Oper} (hc:clOf P o.op=.p) (e:Env):∃ W:(Value→Prop)→Prop,Det W∧∀ h k kp,opW P C o e h k kp↔W (fun v=>k v h):=by
 unfold opW
 cases ho:o.op <;> simp only [ho,clOf] at hc ⊢ <;> try (cases hc; done)
 case move x=>exact ⟨_,qXh e x,fun _ _ _=>Iff.rfl⟩
 case assign x=>exact ⟨_,qXh e x,fun _ _ _=>Iff.rfl⟩
 case pick c a b =>
  refine ⟨fun φ=>ev e c fun v=>qQp v fun t=>bif t then ev e a φ else ev e b φ,?_,fun _ _ _=>Iff.rfl⟩
  exact (qXh e c).bind fun v=>(qAa v).bind fun t=>by cases t <;> exact qXh e _
 case build t ps =>
  refine ⟨fun φ=>match zOk P t,qDq P t with | true,true=>qJb (qZi P t) e ps.toList (qZz P t) fun cs=>φ (.agg cs.toArray) | _,_=>False,?_,fun _ _ _=>Iff.rfl⟩
  split
  ·exact (qDt _ e _ _).map _
  ·exact Det.no
 case nilCheck x=>exact ⟨_,(qXh e x).bind fun v=>Det.and (p:=qQh v=true) (Det.pt v),fun _ _ _=>Iff.rfl⟩
 case binOp op t x y yt =>
  have hr:(qSr P t && !(qXj x || qXj y))=false:=by
   cases hh:(qSr P t && !(qXj x || qXj y)) with
   | false=>rfl
   | true=>rw [hh] at hc; cases hc
  rw [hr]
  refine ⟨fun φ=>ev e x fun a=>ev e y fun b=>match aggB P t with | false=>binW P op (qXj x || qXj y) t a b φ | true=>binA P op t a b φ,?_,fun _ _ _=>?_⟩
  ·refine (qXh e x).bind fun a=>(qXh e y).bind fun b=>?_
   split
   ·exact xBv _ _ _ _ _
   ·exact xBw _ _ _ _
  ·exact Iff.rfl
 case unOp op t x=>exact ⟨_,(qXh e x).bind fun a=>xGp op a,fun _ _ _=>Iff.rfl⟩
 case convert s d x =>
  refine ⟨fun φ=>ev e x fun v=>match cvOf P s d with
   | .ints j=>intW v fun _ n=>φ (.int j (j.wrap n))
   | .same=>strW v fun x=>φ (.string x)
   | .rs=>intW v fun _ n=>φ (.string (Utf8.encode n))
   | _=>False,?_,fun _ _ _=>?_⟩
  ·refine (qXh e x).bind fun v=>?_
   split
   ·exact qDs v fun n=>Det.pt _
   ·exact (qWo v).map _
   ·exact qDs v fun n=>Det.pt _
   ·exact Det.no
  ·unfold xAh
   cases hcv:cvOf P s d <;> simp [hcv] at hc ⊢
 case makeInterface t x =>
  refine ⟨fun φ=>ev e x fun v=>match P.underlying t with | some (.interface _)=>False | some _=>φ (.iface t v) | none=>False,?_,fun _ _ _=>?_⟩
  ·refine (qXh e x).bind fun v=>?_
   split <;> first | exact Det.no | exact Det.pt _
  ·exact Iff.rfl
 case makeFunc fn first cap =>
  cases fn
  case func f=>exact ⟨_,(qWp e first.toList).bind fun a=>(qWp e cap.toList).map fun b=>Value.func (.func f) a.toArray b.toArray,fun _ _ _=>Iff.rfl⟩
  all_goals exact ⟨fun _=>False,Det.no,fun _ _ _=>Iff.rfl⟩
 case slice t x lo hi mx =>
  refine ⟨fun φ=>ev e x fun v=>evo e lo fun lo=>evo e hi fun hi=>evo e mx fun mx=>optI lo fun lo=>optI hi fun hi=>optI mx fun mx =>
   match P.underlying t,mx with
   | some .string,none=>strW v fun s=>qXm s lo hi fun s=>φ (.string s)
   | some (.slice el),mx=>match known P el with
    | true=>qXy v lo hi mx (szOf P el) φ
    | false=>False
   | some (.array n el),none=>ptrW v fun a=>match known P el with
    | true=>qXy (.slice (some a) n n) lo hi none (szOf P el) φ
    | false=>False
   | _,_=>False,?_,fun _ _ _=>Iff.rfl⟩
  refine (qXh e x).bind fun v=>(qMa e lo).bind fun lo=>(qMa e hi).bind fun hi=>(qMa e mx).bind fun mx=>(qDr lo).bind fun lo=>(qDr hi).bind fun hi=>(qDr mx).bind fun mx=>?_
  split
  ·refine (qWo v).bind fun s=>?_
   unfold qXm
   exact Det.and (Det.and (Det.and (Det.pt _)))
  ·split
   ·unfold qXy
    split
    ·exact Det.and (Det.and (Det.and (Det.and (Det.and (Det.pt _)))))
    ·exact Det.no
   ·exact Det.no
  ·refine (qBu v).bind fun a=>?_
   split
   ·unfold qXy
    exact Det.and (Det.and (Det.and (Det.and (Det.and (Det.pt _)))))
   ·exact Det.no
  ·exact Det.no
 case fieldAddr s x f =>
  refine ⟨fun φ=>ev e x fun v=>ptrW v fun a=>match P.underlying s with
   | some (.struct fs)=>match fs[f]? with
    | some fd=>match szOf P fd.type with
     | 0=>False
     | _+1=>φ (.pointer (some (a.add fd.offset)))
    | none=>False
   | _=>False,?_,fun _ _ _=>Iff.rfl⟩
  refine (qXh e x).bind fun v=>(qBu v).bind fun a=>?_
  split
  ·split
   ·split <;> first | exact Det.no | exact Det.pt _
   ·exact Det.no
  ·exact Det.no
 case field t x f =>
  refine ⟨fun φ=>ev e x fun v=>aggW v fun cs=>match P.underlying t with
   | some (.struct fs)=>match fs[f]? with
    | some fd=>match P.underlying fd.type with
     | some _=>qEu (aggB P fd.type) cs fd.offset (szOf P fd.type) φ
     | none=>False
    | none=>False
   | _=>False,?_,fun _ _ _=>Iff.rfl⟩
  refine (qXh e x).bind fun v=>(qUg v).bind fun a=>?_
  split
  ·split
   ·split <;> first | exact Det.no | exact qPf _ _ _ _
   ·exact Det.no
  ·exact Det.no
 case indexAddr t x i =>
  refine ⟨fun φ=>ev e x fun v=>ev e i fun i=>intW i fun _ n=>match P.underlying t with
   | some (.slice el)=>match known P el with
    | true=>qQm v n (szOf P el) fun a=>φ (.pointer (some a))
    | false=>False
   | some (.array len el)=>match known P el && decide (2≤len) with
    | false=>False
    | true=>ptrW v fun a=>0≤n∧n<(len:Int)∧φ (.pointer (some (a.add (n.toNat*szOf P el))))
   | _=>False,?_,fun _ _ _=>Iff.rfl⟩
  refine (qXh e x).bind fun v=>(qXh e i).bind fun i=>qDs i fun n=>?_
  split
  ·split
   ·unfold qQm
    split
    ·exact Det.and (Det.and (Det.pt _))
    ·exact Det.no
   ·exact Det.no
  ·split
   ·exact Det.no
   ·exact (qBu v).bind fun a=>Det.and (Det.and (Det.pt _))
  ·exact Det.no
 case index t x i =>
  refine ⟨fun φ=>ev e x fun v=>ev e i fun i=>intW i fun _ n=>match P.underlying t with
   | some .string=>strW v fun s=>qZc s n fun b=>φ (.int .u8 b)
   | _=>False,?_,fun _ _ _=>Iff.rfl⟩
  refine (qXh e x).bind fun v=>(qXh e i).bind fun i=>qDs i fun n=>?_
  split
  ·refine (qWo v).bind fun s=>?_
   unfold qZc
   exact Det.and (Det.and (Det.pt _))
  ·exact Det.no
 case typeAssert x xt t ok=>exact ⟨_,(qXh e x).bind fun v=>xVw v t ok,fun _ _ _=>Iff.rfl⟩
 case extract x i=>exact ⟨_,(qXh e x).bind fun v=>qTd v i,fun _ _ _=>Iff.rfl⟩
 case call c =>
  obtain ⟨callee,args,argTypes⟩:=c
  cases callee with
  | value f=>simp at hc
  | invoke r m=>simp at hc
  | builtin b =>
   cases b <;> simp only at hc <;> try (cases hc; done)
   case len =>
    refine ⟨fun φ=>evs e args.toList fun vs=>match argTypes.toList,vs with
     | [t],[v]=>match P.underlying t with
      | some .string=>strW v fun s=>φ (.int .i64 s.size)
      | some (.slice _)=>lenW v fun n=>φ (.int .i64 n)
      | some (.array n _)=>φ (.int .i64 n)
      | _=>False
     | _,_=>False,?_,fun h k kp=>iff_of_eq (congrArg (evs e args.toList) (funext fun vs=>propext ?_))⟩
    ·refine (qWp e _).bind fun vs=>?_
     split
     ·split
      ·exact (qWo _).map _
      ·exact (xAa _).map _
      ·exact Det.pt _
      ·exact Det.no
     ·exact Det.no
    ·unfold bltW
     generalize argTypes.toList=tl at hc ⊢
     cases tl with
     | nil=>exact Iff.rfl
     | cons t ts =>
      have hc:(match P.underlying t with | some .string | some (.slice _) | some (.array _ _)=>Cl.p | _=>Cl.e)=.p:=hc
      cases ts <;> cases vs <;> try exact Iff.rfl
      rename_i v vs
      cases vs <;> try exact Iff.rfl
      cases hu:P.underlying t with
      | none=>simp [hu] at hc
      | some d=>cases d <;> simp [hu] at hc ⊢
   case min =>
    refine ⟨_,(qWp e args.toList).bind fun vs=>qUz false vs,fun h k kp=>iff_of_eq (congrArg (evs e args.toList) (funext fun vs=>propext ?_))⟩
    unfold bltW
    cases argTypes.toList with
    | nil=>exact Iff.rfl
    | cons t ts=>exact Iff.rfl
   case max =>
    refine ⟨_,(qWp e args.toList).bind fun vs=>qUz true vs,fun h k kp=>iff_of_eq (congrArg (evs e args.toList) (funext fun vs=>propext ?_))⟩
    unfold bltW
    cases argTypes.toList with
    | nil=>exact Iff.rfl
    | cons t ts=>exact Iff.rfl
variable {P:Program} {C:Orc} {ops:Array Oper}
theorem qKh {e e':Env}:∀ {l:List Operand},(∀ x∈l,ev e x=ev e' x)→evs e l=evs e' l
 | [],_=>rfl
 | x::l,hx=>by
  funext k
  simp only [evs,hx x (by simp),qKh (l:=l) fun y hy=>hx y (by simp [hy])]
theorem qBq {e e':Env} {place:Nat→Option (Nat × Nat × Bool)}:∀ {l:List (Nat × Operand)} {cs:List Value},(∀ x∈l.map (·.2),ev e x=ev e' x)→qJb place e l cs=qJb place e' l cs
 | [],_,_=>rfl
 | (i,x)::l,cs,hx=>by
  funext k
  have h1:=hx x (by simp)
  have h2:∀ cs,qJb place e l cs=qJb place e' l cs:=fun cs=>qBq fun y hy=>hx y (by
   rw [List.map_cons]; exact List.mem_cons_of_mem _ hy)
  simp only [qJb,h1,h2]
theorem qKi {e e':Env} {x:Option Operand} (hx:∀ y∈x.toArray,ev e y=ev e' y):evo e x=evo e' x:=by
 cases x with
 | none=>rfl
 | some x=>funext k; simp only [evo,hx x (by simp)]
theorem xJz {o:Oper} {e e':Env} {h:H} {k:Kv} {kp:Kp} (hx:∀ x∈o.op.operands,ev e x=ev e' x):opW P C o e h k kp↔opW P C o e' h k kp:=by
 apply iff_of_eq
 unfold opW
 cases ho:o.op <;> simp only [ho,Op.operands] at hx ⊢
 case build t ps =>
  have:qJb (qZi P t) e ps.toList=qJb (qZi P t) e' ps.toList:=funext fun cs=>qBq (by simpa using hx)
  simp only [this]
 case buildSlice t n ps =>
  have:qJb (qWu P t) e ps.toList=qJb (qWu P t) e' ps.toList:=funext fun cs=>qBq (by simpa using hx)
  simp only [this]
 case makeFunc fn first cap =>
  cases fn <;> try rfl
  have h1:=qKh (e:=e) (e':=e') (l:=first.toList) fun x hm=>hx x (by simp at hm; simp [hm])
  have h2:=qKh (e:=e) (e':=e') (l:=cap.toList) fun x hm=>hx x (by simp at hm; simp [hm])
  simp only [h1,h2]
 case slice t x lo hi mx =>
  have h0:=hx x (by simp)
  have h1:=qKi (e:=e) (e':=e') (x:=lo) fun y hy=>hx y (by simp at hy; simp [hy])
  have h2:=qKi (e:=e) (e':=e') (x:=hi) fun y hy=>hx y (by simp at hy; simp [hy])
  have h3:=qKi (e:=e) (e':=e') (x:=mx) fun y hy=>hx y (by simp at hy; simp [hy])
  simp only [h0,h1,h2,h3]
 case next x b =>
  cases b
  ·rfl
  ·simp only [hx x (by simp)]
 case call c =>
  obtain ⟨callee,args,argTypes⟩:=c
  have h1:=qKh (e:=e) (e':=e') (l:=args.toList) fun x hm=>hx x (by simp at hm; simp [Call.operands,hm])
  cases callee with
  | builtin b=>simp only [h1]
  | value f =>
   have h0:=hx f (by simp [Call.operands])
   cases f <;> simp only [h0,h1]
  | invoke r m =>
   have h0:=hx r (by simp [Call.operands])
   simp only [h0,h1]
 case pick c a b=>simp only [hx c (by simp),hx a (by simp),hx b (by simp)]
 case store t x y=>simp only [hx x (by simp),hx y (by simp)]
 case binOp op t x y yt=>simp only [hx x (by simp),hx y (by simp)]
 case makeSlice t x y=>simp only [hx x (by simp),hx y (by simp)]
 case makeMap t r =>
  have h1:=qKi (e:=e) (e':=e') (x:=r) fun y hy=>hx y (by simpa using hy)
  simp only [h1]
 case lookup t x y ok=>simp only [hx x (by simp),hx y (by simp)]
 case mapUpdate t x y z=>simp only [hx x (by simp),hx y (by simp),hx z (by simp)]
 case indexAddr t x y=>simp only [hx x (by simp),hx y (by simp)]
 case index t x y=>simp only [hx x (by simp),hx y (by simp)]
 all_goals first | rfl | (rename_i x; simp only [hx x (by simp)]; done) | skip
 case fieldAddr s x f=>simp only [hx x (by simp)]
 case field s x f=>simp only [hx x (by simp)]
 case typeAssert x xt t ok=>simp only [hx x (by simp)]
 case extract x i=>simp only [hx x (by simp)]
def Alike (ops:Array Oper) (o:Oper) (e e':Env):Prop:=∀ t∈o.looksAt ops,e[t]?=e'[t]?
theorem qJl:∀ {e e':Env} {s:Nat},e[s]?=e'[s]?→getk e s=getk e' s
 | [],[],_,_=>rfl
 | [],x::e',0,hs=>by simp at hs
 | x::e,[],0,hs=>by simp at hs
 | [],x::e',n+1,hs=>by
  have h1:e'[n]?=none:=by simpa using hs.symm
  have:=qJl (e:=[]) (e':=e') (s:=n) (by simp [h1])
  funext k
  cases x <;> exact congrFun this k
 | x::e,[],n+1,hs=>by
  have h1:e[n]?=none:=by simpa using hs
  have:=qJl (e:=e) (e':=[]) (s:=n) (by simp [h1])
  funext k
  cases x <;> exact congrFun this k
 | x::e,y::e',0,hs=>by
  have:x=y:=by simpa using hs
  subst this
  funext k
  cases x <;> rfl
 | x::e,y::e',n+1,hs=>by
  have:=qJl (e:=e) (e':=e') (s:=n) (by simpa using hs)
  funext k
  cases x <;> cases y <;> exact congrFun this k
theorem Alike.ev {o:Oper} {e e':Env} (ha:Alike ops o e e'):∀ x∈o.op.operands,ev e x=ev e' x:=fun x hx=>by
 cases x with
 | tmp t =>
  funext k
  have:getk e t=getk e' t:=qJl (ha t (List.mem_append_left _ (List.mem_filterMap.2 ⟨.tmp t,by simpa using hx,rfl⟩)))
  exact congrFun this k
 | _=>rfl
theorem qHr {o:Oper} {e e':Env} {h:H} {k:Option Value→H→Prop} {kp:Kp} (ha:Alike ops o e e'):step P C ops o e h k kp↔step P C ops o e' h k kp:=by
 have h1:∀ k,opW P C o e h k kp↔opW P C o e' h k kp:=fun k=>xJz ha.ev
 unfold step
 cases hg:o.guard with
 | none=>exact h1 _
 | some g =>
  obtain ⟨j,want⟩:=g
  have h2:∀ s,qAj ops j=some s→e[s]?=e'[s]?:=fun s hs=>ha s (List.mem_append_right _ (by
   have:(ops[j]?).bind (·.dst)=some s:=hs
   simp [hg,this]))
  constructor
  ·rintro ⟨s,t,hs,hc,ht,hf⟩
   exact ⟨s,t,hs,by rw [← h2 s hs]; exact hc,fun x=>(h1 _).mp (ht x),hf⟩
  ·rintro ⟨s,t,hs,hc,ht,hf⟩
   exact ⟨s,t,hs,by rw [h2 s hs]; exact hc,fun x=>(h1 _).mpr (ht x),hf⟩
theorem Alike.put {o:Oper} {e:Env} {d:Option Nat} {v:Option Value} (h:∀ t,d=some t→t ∉ o.looksAt ops):Alike ops o (putE e d v) e:=fun t ht=>by
 cases d with
 | none=>rfl
 | some d =>
  have hne:d≠t:=fun x=>h d rfl (x ▸ ht)
  simp [putE,hne]
theorem qNu {e:Env} {x y:Option Nat} {v u:Option Value} (h:∀ d,x=some d→y≠some d):putE (putE e x v) y u=putE (putE e y u) x v:=by
 cases x with
 | none=>rfl
 | some d =>
  cases y with
  | none=>rfl
  | some f =>
   have hne:d≠f:=fun x=>h d rfl (by rw [x])
   exact List.set_comm _ _ hne
def Fin (h:H):Prop:=∃ n,∀ b,n≤b→h b=none
theorem Fin.set {h:H} (f:Fin h) (b:Nat) (o:VObj):Fin (h.set b o):=by
 obtain ⟨n,hn⟩:=f
 refine ⟨max n (b+1),fun c hc=>?_⟩
 unfold H.set
 rw [if_neg (by omega)]
 exact hn c (by omega)
theorem Fin.away {h:H} (f:Fin h) (c:Nat):∃ b,h b=none∧b≠c:=by
 obtain ⟨n,hn⟩:=f
 exact ⟨max n (c+1),hn _ (by omega),by omega⟩
theorem Rel.fin {h:H} {w:World} (r:Rel h w):Fin h:=⟨w.heap.size,fun b hb=>by
 cases hx:h b with
 | none=>rfl
 | some o=>exact absurd (r.lt hx) (by omega)⟩
theorem xJd {h:H} {a b:Nat} {o u:VObj} (hab:a≠b):(h.set a o).set b u=(h.set b u).set a o:=by
 funext c
 unfold H.set
 by_cases h1:c=a <;> by_cases h2:c=b <;> simp_all
theorem xIs {h:H} {a:Nat} {o:VObj}:h.set a o a=some o:=by simp [H.set]
theorem qNg {h:H} {a b:Nat} {o:VObj} (hb:b≠a):h.set a o b=h b:=by simp [H.set,hb]
inductive Nf {α:Type} (S:H→(α→H→Prop)→Prop):Prop
 | never (h:∀ h k,¬ S h k)
 | val (v:α) (h:∀ h k,S h k↔k v h)
 | read (a:Nat) (R:Option VObj→α→Prop) (h0:∀ v,¬ R none v) (h1:∀ x v u,R x v→R x u→v=u) (h:∀ h k,S h k↔∃ v,R (h a) v∧k v h)
 | new (mk:Nat→α) (o:VObj) (h:∀ h k,S h k↔∀ b,h b=none→k (mk b) (h.set b o))
theorem Nf.map {α β:Type} {S:H→(α→H→Prop)→Prop} (n:Nf S) (f:α→β):Nf (fun h k=>S h fun v h=>k (f v) h):=by
 cases n with
 | never h1=>exact .never fun h k=>h1 _ _
 | val v h1=>exact .val (f v) fun h k=>h1 _ _
 | read a R h0 h1 h2 =>
  refine .read a (fun x u=>∃ v,R x v∧u=f v) (fun v=>by rintro ⟨_,h,_⟩; exact h0 _ h) ?_ ?_
  ·rintro x _ _ ⟨v,hv,rfl⟩ ⟨u,hu,rfl⟩
   rw [h1 _ _ _ hv hu]
  ·intro h k
   rw [h2]
   constructor
   ·rintro ⟨v,hv,hk⟩; exact ⟨_,⟨v,hv,rfl⟩,hk⟩
   ·rintro ⟨_,⟨v,hv,rfl⟩,hk⟩; exact ⟨v,hv,hk⟩
 | new mk o h1=>exact .new (fun b=>f (mk b)) o fun h k=>h1 _ _
theorem Nf.mono {α:Type} {S:H→(α→H→Prop)→Prop} (n:Nf S) {h:H} (f:Fin h) {k k':α→H→Prop} (hk:S h k) (hm:∀ v h',Fin h'→k v h'→k' v h'):S h k':=by
 cases n with
 | never h1=>exact absurd hk (h1 _ _)
 | val v h1=>rw [h1] at hk ⊢; exact hm _ _ f hk
 | read a R h0 h1 h2 =>
  rw [h2] at hk ⊢
  obtain ⟨v,hv,hk⟩:=hk
  exact ⟨v,hv,hm _ _ f hk⟩
 | new mk o h1 =>
  rw [h1] at hk ⊢
  exact fun b hb=>hm _ _ (f.set _ _) (hk b hb)
theorem Nf.swap {α β:Type} {S:H→(α→H→Prop)→Prop} {T:H→(β→H→Prop)→Prop} (s:Nf S) (t:Nf T) {h:H} (f:Fin h) {K:α→β→H→Prop} (hk:S h fun v h=>T h fun u h=>K v u h):T h fun u h=>S h fun v h=>K v u h:=by
 cases s with
 | never h1=>exact absurd hk (h1 _ _)
 | val v h1 =>
  rw [h1] at hk
  exact t.mono f hk fun u h' _ h2=>(h1 _ _).mpr h2
 | read a R h0 h1 hs =>
  rw [hs] at hk
  obtain ⟨v,hv,hk⟩:=hk
  cases t with
  | never h2=>exact absurd hk (h2 _ _)
  | val u h2=>rw [h2] at hk ⊢; rw [hs]; exact ⟨v,hv,hk⟩
  | read b R' g0 g1 ht =>
   rw [ht] at hk ⊢
   obtain ⟨u,hu,hk⟩:=hk
   exact ⟨u,hu,(hs _ _).mpr ⟨v,hv,hk⟩⟩
  | new mk o ht =>
   rw [ht] at hk ⊢
   intro b hb
   have hne:a≠b:=fun x=>h0 v (by rw [x,hb] at hv; exact hv)
   exact (hs _ _).mpr ⟨v,by rw [qNg hne]; exact hv,hk b hb⟩
 | new mk o hs =>
  rw [hs] at hk
  cases t with
  | never h2 =>
   obtain ⟨b,hb,_⟩:=f.away 0
   exact absurd (hk b hb) (h2 _ _)
  | val u h2 =>
   rw [h2,hs]
   exact fun b hb=>(h2 _ _).mp (hk b hb)
  | read a R g0 g1 ht =>
   rw [ht]
   obtain ⟨b,hb,hne⟩:=f.away a
   obtain ⟨u,hu,_⟩:=(ht _ _).mp (hk b hb)
   rw [qNg (Ne.symm hne)] at hu
   refine ⟨u,hu,(hs _ _).mpr fun c hc=>?_⟩
   obtain ⟨u',hu',hk'⟩:=(ht _ _).mp (hk c hc)
   have hca:a≠c:=fun x=>g0 u (by rw [x,hc] at hu; exact hu)
   rw [qNg hca] at hu'
   rw [g1 _ _ _ hu hu']
   exact hk'
  | new mk' o' ht =>
   rw [ht]
   intro c hc
   rw [hs]
   intro b hb
   have hbc:b≠c:=fun x=>by rw [x,xIs] at hb; cases hb
   rw [qNg hbc] at hb
   have:=(ht _ _).mp (hk b hb) c (by rw [qNg (Ne.symm hbc)]; exact hc)
   rw [xJd hbc] at this
   exact this
theorem qZq {t:TypeId} {φ:Value→Prop}:qUc P t φ↔∃ v,qUc P t (·=v)∧φ v:=by
 unfold qUc
 constructor
 ·intro hk
  split at hk <;> obtain ⟨x,hx⟩:=hk <;> exact ⟨_,⟨x,rfl⟩,hx⟩
 ·rintro ⟨v,h1,h2⟩
  split at h1 <;> obtain ⟨x,rfl⟩:=h1 <;> exact ⟨x,h2⟩
theorem qKg:∀ {ts:List TypeId} {φ:List Value→Prop},exLr P ts φ↔∃ vs,exLr P ts (·=vs)∧φ vs
 | [],φ=>by
  constructor
  ·intro hk; exact ⟨[],rfl,hk⟩
  ·rintro ⟨vs,h1,h2⟩
   have h1:[]=vs:=h1
   subst h1; exact h2
 | t::ts,φ=>by
  simp only [exLr]
  constructor
  ·intro hk
   obtain ⟨v,hv,hk⟩:=qZq.mp hk
   obtain ⟨vs,hvs,hk⟩:=qKg.mp hk
   exact ⟨v::vs,qZq.mpr ⟨v,hv,qKg.mpr ⟨vs,hvs,rfl⟩⟩,hk⟩
  ·rintro ⟨us,h1,h2⟩
   obtain ⟨v,hv,h1⟩:=qZq.mp h1
   obtain ⟨vs,hvs,rfl⟩:=qKg.mp h1
   exact qZq.mpr ⟨v,hv,qKg.mpr ⟨vs,hvs,h2⟩⟩
theorem qBr {ts:List TypeId} {φ:List Value→Prop}:exL P ts φ↔∃ vs,exL P ts (·=vs)∧φ vs:=by
 unfold exL
 split
 ·exact qKg
 ·constructor
  ·rintro ⟨vs,h⟩; exact ⟨vs,⟨vs,rfl⟩,h⟩
  ·rintro ⟨vs,_,h⟩; exact ⟨vs,h⟩
theorem qYb {α β:Type} {W:(α→Prop)→Prop} (d:Det W) {V:α→H→(β→H→Prop)→Prop} (hV:∀ a,Nf (V a)):Nf (fun h k=>W fun a=>V a h k):=by
 rcases d with d | ⟨v,d⟩
 ·exact .never fun h k=>d _
 ·rcases hV v with h1 | ⟨u,h1⟩ | ⟨a,R,h0,h1,h2⟩ | ⟨mk,o,h1⟩
  ·exact .never fun h k hk=>h1 h k ((d _).mp hk)
  ·exact .val u fun h k=>(d _).trans (h1 h k)
  ·exact .read a R h0 h1 fun h k=>(d _).trans (h2 h k)
  ·exact .new mk o fun h k=>(d _).trans (h1 h k)
theorem Nf.no {α:Type}:Nf (fun (_:H) (_:α→H→Prop)=>False):=.never fun _ _ h=>h
theorem Nf.and {α:Type} {p:Prop} {S:H→(α→H→Prop)→Prop} (n:Nf S):Nf (fun h k=>p∧S h k):=by
 by_cases hp:p
 ·simpa [hp] using n
 ·exact .never fun h k x=>hp x.1
theorem xLd {o:Oper} (hc:clOf P o.op≠.e) (e:Env) (kp:Kp):Nf (fun h k=>opW P C o e h k kp):=by
 by_cases hp:clOf P o.op=.p
 ·obtain ⟨W,d,hW⟩:=qNv (C:=C) hp e
  rcases d with d | ⟨v,d⟩
  ·exact .never fun h k hk=>d _ ((hW _ _ _).mp hk)
  ·exact .val v fun h k=>(hW _ _ _).trans (d _)
 ·unfold opW
  cases ho:o.op <;> simp only [ho,clOf] at hc hp ⊢ <;> try (first | exact absurd rfl hc | exact absurd trivial hc | exact absurd rfl hp | exact absurd trivial hp)
  case binOp op t x y yt =>
   cases hh:(qSr P t && !(qXj x || qXj y)) with
   | true=>rw [hh] at hc; exact absurd rfl hc
   | false=>rw [hh] at hp; exact absurd rfl hp
  case alloc t =>
   split
   ·unfold newA
    split
    ·exact .new (fun b=>.pointer (some ⟨b,0,none⟩)) _ fun h k=>Iff.rfl
    ·exact .new (fun b=>.pointer (some ⟨b,0,none⟩)) _ fun h k=>Iff.rfl
   ·exact Nf.no
  case box t x =>
   refine qYb (qXh e x) fun v=>?_
   split
   ·refine qYb (qUg v) fun cs=>?_
    unfold newA
    split
    ·exact .new (fun b=>.pointer (some ⟨b,0,none⟩)) _ fun h k=>Iff.rfl
    ·exact .new (fun b=>.pointer (some ⟨b,0,none⟩)) _ fun h k=>Iff.rfl
   ·exact Nf.and (.new (fun b=>.pointer (some ⟨b,0,none⟩)) _ fun h k=>Iff.rfl)
  case buildSlice t n ps =>
   split
   ·exact qYb (qDt _ e _ _) fun cs=>.new (fun b=>.slice (some ⟨b,0,none⟩) n n) _ fun h k=>Iff.rfl
   ·exact Nf.no
  case load t x =>
   refine qYb (qXh e x) fun v=>qYb (qBu v) fun a=>?_
   split
   ·split
    ·rename_i ts _
     refine .read a.block (fun x v=>∃ vs,exL P ts (·=vs)∧rdN (fun _=>x) a (szOf P t)=some vs∧v=.agg vs.toArray) ?_ ?_ ?_
     ·rintro v ⟨vs,_,h,_⟩
      unfold rdN at h
      split at h <;> simp [qZm] at h
     ·rintro x _ _ ⟨vs,_,h1,rfl⟩ ⟨us,_,h2,rfl⟩
      rw [h1] at h2
      rw [Option.some.inj h2]
     ·intro h k
      rw [qBr]
      constructor
      ·rintro ⟨vs,h1,h2,h3⟩; exact ⟨_,⟨vs,h1,h2,rfl⟩,h3⟩
      ·rintro ⟨_,⟨vs,h1,h2,rfl⟩,h3⟩; exact ⟨vs,h1,h2,h3⟩
    ·exact Nf.no
   ·split
    ·refine .read a.block (fun x v=>qUc P t (·=v)∧rd (fun _=>x) a=some v) ?_ ?_ ?_
     ·rintro v ⟨_,h⟩
      unfold rd at h
      split at h <;> simp [qZm] at h
     ·rintro x v u ⟨_,h1⟩ ⟨_,h2⟩
      rw [h1] at h2
      exact Option.some.inj h2
     ·intro h k
      rw [qZq]
      constructor
      ·rintro ⟨v,h1,h2,h3⟩; exact ⟨v,⟨h1,h2⟩,h3⟩
      ·rintro ⟨v,⟨h1,h2⟩,h3⟩; exact ⟨v,h1,h2,h3⟩
    ·exact Nf.no
  case convert s d x =>
   cases hcv:cvOf P s d <;> simp [hcv] at hc hp
  case makeSlice t l c =>
   refine qYb (qXh e l) fun l=>qYb (qXh e c) fun c=>?_
   unfold intW
   cases l <;> cases c <;> try exact Nf.no
   rename_i j n j' m
   dsimp only
   split
   ·unfold qKa
    exact Nf.and (Nf.and (Nf.and (Nf.and (.new (fun b=>.slice (some ⟨b,0,none⟩) n.toNat m.toNat) _ fun h k=>Iff.rfl))))
   ·exact Nf.no
  case call c =>
   exfalso
   obtain ⟨callee,args,argTypes⟩:=c
   cases callee with
   | value f=>simp at hc
   | invoke r m=>simp at hc
   | builtin b =>
    cases b <;> simp only at hc hp <;> try (first | exact absurd rfl hc | exact absurd trivial hc | exact absurd rfl hp | exact absurd trivial hp)
    generalize argTypes.toList.head?.bind P.underlying=u at hc hp
    cases u with
    | none=>exact hc rfl
    | some d=>cases d <;> simp at hc hp
theorem qSk {o:Oper} (hc:clOf P o.op≠.e) (e:Env) (kp:Kp):Nf (fun h k=>step P C ops o e h k kp):=by
 have h1:=(xLd (C:=C) hc e kp).map some
 unfold step
 cases hg:o.guard with
 | none=>exact h1
 | some g =>
  obtain ⟨j,want⟩:=g
  dsimp only
  by_cases hx:∃ s t,qAj ops j=some s∧e[s]?=some (some t)
  ·obtain ⟨s,t,hs,ht⟩:=hx
   have hu:∀ {A:Value→Prop},(∃ s t,qAj ops j=some s∧e[s]?=some (some t)∧A t)↔A t:=by
    intro A
    constructor
    ·rintro ⟨s',t',hs',ht',h⟩
     rw [hs] at hs'; obtain rfl:=Option.some.inj hs'
     rw [ht] at ht'
     simp at ht'
     subst ht'; exact h
    ·intro h; exact ⟨s,t,hs,ht,h⟩
   by_cases hw:t=.bool want
   ·have e1:(fun (h:H) (k:Option Value→H→Prop)=>∃ s t,qAj ops j=some s∧e[s]?=some (some t)∧(t=.bool want→opW P C o e h (fun v h'=>k (some v) h') kp)∧(t≠.bool want→k none h)) =
      fun h k=>opW P C o e h (fun v h'=>k (some v) h') kp:=by
     funext h k
     rw [propext (hu (A:=fun t=>(t=.bool want→opW P C o e h (fun v h'=>k (some v) h') kp)∧(t≠.bool want→k none h)))]
     simp [hw]
    rw [e1]; exact h1
   ·refine .val none fun h k=>?_
    rw [hu (A:=fun t=>(t=.bool want→opW P C o e h (fun v h'=>k (some v) h') kp)∧(t≠.bool want→k none h))]
    simp [hw]
  ·exact .never fun h k=>by
    rintro ⟨s,t,hs,ht,_⟩
    exact hx ⟨s,t,hs,ht⟩
variable {P:Program} {C:Orc} {ops:Array Oper}
def Mono (C:Orc):Prop:=∀ f args h (k k':Kv) (kp kp':Kp),(∀ v h',k v h'→k' v h')→(∀ c h',kp c h'→kp' c h')→C f args h k kp→C f args h k' kp'
theorem Det.mono {α:Type} {W:(α→Prop)→Prop} (d:Det W) {k k':α→Prop} (hm:∀ v,k v→k' v) (hk:W k):W k':=by
 rcases d with d | ⟨v,d⟩
 ·exact absurd hk (d _)
 ·exact (d _).mpr (hm _ ((d _).mp hk))
theorem qLv {t:TypeId} {φ ψ:Value→Prop} (hm:∀ v,φ v→ψ v) (hk:exT P t φ):exT P t ψ:=by
 unfold exT at hk ⊢
 split
 ·rename_i ha
  simp only [ha] at hk
  split
  ·rename_i hl
   simp only [hl] at hk
   obtain ⟨vs,h1,h2⟩:=qBr.mp hk
   exact qBr.mpr ⟨vs,h1,hm _ h2⟩
  ·rename_i hl
   simp only [hl] at hk
 ·rename_i ha
  simp only [ha] at hk
  obtain ⟨v,h1,h2⟩:=qZq.mp hk
  exact qZq.mpr ⟨v,h1,hm _ h2⟩
theorem qGk:∀ {ts:List TypeId} {φ ψ:List Value→Prop},(∀ v,φ v→ψ v)→exTs P ts φ→exTs P ts ψ
 | [],_,_,hm,hk=>hm _ hk
 | _::_,_,_,hm,hk=>qLv (fun _ h=>qGk (fun _ h'=>hm _ h') h) hk
theorem xBr {ts:List TypeId} {φ ψ:Value→Prop} (hm:∀ v,φ v→ψ v) (hk:exR P ts φ):exR P ts ψ:=by
 match ts,hk with
 | [],hk=>exact qGk (P:=P) (ts:=[]) (φ:=fun vs=>φ (.tuple vs.toArray)) (ψ:=fun vs=>ψ (.tuple vs.toArray)) (fun _ h=>hm _ h) hk
 | [t],hk=>exact qLv hm hk
 | t::u::ts,hk=>exact qGk (P:=P) (ts:=t::u::ts) (φ:=fun vs=>φ (.tuple vs.toArray)) (ψ:=fun vs=>ψ (.tuple vs.toArray)) (fun _ h=>hm _ h) hk
theorem qBx (hC:Mono C) {t:TypeId} {f:FuncId} {args:List Value} {h:H} {k k':Kv} {kp kp':Kp} (hm:∀ v h',k v h'→k' v h') (hp:∀ c h',kp c h'→kp' c h')
  (hk:qGo P C t f args h k kp):qGo P C t f args h k' kp':=by
 unfold qGo at hk ⊢
 split
 ·rename_i hb
  simp only [hb] at hk
  exact hC _ _ _ _ _ _ _ (fun v h' hv=>xBr (fun v' hv'=>⟨hv'.1,hm _ _ hv'.2⟩) hv) hp hk
 ·rename_i hb
  simp only [hb] at hk
theorem qBy (hC:Mono C) {t:TypeId} {f:Value} {args:List Value} {h:H} {k k':Kv} {kp kp':Kp} (hm:∀ v h',k v h'→k' v h') (hp:∀ c h',kp c h'→kp' c h')
  (hk:qBz P C t f args h k kp):qBz P C t f args h k' kp':=by
 unfold qBz at hk ⊢
 split
 ·exact qBx hC hm hp hk
 ·exact hC _ _ _ _ _ _ _ hm hp hk
 ·rename_i hx hy
  split at hk
  ·exact absurd rfl (hx _ _ _)
  ·exact absurd rfl (hy _ _ _)
  ·exact hk
theorem xUe (hC:Mono C) {t:TypeId} {r:Value} {n:String} {args:List Value} {h:H} {k k':Kv} {kp kp':Kp} (hm:∀ v h',k v h'→k' v h') (hp:∀ c h',kp c h'→kp' c h')
  (hk:invW P C t r n args h k kp):invW P C t r n args h k' kp':=by
 unfold invW at hk ⊢
 split
 ·split
  ·rename_i hx
   simp only [hx] at hk
   exact qBx hC hm hp hk
  ·rename_i hx
   simp only [hx] at hk
 ·rename_i hx
  split at hk
  ·exact absurd rfl (hx _ _)
  ·exact hk
theorem qOn {v:Value} {k k':IntKind→Int→Prop} (hm:∀ j n,k j n→k' j n) (hk:intW v k):intW v k':=by
 unfold intW at hk ⊢
 cases v <;> first | exact hk.elim | exact hm _ _ hk
theorem qGc {v:Value} {k k':Nat→Prop} (hm:∀ v,k v→k' v) (hk:qXi v k):qXi v k':=by
 unfold qXi at hk ⊢
 cases v <;> first | exact hk.elim | exact hm _ hk
theorem qNf {h:H} {sz n:Nat} {v:Value} {k k':List Value→Prop} (hm:∀ v,k v→k' v) (hk:srcW h sz v n k):srcW h sz v n k':=by
 unfold srcW at hk ⊢
 cases v <;> try exact hk.elim
 ·exact hm _ hk
 ·rename_i a _ _
  cases a
  ·exact hm _ hk
  ·obtain ⟨ws,h1,h2⟩:=hk
   exact ⟨ws,h1,hm _ h2⟩
theorem xCg {h:H} {sz bytes m:Nat} {z ws:List Value} {s:Value} {k k':Kv} (hm:∀ v h',k v h'→k' v h') (hk:apW h sz bytes z s m ws k):apW h sz bytes z s m ws k':=by
 unfold apW at hk ⊢
 cases s <;> try exact hk.elim
 rename_i base len cap
 dsimp only at hk ⊢
 refine ⟨fun hc=>?_,fun hc=>?_⟩
 ·have:=hk.1 hc
  cases base with
  | none=>exact hm _ _ this
  | some a =>
   refine ⟨fun h0=>hm _ _ (this.1 h0),fun h0=>?_⟩
   obtain ⟨h1,h',h2,h3⟩:=this.2 h0
   exact ⟨h1,h',h2,hm _ _ h3⟩
 ·obtain ⟨h1,h2,old,h3,h4⟩:=hk.2 hc
  exact ⟨h1,h2,old,h3,fun b c hb hc=>hm _ _ (h4 b c hb hc)⟩
theorem xCh {ty:Bool} {e:TypeId} {h:H} {sz bytes m:Nat} {z ws:List Value} {s:Value} {k k':Kv} (hm:∀ v h',k v h'→k' v h') (hk:apG ty e h sz bytes z s m ws k):apG ty e h sz bytes z s m ws k':=by
 unfold apG at hk ⊢
 cases s <;> try exact hk.elim
 rename_i base len cap
 dsimp only at hk ⊢
 refine ⟨fun hc=>?_,fun hc=>?_⟩
 ·have:=hk.1 hc
  cases base with
  | none=>exact hm _ _ this
  | some a =>
   refine ⟨fun h0=>hm _ _ (this.1 h0),fun h0=>?_⟩
   obtain ⟨h1,h',h2,h3⟩:=this.2 h0
   exact ⟨h1,h',h2,hm _ _ h3⟩
 ·obtain ⟨h1,h2,old,h3,h4⟩:=hk.2 hc
  exact ⟨h1,h2,old,h3,fun b c hb hc=>hm _ _ (h4 b c hb hc)⟩
theorem xBz {h:H} {n:Nat} {ws:List Value} {d:Value} {k k':Kv} (hm:∀ v h',k v h'→k' v h') (hk:cpW h d n ws k):cpW h d n ws k':=by
 unfold cpW at hk ⊢
 cases d <;> try exact hk.elim
 rename_i base len cap
 dsimp only at hk ⊢
 refine ⟨fun h0=>hm _ _ (hk.1 h0),fun h0=>?_⟩
 have:=hk.2 h0
 cases base with
 | none=>exact hm _ _ this
 | some a =>
  obtain ⟨h1,h',h2,h3⟩:=this
  exact ⟨h1,h',h2,hm _ _ h3⟩
theorem xVd {d:TypeDesc} {n z:Value} {es:List MapEntry} {k k':Value→Bool→Prop} (hm:∀ v b,k v b→k' v b) (hk:qSn d n es z k):qSn d n es z k':=by
 unfold qSn at hk ⊢
 split at hk
 ·exact hm _ _ hk
 ·exact hm _ _ hk
 ·exact hk.elim
theorem xPr {h:H} {m:Value} {k k':List MapEntry→Prop} (hm:∀ es,k es→k' es) (hk:mapK h m k):mapK h m k':=by
 unfold mapK at hk ⊢
 split at hk
 ·exact hm _ hk
 ·obtain ⟨es,c,h1,h2⟩:=hk
  exact ⟨es,c,h1,hm _ h2⟩
 ·exact hk.elim
theorem xEd {b:Builtin} {ts:List TypeId} {vs:List Value} {h:H} {k k':Kv} {kp kp':Kp} (hm:∀ v h',k v h'→k' v h') (hp:∀ c h',kp c h'→kp' c h')
  (hk:bltW P b ts vs h k kp):bltW P b ts vs h k' kp':=by
 unfold bltW at hk ⊢
 split at hk
 ·split at hk <;> first
   | exact (qWo _).mono (fun _=>hm _ _) hk
   | exact (xAa _).mono (fun _=>hm _ _) hk
   | exact hm _ _ hk
   | skip
  ·split at hk
   ·exact hm _ _ hk
   ·obtain ⟨es,c,h1,h2⟩:=hk; exact ⟨es,c,h1,hm _ _ h2⟩
   ·exact hk.elim
  ·exact hk.elim
 ·split at hk
  ·refine qGc (fun _ h=>qNf (fun _ h=>?_) h) hk
   split at h
   ·exact xCh hm h
   ·exact xCg hm h
  ·exact hk.elim
 ·split at hk
  ·exact qGc (fun _ h=>qGc (fun _ h=>qNf (fun _ h=>xBz hm h) h) h) hk
  ·exact hk.elim
 ·split at hk
  ·unfold clW at hk ⊢
   split at hk
   ·exact hm _ _ hk
   ·refine ⟨fun h0=>hm _ _ (hk.1 h0),fun h0=>?_⟩
    obtain ⟨h1,h',h2,h3⟩:=hk.2 h0
    exact ⟨h1,h',h2,hm _ _ h3⟩
   ·exact hk.elim
  ·exact hk.elim
 ·exact (qUz _ _).mono (fun _=>hm _ _) hk
 ·exact (qUz _ _).mono (fun _=>hm _ _) hk
 ·exact hp _ _ hk
 ·exact hk.elim
theorem Nf.imp {α:Type} {S:H→(α→H→Prop)→Prop} (n:Nf S) {h:H} {k k':α→H→Prop} (hk:S h k) (hm:∀ v h',k v h'→k' v h'):S h k':=by
 cases n with
 | never h1=>exact absurd hk (h1 _ _)
 | val v h1=>rw [h1] at hk ⊢; exact hm _ _ hk
 | read a R h0 h1 h2 =>
  rw [h2] at hk ⊢
  obtain ⟨v,hv,hk⟩:=hk
  exact ⟨v,hv,hm _ _ hk⟩
 | new mk o h1 =>
  rw [h1] at hk ⊢
  exact fun b hb=>hm _ _ (hk b hb)
theorem nf_kp {o:Oper} (hc:clOf P o.op≠.e) {e:Env} {h:H} {k:Kv} {kp kp':Kp}:opW P C o e h k kp↔opW P C o e h k kp':=by
 unfold opW
 cases ho:o.op <;> simp only [ho,clOf] at hc ⊢ <;> try (first | exact absurd rfl hc | exact absurd trivial hc)
 case makeFunc fn first cap=>cases fn <;> exact Iff.rfl
 case call c =>
  obtain ⟨callee,args,argTypes⟩:=c
  cases callee with
  | value f=>simp at hc
  | invoke r m=>simp at hc
  | builtin b =>
   have:∀ vs,bltW P b argTypes.toList vs h k kp=bltW P b argTypes.toList vs h k kp':=by
    intro vs
    unfold bltW
    cases b <;> simp only at hc <;> try (first | exact absurd rfl hc | exact absurd trivial hc)
    all_goals
     generalize argTypes.toList=tl
     rcases tl with _ | ⟨t,_ | ⟨u,_ | ⟨_,_⟩⟩⟩ <;> rcases vs with _ | ⟨x,_ | ⟨y,_ | ⟨_,_⟩⟩⟩ <;> rfl
   simp only [this]
theorem qNw {h:H} {t:TypeId} {a b:Addr} {k k':Bool→Prop} (hm:∀ r,k r→k' r) (hk:ptrE P h t a b k):ptrE P h t a b k':=by
 unfold ptrE at hk ⊢
 split at hk
 ·exact ⟨hk.1,hk.2.1,hk.2.2.1,hm _ hk.2.2.2⟩
 ·exact hk.elim
theorem qNm {h:H} {t:TypeId} {x y:Value} {k k':Bool→Prop} (hm:∀ r,k r→k' r) (hk:refE P h t x y k):refE P h t x y k':=by
 unfold refE at hk ⊢
 split at hk
 ·exact hm _ hk
 ·exact hm _ hk
 ·exact qNw hm hk
 ·exact hm _ hk
 ·exact hm _ hk
 ·split at hk
  ·exact hm _ hk
  ·exact ⟨hk.1,qNw hm hk.2⟩
 ·split at hk
  ·exact hm _ hk
  ·exact ⟨hk.1,hk.2.1,hk.2.2.1,hm _ hk.2.2.2⟩
 ·exact hk.elim
theorem xJm {h:H} {op:BinOp} {t:TypeId} {x y:Value} {k k':Value→Prop} (hm:∀ v,k v→k' v) (hk:refW P h op t x y k):refW P h op t x y k':=by
 unfold refW eqn at hk ⊢
 split at hk
 ·exact qNm (fun _=>hm _) hk
 ·exact qNm (fun _=>hm _) hk
 ·exact hk.elim
theorem xQo (hC:Mono C) {o:Oper} {e:Env} {h:H} {k k':Kv} {kp kp':Kp} (hm:∀ v h',k v h'→k' v h') (hp:∀ c h',kp c h'→kp' c h')
  (hk:opW P C o e h k kp):opW P C o e h k' kp':=by
 by_cases hc:clOf P o.op=.e
 ·unfold opW at hk ⊢
  cases ho:o.op <;> simp only [ho,clOf] at hk hc ⊢ <;> try (cases hc; done)
  case store t x y =>
   refine (qXh e x).mono (fun v hk=>(qBu v).mono (fun a hk=>(qXh e y).mono (fun u hk=>?_) hk) hk) hk
   split at hk
   ·refine (qUg u).mono (fun cs hk=>?_) hk
    obtain ⟨h1,h2,h',h3,h4⟩:=hk
    exact ⟨h1,h2,h',h3,hm _ _ h4⟩
   ·split at hk
    ·obtain ⟨h1,h2,h',h3,h4⟩:=hk
     exact ⟨h1,h2,h',h3,hm _ _ h4⟩
    ·exact hk.elim
  case binOp op t x y yt =>
   have hr:(qSr P t && !(qXj x || qXj y))=true:=by
    cases hh:(qSr P t && !(qXj x || qXj y)) with
    | true=>rfl
    | false=>rw [hh] at hc; cases hc
   rw [hr] at hk ⊢
   refine (qXh e x).mono (fun a hk=>(qXh e y).mono (fun b hk=>?_) hk) hk
   exact xJm (fun _ hk=>hm _ _ hk) hk
  case convert s d x =>
   refine (qXh e x).mono (fun v hk=>?_) hk
   unfold xAh at hk ⊢
   split at hk
   ·exact qOn (fun _ _=>hm _ _) hk
   ·exact (qWo v).mono (fun _=>hm _ _) hk
   ·exact qOn (fun _ _=>hm _ _) hk
   ·unfold bsW at hk ⊢
    split at hk
    ·exact hm _ _ hk
    ·obtain ⟨ns,h1,h2⟩:=hk; exact ⟨ns,h1,hm _ _ h2⟩
    ·exact hk.elim
   ·exact (qWo v).mono (fun s hk b c hb hc=>hm _ _ (hk b c hb hc)) hk
   ·unfold xBb at hk ⊢
    split at hk
    ·obtain ⟨l,h1,h2⟩:=hk; exact ⟨l,h1,hm _ _ h2⟩
    ·exact hk.elim
   ·exact hk.elim
  case makeMap t x =>
   refine (qMa e x).mono (fun v hk=>(qDr v).mono (fun l hk=>?_) hk) hk
   split at hk
   ·exact fun b hb=>hm _ _ (hk b hb)
   ·exact hk.elim
  case lookup t x i ok =>
   refine (qXh e x).mono (fun v hk=>(qXh e i).mono (fun n hk=>?_) hk) hk
   split at hk
   ·split at hk
    ·exact xPr (fun es hk=>xVd (fun _ _ hk=>qLv (fun _ h=>⟨h.1,hm _ _ h.2⟩) hk) hk) hk
    ·exact hk.elim
   ·exact hk.elim
  case mapUpdate t m n x =>
   refine (qXh e m).mono (fun v hk=>(qXh e n).mono (fun n hk=>(qXh e x).mono (fun x hk=>?_) hk) hk) hk
   split at hk
   ·split at hk
    ·unfold mapU at hk ⊢
     split at hk
     ·obtain ⟨es,c,h1,h2⟩:=hk
      refine ⟨es,c,h1,?_⟩
      split at h2
      ·exact hm _ _ h2
      ·exact hm _ _ h2
      ·exact h2.elim
     ·exact hk.elim
    ·exact hk.elim
   ·exact hk.elim
  case range t x =>
   refine (qXh e x).mono (fun v hk=>?_) hk
   split at hk
   ·exact (qWo v).mono (fun s hk b hb=>hm _ _ (hk b hb)) hk
   ·exact hk.elim
  case next x b =>
   cases b
   ·exact hk.elim
   ·refine (qXh e x).mono (fun v hk=>(qBu v).mono (fun a hk=>?_) hk) hk
    obtain ⟨h0,s,p,h1,h2,h3⟩:=hk
    exact ⟨h0,s,p,h1,fun x=>hm _ _ (h2 x),fun x=>hm _ _ (h3 x)⟩
  case panic x =>
   refine (qXh e x).mono (fun v hk=>?_) hk
   unfold panW at hk ⊢
   split at hk
   ·exact hp _ _ hk
   ·exact hk.elim
  case call c =>
   obtain ⟨callee,args,argTypes⟩:=c
   cases callee with
   | builtin b=>exact (qWp e _).mono (fun vs hk=>xEd hm hp hk) hk
   | value f =>
    cases f with
    | func f=>exact (qWp e _).mono (fun vs hk=>qBx hC hm hp hk) hk
    | tmp t=>exact (qXh e (.tmp t)).mono (fun f hk=>(qWp e _).mono (fun vs hk=>qBy hC hm hp hk) hk) hk
    | const t=>exact (qXh e (.const t)).mono (fun f hk=>(qWp e _).mono (fun vs hk=>qBy hC hm hp hk) hk) hk
    | global t=>exact (qXh e (.global t)).mono (fun f hk=>(qWp e _).mono (fun vs hk=>qBy hC hm hp hk) hk) hk
   | invoke r m=>exact (qXh e r).mono (fun f hk=>(qWp e _).mono (fun vs hk=>xUe hC hm hp hk) hk) hk
  all_goals exact hk.elim
 ·exact (nf_kp hc).mp ((xLd (C:=C) hc e kp).imp hk hm)
theorem qEq (hC:Mono C) {o:Oper} {e:Env} {h:H} {k k':Option Value→H→Prop} {kp kp':Kp} (hm:∀ v h',k (some v) h'→k' (some v) h') (h0:k none h→k' none h) (hp:∀ c h',kp c h'→kp' c h')
  (hk:step P C ops o e h k kp):step P C ops o e h k' kp':=by
 unfold step at hk ⊢
 split
 ·rename_i hg
  simp only [hg] at hk
  exact xQo hC hm hp hk
 ·rename_i j want hg
  simp only [hg] at hk
  obtain ⟨s,t,hs,hc,h1,h2⟩:=hk
  exact ⟨s,t,hs,hc,fun x=>xQo hC hm hp (h1 x),fun x=>h0 (h2 x)⟩
variable {P:Program} {C:Orc} {ops:Array Oper} {kp:Kp}
def srun (P:Program) (C:Orc) (ops:Array Oper) (kp:Kp):List (Oper × List Oper)→Env→H→(Env→H→Prop)→Prop
 | [],e,h,k=>k e h
 | (o,chk)::rest,e,h,k=>step P C ops o e h (fun v h'=>(∀ r∈chk,v≠none→again P r (putE e o.dst v) h')∧srun P C ops kp rest (putE e o.dst v) h' k) kp
theorem qIy (hM:Mono C):∀ {l:List (Oper × List Oper)} {e:Env} {h:H} {k:Env→H→Prop},rgn P C ops l e h k kp→srun P C ops kp l e h k
 | [],_,_,_,hk=>hk
 | (o,chk)::rest,e,h,k,hk=>by
  unfold srun
  exact qEq hM (fun v h' x=>⟨x.1,qIy hM x.2⟩) (fun x=>⟨x.1,qIy hM x.2⟩) (fun _ _ x=>x) (xQj hk)
theorem xJs {o:Oper} (hc:clOf P o.op=.p) (e:Env):(∀ h k,¬ step P C ops o e h k kp)∨∃ v,∀ h k,step P C ops o e h k kp↔k v h:=by
 obtain ⟨W,d,hW⟩:=qNv (C:=C) hc e
 unfold step
 cases hg:o.guard with
 | none =>
  rcases d with d | ⟨v,d⟩
  ·exact .inl fun h k hk=>d _ ((hW _ _ _).mp hk)
  ·exact .inr ⟨some v,fun h k=>(hW _ _ _).trans (d _)⟩
 | some g =>
  obtain ⟨j,want⟩:=g
  dsimp only
  by_cases hx:∃ s t,qAj ops j=some s∧e[s]?=some (some t)
  ·obtain ⟨s,t,hs,ht⟩:=hx
   have hu:∀ {A:Value→Prop},(∃ s t,qAj ops j=some s∧e[s]?=some (some t)∧A t)↔A t:=by
    intro A
    constructor
    ·rintro ⟨s',t',hs',ht',h⟩
     rw [hs] at hs'; obtain rfl:=Option.some.inj hs'
     rw [ht] at ht'
     simp at ht'
     subst ht'; exact h
    ·intro h; exact ⟨s,t,hs,ht,h⟩
   by_cases hw:t=.bool want
   ·rcases d with d | ⟨v,d⟩
    ·refine .inl fun h k hk=>?_
     have:=(hu (A:=fun t=>(t=.bool want→opW P C o e h (fun v h'=>k (some v) h') kp)∧(t≠.bool want→k none h))).mp hk
     exact d _ ((hW _ _ _).mp (this.1 hw))
    ·refine .inr ⟨some v,fun h k=>?_⟩
     rw [hu (A:=fun t=>(t=.bool want→opW P C o e h (fun v h'=>k (some v) h') kp)∧(t≠.bool want→k none h))]
     simp only [hw,ne_eq,not_true_eq_false,false_implies,and_true,true_implies]
     exact (hW _ _ _).trans (d _)
   ·refine .inr ⟨none,fun h k=>?_⟩
    rw [hu (A:=fun t=>(t=.bool want→opW P C o e h (fun v h'=>k (some v) h') kp)∧(t≠.bool want→k none h))]
    simp [hw]
  ·exact .inl fun h k=>by
    rintro ⟨s,t,hs,ht,_⟩
    exact hx ⟨s,t,hs,ht⟩
theorem evAt {e e':Env} {x:Operand} {k:Value→Prop} (h1:ev e x k) (he:ev e x=ev e' x):∃ v,k v∧∀ φ,(ev e x φ↔φ v)∧(ev e' x φ↔φ v):=by
 rcases qXh e x with d | ⟨v,d⟩
 ·exact absurd h1 (d _)
 ·exact ⟨v,(d _).mp h1,fun φ=>⟨d φ,by rw [← he]; exact d φ⟩⟩
theorem qIf {o:Oper} (hc:clOf P o.op=.r) {e:Env} {h:H} {k:Kv} (hk:opW P C o e h k kp) :
  ∃ v,k v h∧(∀ k2:Kv,k2 v h→opW P C o e h k2 kp)∧∀ e' h2 (k2:Kv),Alike ops o e' e→again P o e' h2→(∀ d w,o.dst=some d→e'[d]?=some (some w)→w=v)→k2 v h2→opW P C o e h2 k2 kp:=by
 unfold opW at hk ⊢
 cases ho:o.op <;> simp only [ho,clOf] at hk hc ⊢ <;> try (cases hc; done)
 case binOp op t x y yt=>split at hc <;> cases hc
 case load t x =>
  obtain ⟨p,hk',hp⟩:=evAt hk rfl
  clear hk
  cases p <;> try exact hk'.elim
  rename_i a
  cases a <;> try exact hk'.elim
  rename_i a
  have hk:(match aggB P t with
   | true=>match leafs P 20 t with
    | some ts=>exL P ts fun vs=>rdN h a (szOf P t)=some vs∧k (.agg vs.toArray) h
    | none=>False
   | false=>match P.underlying t with
    | some _=>qUc P t fun v=>rd h a=some v∧k v h
    | none=>False):=hk'
  clear hk'
  have key:∀ e' h2,Alike ops o e' e→again P o e' h2→∃ w d,o.dst=some d∧e'[d]?=some (some w)∧(match aggB P t with
    | true=>aggW w fun cs=>rdN h2 a (szOf P t)=some cs
    | false=>rd h2 a=some w):=by
   intro e' h2 ha hg
   unfold again at hg
   simp only [ho] at hg
   cases hd:o.dst with
   | none=>simp [hd] at hg
   | some d =>
    simp only [hd] at hg
    have he:ev e' x=ev e x:=ha.ev x (by simp [ho,Op.operands])
    rw [he] at hg
    have hg:=((hp _).1).mp hg
    obtain ⟨w,hw,hg⟩:=qYt hg
    exact ⟨w,d,rfl,hw,hg⟩
  split at hk
  ·rename_i hag
   simp only [hag] at key
   split at hk
   ·rename_i ts hts
    obtain ⟨vs,h1,h2,h3⟩:=qBr.mp hk
    refine ⟨.agg vs.toArray,h3,fun k2 hk2=>((hp _).1).mpr ?_,fun e' h2' k2 ha hg hv hk2=>((hp _).1).mpr ?_⟩
    ·simp only [ptrW,hag,hts]
     exact (qBr (φ:=fun vs=>rdN h a (szOf P t)=some vs∧k2 (.agg vs.toArray) h)).mpr ⟨vs,h1,h2,hk2⟩
    ·obtain ⟨w,d,hd,hw,hr⟩:=key e' h2' ha hg
     obtain rfl:=hv d w hd hw
     simp only [ptrW,hag,hts]
     exact (qBr (φ:=fun vs=>rdN h2' a (szOf P t)=some vs∧k2 (.agg vs.toArray) h2')).mpr ⟨vs,h1,hr,hk2⟩
   ·exact hk.elim
  ·rename_i hag
   simp only [hag] at key
   split at hk
   ·rename_i u hu
    obtain ⟨v,h1,h2,h3⟩:=qZq.mp hk
    refine ⟨v,h3,fun k2 hk2=>((hp _).1).mpr ?_,fun e' h2' k2 ha hg hv hk2=>((hp _).1).mpr ?_⟩
    ·simp only [ptrW,hag,hu]
     exact (qZq (φ:=fun v=>rd h a=some v∧k2 v h)).mpr ⟨v,h1,h2,hk2⟩
    ·obtain ⟨w,d,hd,hw,hr⟩:=key e' h2' ha hg
     obtain rfl:=hv d w hd hw
     simp only [ptrW,hag,hu]
     exact (qZq (φ:=fun v=>rd h2' a=some v∧k2 v h2')).mpr ⟨w,h1,hr,hk2⟩
   ·exact hk.elim
 case call c =>
  obtain ⟨callee,args,argTypes⟩:=c
  cases callee with
  | value f=>simp at hc
  | invoke r m=>simp at hc
  | builtin b =>
   cases b <;> simp only at hc <;> try (cases hc; done)
   generalize argTypes.toList.head?.bind P.underlying=u at hc
   cases u with
   | none=>simp at hc
   | some d=>cases d <;> simp at hc
 case convert s d x =>
  cases hcv:cvOf P s d <;> simp [hcv] at hc
theorem xJn {o:Oper} (hc:clOf P o.op=.r) {e:Env} {h:H} {k:Option Value→H→Prop} (hk:step P C ops o e h k kp) :
  ∃ v,k v h∧(∀ k2:Option Value→H→Prop,k2 v h→step P C ops o e h k2 kp) ∧
   ∀ e' h2 (k2:Option Value→H→Prop),Alike ops o e' e→again P o e' h2→(∀ u,v=some u→∀ d w,o.dst=some d→e'[d]?=some (some w)→w=u)→k2 v h2→step P C ops o e h2 k2 kp:=by
 unfold step at hk ⊢
 cases hg:o.guard with
 | none =>
  simp only [hg] at hk
  obtain ⟨v,h1,h2,h3⟩:=qIf (ops:=ops) hc hk
  exact ⟨some v,h1,fun k2 hk2=>h2 _ hk2,fun e' h2' k2 ha hag hv hk2=>h3 e' h2' _ ha hag (hv v rfl) hk2⟩
 | some g =>
  obtain ⟨j,want⟩:=g
  simp only [hg] at hk
  obtain ⟨s,t,hs,ht,h1,h2⟩:=hk
  by_cases hw:t=.bool want
  ·obtain ⟨v,g1,g2,g3⟩:=qIf (ops:=ops) hc (h1 hw)
   refine ⟨some v,g1,fun k2 hk2=>⟨s,t,hs,ht,fun _=>g2 _ hk2,fun x=>absurd hw x⟩,fun e' h2' k2 ha hag hv hk2=>⟨s,t,hs,ht,fun _=>g3 e' h2' _ ha hag (hv v rfl) hk2,fun x=>absurd hw x⟩⟩
  ·exact ⟨none,h2 hw,fun k2 hk2=>⟨s,t,hs,ht,fun x=>absurd x hw,fun _=>hk2⟩,fun e' h2' k2 _ _ _ hk2=>⟨s,t,hs,ht,fun x=>absurd x hw,fun _=>hk2⟩⟩
theorem xZr {r x:Oper} (h:quiet ops r x=true):(∀ d,x.dst=some d→d ∉ r.looksAt ops)∧∀ d,x.dst=some d→r.dst≠some d:=by
 refine ⟨fun d hd=>?_,fun d hd=>?_⟩ <;> simp [quiet,hd] at h
 ·exact h.1
 ·exact h.2
theorem qTq {r:Oper} {e e':Env} {h:H} (ha:Alike ops r e e') (hd:∀ d,r.dst=some d→e[d]?=e'[d]?):again P r e h→again P r e' h:=by
 unfold again
 cases ho:r.op <;> try exact id
 case load t x =>
  cases hr:r.dst with
  | none=>exact id
  | some d =>
   have h1:=ha.ev x (by simp [ho,Op.operands])
   have h2:=qJl (hd d hr)
   simp only [h1,h2,imp_self]
theorem qLc {e:Env} {d:Option Nat} {v:Option Value} {t:Nat} (h:d≠some t):(putE e d v)[t]?=e[t]?:=by
 cases d with
 | none=>rfl
 | some d =>
  have:d≠t:=fun x=>h (by rw [x])
  simp [putE,this]
theorem xEm {r x y:Oper} {e:Env} {v u:Option Value} {h:H} (hq:quiet ops r x=true) (hxy:∀ d,x.dst=some d→y.dst≠some d) (ha:again P r (putE (putE e x.dst v) y.dst u) h) :
  again P r (putE e y.dst u) h:=by
 rw [qNu hxy] at ha
 obtain ⟨h1,h2⟩:=xZr hq
 exact qTq (Alike.put h1) (fun d hd=>qLc fun hx=>h2 d hx hd) ha
def xEv (P:Program) (ops:Array Oper) (x y:Oper) (cy:List Oper):Prop :=
 x.apart ops y=true∧clOf P x.op≠.e∧((clOf P y.op≠.e∧cy=[])∨clOf P x.op=.p∨(clOf P x.op=.r∧x∈cy∧∀ d,x.dst=some d→d ∉ x.looksAt ops))
theorem swap (hM:Mono C) {x y:Oper} {cx cz:List Oper} (ok:xEv P ops x y cx) (hz:∀ r∈cz,r∈cx∧quiet ops r x=true) {rest:List (Oper × List Oper)} {e:Env} {h:H} (f:Fin h) {k:Env→H→Prop}
  (hk:srun P C ops kp ((x,[])::(y,cx)::rest) e h k):srun P C ops kp ((y,cz)::(x,[])::rest) e h k:=by
 obtain ⟨hap,hx,ok⟩:=ok
 obtain ⟨a1,a2,a3⟩:=Oper.apart_spec hap
 simp only [srun,List.not_mem_nil,false_implies,implies_true,true_and] at hk ⊢
 have cy:∀ v h k,step P C ops y (putE e x.dst v) h k kp↔step P C ops y e h k kp:=fun v h k=>qHr (Alike.put a1)
 have cxx:∀ v h k,step P C ops x (putE e y.dst v) h k kp↔step P C ops x e h k kp:=fun v h k=>qHr (Alike.put a3)
 simp only [cy] at hk
 simp only [cxx]
 have cm:∀ v u,putE (putE e y.dst u) x.dst v=putE (putE e x.dst v) y.dst u:=fun v u=>(qNu a2).symm
 simp only [cm]
 have drop:∀ v u h2,(∀ r∈cx,u≠none→again P r (putE (putE e x.dst v) y.dst u) h2)→∀ r∈cz,u≠none→again P r (putE e y.dst u) h2 :=
  fun v u h2 hc r hr hu=>xEm (hz r hr).2 a2 (hc r (hz r hr).1 hu)
 rcases ok with ⟨hy,rfl⟩ | hp | ⟨hr,hmem,hself⟩
 ·obtain rfl:cz=[]:=by
   cases cz with
   | nil=>rfl
   | cons r _=>exact absurd (hz r (by simp)).1 (by simp)
  simp only [List.not_mem_nil,false_implies,implies_true,true_and] at hk ⊢
  exact (qSk (C:=C) hx e kp).swap (qSk (C:=C) hy e kp) f hk
 ·rcases xJs (C:=C) (ops:=ops) (kp:=kp) hp e with d | ⟨v,d⟩
  ·exact absurd hk (d _ _)
  ·rw [d] at hk
   exact qEq hM (fun u h' hu=>⟨drop v _ _ hu.1,(d _ _).mpr hu.2⟩) (fun hu=>⟨drop v _ _ hu.1,(d _ _).mpr hu.2⟩) (fun _ _ hc=>hc) hk
 ·obtain ⟨v,hk,h2,h3⟩:=xJn hr hk
  refine qEq hM (fun u h' hu=>⟨drop v _ _ hu.1,?_⟩) (fun hu=>⟨drop v _ _ hu.1,h2 _ hu.2⟩) (fun _ _ hc=>hc) hk
  have hag:=hu.1 x hmem (by simp)
  refine h3 _ h' _ ?_ hag ?_ hu.2
  ·intro t ht
   rw [qLc (fun hd=>a3 t hd ht),qLc (fun hd=>hself t hd ht)]
  ·intro u' hvu d w hd hw
   subst hvu
   rw [qLc (a2 d hd),hd] at hw
   simp only [putE,List.getElem?_set] at hw
   by_cases hl:d<e.length
   ·simpa [hl,eq_comm] using hw
   ·simp [hl] at hw
theorem qCj:∀ {x:Oper},clOf P x.op≠.e→∀ {e:Env} {h:H} (_:Fin h) {k k':Option Value→H→Prop},step P C ops x e h k kp→(∀ v h',Fin h'→k v h'→k' v h')→step P C ops x e h k' kp :=
 fun hx _ _ f _ _ hk hm=>(qSk (C:=C) hx _ kp).mono f hk hm
theorem move (hM:Mono C) {y:Oper} {cy:List Oper} {rest:List (Oper × List Oper)} {k:Env→H→Prop}:∀ (pre:List (Oper × List Oper)) (cz:List Oper) (e:Env) (h:H),Fin h →
  (∀ x∈pre,xEv P ops x.1 y cy∧x.2=[])→pre.Pairwise (fun r x=>clOf P r.1.op=.r→quiet ops r.1 x.1=true)→(∀ r∈cz,r∈cy∧∀ x∈pre,quiet ops r x.1=true) →
  srun P C ops kp (pre++(y,cy)::rest) e h k→srun P C ops kp ((y,cz)::(pre++rest)) e h k
 | [],cz,e,h,_,_,_,hz,hk=>by
  simp only [List.nil_append,srun] at hk ⊢
  exact qEq hM (fun v h' x=>⟨fun r hr=>x.1 r (hz r hr).1,x.2⟩) (fun x=>⟨fun r hr=>x.1 r (hz r hr).1,x.2⟩) (fun _ _ x=>x) hk
 | (x,c)::pre,cz,e,h,f,hp,hq,hz,hk=>by
  obtain ⟨hpx,rfl⟩:=hp (x,c) (by simp)
  obtain ⟨hq1,hq2⟩:=List.pairwise_cons.mp hq
  have hk':srun P C ops kp ((x,[])::(pre++(y,cy)::rest)) e h k:=hk
  by_cases hm:x∈cy∧clOf P x.op=.r
  ·obtain ⟨hm,hr⟩:=hm
   refine swap hM (cx:=x::cz) ?_ ?_ f ?_
   ·obtain ⟨b1,b2,b3⟩:=hpx
    refine ⟨b1,b2,?_⟩
    rcases b3 with ⟨_,b4⟩ | b3 | ⟨b3,_,b5⟩
    ·rw [b4] at hm; simp at hm
    ·exact .inr (.inl b3)
    ·exact .inr (.inr ⟨b3,by simp,b5⟩)
   ·intro r hr
    exact ⟨by simp [hr],(hz r hr).2 (x,[]) (by simp)⟩
   ·unfold srun at hk' ⊢
    refine qCj hpx.2.1 f hk' fun v h' f' hv=>⟨hv.1,?_⟩
    refine move hM pre (x::cz) _ _ f' (fun z hzm=>hp z (by simp [hzm])) hq2 ?_ hv.2
    intro r hr'
    rcases List.mem_cons.mp hr' with rfl | hr'
    ·exact ⟨hm,fun z hzm=>hq1 z hzm hr⟩
    ·exact ⟨(hz r hr').1,fun z hzm=>(hz r hr').2 z (by simp [hzm])⟩
  ·refine swap hM (cx:=cz) ?_ ?_ f ?_
   ·obtain ⟨b1,b2,b3⟩:=hpx
    refine ⟨b1,b2,?_⟩
    rcases b3 with ⟨b3,b4⟩ | b3 | ⟨b3,b4,b5⟩
    ·refine .inl ⟨b3,?_⟩
     cases cz with
     | nil=>rfl
     | cons r _ =>
      have:=(hz r (by simp)).1
      rw [b4] at this; simp at this
    ·exact .inr (.inl b3)
    ·exact absurd ⟨b4,b3⟩ hm
   ·intro r hr
    exact ⟨hr,(hz r hr).2 (x,[]) (by simp)⟩
   ·unfold srun at hk' ⊢
    refine qCj hpx.2.1 f hk' fun v h' f' hv=>⟨hv.1,?_⟩
    refine move hM pre cz _ _ f' (fun z hzm=>hp z (by simp [hzm])) hq2 ?_ hv.2
    intro r hr
    exact ⟨(hz r hr).1,fun z hzm=>(hz r hr).2 z (by simp [hzm])⟩
variable {P:Program} {ro:Option Nat} {C:Orc} {kp:Kp} {Q:Exit→Act→World→Prop} {ds:List Deferred × Nat} {S:List (Nat × Value)}
section
variable {ops:Array Oper}
theorem qFu {L:List Oper} {an:List (Nat × List Nat)}:∀ {items:List (Nat × List Nat)},qVr P L an items=true →
  (∀ x∈items,∃ o,L[x.1]?=some o∧(clOf P o.op≠.e→x.2=[]))∧items.Pairwise fun x y=>qOd P L an x.1 y=true
 | [],_=>⟨by simp,.nil⟩
 | x::rest,h=>by
  simp only [qVr,Bool.and_eq_true,List.all_eq_true] at h
  obtain ⟨⟨h1,h2⟩,h3⟩:=h
  obtain ⟨g1,g2⟩:=qFu h3
  refine ⟨fun y hy=>?_,List.pairwise_cons.mpr ⟨h2,g2⟩⟩
  rcases List.mem_cons.mp hy with rfl | hy
  ·split at h1
   ·rename_i o ho
    refine ⟨o,ho,fun hc=>?_⟩
    simp only [Bool.or_eq_true,beq_iff_eq,List.isEmpty_iff] at h1
    exact h1.resolve_left hc
   ·simp at h1
  ·exact g1 y hy
theorem qIj {o:Oper} {S:Nat→Prop}:(∀ j∈edges o,S j)↔∀ e∈o.after,Region.binds .any e=true→S e.on:=by
 unfold edges
 simp only [List.mem_filterMap,Array.mem_toList_iff]
 constructor
 ·intro h e he hb
  exact h e.on ⟨e,he,by simp [hb]⟩
 ·rintro h j ⟨e,he,hj⟩
  split at hj
  ·rename_i hb
   obtain rfl:=Option.some.inj hj
   exact h e he hb
  ·cases hj
def xCm (L:List Oper) (an:List (Nat × List Nat)):Prop :=
 ∀ i x,x∈qMh an i→∀ S:Nat→Prop,(∀ i,S i→∀ j∈qWn L i,S j)→(∀ j∈qWn L i,S j)→S x
theorem xWo {i j:Nat} {l:List Nat} {an:List (Nat × List Nat)}:qMh ((i,l)::an) j=if i=j then l else qMh an j:=by
 unfold qMh
 by_cases h:i=j
 ·simp [h]
 ·have:(i==j)=false:=by simpa using h
  simp [h,this]
theorem xEl {L:List Oper}:∀ (is:List Nat) (acc:List (Nat × List Nat)),xCm L acc→xCm L (ancs L is acc)
 | [],_,h=>h
 | i::is,acc,h=>by
  refine xEl is _ ?_
  intro j x hx S hS he
  rw [xWo] at hx
  split at hx
  ·rename_i hij
   subst hij
   cases ho:L[i]? with
   | none=>simp [ho] at hx
   | some o =>
    simp only [ho] at hx
    have hx:=(qLl _ _ hx).resolve_right (fun h=>by cases h)
    simp only [List.mem_flatMap] at hx
    obtain ⟨j,hj,hx⟩:=hx
    have hje:j∈qWn L i:=by simp [qWn,ho,hj]
    have hSj:=he j hje
    rcases List.mem_cons.mp hx with rfl | hx
    ·exact hSj
    ·exact h j x hx S hS (hS j hSj)
  ·exact h j x hx S hS he
theorem xJv {L:List Oper} (hL:L=ops.toList) {an:List (Nat × List Nat)} (han:xCm L an) {listed:Array Bool} (hcl:∀ i,listed.getD i false=true→∀ j∈qWn L i,listed.getD j false=true)
  {x:Nat} {ox:Oper} {y:Nat × List Nat} {oy:Oper} (hx:L[x]?=some ox) (hy:L[y.1]?=some oy) (hr:∀ j∈edges oy,listed.getD j false=true) (hun:listed.getD x true=false)
  (ok:qOd P L an x y=true):xEv P ops ox oy (y.2.filterMap (L[·]?)):=by
 subst hL
 unfold qOd at ok
 simp only [hx,hy,Bool.and_eq_true,Array.toArray_toList] at ok
 obtain ⟨_,ok⟩:=ok
 have hno:(qMh an y.1).contains x=false:=by
  cases hc:(qMh an y.1).contains x with
  | false=>rfl
  | true =>
   have h1:listed.getD x false=true:=han y.1 x (by simpa using hc) (fun j=>listed.getD j false=true) hcl (by
    intro j hj
    simp only [qWn,hy] at hj
    exact hr j hj)
   rcases Nat.lt_or_ge x listed.size with h' | h'
   ·simp [h'] at h1 hun; rw [h1] at hun; cases hun
   ·simp [Array.getElem?_eq_none h'] at h1
 rw [hno] at ok
 simp only [Bool.false_or,Bool.and_eq_true,Bool.or_eq_true,bne_iff_ne,ne_eq,beq_iff_eq,List.isEmpty_iff] at ok
 obtain ⟨⟨h1,h2⟩,h3⟩:=ok
 refine ⟨h1,h2,?_⟩
 rcases h3 with (⟨h3,h4⟩ | h3) | ⟨⟨h3,h4⟩,h5⟩
 ·exact .inl ⟨h3,by rw [h4]; rfl⟩
 ·exact .inr (.inl h3)
 ·refine .inr (.inr ⟨h3,?_,?_⟩)
  ·exact List.mem_filterMap.mpr ⟨x,by simpa using h4,hx⟩
  ·intro d hd
   simp [xCr,hd] at h5
   exact h5
theorem xVh {listed:Array Bool} {i j:Nat} (hi:listed.getD i true=false):(listed.setIfInBounds i true).getD j true=false↔j≠i∧listed.getD j true=false:=by
 by_cases hij:j=i
 ·subst hij
  have hlt:j<listed.size:=by
   rcases Nat.lt_or_ge j listed.size with h' | h'
   ·exact h'
   ·simp [Array.getElem?_eq_none h'] at hi
  simp [hlt]
 ·rw [getD_set_ne true (Ne.symm hij)]
  simp [hij]
theorem qPc {listed:Array Bool} {i j:Nat} (hi:listed.getD i true=false):(listed.setIfInBounds i true).getD j false=true↔j=i∨listed.getD j false=true:=by
 have hlt:i<listed.size:=by
  rcases Nat.lt_or_ge i listed.size with h' | h'
  ·exact h'
  ·simp [Array.getElem?_eq_none h'] at hi
 by_cases hij:j=i
 ·subst hij
  simp [hlt]
 ·rw [getD_set_ne false (Ne.symm hij)]
  simp [hij]
theorem qRg (hC:Sound P C) (hM:Mono C) {L:List Oper} (hL:L=ops.toList) (hoff:∀ (i:Nat) (o:Oper),ops[i]?=some o→offS S o.dst) {an:List (Nat × List Nat)} (han:xCm L an):∀ (n:Nat) (items:List (Nat × List Nat)) (listed:Array Bool) (e:Env) (h:H) (a:Act) (w:World) (k:Env→H→Prop),
  items.length=n→(∀ i,(∃ c,(i,c)∈items)↔listed.getD i true=false)→(items.map (·.1)).Nodup→qVr P L an items=true →
  (∀ i,listed.getD i false=true→∀ j∈qWn L i,listed.getD j false=true) →
  (∀ pre x post,items=pre++x::post→∀ j∈qWn L x.1,listed.getD j false=true∨j∈pre.map (·.1)) →
  EnvR e a.tmps→Jn ds S a→Rel h w→srun P C ops kp (items.filterMap (item L)) e h k →
  (∀ e h' a w',k e h'→EnvR e a.tmps→Jn ds S a→Rel h' w'→Frame h w h' w'→Q .normal a w')→(∀ c h' a w',kp c h'→Jn ds S a→Rel h' w'→Frame h w h' w'→Q (.panic c) a w') →
  wpAnyIn (Fo ro) 0 P .any ops Q n listed a w
 | 0,items,listed,e,h,a,w,k,hlen,hu,_,_,_,_,he,hd,r,hk,hn,_=>by
  obtain rfl:=List.length_eq_zero_iff.mp hlen
  have hr:Region.ready .any ops listed=[]:=by
   cases hx:Region.ready .any ops listed with
   | nil=>rfl
   | cons i _ =>
    have:i∈Region.ready .any ops listed:=by rw [hx]; simp
    have:=(hu i).mpr (mem_ready.1 this).1
    simp at this
  exact wpAnyIn_done hr (hn _ _ _ _ hk he hd r (Frame.refl _ _)) 0
 | n+1,items,listed,e,h,a,w,k,hlen,hu,hnd,hok,hcl,hrd,he,hd,r,hk,hn,hp=>by
  obtain ⟨hsingle,hpw⟩:=qFu hok
  refine ⟨fun hr0=>?_,fun i hi=>?_⟩
  ·exfalso
   cases items with
   | nil=>simp at hlen
   | cons x rest =>
    obtain ⟨o,ho,_⟩:=hsingle x (by simp)
    have:x.1∈Region.ready .any ops listed:=by
     rw [mem_ready]
     refine ⟨(hu x.1).mp ⟨x.2,by simp⟩,o,by rw [← ho,hL,Array.getElem?_toList],?_⟩
     refine (qIj (S:=fun j=>listed.getD j false=true)).mp ?_
     intro j hj
     rcases hrd [] x rest rfl j (by simp [qWn,ho,hj]) with h1 | h1
     ·exact h1
     ·simp at h1
    rw [hr0] at this
    simp at this
  ·obtain ⟨hiu,oi,hoi,hie⟩:=mem_ready.1 hi
   have hie:=(qIj (S:=fun j=>listed.getD j false=true)).mpr hie
   obtain ⟨c,hc⟩:=(hu i).mpr hiu
   obtain ⟨pre,post,rfl⟩:=List.append_of_mem hc
   have hLi:L[i]?=some oi:=by rw [hL,Array.getElem?_toList]; exact hoi
   have hit:item L (i,c)=some (oi,c.filterMap (L[·]?)):=by simp [item,hLi]
   rw [List.filterMap_append,List.filterMap_cons,hit] at hk
   rw [List.pairwise_append,List.pairwise_cons] at hpw
   obtain ⟨hpre,⟨hpost1,hpost2⟩,hcross⟩:=hpw
   have hmoved:=move (cz:=[]) hM (pre.filterMap (item L)) e h r.fin ?_ ?_ (by simp) hk
   ·rw [← List.filterMap_append] at hmoved
    unfold srun at hmoved
    refine qBa hC hoi he r hmoved ?_ ?_
    ·intro v h' w' hv r' f
     have hnd':(i::(pre++post).map (·.1)).Nodup:=by
      have hperm:((pre++(i,c)::post).map (·.1)).Perm (i::(pre++post).map (·.1)):=by
       simp
      exact hperm.nodup_iff.mp hnd
     obtain ⟨hni,hnd''⟩:=List.nodup_cons.mp hnd'
     refine qRg hC hM hL hoff han n (pre++post) _ (putE e oi.dst v) h' _ w' k (by simp at hlen ⊢; omega) ?_ hnd'' ?_ ?_ ?_ (he.putE _ _) (hd.put (hoff i oi hoi) _) r' hv.2 ?_ ?_
     ·intro j
      rw [xVh hiu,← hu j]
      constructor
      ·rintro ⟨d,hd⟩
       refine ⟨fun hji=>hni (List.mem_map.mpr ⟨(j,d),hd,hji⟩),d,?_⟩
       rcases List.mem_append.mp hd with h1 | h1
       ·simp [h1]
       ·simp [h1]
      ·rintro ⟨hne,d,hd⟩
       refine ⟨d,?_⟩
       rcases List.mem_append.mp hd with h1 | h1
       ·simp [h1]
       ·rcases List.mem_cons.mp h1 with h1 | h1
        ·exact absurd (congrArg Prod.fst h1) hne
        ·simp [h1]
     ·have:∀ (l1 l2:List (Nat × List Nat)) (y:Nat × List Nat),qVr P L an (l1++y::l2)=true→qVr P L an (l1++l2)=true:=by
       intro l1
       induction l1 with
       | nil=>intro l2 y h; simp only [List.nil_append,qVr,Bool.and_eq_true] at h ⊢; exact h.2
       | cons z l1 ih =>
        intro l2 y h
        simp only [List.cons_append,qVr,Bool.and_eq_true,List.all_append,List.all_cons] at h ⊢
        exact ⟨⟨h.1.1,h.1.2.1,h.1.2.2.2⟩,ih _ _ h.2⟩
      exact this _ _ _ hok
     ·intro j hj m hm
      rw [qPc hiu] at hj ⊢
      rcases hj with rfl | hj
      ·simp only [qWn,hLi] at hm
       exact .inr (hie m hm)
      ·exact .inr (hcl j hj m hm)
     ·intro p x q hpq j hj
      rw [qPc hiu]
      rcases List.append_eq_append_iff.mp hpq with ⟨s,rfl,hq⟩ | ⟨s,hs,hq⟩
      ·have:=hrd (pre++(i,c)::s) x q (by rw [hq]; simp) j hj
       rcases this with h1 | h1
       ·exact .inl (.inr h1)
       ·simp only [List.map_append,List.map_cons,List.mem_append,List.mem_cons] at h1 ⊢
        rcases h1 with h1 | h1 | h1
        ·exact .inr (.inl h1)
        ·exact .inl (.inl h1)
        ·exact .inr (.inr h1)
      ·cases s with
       | nil =>
        simp at hs hq
        subst hs hq
        have:=hrd (pre++[(i,c)]) x q (by simp) j hj
        rcases this with h1 | h1
        ·exact .inl (.inr h1)
        ·simp only [List.map_append,List.map_cons,List.mem_append,List.mem_cons,List.map_nil,List.not_mem_nil,or_false] at h1
         rcases h1 with h1 | h1
         ·exact .inr h1
         ·exact .inl (.inl h1)
       | cons z s =>
        simp only [List.cons_append,List.cons.injEq] at hq
        obtain ⟨rfl,hq⟩:=hq
        subst hs
        have:=hrd p x (s++(i,c)::post) (by simp) j hj
        rcases this with h1 | h1
        ·exact .inl (.inr h1)
        ·exact .inr h1
     ·intro e'' h'' a'' w'' hk' he' hd' r'' f'
      exact hn _ _ _ _ hk' he' hd' r'' (f.trans f')
     ·intro c h'' a'' w'' hc hd' r'' f'
      exact hp _ _ _ _ hc hd' r'' (f.trans f')
    ·intro c h' w' hc r' f
     exact hp _ _ _ _ hc hd r' f
   ·intro z hz
    obtain ⟨x,hx,hxz⟩:=List.mem_filterMap.mp hz
    obtain ⟨ox,hox,hce⟩:=hsingle x (by simp [hx])
    simp only [item,hox,Option.map_some,Option.some.injEq] at hxz
    subst hxz
    have hpo:=xJv hL han hcl hox hLi hie ((hu x.1).mp ⟨x.2,by simp [hx]⟩) (hcross x hx (i,c) (by simp))
    refine ⟨hpo,?_⟩
    rw [hce hpo.2.1]; rfl
   ·have hpw':(pre.filterMap (item L)).Pairwise fun r x=>clOf P r.1.op=.r→clOf P x.1.op≠.e→quiet ops r.1 x.1=true:=by
     refine List.Pairwise.filterMap (item L) ?_ hpre
     intro x y hxy z hz u hu' hcr hce
     unfold qOd at hxy
     unfold item at hz hu'
     cases hox:L[x.1]? with
     | none=>simp [hox] at hxy
     | some ox =>
      cases hoy:L[y.1]? with
      | none=>simp [hox,hoy] at hxy
      | some oy =>
       simp only [hox,Option.map_some] at hz
       simp only [hoy,Option.map_some] at hu'
       simp only [Option.mem_def,Option.some.injEq] at hz hu'
       subst hz hu'
       simp only [hox,hoy,Bool.and_eq_true,Bool.or_eq_true] at hxy
       rcases hxy.1 with (h1 | h1) | h1
       ·rw [hL] at h1; simpa using h1
       ·simp [hcr] at h1
       ·simp at h1; exact absurd h1 hce
    refine hpw'.imp_of_mem ?_
    intro r x hr hx hrx hcr
    obtain ⟨x',hx',hxz⟩:=List.mem_filterMap.mp hx
    obtain ⟨ox,hox,hce⟩:=hsingle x' (by simp [hx'])
    simp only [item,hox,Option.map_some,Option.some.injEq] at hxz
    subst hxz
    have hpo:=xJv hL han hcl hox hLi hie ((hu x'.1).mp ⟨x'.2,by simp [hx']⟩) (hcross x' hx' (i,c) (by simp))
    exact hrx hcr hpo.2.1
theorem qCm {L:List Oper}:∀ {is done:List Nat},qLf L done is=true →
  (∀ i∈is,i<L.length∧i ∉ done)∧is.Nodup∧∀ pre x post,is=pre++x::post→∀ j∈qWn L x,j∈done∨j∈pre
 | [],done,_=>⟨by simp,.nil,fun pre x post h=>by simp at h⟩
 | i::is,done,h=>by
  simp only [qLf,Bool.and_eq_true,Bool.not_eq_true'] at h
  obtain ⟨⟨h1,h2⟩,h3⟩:=h
  obtain ⟨g1,g2,g3⟩:=qCm h3
  have hi:i<L.length:=by
   unfold qFo at h1
   split at h1
   ·rename_i o ho
    exact (List.getElem?_eq_some_iff.mp ho).1
   ·cases h1
  have h2:i ∉ done:=by simpa using h2
  refine ⟨fun j hj=>?_,List.nodup_cons.mpr ⟨fun hm=>(g1 i hm).2 (by simp),g2⟩,fun pre x post hs j hj=>?_⟩
  ·rcases List.mem_cons.mp hj with rfl | hj
   ·exact ⟨hi,h2⟩
   ·exact ⟨(g1 j hj).1,fun hd=>(g1 j hj).2 (by simp [hd])⟩
  ·cases pre with
   | nil =>
    simp only [List.nil_append,List.cons.injEq] at hs
    obtain ⟨rfl,rfl⟩:=hs
    unfold qFo at h1
    unfold qWn at hj
    split at h1
    ·rename_i o ho
     simp only [ho] at hj
     simp only [List.all_eq_true] at h1
     exact .inl (by simpa using h1 j hj)
    ·cases h1
   | cons y pre =>
    simp only [List.cons_append,List.cons.injEq] at hs
    obtain ⟨rfl,hs⟩:=hs
    rcases g3 pre x post hs j hj with h | h
    ·rcases List.mem_cons.mp h with rfl | h
     ·exact .inr (by simp)
     ·exact .inl h
    ·exact .inr (by simp [h])
theorem qUa {L:List Oper} {an:List (Nat × List Nat)}:∀ (ahead is:List Nat),(qHm P L an ahead is).map (·.1)=is
 | _,[]=>rfl
 | ahead,i::is=>by simp [qHm,qUa (i::ahead) is]
theorem qLy (hC:Sound P C) (hM:Mono C) (hok:qOc P ops.toList=true) (hoff:∀ (i:Nat) (o:Oper),ops[i]?=some o→offS S o.dst) {e:Env} {h:H} {a:Act} {w:World} {k:Env→H→Prop}
  (he:EnvR e a.tmps) (hd:Jn ds S a) (r:Rel h w) (hk:rgnC P C ops e h k kp)
  (hn:∀ e h' a w',k e h'→EnvR e a.tmps→Jn ds S a→Rel h' w'→Frame h w h' w'→Q .normal a w') (hp:∀ c h' a w',kp c h'→Jn ds S a→Rel h' w'→Frame h w h' w'→Q (.panic c) a w') :
  wpAnyIn (Fo ro) 0 P .any ops Q ops.size (Array.replicate ops.size false) a { w with drawn:=w.drawn+1 }:=by
 unfold rgnC at hk
 unfold qOc at hok
 simp only [Bool.and_eq_true,beq_iff_eq,List.all_eq_true,List.mem_range] at hok
 obtain ⟨⟨⟨h1,h2⟩,h3⟩,h4⟩:=hok
 obtain ⟨g1,g2,g3⟩:=qCm h3
 have hs:SameHeap w { w with drawn:=w.drawn+1 }:=⟨rfl,rfl,rfl,rfl⟩
 have hmem:∀ i,(∃ c,(i,c)∈canon P ops.toList)↔i<ops.size:=by
  intro i
  have:(∃ c,(i,c)∈canon P ops.toList)↔i∈(canon P ops.toList).map (·.1):=by
   constructor
   ·rintro ⟨c,hc⟩; exact List.mem_map.mpr ⟨_,hc,rfl⟩
   ·intro h
    obtain ⟨x,hx,rfl⟩:=List.mem_map.mp h
    exact ⟨x.2,hx⟩
  rw [this]
  unfold canon
  simp only [qUa]
  constructor
  ·intro hi; simpa using (g1 i hi).1
  ·intro hi; simpa using h2 i (by simpa using hi)
 refine qRg (kp:=kp) hC hM rfl hoff (xEl _ [] ?_) ops.size (canon P ops.toList) _ e h a _ k ?_ ?_ ?_ h4 ?_ ?_ he hd (r.same hs) (qIy hM hk) ?_ ?_
 ·intro i x hx
  simp [qMh] at hx
 ·have:=congrArg List.length (qUa (P:=P) (L:=ops.toList) (an:=ancs ops.toList (qBg P ops.toList ops.toList.length (List.range ops.toList.length) []) []) [] (qBg P ops.toList ops.toList.length (List.range ops.toList.length) []))
  rw [List.length_map,h1] at this
  simpa [canon] using this
 ·intro i
  rw [hmem i]
  simp only [Array.getD_eq_getD_getElem?,Array.getElem?_replicate]
  by_cases hi:i<ops.size <;> simp [hi]
 ·unfold canon
  rw [qUa]; exact g2
 ·intro i hi
  simp only [Array.getD_eq_getD_getElem?,Array.getElem?_replicate] at hi
  by_cases hi':i<ops.size <;> simp [hi'] at hi
 ·intro pre x post hs j hj
  have:=congrArg (List.map (·.1)) hs
  unfold canon at this
  rw [qUa,List.map_append,List.map_cons] at this
  rcases g3 _ _ _ this j hj with h | h
  ·simp at h
  ·exact .inr h
 ·intro e' h' a' w' hk' he' hd' r' f'
  exact hn _ _ _ _ hk' he' hd' r' ((Frame.same hs).trans f')
 ·intro c h' a' w' hc hd' r' f'
  exact hp _ _ _ _ hc hd' r' ((Frame.same hs).trans f')
def LinF (ops:Array Oper):Nat→Array Bool→List Nat→Prop
 | 0,_,l=>l=[]
 | n+1,listed,l=>(l=[]∧Region.ready .any ops listed=[])∨∃ i l',l=i::l'∧i∈Region.ready .any ops listed∧LinF ops n (listed.setIfInBounds i true) l'
theorem xCx:∀ (fuel t:Nat) (listed:Array Bool),LinF ops fuel listed (Region.linearise.go .any ops fuel t listed [])
 | 0,t,listed=>by simp [LinF,Region.linearise.go]
 | fuel+1,t,listed=>by
  simp only [Region.linearise.go]
  change LinF ops (fuel+1) listed (match (Region.ready .any ops listed)[t % (Region.ready .any ops listed).length]? with
   | some i=>Region.linearise.go .any ops fuel (t / (Region.ready .any ops listed).length) (listed.setIfInBounds i true) [i]
   | none=>[].reverse)
  cases hi:(Region.ready .any ops listed)[t % (Region.ready .any ops listed).length]? with
  | none =>
   have hnil:Region.ready .any ops listed=[]:=by
    cases hr:Region.ready .any ops listed with
    | nil=>rfl
    | cons x xs =>
     rw [hr] at hi
     have hlt:t % (x::xs).length<(x::xs).length:=Nat.mod_lt _ (by simp)
     simp at hi
     simp at hlt
     omega
   exact .inl ⟨rfl,hnil⟩
  | some i =>
   dsimp only
   rw [linearise_go_acc,List.reverse_singleton,List.singleton_append]
   exact .inr ⟨i,_,rfl,List.mem_of_getElem? hi,xCx fuel _ _⟩
theorem qMg:∀ {n:Nat} {listed:Array Bool} {l:List Nat} {a:Act} {w:World},wpAnyIn (Fo ro) 0 P .any ops Q n listed a w→LinF ops n listed l→wpOpsIn (Fo ro) 0 P ops Q l a w
 | 0,_,l,a,w,h,hl=>by
  have:l=[]:=hl
  subst this
  exact h.2
 | n+1,_,l,a,w,h,hl=>by
  rcases hl with ⟨rfl,hr⟩ | ⟨i,l',rfl,hi,hl⟩
  ·exact h.1 hr
  ·rw [wpOpsIn_cons]
   exact wpOpIn_mono (fun a w h'=>qMg h' hl) (h.2 i hi)
theorem qTr {i j m:Nat}:(addE ops i j)[m]?=if m=j then (ops[m]?).map fun o=>{ o with after:=o.after.push ⟨i,.chain⟩ } else ops[m]?:=by
 unfold addE
 rw [Array.getElem?_modify]
 by_cases h:m=j
 ·subst h; simp
 ·rw [if_neg (fun e=>h e.symm),if_neg h]
theorem qNn {i j m:Nat} {listed:Array Bool}:m∈Region.ready .any (addE ops i j) listed↔m∈Region.ready .any ops listed∧(m=j→listed.getD i false=true):=by
 rw [mem_ready,mem_ready,qTr]
 by_cases h:m=j
 ·subst h
  simp only [if_true,forall_const]
  constructor
  ·rintro ⟨h1,o,ho,h2⟩
   obtain ⟨o',ho',rfl⟩:=Option.map_eq_some_iff.mp ho
   refine ⟨⟨h1,o',ho',fun e he hb=>h2 e (by simp [he]) hb⟩,h2 ⟨i,.chain⟩ (by simp) rfl⟩
  ·rintro ⟨⟨h1,o,ho,h2⟩,h3⟩
   refine ⟨h1,{ o with after:=o.after.push ⟨i,.chain⟩ },by rw [ho]; rfl,fun e he hb=>?_⟩
   rcases Array.mem_push.mp he with he | rfl
   ·exact h2 e he hb
   ·exact h3
 ·simp only [h,if_false,false_implies,and_true]
theorem qSp {i j:Nat} (hij:i≠j):∀ {n:Nat} {listed:Array Bool} {l:List Nat},LinF ops n listed l→(listed.getD i false=true∨∀ pre post,l=pre++j::post→i∈pre)→LinF (addE ops i j) n listed l
 | 0,_,_,h,_=>h
 | n+1,listed,l,h,hb=>by
  rcases h with ⟨rfl,hr⟩ | ⟨m,l',rfl,hm,hl⟩
  ·refine .inl ⟨rfl,?_⟩
   cases hx:Region.ready .any (addE ops i j) listed with
   | nil=>rfl
   | cons m _ =>
    have:m∈Region.ready .any (addE ops i j) listed:=by rw [hx]; simp
    have:=(qNn.mp this).1
    rw [hr] at this; simp at this
  ·refine .inr ⟨m,l',rfl,qNn.mpr ⟨hm,fun e=>?_⟩,qSp hij hl ?_⟩
   ·subst e
    rcases hb with hb | hb
    ·exact hb
    ·have:=hb [] l' rfl; simp at this
   ·have hmu:=(mem_ready.1 hm).1
    by_cases e:m=i
    ·exact .inl ((qPc hmu).mpr (.inl e.symm))
    ·rcases hb with hb | hb
     ·exact .inl ((qPc hmu).mpr (.inr hb))
     ·refine .inr fun pre post he=>?_
      have:=hb (m::pre) post (by rw [he]; rfl)
      rcases List.mem_cons.mp this with h1 | h1
      ·exact absurd h1.symm e
      ·exact h1
theorem qSe {i j:Nat}:∀ {l:List Nat} {a:Act} {w:World},wpOpsIn (Fo ro) 0 P (addE ops i j) Q l a w→wpOpsIn (Fo ro) 0 P ops Q l a w
 | [],_,_,h=>h
 | m::l,a,w,h=>by
  rw [wpOpsIn_cons] at h ⊢
  have hy:yielded (addE ops i j) a.tmps=yielded ops a.tmps:=by
   funext x
   unfold yielded
   rw [qTr]
   by_cases hx:x=j
   ·subst hx
    cases hox:ops[x]? <;> simp [hox]
   ·rw [if_neg hx]
  have hK:∀ a w,wpOpsIn (Fo ro) 0 P (addE ops i j) Q l a w→wpOpsIn (Fo ro) 0 P ops Q l a w:=fun a w=>qSe
  unfold wpOpIn at h ⊢
  rw [qTr,hy] at h
  by_cases hx:m=j
  ·subst hx
   rw [if_pos rfl] at h
   cases ho:ops[m]? with
   | none=>rw [ho] at h; exact hK _ _ h
   | some o =>
    rw [ho] at h
    have hg:Region.wanted { o with after:=o.after.push ⟨i,.chain⟩ } (yielded ops a.tmps)=Region.wanted o (yielded ops a.tmps):=rfl
    simp only [Option.map_some,hg] at h ⊢
    split at h
    ·rename_i hw
     rw [if_pos hw]
     exact Oper.wpIn_mono hK h
    ·rename_i hw
     rw [if_neg hw]
     exact ⟨fun _ _=>trivial,hK _ _ h.2⟩
  ·rw [if_neg hx] at h
   cases ho:ops[m]? with
   | none=>rw [ho] at h; exact hK _ _ h
   | some o =>
    rw [ho] at h
    dsimp only at h ⊢
    split at h
    ·rename_i hw
     rw [if_pos hw]
     exact Oper.wpIn_mono hK h
    ·rename_i hw
     rw [if_neg hw]
     exact ⟨fun _ _=>trivial,hK _ _ h.2⟩
theorem xQy (i j:Nat) (hij:i≠j):∀ l:List Nat,(∀ pre post,l=pre++j::post→i∈pre)∨(∀ pre post,l=pre++i::post→j∈pre)
 | []=>.inl fun pre post h=>by simp at h
 | m::l=>by
  by_cases h1:m=i
  ·refine .inl fun pre post h=>?_
   cases pre with
   | nil=>simp only [List.nil_append,List.cons.injEq] at h; exact absurd (h1.symm.trans h.1) hij
   | cons x pre=>simp only [List.cons_append,List.cons.injEq] at h; rw [← h.1,h1]; simp
  ·by_cases h2:m=j
   ·refine .inr fun pre post h=>?_
    cases pre with
    | nil=>simp only [List.nil_append,List.cons.injEq] at h; exact absurd (h.1.symm.trans h2) hij
    | cons x pre=>simp only [List.cons_append,List.cons.injEq] at h; rw [← h.1,h2]; simp
   ·rcases xQy i j hij l with h | h
    ·refine .inl fun pre post he=>?_
     cases pre with
     | nil=>simp only [List.nil_append,List.cons.injEq] at he; exact absurd he.1 h2
     | cons x pre=>simp only [List.cons_append,List.cons.injEq] at he; exact List.mem_cons_of_mem _ (h pre post he.2)
    ·refine .inr fun pre post he=>?_
     cases pre with
     | nil=>simp only [List.nil_append,List.cons.injEq] at he; exact absurd he.1 h1
     | cons x pre=>simp only [List.cons_append,List.cons.injEq] at he; exact List.mem_cons_of_mem _ (h pre post he.2)
def xPa (P:Program) (ops:Array Oper):Bool:=match xYx P ops with
 | none=>qOc P ops.toList
 | some (i,j)=>!Nat.beq i j && (qOc P (addE ops i j).toList && qOc P (addE ops j i).toList)
theorem xXo {i j:Nat} (hoff:∀ (i:Nat) (o:Oper),ops[i]?=some o→offS S o.dst):∀ (m:Nat) (o:Oper),(addE ops i j)[m]?=some o→offS S o.dst:=fun m o h=>by
 unfold addE at h
 rw [Array.getElem?_modify] at h
 split at h
 ·cases hm:ops[m]? with
  | none=>rw [hm] at h; simp at h
  | some o' =>
   rw [hm] at h
   obtain rfl:_=o:=by simpa using h
   exact hoff m o' hm
 ·exact hoff m o h
theorem xVt (hw:P.follows .mixedOrders=true) (hC:Sound P C) (hM:Mono C) (hok:xPa P ops=true) (hoff:∀ (i:Nat) (o:Oper),ops[i]?=some o→offS S o.dst) {id:Nat} {e:Env} {h:H} {a:Act} {w:World} {k:Env→H→Prop}
  (he:EnvR e a.tmps) (hd:Jn ds S a) (r:Rel h w) (hk:rgnD P C ops e h k kp)
  (hn:∀ e h' a w',k e h'→EnvR e a.tmps→Jn ds S a→Rel h' w'→Frame h w h' w'→Q .normal a w') (hp:∀ c h' a w',kp c h'→Jn ds S a→Rel h' w'→Frame h w h' w'→Q (.panic c) a w') :
  (Code.region id ops true).wpIn (Fo ro) 0 P Q a w:=by
 unfold rgnD at hk
 unfold xPa at hok
 split at hk
 ·rename_i hs
  simp only [hs] at hok
  exact wpIn_region_any hw (qLy hC hM hok hoff he hd r hk hn hp)
 ·rename_i i j hs
  simp only [hs,Bool.and_eq_true,Bool.not_eq_true'] at hok
  obtain ⟨hij,h1,h2⟩:=hok
  have hij:i≠j:=fun e=>by subst e; simp at hij
  have size1:∀ i j,(addE ops i j).size=ops.size:=fun i j=>by simp [addE]
  refine wpIn_region_draw fun t=>?_
  simp only [Region.schedule,hw,Bool.true_or,if_true]
  have hl:LinF ops ops.size (Array.replicate ops.size false) (Region.linearise .any ops t):=xCx _ _ _
  rcases xQy i j hij (Region.linearise .any ops t) with hb | hb
  ·have:=qLy (ro:=ro) (ops:=addE ops i j) hC hM h1 (xXo hoff) he hd r hk.1 hn hp
   rw [size1] at this
   exact qSe (qMg this (qSp hij hl (.inr hb)))
  ·have:=qLy (ro:=ro) (ops:=addE ops j i) hC hM h2 (xXo hoff) he hd r hk.2 hn hp
   rw [size1] at this
   exact qSe (qMg this (qSp (Ne.symm hij) hl (.inr hb)))
theorem xXy (hC:Sound P C) (hoff:∀ (i:Nat) (o:Oper),ops[i]?=some o→offS S o.dst) {id:Nat} {e:Env} {h:H} {a:Act} {w:World} {k:Env→H→Prop}
  (he:EnvR e a.tmps) (hd:Jn ds S a) (r:Rel h w) (hk:rgn P C ops (ops.toList.map fun o=>(o,[])) e h k kp)
  (hn:∀ e h' a w',k e h'→EnvR e a.tmps→Jn ds S a→Rel h' w'→Frame h w h' w'→Q .normal a w') (hp:∀ c h' a w',kp c h'→Jn ds S a→Rel h' w'→Frame h w h' w'→Q (.panic c) a w') :
  (Code.region id ops false).wpIn (Fo ro) 0 P Q a w:=by
 refine wpIn_region (qNh hC _ _ e h a w k ?_ ?_ he hd r hk hn hp)
 ·rw [List.map_map]
  have:=qYd ops.toList
  simp only [Array.getElem?_toList,Array.length_toList] at this
  rw [this]
  exact List.map_id _
 ·intro i hi
  have:=List.mem_range.mp hi
  exact ⟨ops[i],by simp [this],hoff i _ (by simp [this])⟩
end
variable {P:Program} {ro:Option Nat} {C:Orc} {L:Lor} {lv:Lv}
def X.ex:X→Exit
 | .n=>.normal
 | .e i=>.exit i
 | .r=>.ret
 | .p c=>.panic c
def At (x:X) (e:Env) (a:Act):Prop:=match x with
 | .p _=>True
 | _=>EnvR e a.tmps
def Post (ds:List Deferred × Nat) (S:List (Nat × Value)) (K:Kx) (h:H) (w:World) (Q:Exit→Act→World→Prop):Prop :=
 ∀ x e h' a w',K x e h'→At x e a→Jn ds S a→Rel h' w'→Frame h w h' w'→Q x.ex a w'
theorem Post.later {K:Kx} {h h':H} {w w':World} {Q:Exit→Act→World→Prop} {ds:List Deferred × Nat} {S:List (Nat × Value)} (p:Post ds S K h w Q) (f:Frame h w h' w'):Post ds S K h' w' Q :=
 fun x e h'' a w'' hk ha hd r f'=>p x e h'' a w'' hk ha hd r (f.trans f')
theorem xYe {d:Kd} {v:Value} {k:Value→Prop} (hk:tyW d v k):k v:=by
 unfold tyW at hk
 cases d with
 | raw=>exact hk
 | int j =>
  obtain ⟨n,rfl,hk1⟩:=qYs hk
  exact hk1
 | bool=>obtain ⟨b,rfl,hk⟩:=qXw hk; exact hk
 | str=>obtain ⟨b,rfl,hk⟩:=qVm hk; exact hk
theorem qYp:∀ {ds:List Kd} {vs:List Value} {k:List Value→Prop},qUw ds vs k→k vs
 | [],_,_,hk=>hk
 | _::_,[],_,hk=>hk
 | d::ds,v::vs,k,hk=>qYp (ds:=ds) (vs:=vs) (k:=fun vs=>k (v::vs)) (xYe (k:=fun v=>qUw ds vs fun vs=>k (v::vs)) hk)
theorem qJn {n:Nat}:∀ {l:List (Nat × Kd)} {vs:List Value} {j:Nat} {k:Env→Prop},buildk n l vs j k→k (qZu n l vs j)
 | [],_,_,k,hk=>hk
 | (s,d)::ss,vs,j,k,hk=>by
  have hk:=xYe (k:=fun v=>buildk n ss vs (j+1) fun e=>setk e s (some v) k) hk
  have:=qJn (n:=n) (l:=ss) (vs:=vs) (j:=j+1) (k:=fun e=>setk e s (some (nth vs j)) k) hk
  exact qJx.mp this
theorem EnvR.know {e:Env} {tmps:Array Value} (r:EnvR e tmps) {s:Nat} {v:Value} (hv:tmps[s]?=some v):EnvR (e.set s (some v)) tmps:=by
 refine ⟨by simp [r.1],fun t u ht=>?_⟩
 rw [List.getElem?_set] at ht
 split at ht
 ·rename_i h1
  subst h1
  split at ht
  ·simp at ht; subst ht; exact hv
  ·simp at ht
 ·exact r.2 t u ht
def Holds (tmps:Array Value) (l:List (Nat × Kd)) (vs:List Value):Prop:=∀ j s,l[j]?=some s→tmps[s.1]?=some (nth vs j)
theorem qEt {e:Env} {tmps:Array Value} (r:EnvR e tmps):∀ {l:List (Nat × Kd)} {k:List Value→Prop},projk e l k→∃ vs,k vs∧Holds tmps l vs
 | [],k,hk=>⟨[],hk,fun j s h=>by simp at h⟩
 | (s,d)::ss,k,hk=>by
  obtain ⟨v,hv,hk⟩:=qYt hk
  obtain ⟨vs,hk,hr⟩:=qEt r hk
  refine ⟨v::vs,hk,fun j t ht=>?_⟩
  cases j with
  | zero=>simp at ht; subst ht; exact r.2 _ _ hv
  | succ j=>exact hr j t (by simpa using ht)
theorem qPh {tmps:Array Value} {vs:List Value}:∀ {l:List (Nat × Kd)} {j:Nat},(∀ i s,l[i]?=some s→tmps[s.1]?=some (nth vs (j+i)))→EnvR (qZu tmps.size l vs j) tmps
 | [],_,_=>by simp [qZu,EnvR,List.getElem?_replicate]
 | (s,d)::ss,j,h=>by
  have h0:=h 0 (s,d) (by simp)
  have hr:=qPh (tmps:=tmps) (vs:=vs) (l:=ss) (j:=j+1) fun i t ht=>by
   have:=h (i+1) t (by simpa using ht)
   rw [this]; congr 2; omega
  exact hr.know h0
theorem qAx {e:Env} {tmps:Array Value} (r:EnvR e tmps) {l:List (Nat × Kd)} {k:List Value→Prop} (hk:projk e l k):∃ vs,k vs∧EnvR (qZu tmps.size l vs 0) tmps:=by
 obtain ⟨vs,h1,h2⟩:=qEt r hk
 exact ⟨vs,h1,qPh fun i s hs=>by rw [h2 i s hs]; simp⟩
theorem qKf {n:Nat} {e:Env} {k:Prop} (hk:fits n e k):e.length=n∧k:=by
 unfold fits at hk
 split at hk
 ·rename_i h1; exact ⟨Nat.eq_of_beq_eq_true h1,hk⟩
 ·exact hk.elim
theorem xUa {n:Nat} {l:List (Nat × Kd)} {e:Env} {k:Env→Prop} {tmps:Array Value} (r:EnvR e tmps) (hk:keepk n l e k):∃ e',k e'∧EnvR e' tmps:=by
 obtain ⟨hl,hk⟩:=qKf hk
 obtain ⟨vs,hk,hr⟩:=qAx r hk
 have hk:=qJn hk
 rw [← r.1,hl] at hr
 exact ⟨_,hk,hr⟩
theorem qDl {b:Code} {e:Env} {h:H} {F:Env→H→Prop} {tmps:Array Value} (r:EnvR e tmps) (hk:meet lv b e h F):∃ e',F e' h∧EnvR e' tmps:=by
 unfold meet at hk
 split at hk
 ·split at hk
  ·exact xUa r hk
  ·exact ⟨e,hk,r⟩
 ·exact ⟨e,hk,r⟩
def AtL (lv:Lv) (id:Nat) (x:X) (vs:List Value) (a:Act):Prop:=match x with
 | .n=>False
 | .p _=>True
 | .r=>lv.n=a.tmps.size∧Holds a.tmps lv.ret vs
 | .e i=>lv.n=a.tmps.size∧∃ l,pick i (fun _ l'=>l'=l) (lv.ext id)∧Holds a.tmps l vs
theorem qNy {i:Nat} {f:Nat→List (Nat × Kd)→Prop} {l:List (Nat × Kd)}:∀ {r:List (Nat × List (Nat × Kd))},pick i f r→pick i (fun _ l'=>l'=l) r→f i l
 | [],hk,_=>hk.elim
 | (j,m)::r,hk,hl=>by
  unfold pick at hk hl
  cases h1:Nat.beq i j with
  | true =>
   obtain rfl:=Nat.eq_of_beq_eq_true h1
   simp only [h1,cond_true] at hk hl
   subst hl; exact hk
  | false =>
   simp only [h1,cond_false] at hk hl
   exact qNy hk hl
theorem qNz {i:Nat} {f:Nat→List (Nat × Kd)→Prop}:∀ {r:List (Nat × List (Nat × Kd))},pick i f r→∃ l,pick i (fun _ l'=>l'=l) r∧f i l
 | [],hk=>hk.elim
 | (j,m)::r,hk=>by
  unfold pick at hk
  cases h1:Nat.beq i j with
  | true =>
   obtain rfl:=Nat.eq_of_beq_eq_true h1
   simp only [h1,cond_true] at hk
   exact ⟨m,by unfold pick; simp only [h1,cond_true],hk⟩
  | false =>
   simp only [h1,cond_false] at hk
   obtain ⟨l,h2,h3⟩:=qNz hk
   exact ⟨l,by unfold pick; simp only [h1,cond_false]; exact h2,h3⟩
theorem xQm {id:Nat} {K:Kl} {x:X} {e:Env} {h:H} {a:Act} (ha:At x e a) (hk:quit lv id K x e h):∃ vs,K x vs h∧AtL lv id x vs a:=by
 unfold quit at hk
 cases x with
 | n=>exact hk.elim
 | r =>
  obtain ⟨hl,hk⟩:=qKf hk
  obtain ⟨vs,h1,h2⟩:=qEt ha hk
  exact ⟨vs,h1,by rw [← hl]; exact ha.1,h2⟩
 | e i =>
  obtain ⟨hl,hk⟩:=qKf hk
  obtain ⟨l,h1,hk⟩:=qNz hk
  obtain ⟨vs,h3,h2⟩:=qEt ha hk
  exact ⟨vs,h3,by rw [← hl]; exact ha.1,l,h1,h2⟩
 | p c=>exact ⟨[],hk,trivial⟩
theorem xPw {id:Nat} {K:Kx} {x:X} {vs:List Value} {h:H} {a:Act} (ha:AtL lv id x vs a) (hk:leave lv id K x vs h):∃ e',K x e' h∧At x e' a:=by
 unfold leave at hk
 cases x with
 | n=>exact hk.elim
 | r =>
  have hk:=qJn hk
  refine ⟨_,hk,?_⟩
  rw [ha.1]
  exact qPh fun i s hs=>by rw [ha.2 i s hs]; simp
 | e i =>
  obtain ⟨hn,l,h1,h2⟩:=ha
  have hk:=qJn (qNy hk h1)
  refine ⟨_,hk,?_⟩
  rw [hn]
  exact qPh fun i s hs=>by rw [h2 i s hs]; simp
 | p c=>exact ⟨[],hk,trivial⟩
def PostL (ds:List Deferred × Nat) (S:List (Nat × Value)) (lv:Lv) (id:Nat) (K:Kl) (h:H) (w:World) (Q:Exit→Act→World→Prop):Prop :=
 ∀ x vs h' a w',K x vs h'→AtL lv id x vs a→Jn ds S a→Rel h' w'→Frame h w h' w'→Q x.ex a w'
def offC (S:List (Nat × Value)):Code→Prop
 | .region _ ops _=>∀ (i:Nat) o,ops[i]?=some o→offS S o.dst
 | .seq a b=>offC S a∧offC S b
 | .cond _ a b=>offC S a∧offC S b
 | .block _ a=>offC S a
 | .loop a=>offC S a
 | _=>True
theorem qDj:∀ c:Code,offC [] c:=by
 intro c
 induction c with
 | region id ops draw=>exact fun i o h x hx=>by cases hx
 | seq a b iha ihb=>exact ⟨iha,ihb⟩
 | cond c a b iha ihb=>exact ⟨iha,ihb⟩
 | block id a ih=>exact ih
 | loop a ih=>exact ih
 | _=>trivial
def qZp (P:Program) (ro:Option Nat) (L:Lor) (lv:Lv) (b:Code):Prop :=
 ∀ (ds:List Deferred × Nat) (S:List (Nat × Value)) i,offC S b→qWm b=some i→∀ vs h K a w Q,L b vs h K→EnvR (qZu lv.n (lv.head i) vs 0) a.tmps→Jn ds S a→Rel h w→PostL ds S lv i K h w Q→(Code.loop b).wpIn (Fo ro) 0 P Q a w
def qXf:Code→List Code
 | .seq a b=>qXf a++qXf b
 | .cond _ a b=>qXf a++qXf b
 | .block _ a=>qXf a
 | .loop a=>[a]
 | _=>[]
def qXs (P:Program):Code→Bool
 | .region _ ops draw=>!draw || xPa P ops
 | .seq a b=>qXs P a && qXs P b
 | .cond _ a b=>qXs P a && qXs P b
 | .block _ a=>qXs P a
 | .loop a=>qXs P a
 | _=>true
theorem qWw (hw:P.follows .mixedOrders=true) (hC:Sound P C) (hM:Mono C):∀ (c:Code),qXs P c=true→(∀ b∈qXf c,qZp P ro L lv b) →
  ∀ {ds:List Deferred × Nat} {S:List (Nat × Value)} {e:Env} {h:H} {a:Act} {w:World} {K:Kx} {Q:Exit→Act→World→Prop},exec P C L lv c e h K→offC S c→EnvR e a.tmps→Jn ds S a→Rel h w→Post ds S K h w Q→c.wpIn (Fo ro) 0 P Q a w:=by
 intro c
 induction c with
 | skip=>intro _ _ ds S e h a w K Q hk ho he hd r p; exact wpIn_skip (p .n e h a w hk he hd r (Frame.refl _ _))
 | exit id=>intro _ _ ds S e h a w K Q hk ho he hd r p; exact wpIn_exit (p (.e id) e h a w hk he hd r (Frame.refl _ _))
 | ret=>intro _ _ ds S e h a w K Q hk ho he hd r p; exact wpIn_ret (p .r e h a w hk he hd r (Frame.refl _ _))
 | region id ops draw =>
  intro hok _ ds S e h a w K Q hk ho he hd r p
  cases draw with
  | false=>exact xXy hC ho he hd r hk (fun e h' a w' hk' he' hd' r' f=>p .n e h' a w' hk' he' hd' r' f) (fun c h' a w' hc hd' r' f=>p (.p c) [] h' a w' hc trivial hd' r' f)
  | true=>exact xVt hw hC hM (by simpa [qXs] using hok) ho he hd r hk (fun e h' a w' hk' he' hd' r' f=>p .n e h' a w' hk' he' hd' r' f) (fun c h' a w' hc hd' r' f=>p (.p c) [] h' a w' hc trivial hd' r' f)
 | seq x y ihx ihy =>
  intro hok hl ds S e h a w K Q hk ho he hd r p
  simp only [qXs,Bool.and_eq_true] at hok
  refine wpIn_seq (ihx hok.1 (fun b hb=>hl b (by simp [qXf,hb])) hk ho.1 he hd r ?_)
  intro x e' h' a' w' hk' ha' hd' r' f
  cases x with
  | n =>
   obtain ⟨e'',hk'',he''⟩:=qDl ha' hk'
   exact ihy hok.2 (fun b hb=>hl b (by simp [qXf,hb])) hk'' ho.2 he'' hd' r' (p.later f)
  | e i=>exact p (.e i) e' h' a' w' hk' ha' hd' r' f
  | r=>exact p .r e' h' a' w' hk' ha' hd' r' f
  | p c=>exact p (.p c) e' h' a' w' hk' trivial hd' r' f
 | cond c x y ihx ihy =>
  intro hok hl ds S e h a w K Q hk ho he hd r p
  simp only [qXs,Bool.and_eq_true] at hok
  have hk:=qCp he hk
  obtain ⟨t,ht,hk'⟩:=qXw hk
  refine wpIn_cond ht ?_
  cases t with
  | true=>exact ihx hok.1 (fun b hb=>hl b (by simp [qXf,hb])) hk' ho.1 he hd r p
  | false=>exact ihy hok.2 (fun b hb=>hl b (by simp [qXf,hb])) hk' ho.2 he hd r p
 | block id x ih =>
  intro hok hl ds S e h a w K Q hk ho he hd r p
  refine wpIn_block (ih hok hl hk ho he hd r ?_)
  intro x e' h' a' w' hk' ha' hd' r' f
  cases x with
  | n=>exact p .n e' h' a' w' hk' ha' hd' r' f
  | e i =>
   dsimp only at hk'
   simp only [X.ex,Exit.inBlock]
   split at hk'
   ·rename_i h1
    rw [if_pos (Nat.eq_of_beq_eq_true h1)]
    exact p .n e' h' a' w' hk' ha' hd' r' f
   ·rename_i h1
    rw [if_neg (Nat.ne_of_beq_eq_false h1)]
    exact p (.e i) e' h' a' w' hk' ha' hd' r' f
  | r=>exact p .r e' h' a' w' hk' ha' hd' r' f
  | p c=>exact p (.p c) e' h' a' w' hk' trivial hd' r' f
 | loop b ih =>
  intro hok hl ds S e h a w K Q hk ho he hd r p
  unfold exec at hk
  split at hk
  ·rename_i i hi
   obtain ⟨hn,hk⟩:=qKf hk
   obtain ⟨vs,hk,hr⟩:=qAx he hk
   rw [← he.1,hn] at hr
   refine hl b (by simp [qXf]) ds S i ho hi vs h (leave lv i K) a w Q hk hr hd r ?_
   intro x vs' h' a' w' hk' ha' hd' r' f
   obtain ⟨e'',hk'',ha''⟩:=xPw ha' hk'
   exact p x e'' h' a' w' hk'' ha'' hd' r' f
  ·exact hk.elim
 | _=>intro _ _ ds S e h a w K Q hk; exact hk.elim
theorem xVc (hw:P.follows .mixedOrders=true) (hC:Sound P C) (hM:Mono C) {b:Code} (hok:qXs P b=true) (hin:∀ c∈qXf b,qZp P ro L lv c)
  (hL:∀ vs h K,L b vs h K→∀ I:List Value→H→Prop,(∀ vs h,round P C L lv b I K vs h→I vs h)→I vs h):qZp P ro L lv b:=by
 intro ds S i ho hi vs h K a w Q hk he hd r p
 intro fb k cs hro hb hrm
 have key:=hL vs h K hk (fun vs h'=>∀ a w',EnvR (qZu lv.n (lv.head i) vs 0) a.tmps→Jn ds S a→Rel h' w'→Frame h w h' w' →
   ∃ e a' w'',Q e a' w''∧ArrivesIn (Machine.fenced P (Fo ro)) P (lone (fb.atR a (.code b::.inLoop b::k)) cs w') fb k cs e a' w'') ?_ a w he hd r (Frame.refl _ _)
 ·obtain ⟨e,a',w',hq,harr⟩:=key
  exact ⟨e,a',w',hq,.of_steps (.one (fenced_calm hb hrm rfl) stepR_loop) harr⟩
 ·intro vs h' hr a w' he hd r f
  unfold round at hr
  simp only [hi] at hr
  have hr:=qJn hr
  have hwp:=qWw (Q:=Exit.then (fun a' w''=>∃ e a'' w''',Q e a'' w'''∧ArrivesIn (Machine.fenced P (Fo ro)) P (lone (fb.atR a' (.code b::.inLoop b::k)) cs w'') fb k cs e a'' w''') Q) hw hC hM b hok hin hr ho he hd r ?_
  ·obtain ⟨e,a₁,w₁,hq,harr⟩:=hwp fb (.inLoop b::k) cs hro hb hrm
   cases e with
   | normal =>
    obtain ⟨e₂,a₂,w₂,hq₂,harr₂⟩:=hq
    exact ⟨e₂,a₂,w₂,hq₂,.of_steps (StepsIn.trans harr (.one (fenced_calm hb hrm rfl) stepR_inLoop)) harr₂⟩
   | exit id=>exact ⟨_,a₁,w₁,hq,.pass (x:=.inLoop b) rfl (fun _ _=>.inl (by simp)) harr⟩
   | goto l=>exact ⟨_,a₁,w₁,hq,.pass (x:=.inLoop b) rfl (fun _ _=>.inl (by simp)) harr⟩
   | ret=>exact ⟨_,a₁,w₁,hq,.pass (x:=.inLoop b) rfl (fun _ _=>.inl (by simp)) harr⟩
   | panic ch=>exact ⟨_,a₁,w₁,hq,.pass (x:=.inLoop b) rfl (fun _ _=>.inl (by simp)) harr⟩
   | outgrown=>exact ⟨_,a₁,w₁,hq,.pass (x:=.inLoop b) rfl (fun _ _=>.inl (by simp)) harr⟩
  ·intro x e' h'' a' w'' hk' ha' hd' r' f'
   cases x with
   | n =>
    obtain ⟨hn,hk'⟩:=qKf hk'
    obtain ⟨vs',hI,hr'⟩:=qAx ha' hk'
    rw [← ha'.1,hn] at hr'
    exact hI a' w'' hr' hd' r' (f.trans f')
   | e j =>
    obtain ⟨vs',h1,h2⟩:=xQm ha' hk'
    exact p (.e j) vs' h'' a' w'' h1 h2 hd' r' (f.trans f')
   | r =>
    obtain ⟨vs',h1,h2⟩:=xQm ha' hk'
    exact p .r vs' h'' a' w'' h1 h2 hd' r' (f.trans f')
   | p c=>exact p (.p c) [] h'' a' w'' hk' trivial hd' r' (f.trans f')
def CS (P:Program):Orc:=fun f args h k kp=>∀ w R,Rel h w →
 (∀ v h' w',k v h'→Rel h' w'→Frame h w h' w'→R (.returned v) w')→(∀ c h' w',kp c h'→Rel h' w'→Frame h w h' w'→R (.panicked c) w') →
 (f<P.funcs.size→Calls P f args.toArray w R)∧(P.funcs.size≤f→Yld P (f - P.funcs.size) args.toArray w R)
theorem xLt {f:FuncId} {args:List Value} {h:H} {k:Kv} {kp:Kp} (hf:f<P.funcs.size) (hk:∀ w R,Rel h w →
 (∀ v h' w',k v h'→Rel h' w'→Frame h w h' w'→R (.returned v) w')→(∀ c h' w',kp c h'→Rel h' w'→Frame h w h' w'→R (.panicked c) w')→Calls P f args.toArray w R):CS P f args h k kp :=
 fun w R r hv hp=>⟨fun _=>hk w R r hv hp,fun h=>absurd hf (Nat.not_lt.mpr h)⟩
theorem xCl {f:FuncId} {args:List Value} {h:H} {k:Kv} {kp:Kp} (hf:f<P.funcs.size) (hc:CS P f args h k kp) {w:World} {R:Ending→World→Prop} (r:Rel h w)
 (hv:∀ v h' w',k v h'→Rel h' w'→Frame h w h' w'→R (.returned v) w') (hp:∀ c h' w',kp c h'→Rel h' w'→Frame h w h' w'→R (.panicked c) w'):Calls P f args.toArray w R:=(hc w R r hv hp).1 hf
theorem qLt {f:FuncId} {fn:Func} (hf:P.funcs[f]?=some fn):f<P.funcs.size:=(Array.getElem?_eq_some_iff.mp hf).1
theorem qYy:Sound P (CS P):=fun _ _ _ _ _ h w R r hv hp=>h w R r hv hp
theorem qUq:Mono (CS P):=fun _ _ _ _ _ _ _ hk hp h w R r hv hc=>h w R r (fun v h' w' x=>hv v h' w' (hk v h' x)) (fun c h' w' x=>hc c h' w' (hp c h' x))
def resv (tmps:Array Value):ResultVar→Sem Value
 | .tmp t=>pure (tmps.getD t undef)
 | .cell a t=>do loadVar t (← asAddr (tmps.getD a undef))
theorem qDi {h:H} {w:World} (r:Rel h w) {e:Env} {tmps:Array Value} (he:EnvR e tmps):∀ {rs:List ResultVar} {k:List Value→Prop},resW P h e rs k →
  ∃ vs,k vs∧(rs.mapM (resv tmps)).run P w=.ok vs w
 | [],k,hk=>⟨[],hk,by simp⟩
 | .tmp t::rs,k,hk=>by
  obtain ⟨v,hv,hk⟩:=qYt hk
  obtain ⟨vs,hk,hr⟩:=qDi r he hk
  have:=he.2 _ _ hv
  exact ⟨v::vs,hk,by simp only [List.mapM_cons,Sem.run_bind,resv,Sem.run_pure,Result.andThen_ok,hr]; simp [this]⟩
 | .cell t ty::rs,k,hk=>by
  obtain ⟨v,hv,hk'⟩:=qYt hk
  clear hk
  obtain ⟨ad,rfl,hk⟩:=qJy hk'
  clear hk'
  have ht:=he.2 _ _ hv
  have hq:∀ {x:Value},(loadVar ty ad).run P w=.ok x w→(resv tmps (.cell t ty)).run P w=.ok x w:=by
   intro x hx
   simp only [resv,Array.getD_eq_getD_getElem?,ht,Option.getD_some,Sem.run_bind,asAddr,Sem.run_pure,Result.andThen_ok,hx]
  split at hk
  ·rename_i hag
   split at hk
   ·obtain ⟨cs,h1,hk⟩:=qSy hk
    obtain ⟨vs,hk,hr⟩:=qDi r he hk
    have:=qAm r hag h1
    simp [Instr.loadAt,Instr.sureAddr] at this
    refine ⟨_,hk,?_⟩
    simp only [List.mapM_cons,Sem.run_bind,hq this,Sem.run_pure,Result.andThen_ok,hr]
   ·exact hk.elim
  ·rename_i hag
   split at hk
   ·rename_i d hd
    obtain ⟨u,h1,hk⟩:=qUy hk
    obtain ⟨vs,hk,hr⟩:=qDi r he hk
    have:=qAl r hd hag h1
    simp [Instr.loadAt,Instr.sureAddr] at this
    refine ⟨_,hk,?_⟩
    simp only [List.mapM_cons,Sem.run_bind,hq this,Sem.run_pure,Result.andThen_ok,hr]
   ·exact hk.elim
theorem qWz {fn:Func} {h:H} {w:World} (r:Rel h w) {e:Env} {tmps:Array Value} (he:EnvR e tmps) {k:List Value→Prop} (hk:resW P h e fn.results.toList k) :
  ∃ vs,k vs∧(results fn tmps).run P w=.ok (xXx vs) w:=by
 obtain ⟨vs,h1,h2⟩:=qDi r he hk
 refine ⟨vs,h1,?_⟩
 have e1:results fn tmps=(do
  let vs ← fn.results.mapM (resv tmps)
  pure (if h:vs.size=1 then vs[0] else .tuple vs)):=by
  unfold results
  congr 2
 rw [e1,Array.mapM_eq_mapM_toList]
 simp only [Sem.run_bind,Sem.run_map,map_eq_pure_bind,h2,Result.andThen_ok,Sem.run_pure]
 rcases vs with _ | ⟨v,_ | ⟨u,vs⟩⟩ <;> simp [xXx]
theorem qAt {n:Nat} {args:List Value}:EnvR (qJw n args) (args.toArray++Array.replicate (n - args.toArray.size) undef):=by
 refine ⟨by simp [qJw],fun s v hs=>?_⟩
 unfold qJw at hs
 rw [List.getElem?_append] at hs
 split at hs
 ·rename_i hlt
  have hlt':s<args.length:=by simpa using hlt
  rw [Array.getElem?_append,if_pos (by simpa using hlt')]
  simpa using hs
 ·rw [List.getElem?_replicate] at hs
  split at hs <;> simp at hs
theorem xWd (hw:P.follows .mixedOrders=true) {f:FuncId} {fn:Func} {c:Code} (hf:P.funcs[f]?=some fn) (hb:fn.body=some c) (hok:qXs P c=true) (hl:∀ b∈qXf c,qZp P none L lv b)
  {args:List Value} {h:H} {k:Kv} {kp:Kp} (hk:xEa P (CS P) L lv fn args h k kp):CS P f args h k kp:=by
 refine xLt (qLt hf) fun w R r hv hp=>?_
 unfold xEa at hk
 simp only [hb] at hk
 have hk:=qYp hk
 refine calls_of_wp hf hb (wpIn_wide.1 (qWw (ro:=none) (ds:=([],_)) (S:=[]) hw qYy qUq c hok hl hk (qDj c) qAt ⟨rfl,rfl,fun x hx=>by cases hx⟩ r ?_))
 intro x e h' a w' hk' ha hd r' f'
 cases x with
 | n =>
  obtain ⟨vs,h1,h2⟩:=qWz r' ha hk'
  exact ⟨hd.1,_,h2,hv _ _ _ h1 r' f'⟩
 | r =>
  obtain ⟨vs,h1,h2⟩:=qWz r' ha hk'
  exact ⟨hd.1,_,h2,hv _ _ _ h1 r' f'⟩
 | e i=>exact hk'.elim
 | p c=>exact ⟨hd.1,hp _ _ _ hk' r' f'⟩
variable {P:Program} {L:Lor} {lv:Lv}
def qQs (fn:Func):Code:=fn.body.getD .skip
def qQi:Code→List Code
 | .seq a b=>qQi a++qQi b
 | .cond _ a b=>qQi a++qQi b
 | .block _ a=>qQi a
 | .loop a=>a::qQi a
 | _=>[]
def nthC:List Code→Nat→Code
 | [],_=>.skip
 | c::_,0=>c
 | _::cs,n+1=>nthC cs n
def Lfp (P:Program) (C:Orc) (L:Lor) (lv:Lv) (b:Code):Prop :=
 ∀ vs h K,L b vs h K→∀ I:List Value→H→Prop,(∀ vs h,round P C L lv b I K vs h→I vs h)→I vs h
def Lfps (P:Program) (C:Orc) (L:Lor) (lv:Lv):List Code→Prop
 | []=>True
 | b::bs=>Lfp P C L lv b∧Lfps P C L lv bs
theorem Lfps.all {C:Orc}:∀ {bs:List Code},Lfps P C L lv bs→∀ b∈bs,Lfp P C L lv b
 | [],_,b,hb=>by simp at hb
 | c::cs,h,b,hb=>by
  rcases List.mem_cons.mp hb with rfl | hb
  ·exact h.1
  ·exact Lfps.all h.2 b hb
theorem qEa (hw:P.follows .mixedOrders=true) {ro:Option Nat} {C:Orc} (hC:Sound P C) (hM:Mono C):∀ (c:Code),qXs P c=true→(∀ b∈qQi c,Lfp P C L lv b)→∀ b∈qXf c,qZp P ro L lv b:=by
 intro c
 induction c with
 | seq a b iha ihb =>
  intro hok hl x hx
  simp only [qXs,Bool.and_eq_true] at hok
  simp only [qXf,List.mem_append] at hx
  rcases hx with hx | hx
  ·exact iha hok.1 (fun y hy=>hl y (by simp [qQi,hy])) x hx
  ·exact ihb hok.2 (fun y hy=>hl y (by simp [qQi,hy])) x hx
 | cond c a b iha ihb =>
  intro hok hl x hx
  simp only [qXs,Bool.and_eq_true] at hok
  simp only [qXf,List.mem_append] at hx
  rcases hx with hx | hx
  ·exact iha hok.1 (fun y hy=>hl y (by simp [qQi,hy])) x hx
  ·exact ihb hok.2 (fun y hy=>hl y (by simp [qQi,hy])) x hx
 | block id a ih=>intro hok hl x hx; exact ih hok hl x hx
 | loop a ih =>
  intro hok hl x hx
  simp only [qXf,List.mem_singleton] at hx
  subst hx
  exact xVc hw hC hM hok (ih hok fun y hy=>hl y (by simp [qQi,hy])) (hl x (by simp [qQi]))
 | _=>intro _ _ x hx; simp [qXf] at hx
theorem xQw (hw:P.follows .mixedOrders=true) {f:FuncId} {fn:Func} (hf:P.funcs[f]?=some fn) (hb:fn.body=some (qQs fn)) (hok:qXs P (qQs fn)=true)
  (hl:Lfps P (CS P) L lv (qQi (qQs fn))) {args:List Value} {h:H} {k:Kv} {kp:Kp} (hk:xEa P (CS P) L lv fn args h k kp):CS P f args h k kp :=
 xWd hw hf hb hok (qEa hw qYy qUq _ hok hl.all) hk
variable {P:Program} {C:Orc} {L:Lor} {lv:Lv}
abbrev Dorc:=FuncId→List Value→FrameMode→H→(FrameMode→H→Prop)→(List PanicEntry→FrameMode→H→Prop)→Prop
def DS (P:Program):Dorc:=fun f args u h k kp=>∀ w R,Rel h w →
 (∀ v u' h' w',k u' h'→Rel h' w'→Frame h w h' w'→R (.returned v) u' w')→(∀ c u' h' w',kp c u' h'→Rel h' w'→Frame h w h' w'→R (.panicked c) u' w')→CallsD P f args.toArray u w R
abbrev KxD:=X→Env→H→List Deferred→Prop
def snap (e:Env):List Nat→List (Nat × Value)
 | []=>[]
 | s::ss=>match e[s]? with
  | some (some v)=>(s,v)::snap e ss
  | _=>snap e ss
def envS (n:Nat):List (Nat × Value)→Env
 | []=>List.replicate n none
 | x::r=>(envS n r).set x.1 (some x.2)
def qAn (s:Nat):Code→Bool
 | .region _ ops _=>ops.toList.all fun o=>match o.dst with
  | some d=>!(Nat.beq s d)
  | none=>true
 | .seq a b=>qAn s a && qAn s b
 | .cond _ a b=>qAn s a && qAn s b
 | .block _ a=>qAn s a
 | .loop a=>qAn s a
 | _=>true
def qBd (P:Program) (C:Orc) (ops:Array Oper):List Oper→Env→H→List Deferred→(Env→H→List Deferred→Prop)→(List PanicEntry→Env→H→List Deferred→Prop)→Prop
 | [],e,h,ds,k,_=>k e h ds
 | o::rest,e,h,ds,k,kp =>
  match o.op with
  | .defer c=>match o.guard,c.callee with
   | none,.value f=>ev e f fun fv=>match fv with
    | .func (.func g) first cap=>evs e c.args.toList fun vs=>putk e o.dst (some undef) fun e'=>qBd P C ops rest e' h ({ target:=.fn (.func g) cap,args:=first++vs.toArray }::ds) k kp
    | _=>False
   | _,_=>False
  | _=>match o.guard with
   | none=>opW P C o e h (fun v h'=>putk e o.dst (some v) fun e'=>qBd P C ops rest e' h' ds k kp) (fun c h'=>kp c e h' ds)
   | some (j,want)=>match qAj ops j with
    | none=>False
    | some s=>getk e s fun c=>grdW c (fun t =>
     bif (bif want then t else !t)
     then setk e s (some (.bool want)) fun e=>opW P C o e h (fun v h'=>putk e o.dst (some v) fun e'=>qBd P C ops rest e' h' ds k kp) (fun c h'=>kp c e h' ds)
     else setk e s (some (.bool (!want))) fun e=>putk e o.dst (some undef) fun e'=>qBd P C ops rest e' h ds k kp)
     (putk e o.dst (some undef) fun e'=>qBd P C ops rest e' h ds k kp)
def xQn (P:Program) (C:Orc) (L:Lor) (lv:Lv) (rs:List Nat) (c:Code) (e:Env) (h:H) (ds:List Deferred) (K:KxD):Prop :=
 exec P C L lv c e h fun x e' h'=>match x with
  | .n=>K .n e' h' ds
  | .e i=>K (.e i) e' h' ds
  | .r=>K .r e' h' ds
  | .p ch=>K (.p ch) (envS lv.n (snap e (rs.filter fun s=>qAn s c))) h' ds
def fnOk (P:Program) (f:FuncId):Bool:=(P.funcs[f]?).isSome
def mark (r:Nat):Deferred:={ target:=.collected r,args:=#[] }
def xQl (P:Program) (C:Orc) (f:Value) (e:Env) (ps:Array Tmp) (as body:Code) (h:H) (kn:Nat→H→Prop) (kp:List PanicEntry→Nat→H→Prop):Prop :=
 match f with
 | .func (.func g) first cap=>qZr P g=true∧∀ fn,fnOk P fn=true→∀ r,h r=none→∀ l,(h.set r .dfr) l=none →
  C g (first.toList++(.func (.yield l) #[] #[]::cap.toList)) ((h.set r .dfr).set l (.lp .ready none e ⟨fn,ps,as,body,r⟩))
   (fun _ h'=>h' r=some .dfr∧h' l=some (.lp .ready none e ⟨fn,ps,as,body,r⟩)∧kn r (h'.set l .old)) (fun c h'=>h' r=some .dfr∧kp c r h')
 | _=>False
def qCx (P:Program) (C:Orc) (L:Lor) (lv:Lv) (rs:List Nat):Code→Env→H→List Deferred→KxD→Prop
 | .region id ops draw,e,h,ds,K=>match draw with
  | false=>qBd P C ops ops.toList e h ds (K .n) (fun c e h ds=>K (.p c) e h ds)
  | true=>xQn P C L lv rs (.region id ops true) e h ds K
 | .seq a b,e,h,ds,K=>qCx P C L lv rs a e h ds fun x e h ds=>match x with
  | .n=>meet lv b e h fun e h=>qCx P C L lv rs b e h ds K
  | .e i=>K (.e i) e h ds
  | .r=>K .r e h ds
  | .p c=>K (.p c) e h ds
 | .cond c a b,e,h,ds,K=>ev e c fun v=>qQp v fun t=>bif t then qCx P C L lv rs a e h ds K else qCx P C L lv rs b e h ds K
 | .block id a,e,h,ds,K=>qCx P C L lv rs a e h ds fun x e h ds=>match x with
  | .n=>K .n e h ds
  | .e i=>match Nat.beq i id with
   | true=>K .n e h ds
   | false=>K (.e i) e h ds
  | .r=>K .r e h ds
  | .p c=>K (.p c) e h ds
 | .rangeFunc g ps as body,e,h,ds,K=>ev e g fun f=>meet lv as e h fun e' h=>xQl P C f e' ps as body h (fun r h'=>K .n e h' (mark r::ds)) (fun c r h'=>K (.p c) e h' (mark r::ds))
 | c,e,h,ds,K=>xQn P C L lv rs c e h ds K
theorem qRu {e:Env} {a:Act} (he:EnvR e a.tmps):∀ (ss:List Nat),∀ x∈snap e ss,a.tmps[x.1]?=some x.2
 | [],x,hx=>by cases hx
 | s::ss,x,hx=>by
  unfold snap at hx
  split at hx
  ·rename_i v hv
   rcases List.mem_cons.mp hx with rfl | hx
   ·exact he.2 _ _ hv
   ·exact qRu he ss x hx
  ·exact qRu he ss x hx
theorem xUu {tmps:Array Value}:∀ {S:List (Nat × Value)},(∀ x∈S,tmps[x.1]?=some x.2)→EnvR (envS tmps.size S) tmps
 | [],_=>⟨by simp [envS],fun s v hs=>by
   unfold envS at hs
   rw [List.getElem?_replicate] at hs
   split at hs <;> simp at hs⟩
 | x::r,h=>(xUu fun y hy=>h y (List.mem_cons_of_mem _ hy)).know (h x (List.mem_cons_self ..))
theorem qRv {e:Env}:∀ (ss:List Nat),∀ x∈snap e ss,x.1∈ss
 | [],x,hx=>by cases hx
 | s::ss,x,hx=>by
  unfold snap at hx
  split at hx
  ·rcases List.mem_cons.mp hx with rfl | hx
   ·exact List.mem_cons_self ..
   ·exact List.mem_cons_of_mem _ (qRv ss x hx)
  ·exact List.mem_cons_of_mem _ (qRv ss x hx)
theorem xAr {S:List (Nat × Value)}:∀ c:Code,(∀ x∈S,qAn x.1 c=true)→offC S c:=by
 intro c
 induction c with
 | region id ops draw =>
  intro h i o ho x hx hd
  have hm:o∈ops.toList:=by
   rw [← Array.getElem?_toList] at ho
   exact List.mem_of_getElem? ho
  have h1:=List.all_eq_true.mp (h x hx) o hm
  rw [hd] at h1
  have h1:(!(Nat.beq x.1 x.1))=true:=h1
  rw [Nat.beq_refl] at h1
  cases h1
 | seq a b iha ihb =>
  intro h
  exact ⟨iha fun x hx=>(Bool.and_eq_true_iff.mp (h x hx)).1,ihb fun x hx=>(Bool.and_eq_true_iff.mp (h x hx)).2⟩
 | cond c a b iha ihb =>
  intro h
  exact ⟨iha fun x hx=>(Bool.and_eq_true_iff.mp (h x hx)).1,ihb fun x hx=>(Bool.and_eq_true_iff.mp (h x hx)).2⟩
 | block id a ih=>exact fun h=>ih h
 | loop a ih=>exact fun h=>ih h
 | _=>exact fun _=>trivial
theorem xZf {e:Env} {rs:List Nat} {c:Code}:offC (snap e (rs.filter fun s=>qAn s c)) c :=
 xAr c fun x hx=>(List.mem_filter.mp (qRv _ x hx)).2
theorem xZo {ops:Array Oper} {o:Oper} {rest:List Oper} {e:Env} {h:H} {ds:List Deferred} {k:Env→H→List Deferred→Prop} {kp:List PanicEntry→Env→H→List Deferred→Prop} (hnd:∀ c,o.op≠.defer c) (hk:qBd P C ops (o::rest) e h ds k kp) :
  step P C ops o e h (fun v h'=>qBd P C ops rest (putE e o.dst v) h' ds k kp) (fun c h'=>kp c e h' ds):=by
 unfold qBd at hk
 split at hk
 ·rename_i c hop
  exact absurd hop (hnd c)
 ·have e1:∀ e:Env,(fun v h'=>putk e o.dst (some v) fun e'=>qBd P C ops rest e' h' ds k kp)=(fun v h'=>qBd P C ops rest (putE e o.dst (some v)) h' ds k kp):=fun e=>by
   funext v h'
   rw [qJh]
  unfold step
  split at hk
  ·rename_i hg
   simp only [hg]
   rw [e1] at hk; exact hk
  ·rename_i j want hg
   simp only [hg]
   split at hk
   ·exact hk.elim
   ·rename_i s hs
    obtain ⟨c,hc,hk1⟩:=qYt hk
    clear hk
    refine ⟨s,c,hs,hc,fun htw=>?_,fun htw=>?_⟩
    ·subst htw
     have:(bif want then want else !want)=true:=by cases want <;> rfl
     simp only [grdW] at hk1
     rw [this,cond_true,qJx,qDf hc,e1] at hk1
     exact hk1
    ·unfold grdW at hk1
     split at hk1
     ·rename_i t
      have htw:t≠want:=fun h=>htw (by rw [h])
      have h1:(bif want then t else !t)=false:=by cases t <;> cases want <;> simp_all
      have h2:(!want)=t:=by cases t <;> cases want <;> simp_all
      rw [h1,cond_false,qJx,h2,qDf hc,qJg] at hk1
      exact hk1
     ·rw [qJg] at hk1
      exact hk1
theorem qAv (hC:Sound P C) {ops:Array Oper} {Q:Exit→Act→World→Prop}:∀ (is:List Nat) (os:List Oper) (e:Env) (h:H) (ds:List Deferred) (a:Act) (w:World) (k:Env→H→List Deferred→Prop) (kp:List PanicEntry→Env→H→List Deferred→Prop),
  os=is.filterMap (ops[·]?)→(∀ i∈is,∃ o,ops[i]?=some o)→qBd P C ops os e h ds k kp→a.tmps.size=lv.n→EnvR e a.tmps→a.defers=ds→Rel h w →
  (∀ e h' ds' a w',k e h' ds'→a.tmps.size=lv.n→EnvR e a.tmps→a.defers=ds'→Rel h' w'→Frame h w h' w'→Q .normal a w')→(∀ c e h' ds' a w',kp c e h' ds'→a.tmps.size=lv.n→EnvR e a.tmps→a.defers=ds'→Rel h' w'→Frame h w h' w'→Q (.panic c) a w') →
  wpOpsIn (Fo none) 0 P ops Q is a w
 | [],os,e,h,ds,a,w,k,kp,hi,_,hk,hz,he,hd,r,hn,_=>by
  subst hi
  exact hn _ _ _ _ _ hk hz he hd r (Frame.refl _ _)
 | i::is,os,e,h,ds,a,w,k,kp,hi,hv,hk,hz,he,hd,r,hn,hp=>by
  have size:∀ (a:Act) (d:Option Nat) (v:Value),(a.put d v).tmps.size=a.tmps.size:=fun a d v=>by
   cases d with
   | none=>rfl
   | some s=>exact Array.size_setIfInBounds
  obtain ⟨o,ho⟩:=hv i (by simp)
  simp only [List.filterMap_cons,ho] at hi
  subst hi
  rw [wpOpsIn_cons]
  by_cases hdf:∃ c,o.op=.defer c
  ·obtain ⟨c,hop⟩:=hdf
   unfold qBd at hk
   simp only [hop] at hk
   split at hk
   ·rename_i f hg hcal
    have hk:=qCp he hk
    split at hk
    ·rename_i g first cap hfv
     have hk:=qUd he hk
     rw [qJg] at hk
     unfold wpOpIn
     simp only [ho]
     have hw:Region.wanted o (yielded ops a.tmps)=true:=by simp [Region.wanted,hg]
     rw [if_pos hw]
     refine ⟨fun _ _=>trivial,?_⟩
     have e1:(execOp a.eval o).run P w=.ok (.defer { target:=.fn (.func g) cap,args:=first++(c.args.toList.map a.eval).toArray }) w:=by
      unfold execOp
      simp only [hop,resolve,hcal,hfv,Deferred.ofValue]
      have:(c.args.toList.map a.eval).toArray=c.args.map a.eval:=by
       apply Array.ext'
       rw [Array.toList_map]
      rw [this]
      rfl
     show o.uponIn (Fo none) 0 P a _ _ ((o.semAt none a.eval).run P w)
     rw [Oper.semAt_none,e1,Oper.uponIn_defer]
     refine qAv hC is _ (putE e o.dst none) h _ _ w k kp rfl (fun j hj=>hv j (by simp [hj])) hk (by rw [size]; exact hz) ?_ ?_ r hn hp
     ·have:(({ a with defers:={ target:=.fn (.func g) cap,args:=first++(c.args.toList.map a.eval).toArray }::a.defers }:Act).put o.dst undef).tmps=(a.put o.dst undef).tmps:=by
       cases o.dst <;> rfl
      rw [this]
      exact he.putE o.dst none
     ·rw [qWv]
      show _::a.defers=_
      rw [hd]
    ·exact hk.elim
   ·exact hk.elim
  ·refine qBa hC ho he r (xZo (fun c hc=>hdf ⟨c,hc⟩) hk) ?_ ?_
   ·intro v h' w' hv' r' f
    refine qAv hC is _ (putE e o.dst v) h' ds _ w' k kp rfl (fun j hj=>hv j (by simp [hj])) hv' (by rw [size]; exact hz) (he.putE _ _) (by rw [qWv]; exact hd) r' ?_ ?_
    ·intro e'' h'' ds'' a'' w'' hk' hz' he' hd' r'' f'
     exact hn _ _ _ _ _ hk' hz' he' hd' r'' (f.trans f')
    ·intro c e'' h'' ds'' a'' w'' hc hz' he' hd' r'' f'
     exact hp _ _ _ _ _ _ hc hz' he' hd' r'' (f.trans f')
   ·intro c h' w' hc r' f
    exact hp _ _ _ _ _ _ hc hz he hd r' f
def PostD (n:Nat) (K:KxD) (h:H) (w:World) (Q:Exit→Act→World→Prop):Prop :=
 ∀ x e h' ds a w',K x e h' ds→EnvR e a.tmps→a.defers=ds→a.tmps.size=n→Rel h' w'→Frame h w h' w'→Q x.ex a w'
theorem PostD.later {n:Nat} {K:KxD} {h h':H} {w w':World} {Q:Exit→Act→World→Prop} (p:PostD n K h w Q) (f:Frame h w h' w'):PostD n K h' w' Q :=
 fun x e h'' ds a w'' hk ha hd hn r f'=>p x e h'' ds a w'' hk ha hd hn r (f.trans f')
def wpF (P:Program) (f₀:FuncId) (c:Code) (Q:Exit→Act→World→Prop) (a:Act) (w:World):Prop :=
 ∀ (b:Go.Frame) (k:List Item) (cs:List Go.Frame),b.roundOf=none→b.fn=f₀ →
  ∃ e a' w',Q e a' w'∧ArrivesIn (Machine.fenced P (Fo none)) P (lone (b.atR a (.code c::k)) cs w) b k cs e a' w'
theorem qGg {ro:Option Nat} {n:Nat}:(Fo ro).room n:=fun _ h=>by cases h
theorem qLu {b:Go.Frame} {cs:List Go.Frame} {w:World} (ha:b.about P w=none):(lone b cs w).fenced P (Fo none):=fenced_calm (n:=0) trivial qGg ha
section
variable {f₀:FuncId} {Q:Exit→Act→World→Prop} {a:Act} {w:World}
theorem qAr {c:Code} (h:c.wpIn (Fo none) 0 P Q a w):wpF P f₀ c Q a w:=fun b k cs hro _=>h b k cs hro trivial qGg
theorem xDe {x y:Code} (h:wpF P f₀ x (Exit.then (wpF P f₀ y Q) Q) a w):wpF P f₀ (.seq x y) Q a w:=by
 intro b k cs hro hb
 obtain ⟨e,a₁,w₁,hq,harr⟩:=h b (.code y::k) cs hro hb
 have s0:StepsIn (Machine.fenced P (Fo none)) P (lone (b.atR a (.code (.seq x y)::k)) cs w) (lone (b.atR a (.code x::.code y::k)) cs w):=.one (qLu rfl) stepR_seq
 cases e with
 | normal =>
  obtain ⟨e₂,a₂,w₂,hq₂,harr₂⟩:=hq b k cs hro hb
  exact ⟨e₂,a₂,w₂,hq₂,.of_steps (StepsIn.trans s0 harr) harr₂⟩
 | exit id=>exact ⟨_,a₁,w₁,hq,.of_steps s0 (.pass (x:=.code y) rfl (fun _ _=>.inl (by simp)) harr)⟩
 | goto l=>exact ⟨_,a₁,w₁,hq,.of_steps s0 (.pass (x:=.code y) rfl (fun _ _=>.inl (by simp)) harr)⟩
 | ret=>exact ⟨_,a₁,w₁,hq,.of_steps s0 (.pass (x:=.code y) rfl (fun _ _=>.inl (by simp)) harr)⟩
 | panic ch=>exact ⟨_,a₁,w₁,hq,.of_steps s0 (.pass (x:=.code y) rfl (fun _ _=>.inl (by simp)) harr)⟩
 | outgrown=>exact ⟨_,a₁,w₁,hq,.of_steps s0 (.pass (x:=.code y) rfl (fun _ _=>.inl (by simp)) harr)⟩
theorem xEy {c:Operand} {x y:Code} {t:Bool} (hc:a.eval c=.bool t) (h:wpF P f₀ (if t then x else y) Q a w):wpF P f₀ (.cond c x y) Q a w:=fun b k cs hro hb =>
 let ⟨e,a',w',q,r⟩:=h b k cs hro hb
 ⟨e,a',w',q,.of_steps (.one (qLu rfl) (stepR_cond hc)) r⟩
theorem xWu {id:Nat} {c:Code} (h:wpF P f₀ c (Exit.inBlock id Q) a w):wpF P f₀ (.block id c) Q a w:=by
 intro b k cs hro hb
 have s0:StepsIn (Machine.fenced P (Fo none)) P (lone (b.atR a (.code (.block id c)::k)) cs w) (lone (b.atR a (.code c::.inBlock id::k)) cs w):=.one (qLu rfl) stepR_block
 obtain ⟨e,a₁,w₁,hq,harr⟩:=h b (.inBlock id::k) cs hro hb
 have hnr:b.roundOf.isSome=true→False:=fun h=>by rw [hro] at h; cases h
 cases e with
 | normal=>exact ⟨.normal,a₁,w₁,hq,StepsIn.trans s0 (StepsIn.trans harr (.one (qLu rfl) stepR_inBlock))⟩
 | exit i =>
  by_cases hid:i=id
  ·simp only [Exit.inBlock,hid,if_true] at hq
   exact ⟨.normal,a₁,w₁,hq,StepsIn.trans s0 (harr.1 k (by simp [exitTo,hid]))⟩
  ·simp only [Exit.inBlock,hid,if_false] at hq
   refine ⟨.exit i,a₁,w₁,hq,fun k' hk=>StepsIn.trans s0 (harr.1 k' ?_),fun h=>(hnr h).elim⟩
   have:(id==i)=false:=by simp; exact fun h=>hid h.symm
   simp [exitTo,this,hk]
 | goto l=>exact ⟨_,a₁,w₁,hq,fun k' hk=>StepsIn.trans s0 (harr.1 k' (by simp [gotoIn,hk])),fun h=>(hnr h).elim⟩
 | ret=>exact ⟨_,a₁,w₁,hq,.of_steps s0 harr⟩
 | panic ch=>exact ⟨_,a₁,w₁,hq,.of_steps s0 harr⟩
 | outgrown=>exact ⟨_,a₁,w₁,hq,.of_steps s0 harr⟩
def qJd (P:Program) (fn:Func) (tmps:Array Value) (R:Ending→World→Prop):List Deferred→FrameMode→World→Prop
 | [],.returning,w=>∃ v,(results fn tmps).run P w=.ok v w∧R (.returned v) w
 | [],.panicking chain,w=>R (.panicked chain) w
 | [],.run,_=>False
 | d::ds,u,w=>u≠.run∧((∃ r w',d.target=.collected r∧(Instr.takeDeferred r).run P w=.ok [] w'∧qJd P fn tmps R ds u w') ∨
   ∃ fv cap f args,d.target=.fn fv cap∧(invoke d.target d.args).run P w=.ok (.enter f args) w ∧
   CallsD P f args u w fun
    | .returned _,u',w'=>qJd P fn tmps R ds (settle u') w'
    | .panicked chain,u',w'=>qJd P fn tmps R ds (raised u' chain) w'
    | .outgrown,_,w'=>R .outgrown w')
theorem qPd {fn:Func} {tmps:Array Value} {R:Ending→World→Prop}:∀ (ds:List Deferred) (u:FrameMode) (w:World) (fr:Go.Frame)
  (cs:List Go.Frame),fr.mode=u→fr.defers=ds→fr.tmps=tmps→P.funcs[fr.fn]?=some fn→fr.kind=.normal→qJd P fn tmps R ds u w →
  ∃ e w' fr',R e w'∧Comes P (lone fr cs w) (lone fr' cs w') e∧fr'.fn=fr.fn∧fr'.leaving P w' e:=by
 intro ds
 induction ds with
 | nil =>
  intro u w fr cs hu hd ht hf hk h
  cases u with
  | run=>exact h.elim
  | returning =>
   obtain ⟨v,hr,hR⟩:=h
   exact ⟨.returned v,w,fr,hR,Steps.refl P _,rfl,hu,hd,hk,fn,hf,ht ▸ hr⟩
  | panicking chain=>exact ⟨.panicked chain,w,fr,h,Steps.refl P _,rfl,hu,hd,fn,hf⟩
 | cons d ds ih =>
  intro u w fr cs hu hd ht hf hk h
  obtain ⟨hrun,h⟩:=h
  rcases h with ⟨q,w',htar,htake,hrest⟩ | ⟨fv,cap,f,args,htar,hinv,hcall⟩
  ·have h1:=step_collected (cs:=cs) (hu ▸ hrun) hd htar htake
   obtain ⟨e',w'',fr',hR',hs',hfn',hl'⟩:=ih u w' { fr with defers:=[]++ds } cs hu rfl ht hf hk hrest
   exact ⟨e',w'',fr',hR',Comes.of_steps (.one h1) hs',hfn',hl'⟩
  ·have h1:=step_defer (cs:=cs) (hu ▸ hrun) hd htar hinv
   obtain ⟨e,u',w',frX,hR,hsteps,hkX,hgo⟩:=hcall { fr with defers:=ds } cs hu
   cases e with
   | returned v =>
    have h2:=step_going_returned (c:={ { fr with defers:=ds } with mode:=u' }) (cs:=cs) hkX hgo
    obtain ⟨e',w'',fr',hR',hs',hfn',hl'⟩:=ih (settle u') w' { { { fr with defers:=ds } with mode:=u' } with mode:=settle u' } cs rfl rfl ht hf hk hR
    exact ⟨e',w'',fr',hR',Comes.of_steps (.head h1 (Steps.trans hsteps (.one h2))) hs',hfn',hl'⟩
   | panicked chain =>
    have h2:=step_going_panicked (c:={ { fr with defers:=ds } with mode:=u' }) (cs:=cs) hgo
    obtain ⟨e',w'',fr',hR',hs',hfn',hl'⟩:=ih (raised u' chain) w' { { { fr with defers:=ds } with mode:=u' } with mode:=raised u' chain } cs rfl rfl ht hf hk hR
    exact ⟨e',w'',fr',hR',Comes.of_steps (.head h1 (Steps.trans hsteps (.one h2))) hs',hfn',hl'⟩
   | outgrown=>exact ⟨.outgrown,w',fr,hR,Outgrown.of_steps (.one h1) hsteps,rfl,trivial⟩
def xEb (P:Program) (fn:Func) (R:Ending→World→Prop):Exit→Act→World→Prop
 | .normal,a,w | .ret,a,w=>qJd P fn a.tmps R a.defers .returning w
 | .panic chain,a,w=>qJd P fn a.tmps R a.defers (.panicking chain) w
 | .outgrown,_,w=>R .outgrown w
 | _,_,_=>False
theorem qRa {f:FuncId} {fn:Func} {c:Code} {args:Array Value} {R:Ending→World→Prop} (hf:P.funcs[f]?=some fn) (hb:fn.body=some c)
  (h:wpF P f c (xEb P fn R) { tmps:=args++Array.replicate (fn.ntmps - args.size) undef,defers:=[] } w):Calls P f args w R:=by
 intro cs
 let b:Go.Frame:={ (default:Go.Frame) with fn:=f,kind:=.normal,roundOf:=none }
 have henter:Frame.enter P f args .normal =
   b.atR { tmps:=args++Array.replicate (fn.ntmps - args.size) undef,defers:=[] } [.code c]:=by
  simp [Frame.enter,Frame.atR,hf,hb,b]
 obtain ⟨e,a',w',hq,harr⟩:=h b [] cs rfl rfl
 rw [← henter] at harr
 cases e with
 | normal =>
  obtain ⟨e',w'',fr',hR,hs,hfn,hl⟩:=qPd a'.defers .returning w' { b.atR a' [] with mode:=.returning } cs rfl rfl rfl hf rfl hq
  exact ⟨e',w'',fr',hR,Comes.of_steps (Steps.trans harr.steps (.one (stepR_end rfl))) hs,hfn,hl⟩
 | ret =>
  obtain ⟨todo,hs₀⟩:=harr.1 rfl
  obtain ⟨e',w'',fr',hR,hs,hfn,hl⟩:=qPd a'.defers .returning w' { b.atR a' todo with mode:=.returning } cs rfl rfl rfl hf rfl hq
  exact ⟨e',w'',fr',hR,Comes.of_steps hs₀.steps hs,hfn,hl⟩
 | panic chain =>
  obtain ⟨todo,hs₀⟩:=harr
  obtain ⟨e',w'',fr',hR,hs,hfn,hl⟩:=qPd a'.defers (.panicking chain) w' { b.atR a' todo with mode:=.panicking chain } cs rfl rfl rfl hf rfl hq
  exact ⟨e',w'',fr',hR,Comes.of_steps hs₀.steps hs,hfn,hl⟩
 | exit id=>exact hq.elim
 | goto l=>exact hq.elim
 | outgrown=>exact ⟨.outgrown,w',b,hq,harr.resolve_left (by simp [b]),rfl,trivial⟩
theorem qIr {l:Nat} {o o':Obj} (h:w.heap[l]?=some o'):Upd w l o (w.putObj l o) :=
 ⟨rfl,rfl,rfl,World.putObj_size,World.putObj_heap_same (Array.getElem?_eq_some_iff.mp h).1,fun c hc=>World.putObj_heap_other hc⟩
theorem qNs (hf0:fnOk P f₀=true) (hC:Sound P C) {g:Operand} {ps:Array Tmp} {as body:Code} {e:Env} {h:H} {kn:Nat→H→Prop} {kp:List PanicEntry→Nat→H→Prop} (he:EnvR e a.tmps) (r:Rel h w)
  (hk:xQl P C (a.eval g) e ps as body h kn kp)
  (hn:∀ q h' w',kn q h'→Rel h' w'→Frame h w h' w'→Q .normal { a with defers:=mark q::a.defers } w') (hp:∀ c q h' w',kp c q h'→Rel h' w'→Frame h w h' w'→Q (.panic c) { a with defers:=mark q::a.defers } w') :
  wpF P f₀ (.rangeFunc g ps as body) Q a w:=by
 unfold xQl at hk
 split at hk
 ·rename_i gf first cap hg
  obtain ⟨hb,hk⟩:=hk
  intro b k cs hro hb0
  have hk:=hk f₀ hf0 w.heap.size r.fresh
  have n1:=New.alloc w (.deferred (some []))
  have r1:Rel (h.set w.heap.size .dfr) (w.alloc (.deferred (some []))):=r.new n1 rfl
  have f1:Frame h w (h.set w.heap.size .dfr) (w.alloc (.deferred (some []))):=Frame.new r n1
  have s1:(w.alloc (.deferred (some []))).heap.size=w.heap.size+1:=n1.size
  have hk:=hk _ r1.fresh
  rw [s1] at hk
  have n2:=New.alloc (w.alloc (.deferred (some []))) (.loop { state:=.ready,pending:=none,fn:=f₀,tmps:=a.tmps,params:=ps,assign:=as,body:=body,defers:=w.heap.size })
  have r2:=r1.new (v:=.lp .ready none e ⟨f₀,ps,as,body,w.heap.size⟩) n2 ⟨a.tmps,he,rfl⟩
  have f2:=Frame.new (v:=.lp .ready none e ⟨f₀,ps,as,body,w.heap.size⟩) r1 n2
  rw [s1] at r2 f2
  have hent:=run_enterLoop_outer (P:=P) (w:=w) f₀ a.tmps ps as body
  have hres:(resolve a.eval (rangeCall g (w.heap.size+1)) 0).run P ((w.alloc (.deferred (some []))).alloc (.loop { state:=.ready,pending:=none,fn:=f₀,tmps:=a.tmps,params:=ps,assign:=as,body:=body,defers:=w.heap.size })) =
    .ok { target:=.fn (.func gf) cap,args:=first++#[.func (.yield (w.heap.size+1)) #[] #[]] } ((w.alloc (.deferred (some []))).alloc (.loop { state:=.ready,pending:=none,fn:=f₀,tmps:=a.tmps,params:=ps,assign:=as,body:=body,defers:=w.heap.size })):=by
   unfold resolve rangeCall
   simp only [hg,Deferred.ofValue,Sem.run_pure]
   simp [Act.eval]
  have hcall:=hC.fn (R:=rangePost (Fo none) 0 P (w.heap.size+1) Q { a with defers:=mark w.heap.size::a.defers }) (qIi hb) hk r2 ?_ ?_
  ·have hw:Code.wpIn { (Fo none) with fn:=fun f=>f=f₀ } 0 P (.rangeFunc g ps as body) Q a w→True:=fun _=>trivial
   have henter:=stepR_rangeFunc (P:=P) (b:=b) (a:=a) (k:=k) (cs:=cs) (w:=w) (g:=g) (ps:=ps) (assign:=as) (body:=body) (by rw [hro,hb0]; exact hent) hres (qUj (w:=_) hb)
   have hin:=(callsIn_wide (n:=0)).2 hcall
   have hargs:(first.toList++(Value.func (.yield (w.heap.size+1)) #[] #[]::cap.toList)).toArray=first++#[.func (.yield (w.heap.size+1)) #[] #[]]++cap:=by
    apply Array.toList_inj.mp; simp
   rw [hargs] at hin
   obtain ⟨e',w₃,fr,hR,hsteps,hfn,hleave⟩:=hin.2 (b.atR { a with defers:=mark w.heap.size::a.defers } (.inRangeFunc (w.heap.size+1)::k)::cs) (room_wide _)
   cases e' with
   | outgrown =>
    obtain ⟨a₀,w₀,hq⟩:=hR
    exact ⟨.outgrown,a₀,w₀,hq,.inr (Outgrown.of_steps (.one henter) hsteps)⟩
   | returned v =>
    obtain ⟨jump,w₄,hend,hj⟩:=hR
    have sback:Steps P (lone (b.atR a (.code (.rangeFunc g ps as body)::k)) cs w) (lone (b.atR { a with defers:=mark w.heap.size::a.defers } ((jump.map Item.code).toList++k)) cs w₄):=by
     refine .head henter (Steps.trans hsteps.steps (.head ?_ (.one (stepR_endRangeFunc hend))))
     rw [← finish_atR_inRangeFunc (w.heap.size+1) v]; exact step_leave_returned hleave
    cases jump with
    | none=>exact ⟨.normal,_,w₄,hj,stepsIn_wide.2 sback⟩
    | some c =>
     obtain ⟨e'',a'',w₅,hq,harr⟩:=hj b k cs hro trivial qGg
     exact ⟨e'',a'',w₅,hq,.of_steps (stepsIn_wide.2 sback) harr⟩
   | panicked chain =>
    refine ⟨.panic chain,_,w₃,hR,.inRangeFunc (w.heap.size+1)::k,stepsIn_wide.2 (.head henter (Steps.trans hsteps.steps (.one ?_)))⟩
    rw [← Frame.raise_atR]; exact step_leave_panicked hleave
  ·intro v h' w' ⟨h1,h2,h3⟩ r' f'
   obtain ⟨tmps,ht,hl⟩:=r' _ _ h2
   refine ⟨none,_,run_endLoop hl (by simp),?_⟩
   have u:=qIr (o:=.loop { state:=.exhausted,pending:=none,fn:=f₀,tmps:=tmps,params:=ps,assign:=as,body:=body,defers:=w.heap.size }) hl
   exact hn _ _ _ h3 (r'.upd u ⟨_,rfl⟩) (((f1.trans f2).trans f').trans (Frame.upd u h2 rfl))
  ·intro c h' w' ⟨h1,h3⟩ r' f'
   exact hp _ _ _ _ h3 r' ((f1.trans f2).trans f')
 ·exact hk.elim
end
theorem qCl (hw:P.follows .mixedOrders=true) (hC:Sound P C) (hM:Mono C) {rs:List Nat} {c:Code} (hok:qXs P c=true) (hl:∀ b∈qXf c,qZp P none L lv b)
  {e:Env} {h:H} {ds:List Deferred} {a:Act} {w:World} {K:KxD} {Q:Exit→Act→World→Prop} (hk:xQn P C L lv rs c e h ds K) (hn:a.tmps.size=lv.n) (he:EnvR e a.tmps) (hd:a.defers=ds) (r:Rel h w)
  (p:PostD lv.n K h w Q):c.wpIn (Fo none) 0 P Q a w:=by
 unfold xQn at hk
 refine qWw (ds:=(ds,lv.n)) (S:=snap e (rs.filter fun s=>qAn s c)) hw hC hM c hok hl hk xZf he ⟨hd,hn,qRu he _⟩ r ?_
 intro x e' h' a' w' hk' ha' hj r' f
 cases x with
 | n=>exact p .n e' h' ds a' w' hk' ha' hj.1 hj.2.1 r' f
 | e i=>exact p (.e i) e' h' ds a' w' hk' ha' hj.1 hj.2.1 r' f
 | r=>exact p .r e' h' ds a' w' hk' ha' hj.1 hj.2.1 r' f
 | p c =>
  refine p (.p c) _ h' ds a' w' hk' ?_ hj.1 hj.2.1 r' f
  have hs:a'.tmps.size=lv.n:=hj.2.1
  rw [← hs]
  exact xUu hj.2.2
theorem qSw {f₀:FuncId} (hf0:fnOk P f₀=true) (hw:P.follows .mixedOrders=true) (hC:Sound P C) (hM:Mono C) {rs:List Nat}:∀ (c:Code),qXs P c=true→(∀ b∈qXf c,qZp P none L lv b) →
  ∀ {e:Env} {h:H} {ds:List Deferred} {a:Act} {w:World} {K:KxD} {Q:Exit→Act→World→Prop},qCx P C L lv rs c e h ds K→a.tmps.size=lv.n→EnvR e a.tmps→a.defers=ds→Rel h w→PostD lv.n K h w Q→wpF P f₀ c Q a w:=by
 intro c
 induction c with
 | region id ops draw =>
  intro hok hl e h ds a w K Q hk hn he hd r p
  unfold qCx at hk
  split at hk
  ·refine qAr (wpIn_region (qAv hC _ _ e h ds a w _ _ ?_ ?_ hk hn he hd r (fun e h' ds' a' w' hk' hn' he' hd' r' f=>p .n e h' ds' a' w' hk' he' hd' hn' r' f) (fun c e h' ds' a' w' hk' hn' he' hd' r' f=>p (.p c) e h' ds' a' w' hk' he' hd' hn' r' f)))
   ·have:=qYd ops.toList
    simp only [Array.getElem?_toList,Array.length_toList] at this
    exact this.symm
   ·intro i hi
    have:=List.mem_range.mp hi
    exact ⟨ops[i],by simp [this]⟩
  ·exact qAr (qCl hw hC hM hok hl hk hn he hd r p)
 | seq x y ihx ihy =>
  intro hok hl e h ds a w K Q hk hn he hd r p
  unfold qCx at hk
  simp only [qXs,Bool.and_eq_true] at hok
  refine xDe (ihx hok.1 (fun b hb=>hl b (by simp [qXf,hb])) hk hn he hd r ?_)
  intro x e' h' ds' a' w' hk' ha' hd' hn' r' f
  cases x with
  | n =>
   obtain ⟨e'',hk'',he''⟩:=qDl ha' hk'
   exact ihy hok.2 (fun b hb=>hl b (by simp [qXf,hb])) hk'' hn' he'' hd' r' (p.later f)
  | e i=>exact p (.e i) e' h' ds' a' w' hk' ha' hd' hn' r' f
  | r=>exact p .r e' h' ds' a' w' hk' ha' hd' hn' r' f
  | p c=>exact p (.p c) e' h' ds' a' w' hk' ha' hd' hn' r' f
 | cond c x y ihx ihy =>
  intro hok hl e h ds a w K Q hk hn he hd r p
  unfold qCx at hk
  simp only [qXs,Bool.and_eq_true] at hok
  have hk:=qCp he hk
  obtain ⟨t,ht,hk'⟩:=qXw hk
  refine xEy ht ?_
  cases t with
  | true=>exact ihx hok.1 (fun b hb=>hl b (by simp [qXf,hb])) hk' hn he hd r p
  | false=>exact ihy hok.2 (fun b hb=>hl b (by simp [qXf,hb])) hk' hn he hd r p
 | block id x ih =>
  intro hok hl e h ds a w K Q hk hn he hd r p
  unfold qCx at hk
  refine xWu (ih hok hl hk hn he hd r ?_)
  intro x e' h' ds' a' w' hk' ha' hd' hn' r' f
  cases x with
  | n=>exact p .n e' h' ds' a' w' hk' ha' hd' hn' r' f
  | e i =>
   dsimp only at hk'
   simp only [X.ex,Exit.inBlock]
   split at hk'
   ·rename_i h1
    rw [if_pos (Nat.eq_of_beq_eq_true h1)]
    exact p .n e' h' ds' a' w' hk' ha' hd' hn' r' f
   ·rename_i h1
    rw [if_neg (Nat.ne_of_beq_eq_false h1)]
    exact p (.e i) e' h' ds' a' w' hk' ha' hd' hn' r' f
  | r=>exact p .r e' h' ds' a' w' hk' ha' hd' hn' r' f
  | p c=>exact p (.p c) e' h' ds' a' w' hk' ha' hd' hn' r' f
 | rangeFunc g ps as body iha ihb =>
  intro hok hl e h ds a w K Q hk hn he hd r p
  unfold qCx at hk
  obtain ⟨e',hk',he'⟩:=qDl he (qCp he hk)
  refine qNs hf0 hC he' r hk' (fun q h' w' hk' r' f=>?_) fun c q h' w' hk' r' f=>?_
  ·exact p .n e h' _ _ w' hk' he (by rw [hd]) hn r' f
  ·exact p (.p c) e h' _ _ w' hk' he (by rw [hd]) hn r' f
 | _ =>
  intro hok hl e h ds a w K Q hk hn he hd r p
  exact qAr (qCl hw hC hM hok hl hk hn he hd r p)
def qQu (P:Program) (E:Dorc) (fin:H→Prop) (finp:List PanicEntry→H→Prop):List Deferred→FrameMode→H→Prop
 | [],.returning,h=>fin h
 | [],.panicking c,h=>finp c h
 | [],.run,_=>False
 | d::ds,u,h=>match u,d.target with
  | .run,_=>False
  | u,.fn (.func g) cap=>qZr P g=true∧E g (d.args++cap).toList u h (fun u' h'=>qQu P E fin finp ds (settle u') h') (fun c u' h'=>qQu P E fin finp ds (raised u' c) h')
  | u,.collected q=>h q=some .dfr∧qQu P E fin finp ds u (h.set q .old)
  | _,_=>False
theorem qYr {fn:Func} {tmps:Array Value} {R:Ending→World→Prop} {fin:H→Prop} {finp:List PanicEntry→H→Prop}:∀ (ds:List Deferred) (u:FrameMode) (h:H) (w:World),qQu P (DS P) fin finp ds u h→Rel h w →
  (∀ h' w',fin h'→Rel h' w'→Frame h w h' w'→∃ v,(results fn tmps).run P w'=.ok v w'∧R (.returned v) w')→(∀ c h' w',finp c h'→Rel h' w'→Frame h w h' w'→R (.panicked c) w')→qJd P fn tmps R ds u w
 | [],.returning,h,w,hk,r,hf,_=>hf h w hk r (Frame.refl _ _)
 | [],.panicking c,h,w,hk,r,_,hp=>hp c h w hk r (Frame.refl _ _)
 | [],.run,h,w,hk,_,_,_=>hk.elim
 | d::ds,u,h,w,hk,r,hf,hp=>by
  unfold qQu at hk
  split at hk
  ·exact hk.elim
  ·rename_i u g cap hu htg
   obtain ⟨hb,hk⟩:=hk
   refine ⟨hu,.inr ⟨.func g,cap,g,d.args++cap,htg,?_,?_⟩⟩
   ·rw [htg]
    exact qUj hb
   ·have:=hk w (fun
     | .returned _,u',w'=>qJd P fn tmps R ds (settle u') w'
     | .panicked chain,u',w'=>qJd P fn tmps R ds (raised u' chain) w'
     | .outgrown,_,w'=>R .outgrown w') r (fun v u' h' w' hk' r' f=>qYr ds _ h' w' hk' r' (fun h'' w'' x r'' f'=>hf h'' w'' x r'' (f.trans f')) fun c h'' w'' x r'' f'=>hp c h'' w'' x r'' (f.trans f'))
     (fun c u' h' w' hk' r' f=>qYr ds _ h' w' hk' r' (fun h'' w'' x r'' f'=>hf h'' w'' x r'' (f.trans f')) fun c h'' w'' x r'' f'=>hp c h'' w'' x r'' (f.trans f'))
    rwa [Array.toArray_toList] at this
  ·rename_i q hu htg
   obtain ⟨hq,hk⟩:=hk
   have hx:=r _ _ hq
   have hup:=qIr (o:=.deferred none) hx
   refine ⟨hu,.inl ⟨q,_,htg,run_takeDeferred hx,?_⟩⟩
   have fr:=Frame.upd (v:=VObj.old) hup hq rfl
   exact qYr ds _ _ _ hk (r.upd (v:=VObj.old) hup ⟨_,rfl⟩) (fun h'' w'' x r'' f'=>hf h'' w'' x r'' (fr.trans f')) fun c h'' w'' x r'' f'=>hp c h'' w'' x r'' (fr.trans f')
  ·exact hk.elim
def xAv (fn:Func):List Nat:=fn.results.toList.map fun
 | .cell t _=>t
 | .tmp t=>t
def xCc (P:Program) (C:Orc) (E:Dorc) (L:Lor) (lv:Lv) (fn:Func) (args:List Value) (h:H) (k:Kv) (kp:Kp):Prop :=
 match fn.body with
 | some c=>qUw lv.par args fun args=>match Nat.beq (qJw fn.ntmps args).length lv.n with
  | true=>qCx P C L lv (xAv fn) c (qJw fn.ntmps args) h [] fun x e h ds=>match x with
   | .n | .r=>qQu P E (fun h=>resW P h e fn.results.toList fun vs=>k (xXx vs) h) kp ds .returning h
   | .p c=>qQu P E (fun h=>resW P h e fn.results.toList fun vs=>k (xXx vs) h) kp ds (.panicking c) h
   | .e _=>False
  | false=>False
 | none=>False
theorem qTn (hw:P.follows .mixedOrders=true) {f:FuncId} {fn:Func} {c:Code} (hf:P.funcs[f]?=some fn) (hb:fn.body=some c) (hok:qXs P c=true) (hl:∀ b∈qXf c,qZp P none L lv b)
  {args:List Value} {h:H} {k:Kv} {kp:Kp} (hk:xCc P (CS P) (DS P) L lv fn args h k kp):CS P f args h k kp:=by
 refine xLt (qLt hf) fun w R r hv hp=>?_
 unfold xCc at hk
 simp only [hb] at hk
 have hk:=qYp hk
 split at hk
 ·rename_i hsz
  have hst:=qAt (n:=fn.ntmps) (args:=args)
  refine qRa hf hb (qSw (by unfold fnOk; rw [hf]; rfl) hw qYy qUq c hok hl hk ?_ hst rfl r ?_)
  ·rw [← hst.1]; exact Nat.eq_of_beq_eq_true hsz
  ·intro x e h' ds a w' hk' ha hd hn r' f'
   have fin:∀ u,qQu P (DS P) (fun h=>resW P h e fn.results.toList fun vs=>k (xXx vs) h) kp ds u h'→qJd P fn a.tmps R a.defers u w':=fun u hlv=>by
    rw [hd]
    refine qYr ds u h' w' hlv r' (fun h'' w'' hx r'' f''=>?_) fun c h'' w'' hx r'' f''=>hp c h'' w'' hx r'' (f'.trans f'')
    obtain ⟨vs,h1,h2⟩:=qWz r'' ha hx
    exact ⟨_,h2,hv _ _ _ h1 r'' (f'.trans f'')⟩
   cases x with
   | n=>exact fin .returning hk'
   | r=>exact fin .returning hk'
   | e i=>exact hk'.elim
   | p c=>exact fin (.panicking c) hk'
 ·exact hk.elim
def recW (u:FrameMode) (k:Value→FrameMode→Prop):Prop:=match u with
 | .panicking ({ v,recovered:=false,goexit:=false }::older)=>k v (.panicking ({ v,recovered:=true }::older))
 | u=>k .nilIface u
abbrev KxS:=X→Env→H→FrameMode→Prop
def xCz (ops:Array Oper):Bool:=ops.toList.any fun o=>match o.op with
 | .call { callee:=.builtin .recover,.. }=>true
 | _=>false
def qYc:Code→Bool
 | .region _ ops _=>xCz ops
 | .seq a b=>qYc a || qYc b
 | .cond _ a b=>qYc a || qYc b
 | .block _ a=>qYc a
 | .loop a=>qYc a
 | _=>false
def noY (P:Program) (C:Orc):Orc:=fun f args h k kp=>cond (fnOk P f) (C f args h k kp) False
theorem xPi (hC:Sound P C):Sound P (noY P C):=fun f args h k kp hk=>by
 unfold noY at hk
 cases hf:fnOk P f with
 | false=>rw [hf] at hk; exact hk.elim
 | true=>rw [hf] at hk; exact hC f args h k kp hk
theorem xLc {l:Nat} {args:List Value} {h:H} {k:Kv} {kp:Kp} (hk:noY P C (P.funcs.size+l) args h k kp):False:=by
 unfold noY fnOk at hk
 rw [Array.getElem?_eq_none (Nat.le_add_right _ _)] at hk
 exact hk
def rgnS (P:Program) (C:Orc):List Oper→Env→H→FrameMode→(Env→H→FrameMode→Prop)→(List PanicEntry→H→FrameMode→Prop)→Prop
 | [],e,h,u,k,_=>k e h u
 | o::rest,e,h,u,k,kp =>
  match o.guard with
  | some _=>False
  | none=>match o.op with
   | .call { callee:=.builtin .recover,.. }=>recW u fun v u'=>putk e o.dst (some v) fun e'=>rgnS P C rest e' h u' k kp
   | _=>opW P (noY P C) o e h (fun v h'=>putk e o.dst (some v) fun e'=>rgnS P C rest e' h' u k kp) (fun c h'=>kp c h' u)
def qHy (P:Program) (C:Orc) (L:Lor) (lv:Lv) (c:Code) (e:Env) (h:H) (u:FrameMode) (K:KxS):Prop:=exec P C L lv c e h fun x e' h'=>K x e' h' u
def qGj (P:Program) (C:Orc) (L:Lor) (lv:Lv):Code→Env→H→FrameMode→KxS→Prop
 | .region id ops draw,e,h,u,K=>match xCz ops with
  | true=>match draw with
   | false=>rgnS P C ops.toList e h u (K .n) (fun c h u=>K (.p c) [] h u)
   | true=>False
  | false=>qHy P C L lv (.region id ops draw) e h u K
 | .seq a b,e,h,u,K=>match qYc a || qYc b with
  | true=>qGj P C L lv a e h u fun x e h u=>match x with
   | .n=>meet lv b e h fun e h=>qGj P C L lv b e h u K
   | .e i=>K (.e i) e h u
   | .r=>K .r e h u
   | .p c=>K (.p c) e h u
  | false=>qHy P C L lv (.seq a b) e h u K
 | .cond c a b,e,h,u,K=>match qYc a || qYc b with
  | true=>ev e c fun v=>qQp v fun t=>bif t then qGj P C L lv a e h u K else qGj P C L lv b e h u K
  | false=>qHy P C L lv (.cond c a b) e h u K
 | .block id a,e,h,u,K=>match qYc a with
  | true=>qGj P C L lv a e h u fun x e h u=>match x with
   | .n=>K .n e h u
   | .e i=>match Nat.beq i id with
    | true=>K .n e h u
    | false=>K (.e i) e h u
   | .r=>K .r e h u
   | .p c=>K (.p c) e h u
  | false=>qHy P C L lv (.block id a) e h u K
 | c,e,h,u,K=>qHy P C L lv c e h u K
def QS:=Exit→Act→List Go.Frame→World→Prop
def PostS (c₀:Go.Frame) (cs:List Go.Frame) (K:KxS) (h:H) (w:World) (Q:QS):Prop :=
 ∀ x e h' u a w',K x e h' u→At x e a→a.defers=[]→Rel h' w'→Frame h w h' w'→Q x.ex a ({ c₀ with mode:=u }::cs) w'
theorem PostS.later {c₀:Go.Frame} {cs:List Go.Frame} {K:KxS} {h h':H} {w w':World} {Q:QS} (p:PostS c₀ cs K h w Q) (f:Frame h w h' w'):PostS c₀ cs K h' w' Q :=
 fun x e h'' u a w'' hk ha hd r f'=>p x e h'' u a w'' hk ha hd r (f.trans f')
def qDo (id:Nat) (Q:QS):QS
 | .normal,a,cs,w=>Q .normal a cs w
 | .exit i,a,cs,w=>if i=id then Q .normal a cs w else Q (.exit i) a cs w
 | e,a,cs,w=>Q e a cs w
theorem xWt {Q:QS} {id:Nat} {c:Code} {a:Act} {cs:List Go.Frame} {w:World} (h:c.wpS P (qDo id Q) a cs w):(Code.block id c).wpS P Q a cs w:=by
 intro b k hb hr
 obtain ⟨e,a₁,cs₁,w₁,hq,harr⟩:=h b (.inBlock id::k) hb hr
 cases e with
 | normal=>exact ⟨.normal,a₁,cs₁,w₁,hq,.head step_block (Steps.trans harr (.one step_inBlock))⟩
 | exit id' =>
  by_cases hid:id'=id
  ·simp only [qDo,hid,if_true] at hq
   exact ⟨.normal,a₁,cs₁,w₁,hq,.head step_block (harr k (by simp [exitTo,hid]))⟩
  ·simp only [qDo,hid,if_false] at hq
   refine ⟨.exit id',a₁,cs₁,w₁,hq,fun k' hk=>.head step_block (harr k' ?_)⟩
   have:(id==id')=false:=by simp; exact fun h=>hid h.symm
   simp [exitTo,this,hk]
 | goto l=>exact ⟨_,a₁,cs₁,w₁,hq,fun k' hk=>.head step_block (harr k' (by simp [gotoIn,hk]))⟩
 | ret=>exact ⟨_,a₁,cs₁,w₁,hq,.of_steps (.one step_block) harr⟩
 | panic ch=>exact ⟨_,a₁,cs₁,w₁,hq,.of_steps (.one step_block) harr⟩
 | outgrown=>exact ⟨_,a₁,cs₁,w₁,hq,.of_steps (b:=b) (k:=k) (cs:=cs₁) (e:=.outgrown) (.one step_block) harr⟩
theorem xKp {u:FrameMode} {k:Value→FrameMode→Prop} (hk:recW u k) (c₀:Go.Frame) (cs:List Go.Frame) :
  (∃ v u',recoverD ({ c₀ with mode:=u }::cs)=some (v,{ c₀ with mode:=u' }::cs)∧k v u')∨(recoverD ({ c₀ with mode:=u }::cs)=none∧k .nilIface u):=by
 unfold recW at hk
 cases u with
 | run=>exact .inr ⟨rfl,hk⟩
 | returning=>exact .inr ⟨rfl,hk⟩
 | panicking ch =>
  cases ch with
  | nil=>exact .inr ⟨rfl,hk⟩
  | cons x older =>
   obtain ⟨v,rc,ge⟩:=x
   cases rc with
   | true=>exact .inr ⟨rfl,hk⟩
   | false =>
    cases ge with
    | true=>exact .inr ⟨rfl,hk⟩
    | false=>exact .inl ⟨v,_,rfl,hk⟩
theorem qUt (hC:Sound P C) {ops:Array Oper} {Q:QS} {c₀:Go.Frame} {cs:List Go.Frame}:∀ (is:List Nat) (os:List Oper) (e:Env) (h:H) (u:FrameMode) (a:Act) (w:World) (k:Env→H→FrameMode→Prop) (kp:List PanicEntry→H→FrameMode→Prop),
  os=is.filterMap (ops[·]?)→(∀ i∈is,∃ o,ops[i]?=some o)→rgnS P C os e h u k kp→EnvR e a.tmps→a.defers=[]→Rel h w →
  (∀ e h' u' a w',k e h' u'→EnvR e a.tmps→a.defers=[]→Rel h' w'→Frame h w h' w'→Q .normal a ({ c₀ with mode:=u' }::cs) w')→(∀ c h' u' a w',kp c h' u'→a.defers=[]→Rel h' w'→Frame h w h' w'→Q (.panic c) a ({ c₀ with mode:=u' }::cs) w') →
  wpOpsS P ops Q is a ({ c₀ with mode:=u }::cs) w
 | [],os,e,h,u,a,w,k,kp,hi,_,hk,he,hd,r,hn,_=>by
  subst hi
  exact hn _ _ _ _ _ hk he hd r (Frame.refl _ _)
 | i::is,os,e,h,u,a,w,k,kp,hi,hv,hk,he,hd,r,hn,hp=>by
  obtain ⟨o,ho⟩:=hv i (by simp)
  simp only [List.filterMap_cons,ho] at hi
  subst hi
  unfold rgnS at hk
  simp only [wpOpsS]
  simp only [ho]
  split at hk
  ·exact hk.elim
  ·rename_i hg
   have hw:Region.wanted o (yielded ops a.tmps)=true:=by simp [Region.wanted,hg]
   rw [if_pos hw]
   split at hk
   ·rename_i args ats hop
    have e1:(execOp a.eval o).run P w=.ok .recover w:=by
     unfold execOp
     simp only [hop,resolve]
     rfl
    rw [e1]
    dsimp only
    rcases xKp hk c₀ cs with ⟨v,u',h1,h2⟩ | ⟨h1,h2⟩
    ·rw [h1]
     dsimp only
     rw [qJh] at h2
     exact qUt hC is _ _ h u' _ w k kp rfl (fun j hj=>hv j (by simp [hj])) h2 (he.putE _ (some v)) (by rw [qWv]; exact hd) r hn hp
    ·rw [h1]
     dsimp only
     rw [qJh] at h2
     exact qUt hC is _ _ h u _ w k kp rfl (fun j hj=>hv j (by simp [hj])) h2 (he.putE _ (some .nilIface)) (by rw [qWv]; exact hd) r hn hp
   ·have hup:o.wp P a w (fun a' w'=>wpOpsS P ops Q is a' ({ c₀ with mode:=u }::cs) w') (fun e a' w'=>Q e a' ({ c₀ with mode:=u }::cs) w'):=by
     refine qOb xYc (xPi hC) (fun _ _ _ _ _=>xLc) he r hk (fun v h' w' hv' r' f=>?_) fun c h' w' hc r' f=>hp _ _ _ _ _ hc hd r' f
     rw [qJh] at hv'
     exact qUt hC is _ _ h' u _ w' k kp rfl (fun j hj=>hv j (by simp [hj])) hv' (he.putE _ (some v)) (by rw [qWv]; exact hd) r' (fun e'' h'' u'' a'' w'' hk' he' hd' r'' f'=>hn _ _ _ _ _ hk' he' hd' r'' (f.trans f')) fun c h'' u'' a'' w'' hc hd' r'' f'=>hp _ _ _ _ _ hc hd' r'' (f.trans f')
    unfold Oper.wp at hup
    generalize (execOp a.eval o).run P w=res at hup
    split
    ·exact hup.elim
    ·exact hup
theorem qWd (hw:P.follows .mixedOrders=true) (hC:Sound P C) (hM:Mono C) {c:Code} (hok:qXs P c=true) (hl:∀ b∈qXf c,qZp P none L lv b) {c₀:Go.Frame} {cs:List Go.Frame}
  {e:Env} {h:H} {u:FrameMode} {a:Act} {w:World} {K:KxS} {Q:QS} (hk:qHy P C L lv c e h u K) (he:EnvR e a.tmps) (hd:a.defers=[]) (r:Rel h w) (p:PostS c₀ cs K h w Q):c.wpS P Q a ({ c₀ with mode:=u }::cs) w:=by
 refine wpS_of_wp (wpIn_wide.1 (qWw (ro:=none) (ds:=([],_)) (S:=[]) hw hC hM c hok hl hk (qDj c) he ⟨hd,rfl,fun x hx=>by cases hx⟩ r ?_))
 intro x e' h' a' w' hk' ha' hj r' f
 exact p x e' h' u a' w' hk' ha' hj.1 r' f
theorem qSv (hw:P.follows .mixedOrders=true) (hC:Sound P C) (hM:Mono C) {c₀:Go.Frame} {cs:List Go.Frame}:∀ (c:Code),qXs P c=true→(∀ b∈qXf c,qZp P none L lv b) →
  ∀ {e:Env} {h:H} {u:FrameMode} {a:Act} {w:World} {K:KxS} {Q:QS},qGj P C L lv c e h u K→EnvR e a.tmps→a.defers=[]→Rel h w→PostS c₀ cs K h w Q→c.wpS P Q a ({ c₀ with mode:=u }::cs) w:=by
 intro c
 induction c with
 | region id ops draw =>
  intro hok hl e h u a w K Q hk he hd r p
  unfold qGj at hk
  split at hk
  ·split at hk
   ·refine wpS_region (qUt hC _ _ e h u a w _ _ ?_ ?_ hk he hd r (fun e h' u' a' w' hk' he' hd' r' f=>p .n e h' u' a' w' hk' he' hd' r' f) (fun c h' u' a' w' hk' hd' r' f=>p (.p c) [] h' u' a' w' hk' trivial hd' r' f))
    ·have:=qYd ops.toList
     simp only [Array.getElem?_toList,Array.length_toList] at this
     exact this.symm
    ·intro i hi
     have:=List.mem_range.mp hi
     exact ⟨ops[i],by simp [this]⟩
   ·exact hk.elim
  ·exact qWd hw hC hM hok hl hk he hd r p
 | seq x y ihx ihy =>
  intro hok hl e h u a w K Q hk he hd r p
  unfold qGj at hk
  split at hk
  ·simp only [qXs,Bool.and_eq_true] at hok
   refine wpS_seq (ihx hok.1 (fun b hb=>hl b (by simp [qXf,hb])) hk he hd r ?_)
   intro x e' h' u' a' w' hk' ha' hd' r' f
   cases x with
   | n =>
    obtain ⟨e'',hk'',he''⟩:=qDl ha' hk'
    exact ihy hok.2 (fun b hb=>hl b (by simp [qXf,hb])) hk'' he'' hd' r' (p.later f)
   | e i=>exact p (.e i) e' h' u' a' w' hk' ha' hd' r' f
   | r=>exact p .r e' h' u' a' w' hk' ha' hd' r' f
   | p c=>exact p (.p c) e' h' u' a' w' hk' trivial hd' r' f
  ·exact qWd hw hC hM hok hl hk he hd r p
 | cond c x y ihx ihy =>
  intro hok hl e h u a w K Q hk he hd r p
  unfold qGj at hk
  split at hk
  ·simp only [qXs,Bool.and_eq_true] at hok
   have hk:=qCp he hk
   obtain ⟨t,ht,hk'⟩:=qXw hk
   refine wpS_cond ht ?_
   cases t with
   | true=>exact ihx hok.1 (fun b hb=>hl b (by simp [qXf,hb])) hk' he hd r p
   | false=>exact ihy hok.2 (fun b hb=>hl b (by simp [qXf,hb])) hk' he hd r p
  ·exact qWd hw hC hM hok hl hk he hd r p
 | block id x ih =>
  intro hok hl e h u a w K Q hk he hd r p
  unfold qGj at hk
  split at hk
  ·refine xWt (ih hok hl hk he hd r ?_)
   intro x e' h' u' a' w' hk' ha' hd' r' f
   cases x with
   | n=>exact p .n e' h' u' a' w' hk' ha' hd' r' f
   | e i =>
    dsimp only at hk'
    simp only [X.ex,qDo]
    split at hk'
    ·rename_i h1
     rw [if_pos (Nat.eq_of_beq_eq_true h1)]
     exact p .n e' h' u' a' w' hk' ha' hd' r' f
    ·rename_i h1
     rw [if_neg (Nat.ne_of_beq_eq_false h1)]
     exact p (.e i) e' h' u' a' w' hk' ha' hd' r' f
   | r=>exact p .r e' h' u' a' w' hk' ha' hd' r' f
   | p c=>exact p (.p c) e' h' u' a' w' hk' trivial hd' r' f
  ·exact qWd hw hC hM hok hl hk he hd r p
 | _ =>
  intro hok hl e h u a w K Q hk he hd r p
  exact qWd hw hC hM hok hl hk he hd r p
def xCb (P:Program) (C:Orc) (L:Lor) (lv:Lv) (fn:Func) (args:List Value) (u:FrameMode) (h:H) (k:FrameMode→H→Prop) (kp:List PanicEntry→FrameMode→H→Prop):Prop :=
 match fn.body with
 | some c=>qUw lv.par args fun args=>qGj P C L lv c (qJw fn.ntmps args) h u fun x e h u=>match x with
  | .n | .r=>resW P h e fn.results.toList fun _=>k u h
  | .p c=>kp c u h
  | .e _=>False
 | none=>False
theorem qTm (hw:P.follows .mixedOrders=true) {f:FuncId} {fn:Func} {c:Code} (hf:P.funcs[f]?=some fn) (hb:fn.body=some c) (hok:qXs P c=true) (hl:∀ b∈qXf c,qZp P none L lv b)
  {args:List Value} {u:FrameMode} {h:H} {k:FrameMode→H→Prop} {kp:List PanicEntry→FrameMode→H→Prop} (hk:xCb P (CS P) L lv fn args u h k kp):DS P f args u h k kp:=by
 intro w R r hv hp
 unfold xCb at hk
 simp only [hb] at hk
 have hk:=qYp hk
 refine callsD_of_wpS hf hb fun c₀ cs hu=>?_
 have hc:c₀={ c₀ with mode:=u }:=by subst hu; rfl
 rw [hc]
 refine qSv hw qYy qUq c hok hl hk qAt rfl r ?_
 intro x e h' u' a w' hk' ha hd r' f'
 cases x with
 | n =>
  obtain ⟨vs,h1,h2⟩:=qWz r' ha hk'
  exact ⟨hd,u',rfl,_,h2,hv _ _ _ _ h1 r' f'⟩
 | r =>
  obtain ⟨vs,h1,h2⟩:=qWz r' ha hk'
  exact ⟨hd,u',rfl,_,h2,hv _ _ _ _ h1 r' f'⟩
 | e i=>exact hk'.elim
 | p c=>exact ⟨hd,u',rfl,hp _ _ _ _ hk' r' f'⟩
theorem xUl (hw:P.follows .mixedOrders=true) {f:FuncId} {fn:Func} (hf:P.funcs[f]?=some fn) (hb:fn.body=some (qQs fn)) (hok:qXs P (qQs fn)=true)
  (hl:Lfps P (CS P) L lv (qQi (qQs fn))) {args:List Value} {h:H} {k:Kv} {kp:Kp} (hk:xCc P (CS P) (DS P) L lv fn args h k kp):CS P f args h k kp :=
 qTn hw hf hb hok (qEa hw qYy qUq _ hok hl.all) hk
theorem xUk (hw:P.follows .mixedOrders=true) {f:FuncId} {fn:Func} (hf:P.funcs[f]?=some fn) (hb:fn.body=some (qQs fn)) (hok:qXs P (qQs fn)=true)
  (hl:Lfps P (CS P) L lv (qQi (qQs fn))) {args:List Value} {u:FrameMode} {h:H} {k:FrameMode→H→Prop} {kp:List PanicEntry→FrameMode→H→Prop} (hk:xCb P (CS P) L lv fn args u h k kp):DS P f args u h k kp :=
 qTm hw hf hb hok (qEa hw qYy qUq _ hok hl.all) hk
def kR (n:Nat):Nat × Kd:=(n,.raw)
def kI (n:Nat):Nat × Kd:=(n,.int .i64)
def kB (n:Nat):Nat × Kd:=(n,.bool)
def kS (n:Nat):Nat × Kd:=(n,.str)
def xBd {α:Type} (d:α) (i:Nat):List (Nat × α)→α
 | []=>d
 | x::r=>match Nat.beq i x.1 with
  | true=>x.2
  | false=>xBd d i r
def lvM (n:Nat) (par:List Kd) (head:List (Nat × List (Nat × Kd))) (ext:List (Nat × List (Nat × List (Nat × Kd)))) (ret:List (Nat × Kd)) (mid:List (Nat × List (Nat × Kd))):Lv :=
 ⟨n,par,fun i=>xBd [] i head,fun i=>xBd [] i ext,ret,fun i=>xBd none i (mid.map fun x=>(x.1,some x.2))⟩
def L0:Lor:=fun _ _ _ _=>False
def selL (i:Nat):List (Nat × (List Value→H→Kl→Prop))→List Value→H→Kl→Prop
 | [],_,_,_=>False
 | x::r,vs,h,K=>cond (Nat.beq i x.1) (x.2 vs h K) (selL i r vs h K)
def Lsel (l:List (Nat × (List Value→H→Kl→Prop))):Lor:=fun b vs h K=>match qWm b with
 | some i=>selL i l vs h K
 | none=>False
theorem fn0 (hw:P.follows .mixedOrders=true) (lv:Lv) {f:FuncId} {fn:Func} (hf:P.funcs[f]?=some fn) (hb:fn.body=some (qQs fn)) (hok:qXs P (qQs fn)=true) (hl:qQi (qQs fn)=[])
  {args:List Value} {h:H} {k:Kv} {kp:Kp} (hk:xEa P (CS P) L0 lv fn args h k kp):CS P f args h k kp :=
 xQw hw hf hb hok (by rw [hl]; trivial) hk
theorem fnL (hw:P.follows .mixedOrders=true) (lv:Lv) (L:Orc→Lor) {f:FuncId} {fn:Func} (hf:P.funcs[f]?=some fn) (hb:fn.body=some (qQs fn)) (hok:qXs P (qQs fn)=true) {l:List Code} (hl:qQi (qQs fn)=l)
  (hL:Lfps P (CS P) (L (CS P)) lv l) {args:List Value} {h:H} {k:Kv} {kp:Kp} (hk:xEa P (CS P) (L (CS P)) lv fn args h k kp):CS P f args h k kp :=
 xQw hw hf hb hok (by rw [hl]; exact hL) hk
theorem fnDL (hw:P.follows .mixedOrders=true) (lv:Lv) (L:Orc→Lor) {f:FuncId} {fn:Func} (hf:P.funcs[f]?=some fn) (hb:fn.body=some (qQs fn)) (hok:qXs P (qQs fn)=true) {l:List Code} (hl:qQi (qQs fn)=l)
  (hL:Lfps P (CS P) (L (CS P)) lv l) {args:List Value} {h:H} {k:Kv} {kp:Kp} (hk:xCc P (CS P) (DS P) (L (CS P)) lv fn args h k kp):CS P f args h k kp :=
 xUl hw hf hb hok (by rw [hl]; exact hL) hk
theorem fnSL (hw:P.follows .mixedOrders=true) (lv:Lv) (L:Orc→Lor) {f:FuncId} {fn:Func} (hf:P.funcs[f]?=some fn) (hb:fn.body=some (qQs fn)) (hok:qXs P (qQs fn)=true) {l:List Code} (hl:qQi (qQs fn)=l)
  (hL:Lfps P (CS P) (L (CS P)) lv l) {args:List Value} {u:FrameMode} {h:H} {k:FrameMode→H→Prop} {kp:List PanicEntry→FrameMode→H→Prop} (hk:xCb P (CS P) (L (CS P)) lv fn args u h k kp):DS P f args u h k kp :=
 xUk hw hf hb hok (by rw [hl]; exact hL) hk
def Lp1 (R:(List Value→H→Prop)→Kl→Value→H→Prop):List Value→H→Kl→Prop:=fun vs h K=>∀ I:List Value→H→Prop,(∀ a0 h,R I K a0 h→I [a0] h)→I vs h
def Lp2 (R:(List Value→H→Prop)→Kl→Value→Value→H→Prop):List Value→H→Kl→Prop:=fun vs h K=>∀ I:List Value→H→Prop,(∀ a0 a1 h,R I K a0 a1 h→I [a0,a1] h)→I vs h
def Lp3 (R:(List Value→H→Prop)→Kl→Value→Value→Value→H→Prop):List Value→H→Kl→Prop:=fun vs h K=>∀ I:List Value→H→Prop,(∀ a0 a1 a2 h,R I K a0 a1 a2 h→I [a0,a1,a2] h)→I vs h
def Lp4 (R:(List Value→H→Prop)→Kl→Value→Value→Value→Value→H→Prop):List Value→H→Kl→Prop:=fun vs h K=>∀ I:List Value→H→Prop,(∀ a0 a1 a2 a3 h,R I K a0 a1 a2 a3 h→I [a0,a1,a2,a3] h)→I vs h
def Lp5 (R:(List Value→H→Prop)→Kl→Value→Value→Value→Value→Value→H→Prop):List Value→H→Kl→Prop:=fun vs h K=>∀ I:List Value→H→Prop,(∀ a0 a1 a2 a3 a4 h,R I K a0 a1 a2 a3 a4 h→I [a0,a1,a2,a3,a4] h)→I vs h
def Lp6 (R:(List Value→H→Prop)→Kl→Value→Value→Value→Value→Value→Value→H→Prop):List Value→H→Kl→Prop:=fun vs h K=>∀ I:List Value→H→Prop,(∀ a0 a1 a2 a3 a4 a5 h,R I K a0 a1 a2 a3 a4 a5 h→I [a0,a1,a2,a3,a4,a5] h)→I vs h
def Lp7 (R:(List Value→H→Prop)→Kl→Value→Value→Value→Value→Value→Value→Value→H→Prop):List Value→H→Kl→Prop:=fun vs h K=>∀ I:List Value→H→Prop,(∀ a0 a1 a2 a3 a4 a5 a6 h,R I K a0 a1 a2 a3 a4 a5 a6 h→I [a0,a1,a2,a3,a4,a5,a6] h)→I vs h
def Lp10 (R:(List Value→H→Prop)→Kl→Value→Value→Value→Value→Value→Value→Value→Value→Value→Value→H→Prop):List Value→H→Kl→Prop:=fun vs h K=>∀ I:List Value→H→Prop,(∀ a0 a1 a2 a3 a4 a5 a6 a7 a8 a9 h,R I K a0 a1 a2 a3 a4 a5 a6 a7 a8 a9 h→I [a0,a1,a2,a3,a4,a5,a6,a7,a8,a9] h)→I vs h
def Lp11 (R:(List Value→H→Prop)→Kl→Value→Value→Value→Value→Value→Value→Value→Value→Value→Value→Value→H→Prop):List Value→H→Kl→Prop:=fun vs h K=>∀ I:List Value→H→Prop,(∀ a0 a1 a2 a3 a4 a5 a6 a7 a8 a9 a10 h,R I K a0 a1 a2 a3 a4 a5 a6 a7 a8 a9 a10 h→I [a0,a1,a2,a3,a4,a5,a6,a7,a8,a9,a10] h)→I vs h
variable {P:Program} {C:Orc} {L:Lor} {lv:Lv}
def xZn (P:Program) (l:Nat) (R:Ending→World→Prop):Exit→Act→World→Prop
 | .normal,_,w=>∃ v w',(Instr.endRound l none).run P w=.ok v w'∧R (.returned v) w'
 | .panic c,a,w=>a.defers=[]∧R (.panicked c) w
 | _,_,_=>False
theorem qSb {l:Nat} {f:FuncId} {tmps:Array Value} {assign body:Code} {w:World} {R:Ending→World→Prop} (hf:fnOk P f=true)
  (h:assign.wpIn (Fo (some l)) 0 P (Exit.then (fun a₁ w₁=>∃ w₂,(Instr.beginRound l).run P w₁=.ok () w₂∧body.wpIn (Fo (some l)) 0 P (xZn P l R) a₁ w₂) (fun _ _ _=>False)) { tmps:=tmps,defers:=[] } w) :
  RoundIn Fence.wide 0 P l f tmps assign body w R:=by
 refine ⟨trivial,fun c cs hr=>?_⟩
 let b:Go.Frame:={ (default:Go.Frame) with fn:=f,kind:=.normal,roundOf:=some l }
 have hb0:Frame.round l f tmps assign body .normal=b.atR { tmps:=tmps,defers:=[] } [.code assign,.beginRound,.code body]:=by
  simp [Frame.round,Frame.atR,b]
 obtain ⟨fn,hfn⟩:=Option.isSome_iff_exists.mp hf
 obtain ⟨e,a₁,w₁,hq,harr⟩:=h b [.beginRound,.code body] (c::cs) rfl trivial qGg
 rw [← hb0] at harr
 cases e with
 | normal =>
  obtain ⟨w₂,hbr,hbody⟩:=hq
  have s1:Steps P (lone (b.atR a₁ [.beginRound,.code body]) (c::cs) w₁) (lone (b.atR a₁ [.code body]) (c::cs) w₂):=.one (stepR_beginRound rfl hbr)
  obtain ⟨e₂,a₂,w₃,hq₂,harr₂⟩:=hbody b [] (c::cs) rfl trivial qGg
  cases e₂ with
  | normal =>
   obtain ⟨v,w₄,hend,hR⟩:=hq₂
   exact ⟨.returned v,w₄,hR,stepsIn_wide.2 (Steps.trans (Steps.trans harr.steps s1) (Steps.trans harr₂.steps (.one (stepR_round_end rfl rfl hend))))⟩
  | panic chain =>
   obtain ⟨hd,hR⟩:=hq₂
   obtain ⟨todo,hs⟩:=harr₂
   refine ⟨.panicked chain,w₃,hR,stepsIn_wide.2 (Steps.trans (Steps.trans harr.steps s1) (Steps.trans hs.steps (.one (step_leave_panicked ?_))))⟩
   exact ⟨rfl,hd,fn,hfn⟩
  | ret=>exact hq₂.elim
  | exit id=>exact hq₂.elim
  | goto t=>exact hq₂.elim
  | outgrown=>exact hq₂.elim
 | exit id=>exact hq.elim
 | goto t=>exact hq.elim
 | ret=>exact hq.elim
 | panic chain=>exact hq.elim
 | outgrown=>exact hq.elim
def putps:List Nat→List Value→Env→(Env→Prop)→Prop
 | t::ts,v::vs,e,k=>setk e t (some v) fun e=>putps ts vs e k
 | [],[],e,k=>k e
 | _,_,_,_=>False
theorem qNt:∀ {ts:List Nat} {vs:List Value} {e:Env} {tmps:Array Value} {k:Env→Prop},putps ts vs e k→EnvR e tmps→ts.length=vs.length∧∃ e',k e'∧EnvR e' ((ts.zip vs).foldl (fun tmps x=>tmps.setIfInBounds x.1 x.2) tmps)
 | [],[],e,tmps,k,hk,he=>⟨rfl,e,hk,he⟩
 | [],_::_,_,_,_,hk,_=>hk.elim
 | _::_,[],_,_,_,hk,_=>hk.elim
 | t::ts,v::vs,e,tmps,k,hk,he=>by
  have hk:=qJx.mp hk
  obtain ⟨h1,e',h2,h3⟩:=qNt hk (he.set t v)
  exact ⟨by simp [h1],e',h2,h3⟩
def xIu (P:Program) (C:Orc) (L:Lor) (lv:Lv) (l:Nat) (e:Env) (q:LoopQ) (args:List Value) (h:H) (k:Kv) (kp:Kp):Prop :=
 putps q.params.toList args e fun e1=>exec P C L lv q.assign e1 h fun x e2 h2=>match x with
  | .n=>h2 l=some (.lp .ready none e q)∧exec P C L lv q.body e2 (h2.set l (.lp .busy none e q)) fun x _ h4=>match x with
   | .n=>h4 l=some (.lp .busy none e q)∧k (.bool true) (h4.set l (.lp .ready none e q))
   | .p c=>kp c h4
   | _=>False
  | _=>False
theorem qSa (hw:P.follows .mixedOrders=true) {l:Nat} {e:Env} {q:LoopQ} {args:List Value} {h:H} {k:Kv} {kp:Kp} (hf:fnOk P q.fn=true) (hA:qXs P q.assign=true) (hB:qXs P q.body=true)
  (lA:qQi q.assign=[]) (lB:qQi q.body=[]) (hl:h l=some (.lp .ready none e q)) (hk:xIu P (CS P) L lv l e q args h k kp):CS P (P.funcs.size+l) args h k kp:=by
 intro w R r hv hp
 refine ⟨fun hlt=>absurd hlt (Nat.not_lt.mpr (Nat.le_add_right _ _)),fun _=>?_⟩
 rw [Nat.add_sub_cancel_left]
 obtain ⟨tmps,he,hx⟩:=r _ _ hl
 obtain ⟨hlen,e1,hk,he1⟩:=qNt hk he
 have noL:∀ c,qQi c=[]→∀ b∈qXf c,qZp P (some l) L lv b:=fun c hc b hb=>by
  have:∀ c,qQi c=[]→qXf c=[]:=by
   intro c
   induction c with
   | seq a b iha ihb=>intro h; simp only [qQi,List.append_eq_nil_iff] at h; simp [qXf,iha h.1,ihb h.2]
   | cond c a b iha ihb=>intro h; simp only [qQi,List.append_eq_nil_iff] at h; simp [qXf,iha h.1,ihb h.2]
   | block id a ih=>exact fun h=>ih h
   | loop a ih=>intro h; simp [qQi] at h
   | _=>intro _; rfl
  rw [this c hc] at hb
  cases hb
 refine ⟨_,_,_,_,run_yield hx (by simpa using hlen.symm),qSb hf ?_⟩
 have hz:(q.params.zip args.toArray).foldl (fun tmps (x:Nat × Value)=>match x with | (t,a)=>tmps.setIfInBounds t a) tmps=(q.params.toList.zip args).foldl (fun tmps x=>tmps.setIfInBounds x.1 x.2) tmps:=by
  rw [← Array.foldl_toList,Array.toList_zip]
 rw [hz]
 refine qWw (ds:=([],_)) (S:=[]) hw qYy qUq q.assign hA (noL _ lA) hk (qDj _) he1 ⟨rfl,rfl,fun x hx=>by cases hx⟩ r ?_
 intro x e2 h2 a2 w2 hk2 he2 hj r2 f2
 cases x with
 | n =>
  obtain ⟨hl2,hk2⟩:=hk2
  obtain ⟨tmps2,ht2,hx2⟩:=r2 _ _ hl2
  have u:=qIr (o:=.loop { state:=.busy,pending:=none,fn:=q.fn,tmps:=tmps2,params:=q.params,assign:=q.assign,body:=q.body,defers:=q.defers }) hx2
  have f3:=Frame.upd (v:=.lp .busy none e q) u hl2 rfl
  have r3:Rel (h2.set l (.lp .busy none e q)) _:=r2.upd u ⟨tmps2,ht2,rfl⟩
  refine ⟨_,run_beginRound hx2 rfl,?_⟩
  refine qWw (ds:=([],a2.tmps.size)) (S:=[]) hw qYy qUq q.body hB (noL _ lB) hk2 (qDj _) he2 ⟨hj.1,rfl,fun x hx=>by cases hx⟩ r3 ?_
  intro x e4 h4 a4 w4 hk4 he4 hj4 r4 f4
  cases x with
  | n =>
   obtain ⟨hl4,hk4⟩:=hk4
   obtain ⟨tmps4,ht4,hx4⟩:=r4 _ _ hl4
   have u4:=qIr (o:=.loop { state:=.ready,pending:=none,fn:=q.fn,tmps:=tmps4,params:=q.params,assign:=q.assign,body:=q.body,defers:=q.defers }) hx4
   refine ⟨_,_,run_endRound none hx4,?_⟩
   exact hv _ _ _ hk4 (r4.upd u4 ⟨tmps4,ht4,rfl⟩) (((f2.trans f3).trans f4).trans (Frame.upd (v:=.lp .ready none e q) u4 hl4 rfl))
  | p c=>exact ⟨hj4.1,hp _ _ _ hk4 r4 ((f2.trans f3).trans f4)⟩
  | e i=>exact hk4.elim
  | r=>exact hk4.elim
 | e i=>exact hk2.elim
 | r=>exact hk2.elim
 | p c=>exact hk2.elim
def rgF:Code→Option (Array Tmp × Code × Code)
 | .rangeFunc _ ps a b=>some (ps,a,b)
 | .seq a b=>match rgF a with
  | some x=>some x
  | none=>rgF b
 | .cond _ a b=>match rgF a with
  | some x=>some x
  | none=>rgF b
 | .block _ a=>rgF a
 | .loop a=>rgF a
 | _=>none
def rgQ (fn:Func) (f r:Nat):LoopQ:=match rgF (qQs fn) with
 | some (ps,a,b)=>⟨f,ps,a,b,r⟩
 | none=>⟨f,#[],.skip,.skip,r⟩
end Go.Proofs.YtkdneddcocggdaaGreatDoor.Am
