/-
  Packed: The statements' own helpers: what is the same. The statements' own helpers: nodes that are the same. The statements' own helpers: books that are the same; how many lines a text has; the document's signature. What is read from a text is no greater than the text: plain. The document's examples: plain. What Parse answers is a book; the document's examples are walked. The document's way: UTF-8, digits, numbers, names, symbols. The document's way: names, symbols, terms are read. The document's way: a term is read. The document's way: a term is written.
-/
import Derived.Test.YtkdneddcocggdaaGreatDoorPkH
set_option linter.unusedVariables false
set_option linter.unusedSimpArgs false
set_option linter.unnecessarySimpa false
namespace Go.Proofs.YtkdneddcocggdaaGreatDoor.Am
open Go Go.Proofs Go.RowKit Go.Lib Sys Sp
set_option maxRecDepth 100000
variable {D:Orc} {E:Dorc} {h h' h0:H} {k:Kv} {kp:Kp} {L R:List Res}
def Sam {α:Type} (h:H) (x y:α) (k:Kv):Prop:=∀ (t:Bool) h',Ext h h'→(t=true↔x=y)→k (.bool t) h'
theorem qCi {α:Type} {x y:α} (s:Sam h x y k) (e:Ext h h') (hxy:x=y):k (.bool true) h':=s true h' e ⟨fun _=>hxy,fun _=>rfl⟩
theorem qAe {α:Type} {x y:α} (s:Sam h x y k) (e:Ext h h') (hxy:x≠y):k (.bool false) h':=s false h' e ⟨fun h=>(by cases h),fun h=>absurd h hxy⟩
theorem xKk {α:Type} {l:List α} {i:Nat} (hi:i<l.length):l.drop i=l[i]::l.drop (i+1):=List.drop_eq_getElem_cons hi
theorem qWg {α:Type} {l m:List α} {i:Nat} (hl:i<l.length) (hm:i<m.length) (hd:l.drop i=m.drop i↔l=m) (he:l[i]=m[i]):l.drop (i+1)=m.drop (i+1)↔l=m:=by
 rw [xKk hl,xKk hm,he] at hd
 rw [← hd]
 exact ⟨fun h=>by rw [h],fun h=>(List.cons.inj h).2⟩
theorem qYt {α:Type} {l m:List α} {i:Nat} (hl:i<l.length) (hm:i<m.length) (he:l[i]≠m[i]):l≠m:=fun e=>by subst e; exact he rfl
theorem qYk {α:Type} {l m:List α} {i:Nat} (hl:l.length≤i) (hm:m.length≤i) (hd:l.drop i=m.drop i↔l=m):l=m:=hd.mp (by rw [List.drop_eq_nil_of_le hl,List.drop_eq_nil_of_le hm])
def qJj (D:Orc) (f:Nat):Prop:=∀ a b (l m:List Int) h (k:Kv) kp,Ir h a l→Ir h b m→Sam h l m k→D f [a,b] h k kp
theorem xNp (c:Cl14 D):qJj D 14:=by
 intro a b l m h k kp ra rb hk
 refine c _ _ _ _ _ ?_
 unfold F14
 have hl:=ra.len
 have hm:=rb.len
 rw [ra.len_,rb.len_,qZd]
 refine ⟨fun hne=>qAe hk (Ext.refl h) fun e=>hne (by rw [e]),fun heq=>?_⟩
 have hlen:l.length=m.length:=by omega
 intro I hI
 have key:∀ (n i:Nat),i+n=l.length→(l.drop i=m.drop i↔l=m)→I [a,b,.int .i64 ((i:Nat):Int)] h:=by
  intro n
  induction n with
  | zero =>
   intro i hi he
   refine hI _ _ _ _ ?_
   unfold round14_4
   rw [qQa,ra.len_,qQd]
   refine ⟨fun hlt=>by omega,fun _=>?_⟩
   exact qCi hk (Ext.refl h) (qYk (by omega) (by omega) he)
  | succ n ih =>
   intro i hi he
   refine hI _ _ _ _ ?_
   unfold round14_4
   rw [qQa,ra.len_,qQd]
   refine ⟨fun hlt=>?_,fun _=>by omega⟩
   refine ra.at_ (by omega) (by omega) fun ad x hx _ hrd=>⟨x,hrd,?_⟩
   refine rb.at_ (by omega) (by omega) fun ad2 y hy _ hrd2=>⟨y,hrd2,?_⟩
   rw [Int.toNat_natCast,List.getElem?_eq_getElem (by omega)] at hx hy
   have hx:=Option.some.inj hx
   have hy:=Option.some.inj hy
   rw [qZd]
   refine ⟨fun hne=>qAe hk (Ext.refl h) (qYt (i:=i) (by omega) (by omega) (by rw [hx,hy]; exact hne)),fun heq=>?_⟩
   rw [qQo (by omega) (by omega)]
   exact ih (i+1) (by omega) (qWg (by omega) (by omega) he (by rw [hx,hy]; exact heq))
 exact key l.length 0 (by omega) (by simp)
def qDl (D:Orc) (f:Nat):Prop:=∀ a b va vb (l m:List Ru) h (k:Kv) kp,RowK 2 h a va→Rel2 (RuI h) va l→RowK 2 h b vb→Rel2 (RuI h) vb m→l.length<2 ^ 40→m.length<2 ^ 40→Sam h l m k→D f [a,b] h k kp
theorem xMt (c:Cl49 D) (sr:qJj D 14):qDl D 49:=by
 intro a b va vb l m h k kp ra qa rb qb hl hm hk
 refine c _ _ _ _ _ ?_
 unfold F49
 rw [ra.len,rb.len,qa.len,qb.len,qZd]
 refine ⟨fun hne=>qAe hk (Ext.refl h) fun e=>hne (by rw [e]),fun heq=>?_⟩
 have hlen:l.length=m.length:=by omega
 have hla:=qa.len
 have hlb:=qb.len
 intro I hI
 have key:∀ (n i:Nat) (h':H),Ext h h'→i+n=l.length→(l.drop i=m.drop i↔l=m)→I [a,b,.int .i64 ((i:Nat):Int)] h':=by
  intro n
  induction n with
  | zero =>
   intro i h' e hi he
   refine hI _ _ _ _ ?_
   unfold round49_4
   rw [qQa,(ra.ext e).len,qa.len,qQd]
   refine ⟨fun hlt=>by omega,fun _=>?_⟩
   exact qCi hk e (qYk (by omega) (by omega) he)
  | succ n ih =>
   intro i h' e hi he
   refine hI _ _ _ _ ?_
   unfold round49_4
   rw [qQa,(ra.ext e).len,qa.len,qQd]
   refine ⟨fun hlt=>?_,fun _=>by omega⟩
   obtain ⟨v,w,hv,iv,iw⟩:=qa.at_ i va[i] l[i] (List.getElem?_eq_getElem (by omega)) (List.getElem?_eq_getElem (by omega))
   obtain ⟨v',w',hv',iv',iw'⟩:=qb.at_ i vb[i] m[i] (List.getElem?_eq_getElem (by omega)) (List.getElem?_eq_getElem (by omega))
   have ata:∀ {h2:H} (e2:Ext h h2) {K:Addr→Prop},(∀ ad,rd h2 (Addr.add ad 0)=some v→rd h2 (Addr.add ad 1)=some w→K ad)→qQj a (i:Int) 2 K:=fun {h2} e2 {K} hK=>by
    refine RowK.at_ (n:=(i:Int)) (ra.ext e2) (by omega) (by omega) fun ad c hc _ hj=>?_
    rw [Int.toNat_natCast,List.getElem?_eq_getElem (show i<va.length by omega),hv] at hc
    obtain rfl:=Option.some.inj hc
    exact hK ad (hj 0 _ rfl) (hj 1 _ rfl)
   have atb:∀ {h2:H} (e2:Ext h h2) {K:Addr→Prop},(∀ ad,rd h2 (Addr.add ad 0)=some v'→rd h2 (Addr.add ad 1)=some w'→K ad)→qQj b (i:Int) 2 K:=fun {h2} e2 {K} hK=>by
    refine RowK.at_ (n:=(i:Int)) (rb.ext e2) (by omega) (by omega) fun ad c hc _ hj=>?_
    rw [Int.toNat_natCast,List.getElem?_eq_getElem (show i<vb.length by omega),hv'] at hc
    obtain rfl:=Option.some.inj hc
    exact hK ad (hj 0 _ rfl) (hj 1 _ rfl)
   have fin:∀ (t:Bool) (h2:H),Ext h h2→(t=true↔l[i]≠m[i])→j49_4_7 D I (fun x23 vs24 h22=>xs x23 (qQl (nth vs24 0) (fun t26=>k (.bool t26) h22)) (fun i25=>cond (Nat.beq i25 0) (
k (.bool true) h22) (False)) (fun c=>kp c h22)) a b (.int .i64 (i:Int)) (.bool t) h2:=fun t h2 e2 ht=>by
    unfold j49_4_7
    rw [qQa,qQc]
    cases t with
    | true=>exact qAe hk e2 (qYt (i:=i) (by omega) (by omega) (ht.mp rfl))
    | false =>
     rw [cond_false,qQo (by omega) (by omega)]
     refine ih (i+1) h2 e2 (by omega) (qWg (by omega) (by omega) he ?_)
     exact Classical.byContradiction fun hn=>by have:=ht.mpr hn; cases this
   refine ata e fun ad1 r1 _=>⟨v,r1,?_⟩
   refine atb e fun ad2 r2 _=>⟨v',r2,?_⟩
   refine sr v v' _ _ h' _ _ (iv.ext e) (iv'.ext e) fun t h2 e2 ht=>⟨t,rfl,?_⟩
   rw [Bool.not_not]
   cases t with
   | false =>
    refine fin true h2 (e.trans e2) ⟨fun _ hx=>?_,fun _=>rfl⟩
    have:=ht.mpr (by rw [hx]); cases this
   | true =>
    have h1:=ht.mp rfl
    rw [cond_true]
    refine ata (e.trans e2) fun ad3 _ r3=>⟨w,r3,?_⟩
    refine atb (e.trans e2) fun ad4 _ r4=>⟨w',r4,?_⟩
    refine sr w w' _ _ h2 _ _ (iw.ext (e.trans e2)) (iw'.ext (e.trans e2)) fun t h3 e3 ht=>⟨t,rfl,?_⟩
    refine fin _ h3 ((e.trans e2).trans e3) ?_
    rw [Bool.not_eq_true',← Bool.not_eq_true,ht]
    exact ⟨fun h hx=>h (by rw [hx]),fun h hx=>h (Prod.ext h1 hx)⟩
 exact key l.length 0 h (Ext.refl h) (by omega) (by simp)
def qEw (D:Orc) (f:Nat):Prop:=∀ a b (l m:List (Int × Int)) h (k:Kv) kp,RowK 2 h a (l.map qAi)→RowK 2 h b (m.map qAi)→l.length<2 ^ 40→m.length<2 ^ 40→Sam h l m k→D f [a,b] h k kp
theorem xMs (c:Cl50 D):qEw D 50:=by
 intro a b l m h k kp ra rb hl hm hk
 refine c _ _ _ _ _ ?_
 unfold F50
 rw [ra.len,rb.len,List.length_map,List.length_map,qZd]
 refine ⟨fun hne=>qAe hk (Ext.refl h) fun e=>hne (by rw [e]),fun heq=>?_⟩
 have hlen:l.length=m.length:=by omega
 intro I hI
 have key:∀ (n i:Nat),i+n=l.length→(l.drop i=m.drop i↔l=m)→I [a,b,.int .i64 ((i:Nat):Int)] h:=by
  intro n
  induction n with
  | zero =>
   intro i hi he
   refine hI _ _ _ _ ?_
   unfold round50_4
   rw [qQa,ra.len,List.length_map,qQd]
   refine ⟨fun hlt=>by omega,fun _=>?_⟩
   exact qCi hk (Ext.refl h) (qYk (by omega) (by omega) he)
  | succ n ih =>
   intro i hi he
   refine hI _ _ _ _ ?_
   unfold round50_4
   rw [qQa,ra.len,List.length_map,qQd]
   refine ⟨fun hlt=>?_,fun _=>by omega⟩
   refine ra.at_ (by omega) (by rw [List.length_map]; omega) fun ad v hv hrd _=>?_
   rw [Int.toNat_natCast,List.getElem?_map,List.getElem?_eq_getElem (by omega)] at hv
   obtain rfl:=Option.some.inj hv
   refine ⟨l[i].1,l[i].2,hrd,?_⟩
   refine rb.at_ (by omega) (by rw [List.length_map]; omega) fun ad v hv hrd _=>?_
   rw [Int.toNat_natCast,List.getElem?_map,List.getElem?_eq_getElem (by omega)] at hv
   obtain rfl:=Option.some.inj hv
   refine ⟨m[i].1,m[i].2,hrd,?_⟩
   rw [qQn,Bool.and_true,qVy]
   refine ⟨fun ht=>?_,fun hf=>?_⟩
   ·rw [Bool.and_eq_true,beq_iff_eq,beq_iff_eq] at ht
    rw [qQo (by omega) (by omega)]
    exact ih (i+1) (by omega) (qWg (by omega) (by omega) he (Prod.ext ht.1 ht.2))
   ·refine qAe hk (Ext.refl h) (qYt (i:=i) (by omega) (by omega) fun hx=>?_)
    rw [hx] at hf
    simp at hf
 exact key l.length 0 (by omega) (by simp)
variable {D:Orc} {E:Dorc} {h h' h0:H} {k:Kv} {kp:Kp} {L R:List Res}
theorem qWc {sz:Nat} {s:Value} {vs:List (List Value)} (r:RowK sz h s vs) {i:Nat} {c:List Value} (hc:vs[i]?=some c) {K:Addr→Prop} (hK:∀ ad,rdN h ad sz=some c→(∀ j v,c[j]?=some v→rd h (Addr.add ad j)=some v)→K ad):qQj s (i:Int) sz K:=by
 have hi:=(List.getElem?_eq_some_iff.mp hc).1
 refine r.at_ (by omega) (by omega) fun ad c' hc' h1 h2=>?_
 rw [Int.toNat_natCast,hc] at hc'
 obtain rfl:=Option.some.inj hc'
 exact hK ad h1 h2
theorem xFz {s:Value} {vs:List Value} (r:Row h s vs) {i:Nat} {v:Value} (hc:vs[i]?=some v) {K:Addr→Prop} (hK:∀ ad,rd h ad=some v→K ad):qQj s (i:Int) 1 K:=by
 have hi:=(List.getElem?_eq_some_iff.mp hc).1
 refine r.at_ (by omega) (by omega) fun ad v' hc' h1=>?_
 rw [Int.toNat_natCast,hc] at hc'
 obtain rfl:=Option.some.inj hc'
 exact hK ad h1
def qIk (D:Orc) (f:Nat):Prop:=∀ (c d:List Value) (x y:Mo) h (k:Kv) kp,MoR h c x→MoR h d y→Sam h x y k→D f [.agg c.toArray,.agg d.toArray] h k kp
theorem xLo (c:Cl98 D) (sr:qJj D 14):qIk D 98:=by
 intro cc dd x y h k kp hx hy hk
 obtain ⟨v,w,rfl,nv,iw⟩:=hx
 obtain ⟨v',w',rfl,nv',iw'⟩:=hy
 refine c _ _ _ _ _ ?_
 unfold F98
 rw [qVz]
 refine (Hp.nil_ h).new_ fun p h1 hp o1=>?_
 rw [qVz]
 refine o1.new_ fun q h2 hq o2=>?_
 have o2:Hp h h2 (qQp q [v',w']::qQp p [v,w]::[]):=o2
 have hcp:∀ {h'},Ext h2 h'→h' p=some (.cells [v,w]):=fun e=>(o2.later e).cell (i:=1) rfl
 have hcq:∀ {h'},Ext h2 h'→h' q=some (.cells [v',w']):=fun e=>(o2.later e).cell (i:=0) rfl
 refine ldj (hcp (Ext.refl _)) rfl ?_
 rw [(nv.ext o2.ext).len]
 refine ldj (hcq (Ext.refl _)) rfl ?_
 rw [(nv'.ext o2.ext).len]
 have hmo:x=y↔x.coef=y.coef∧x.exps=y.exps:=by
  cases x; cases y
  constructor
  ·intro h; cases h; exact ⟨rfl,rfl⟩
  ·rintro ⟨h1,h2⟩; dsimp only at h1 h2; rw [h1,h2]
 rw [qQn,qZd]
 have bad:∀ h3,Ext h h3→x≠y→j98__2 D k kp (Pt p) (Pt q) (.bool true) h3:=fun h3 e3 hne=>by
  unfold j98__2
  rw [qQc,cond_true]
  exact qAe hk e3 hne
 refine ⟨fun hne=>bad h2 o2.ext fun e=>hne (by rw [e]),fun heq=>?_⟩
 have hlen:x.coef.length=y.coef.length:=by omega
 have hsm:=nv.small
 refine ldj (hcp (Ext.refl _)) rfl (ldj (hcq (Ext.refl _)) rfl ?_)
 refine sr w w' _ _ h2 _ _ (iw.ext o2.ext) (iw'.ext o2.ext) fun t h3 e3 ht=>⟨t,rfl,?_⟩
 cases t with
 | false =>
  refine bad h3 (o2.ext.trans e3) fun e=>?_
  have:=ht.mpr (by rw [e])
  cases this
 | true =>
  have hex:=ht.mp rfl
  unfold j98__2
  rw [qQc,Bool.not_true,cond_false]
  have e23:=o2.ext.trans e3
  intro I hI
  have key:∀ (n i:Nat),i+n=x.coef.length→(x.coef.drop i=y.coef.drop i↔x.coef=y.coef)→I [Pt p,Pt q,.int .i64 ((i:Nat):Int)] h3:=by
   intro n
   induction n with
   | zero =>
    intro i hi he
    refine hI _ _ _ _ ?_
    unfold round98_4
    rw [qQa]
    refine ldj (hcp e3) rfl ?_
    rw [(nv.ext e23).len,qQd]
    refine ⟨fun hlt=>by omega,fun _=>?_⟩
    exact qCi hk e23 (hmo.mpr ⟨qYk (by omega) (by omega) he,hex⟩)
   | succ n ih =>
    intro i hi he
    refine hI _ _ _ _ ?_
    unfold round98_4
    rw [qQa]
    refine ldj (hcp e3) rfl ?_
    rw [(nv.ext e23).len,qQd]
    refine ⟨fun hlt=>?_,fun _=>by omega⟩
    refine ldj (hcp e3) rfl ?_
    refine (nv.ext e23).at_ (by omega) (by omega) fun ad u hu _ hrd=>⟨_,hrd,?_⟩
    refine ldj (hcq e3) rfl ?_
    refine (nv'.ext e23).at_ (by omega) (by omega) fun ad2 u2 hu2 _ hrd2=>⟨_,hrd2,?_⟩
    rw [Int.toNat_natCast,List.getElem?_eq_getElem (by omega)] at hu hu2
    have hu:=Option.some.inj hu
    have hu2:=Option.some.inj hu2
    rw [qZd]
    refine ⟨fun hne=>qAe hk e23 fun e=>hne (by
     have:=qYt (i:=i) (l:=x.coef) (m:=y.coef) (by omega) (by omega)
     rw [← hu,← hu2]
     congr 1
     subst e; rfl),fun heq=>?_⟩
    rw [qQo (by omega) (by omega)]
    exact ih (i+1) (by omega) (qWg (by omega) (by omega) he (by rw [hu,hu2]; omega))
  exact key x.coef.length 0 (by omega) (by simp)
theorem it_eq {x y:It}:x=y↔x.sym=y.sym∧x.p=y.p:=by
 cases x; cases y
 constructor
 ·intro h; cases h; exact ⟨rfl,rfl⟩
 ·rintro ⟨h1,h2⟩; dsimp only at h1 h2; rw [h1,h2]
theorem nd_eq {x y:Nd}:x=y↔x.kind=y.kind∧x.kids=y.kids∧x.prec=y.prec∧x.ints=y.ints:=by
 cases x; cases y
 constructor
 ·intro h; cases h; exact ⟨rfl,rfl,rfl,rfl⟩
 ·rintro ⟨h1,h2,h3,h4⟩; dsimp only at h1 h2 h3 h4; rw [h1,h2,h3,h4]
def qCc (D:Orc) (f:Nat):Prop:=∀ (c d:List Value) (x y:Nd) h (k:Kv) kp,NdR h c x→NdR h d y→Sam h x y k→D f [.agg c.toArray,.agg d.toArray] h k kp
set_option maxHeartbeats 1600000 in
theorem xMr (c:Cl51 D) (sm:qIk D 98) (sp:qEw D 50):qCc D 51:=by
 intro cc dd x y h k kp hx hy hk
 obtain ⟨pv,iv,vs,rfl,a1,a2,a3,a4,a5,a6,a7,a8⟩:=hx
 obtain ⟨pv',iv',vs',rfl,b1,b2,b3,b4,b5,b6,b7,b8⟩:=hy
 refine c _ _ _ _ _ ?_
 unfold F51
 rw [qVz]
 refine (Hp.nil_ h).new_ fun p h1 hp o1=>?_
 rw [qVz]
 refine o1.new_ fun q h2 hq o2=>?_
 have o2:Hp h h2 (qQp q [.int .i64 y.kind,pv',iv',.int .i64 y.kids]::qQp p [.int .i64 x.kind,pv,iv,.int .i64 x.kids]::[]):=o2
 have hcp:∀ {h'},Ext h2 h'→h' p=some (.cells [.int .i64 x.kind,pv,iv,.int .i64 x.kids]):=fun e=>(o2.later e).cell (i:=1) rfl
 have hcq:∀ {h'},Ext h2 h'→h' q=some (.cells [.int .i64 y.kind,pv',iv',.int .i64 y.kids]):=fun e=>(o2.later e).cell (i:=0) rfl
 have e02:=o2.ext
 have bad:∀ h3,Ext h h3→x≠y→j51__2 D k kp (Pt p) (Pt q) (.bool true) h3:=fun h3 e3 hne=>by
  unfold j51__2
  rw [qQc,cond_true]
  exact qAe hk e3 hne
 refine ldjI (hcp (Ext.refl _)) rfl (ldjI (hcq (Ext.refl _)) rfl ?_)
 rw [qQn,qZd]
 refine ⟨fun hne=>bad h2 e02 fun e=>hne (by rw [e]),fun hkind=>?_⟩
 refine ldjI (hcp (Ext.refl _)) rfl (ldjI (hcq (Ext.refl _)) rfl ?_)
 rw [qQn,qZd]
 refine ⟨fun hne=>bad h2 e02 fun e=>hne (by rw [e]),fun hkids=>?_⟩
 refine ldj (hcp (Ext.refl _)) rfl (ldj (hcq (Ext.refl _)) rfl ?_)
 refine sp pv pv' x.prec y.prec h2 _ _ (a3.ext e02) (b3.ext e02) a5 b5 fun t h3 e3 ht=>⟨t,rfl,?_⟩
 have e03:=e02.trans e3
 rw [Bool.not_not]
 cases t with
 | false =>
  refine bad h3 e03 fun e=>?_
  have:=ht.mpr (by rw [e])
  cases this
 | true =>
  have hprec:=ht.mp rfl
  rw [cond_true]
  refine ldj (hcp e3) rfl ?_
  rw [(a6.ext e03).len,a7.len]
  refine ldj (hcq e3) rfl ?_
  rw [(b6.ext e03).len,b7.len]
  by_cases hil:x.ints.length=y.ints.length
  rotate_left
  ·rw [show ((x.ints.length:Int) != (y.ints.length:Int))=true from bne_iff_ne.mpr (by omega)]
   exact bad h3 e03 fun e=>hil (by rw [e])
  rw [show ((x.ints.length:Int) != (y.ints.length:Int))=false by rw [hil]; simp]
  unfold j51__2
  rw [qQc,cond_false]
  have hva:=a7.len
  have hvb:=b7.len
  intro I hI
  have key:∀ (n i:Nat) (h4:H),Ext h3 h4→i+n=x.ints.length→(x.ints.drop i=y.ints.drop i↔x.ints=y.ints)→I [Pt p,Pt q,.int .i64 ((i:Nat):Int)] h4:=by
   intro n
   induction n with
   | zero =>
    intro i h4 e4 hi he
    have e04:=e03.trans e4
    refine hI _ _ _ _ ?_
    unfold round51_4
    rw [qQa]
    refine ldj (hcp (e3.trans e4)) rfl ?_
    rw [(a6.ext e04).len,a7.len,qQd]
    refine ⟨fun hlt=>by omega,fun _=>?_⟩
    exact qCi hk e04 (nd_eq.mpr ⟨hkind,hkids,hprec,qYk (by omega) (by omega) he⟩)
   | succ n ih =>
    intro i h4 e4 hi he
    have e04:=e03.trans e4
    have e24:=e3.trans e4
    refine hI _ _ _ _ ?_
    unfold round51_4
    rw [qQa]
    refine ldj (hcp e24) rfl ?_
    rw [(a6.ext e04).len,a7.len,qQd]
    refine ⟨fun hlt=>?_,fun _=>by omega⟩
    have hxi:x.ints[i]?=some x.ints[i]:=List.getElem?_eq_getElem (by omega)
    have hyi:y.ints[i]?=some y.ints[i]:=List.getElem?_eq_getElem (by omega)
    have hvi:vs[i]?=some vs[i]:=List.getElem?_eq_getElem (by omega)
    have hwi:vs'[i]?=some vs'[i]:=List.getElem?_eq_getElem (by omega)
    obtain ⟨mv,mvs,hv,f1,f2,f3,f4⟩:=a7.at_ i _ _ hvi hxi
    obtain ⟨mv',mvs',hv',g1,g2,g3,g4⟩:=b7.at_ i _ _ hwi hyi
    rw [hv] at hvi
    rw [hv'] at hwi
    have hne_of:∀ {P:Prop},(x.ints[i]=y.ints[i]→P)→¬ P→x≠y:=fun hp hn e=>hn (hp (by
     subst e; rfl))
    have stop:∀ h5,Ext h h5→x≠y→xs X.r (qQl (nth [Value.bool false] 0) (fun t90=>k (.bool t90) h5)) (fun i89=>cond (Nat.beq i89 0) (k (.bool true) h5) (False)) (fun c=>kp c h5):=fun h5 e5 hne=>qAe hk e5 hne
    refine ldj (hcp e24) rfl (qWc (a6.ext e04) hvi fun ad1 _ r1=>⟨_,r1 0 _ rfl,?_⟩)
    refine ldj (hcq e24) rfl (qWc (b6.ext e04) hwi fun ad2 _ r2=>⟨_,r2 0 _ rfl,?_⟩)
    have bad4:x≠y→j51_4_7 D I (fun x87 vs88 h86=>xs x87 (qQl (nth vs88 0) (fun t90=>k (.bool t90) h86)) (fun i89=>cond (Nat.beq i89 0) (
k (.bool true) h86) (False)) (fun c=>kp c h86)) (Pt p) (Pt q) (.int .i64 (i:Int)) (.bool true) h4:=fun hne=>by
     unfold j51_4_7
     rw [qQa,qQc,cond_true]
     exact stop h4 e04 hne
    rw [qQn,qZd]
    refine ⟨fun hne=>bad4 (hne_of (fun e=>by rw [e]) hne),fun hsym=>?_⟩
    refine ldj (hcp e24) rfl (qWc (a6.ext e04) hvi fun ad3 _ r3=>⟨_,r3 1 _ rfl,?_⟩)
    rw [(f2.ext e04).len,f3.len]
    refine ldj (hcq e24) rfl (qWc (b6.ext e04) hwi fun ad5 _ r5=>⟨_,r5 1 _ rfl,?_⟩)
    rw [(g2.ext e04).len,g3.len]
    by_cases hpl:x.ints[i].p.length=y.ints[i].p.length
    rotate_left
    ·rw [show ((x.ints[i].p.length:Int) != (y.ints[i].p.length:Int))=true from bne_iff_ne.mpr (by omega)]
     exact bad4 (hne_of (fun e=>by rw [e]) hpl)
    rw [show ((x.ints[i].p.length:Int) != (y.ints[i].p.length:Int))=false by rw [hpl]; simp]
    unfold j51_4_7
    rw [qQa,qQc,cond_false]
    have hma:=f3.len
    have hmb:=g3.len
    intro J hJ
    have inner:∀ (n' j:Nat) (h5:H),Ext h4 h5→j+n'=x.ints[i].p.length→(x.ints[i].p.drop j=y.ints[i].p.drop j↔x.ints[i].p=y.ints[i].p)→J [Pt p,Pt q,.int .i64 ((i:Nat):Int),.int .i64 ((j:Nat):Int)] h5:=by
     intro n'
     induction n' with
     | zero =>
      intro j h5 e5 hj hje
      have e05:=e04.trans e5
      refine hJ _ _ _ _ _ ?_
      unfold round51_9
      rw [qQa,qQa]
      refine ldj (hcp (e24.trans e5)) rfl (qWc (a6.ext e05) hvi fun ad3 _ r3=>⟨_,r3 1 _ rfl,?_⟩)
      rw [(f2.ext e05).len,f3.len,qQd]
      refine ⟨fun hlt=>by omega,fun _=>?_⟩
      show xs (X.e 2) _ _ _
      rw [xs_e]
      show cond true _ _
      rw [cond_true,nth0,nth1,nth2,qQa,qQo (by omega) (by omega)]
      exact ih (i+1) h5 (e4.trans e5) (by omega) (qWg (by omega) (by omega) he (it_eq.mpr ⟨hsym,qYk (by omega) (by omega) hje⟩))
     | succ n' ihj =>
      intro j h5 e5 hj hje
      have e05:=e04.trans e5
      have e25:=e24.trans e5
      refine hJ _ _ _ _ _ ?_
      unfold round51_9
      rw [qQa,qQa]
      refine ldj (hcp e25) rfl (qWc (a6.ext e05) hvi fun ad3 _ r3=>⟨_,r3 1 _ rfl,?_⟩)
      rw [(f2.ext e05).len,f3.len,qQd]
      refine ⟨fun hlt=>?_,fun _=>by omega⟩
      have hxj:x.ints[i].p[j]?=some x.ints[i].p[j]:=List.getElem?_eq_getElem (by omega)
      have hyj:y.ints[i].p[j]?=some y.ints[i].p[j]:=List.getElem?_eq_getElem (by omega)
      have hvj:mvs[j]?=some mvs[j]:=List.getElem?_eq_getElem (by omega)
      have hwj:mvs'[j]?=some mvs'[j]:=List.getElem?_eq_getElem (by omega)
      have q1:=f3.at_ j _ _ hvj hxj
      have q2:=g3.at_ j _ _ hwj hyj
      obtain ⟨u1,u2,hu,u3,u4⟩:=q1
      obtain ⟨z1,z2,hz,z3,z4⟩:=q2
      rw [hu] at hvj
      rw [hz] at hwj
      refine ldj (hcp e25) rfl (qWc (a6.ext e05) hvi fun ad3 _ r3=>⟨_,r3 1 _ rfl,qWc (f2.ext e05) hvj fun ad4 r4 _=>⟨_,_,r4,?_⟩⟩)
      refine ldj (hcq e25) rfl (qWc (b6.ext e05) hwi fun ad3 _ r3=>⟨_,r3 1 _ rfl,qWc (g2.ext e05) hwj fun ad4 r4 _=>⟨_,_,r4,?_⟩⟩)
      refine sm [u1,u2] [z1,z2] x.ints[i].p[j] y.ints[i].p[j] h5 _ _ (MoR.ext e05 ⟨u1,u2,rfl,u3,u4⟩) (MoR.ext e05 ⟨z1,z2,rfl,z3,z4⟩) fun t h6 e6 ht=>⟨t,rfl,?_⟩
      cases t with
      | false =>
       rw [Bool.not_false,cond_true]
       show xs X.r _ _ _
       rw [xs_r,nth0,qQc]
       refine stop h6 (e05.trans e6) fun e=>?_
       have:x.ints[i].p[j]=y.ints[i].p[j]:=by subst e; rfl
       have:=ht.mpr this
       cases this
      | true =>
       rw [Bool.not_true,cond_false,qQo (by omega) (by omega)]
       exact ihj (j+1) h6 (e5.trans e6) (by omega) (qWg (by omega) (by omega) hje (ht.mp rfl))
    exact inner x.ints[i].p.length 0 h4 (Ext.refl _) (by omega) (by simp)
  exact key x.ints.length 0 h3 (Ext.refl _) (by omega) (by simp)
variable {D:Orc} {E:Dorc} {h h' h0:H} {k:Kv} {kp:Kp} {L R:List Res} {p q:Nat} {cp cq:List Value}
theorem cm_eq {x y:Cm}:x=y↔x.word=y.word∧x.terms=y.terms:=by
 cases x; cases y
 constructor
 ·intro h; cases h; exact ⟨rfl,rfl⟩
 ·rintro ⟨h1,h2⟩; dsimp only at h1 h2; rw [h1,h2]
theorem bk_eq {x y:Bk}:x=y↔x.sig=y.sig∧x.rules=y.rules∧x.eqs=y.eqs∧x.prec=y.prec∧x.cert=y.cert∧x.cmds=y.cmds:=by
 cases x; cases y
 constructor
 ·intro h; cases h; exact ⟨rfl,rfl,rfl,rfl,rfl,rfl⟩
 ·rintro ⟨h1,h2,h3,h4,h5,h6⟩; dsimp only at h1 h2 h3 h4 h5 h6; rw [h1,h2,h3,h4,h5,h6]
theorem xPs {sig:Sg} {i:Nat} (hi:i<sig.length):(qWq (toSy sig))[i]?=some [.string (strB sig[i].1),.int .i64 sig[i].2]:=by
 unfold qWq toSy
 rw [List.getElem?_map,List.getElem?_map,List.getElem?_eq_getElem hi]; rfl
theorem xWm (hp:∀ {h'},Ext h0 h'→h' p=some (.cells cp)) (hq:∀ {h'},Ext h0 h'→h' q=some (.cells cq)) {sv sw:Value} (hcp:cp[0]?=some sv) (hcq:cq[0]?=some sw) {l m:Sg} (ra:Sr h0 sv (toSy l)) (rb:Sr h0 sw (toSy m)) (hlen:l.length=m.length) {K:Kl} (e:Ext h0 h)
  (hK1:l=m→K (.e 0) [Pt p,Pt q] h) (hK2:l≠m→K .r [.bool false] h):loop19_4 D [Pt p,Pt q,.int .i64 0] h K:=by
 have hsl:=ra.len
 rw [qXr] at hsl
 intro I hI
 have key:∀ (n i:Nat),i+n=l.length→(l.drop i=m.drop i↔l=m)→I [Pt p,Pt q,.int .i64 ((i:Nat):Int)] h:=by
  intro n
  induction n with
  | zero =>
   intro i hi he
   refine hI _ _ _ _ ?_
   unfold round19_4
   rw [qQa]
   refine ldj (hp e) hcp ?_
   rw [(ra.ext e).row.len,qQt,qXr,qQd]
   exact ⟨fun hlt=>by omega,fun _=>hK1 (qYk (by omega) (by omega) he)⟩
  | succ n ih =>
   intro i hi he
   refine hI _ _ _ _ ?_
   unfold round19_4
   rw [qQa]
   refine ldj (hp e) hcp ?_
   rw [(ra.ext e).row.len,qQt,qXr,qQd]
   refine ⟨fun hlt=>?_,fun _=>by omega⟩
   refine ldj (hp e) hcp (qWc (ra.ext e).row (xPs (show i<l.length by omega)) fun ad r1 _=>⟨_,_,r1,?_⟩)
   refine ldj (hq e) hcq (qWc (rb.ext e).row (xPs (show i<m.length by omega)) fun ad r2 _=>⟨_,_,r2,?_⟩)
   rw [qVd,qQk,qQk,qQn,Bool.and_true,qVy]
   refine ⟨fun ht=>?_,fun hf=>?_⟩
   ·rw [Bool.and_eq_true,beq_iff_eq,beq_iff_eq] at ht
    rw [qQo (by omega) (by omega)]
    exact ih (i+1) (by omega) (qWg (by omega) (by omega) he (Prod.ext ht.1 ht.2))
   ·refine hK2 (qYt (i:=i) (by omega) (by omega) fun hx=>?_)
    rw [hx] at hf
    simp at hf
 exact key l.length 0 (by omega) (by simp)
theorem xXc (sn:qCc D 51) (hp:∀ {h'},Ext h0 h'→h' p=some (.cells cp)) (hq:∀ {h'},Ext h0 h'→h' q=some (.cells cq)) {sv sw:Value} (hcp:cp[4]?=some sv) (hcq:cq[4]?=some sw) {l m:List Nd} {va vb:List (List Value)} (ra:RowK 4 h0 sv va) (qa:Rel2 (NdR h0) va l) (rb:RowK 4 h0 sw vb) (qb:Rel2 (NdR h0) vb m) (hlen:l.length=m.length) (hsl:l.length<2 ^ 40) {K:Kl} (e:Ext h0 h)
  (hK1:l=m→∀ h',Ext h0 h'→K (.e 2) [Pt p,Pt q] h') (hK2:l≠m→∀ h',Ext h0 h'→K .r [.bool false] h'):loop19_9 D [Pt p,Pt q,.int .i64 0] h K:=by
 have hla:=qa.len
 have hlb:=qb.len
 intro I hI
 have key:∀ (n i:Nat) (h:H),Ext h0 h→i+n=l.length→(l.drop i=m.drop i↔l=m)→I [Pt p,Pt q,.int .i64 ((i:Nat):Int)] h:=by
  intro n
  induction n with
  | zero =>
   intro i h e hi he
   refine hI _ _ _ _ ?_
   unfold round19_9
   rw [qQa]
   refine ldj (hp e) hcp ?_
   rw [(ra.ext e).len,hla,qQd]
   exact ⟨fun hlt=>by omega,fun _=>hK1 (qYk (by omega) (by omega) he) h e⟩
  | succ n ih =>
   intro i h e hi he
   refine hI _ _ _ _ ?_
   unfold round19_9
   rw [qQa]
   refine ldj (hp e) hcp ?_
   rw [(ra.ext e).len,hla,qQd]
   refine ⟨fun hlt=>?_,fun _=>by omega⟩
   have hvi:va[i]?=some va[i]:=List.getElem?_eq_getElem (by omega)
   have hwi:vb[i]?=some vb[i]:=List.getElem?_eq_getElem (by omega)
   have na:=qa.at_ i _ _ hvi (List.getElem?_eq_getElem (show i<l.length by omega))
   have nb:=qb.at_ i _ _ hwi (List.getElem?_eq_getElem (show i<m.length by omega))
   obtain ⟨a1,a2,a3,hv,a4⟩:=na
   obtain ⟨b1,b2,b3,hv',b4⟩:=nb
   rw [hv] at hvi
   rw [hv'] at hwi
   refine ldj (hp e) hcp (qWc (ra.ext e) hvi fun ad r1 _=>⟨_,_,_,_,r1,?_⟩)
   refine ldj (hq e) hcq (qWc (rb.ext e) hwi fun ad r2 _=>⟨_,_,_,_,r2,?_⟩)
   refine sn [.int .i64 l[i].kind,a1,a2,.int .i64 l[i].kids] [.int .i64 m[i].kind,b1,b2,.int .i64 m[i].kids] l[i] m[i] h _ _ (NdR.ext e ⟨a1,a2,a3,rfl,a4⟩) (NdR.ext e ⟨b1,b2,b3,rfl,b4⟩) fun t h2 e2 ht=>⟨t,rfl,?_⟩
   cases t with
   | false =>
    refine hK2 (qYt (i:=i) (by omega) (by omega) fun hx=>?_) h2 (e.trans e2)
    have:=ht.mpr hx
    cases this
   | true =>
    rw [Bool.not_true,cond_false,qQo (by omega) (by omega)]
    exact ih (i+1) h2 (e.trans e2) (by omega) (qWg (by omega) (by omega) he (ht.mp rfl))
 exact key l.length 0 h e (by omega) (by simp)
theorem xWe {bp bq:Nat} {cpx cqx:List Value} (sr:qJj D 14) (hp:∀ {h'},Ext h0 h'→h' bp=some (.cells cpx)) (hq:∀ {h'},Ext h0 h'→h' bq=some (.cells cqx)) {x:Int} {sv sw:Value} (hcp:cpx[1]?=some sv) (hcq:cqx[1]?=some sw) {l m:List (List Int)} {va vb:List Value} (ra:Row h0 sv va) (qa:Rel2 (fun v l=>Ir h0 v l) va l) (rb:Row h0 sw vb) (qb:Rel2 (fun v l=>Ir h0 v l) vb m) (hlen:l.length=m.length) (hsl:l.length<2 ^ 40) {K:Kl} (e:Ext h0 h)
  (hK1:l=m→∀ h',Ext h0 h'→K (.e 6) [Pt p,Pt q,.int .i64 x] h') (hK2:l≠m→∀ h',Ext h0 h'→K .r [.bool false] h'):loop19_21 D [Pt p,Pt q,.int .i64 x,Pt bp,Pt bq,.int .i64 0] h K:=by
 have hla:=qa.len
 have hlb:=qb.len
 intro I hI
 have key:∀ (n i:Nat) (h:H),Ext h0 h→i+n=l.length→(l.drop i=m.drop i↔l=m)→I [Pt p,Pt q,.int .i64 x,Pt bp,Pt bq,.int .i64 ((i:Nat):Int)] h:=by
  intro n
  induction n with
  | zero =>
   intro i h e hi he
   refine hI _ _ _ _ _ _ _ ?_
   unfold round19_21
   rw [qQa,qQa]
   refine ldj (hp e) hcp ?_
   rw [(ra.ext e).len,hla,qQd]
   exact ⟨fun hlt=>by omega,fun _=>hK1 (qYk (by omega) (by omega) he) h e⟩
  | succ n ih =>
   intro i h e hi he
   refine hI _ _ _ _ _ _ _ ?_
   unfold round19_21
   rw [qQa,qQa]
   refine ldj (hp e) hcp ?_
   rw [(ra.ext e).len,hla,qQd]
   refine ⟨fun hlt=>?_,fun _=>by omega⟩
   have hvi:va[i]?=some va[i]:=List.getElem?_eq_getElem (by omega)
   have hwi:vb[i]?=some vb[i]:=List.getElem?_eq_getElem (by omega)
   have na:=qa.at_ i _ _ hvi (List.getElem?_eq_getElem (show i<l.length by omega))
   have nb:=qb.at_ i _ _ hwi (List.getElem?_eq_getElem (show i<m.length by omega))
   refine ldj (hp e) hcp (xFz (ra.ext e) hvi fun ad r1=>⟨_,r1,?_⟩)
   refine ldj (hq e) hcq (xFz (rb.ext e) hwi fun ad r2=>⟨_,r2,?_⟩)
   refine sr _ _ _ _ h _ _ (na.ext e) (nb.ext e) fun t h2 e2 ht=>⟨t,rfl,?_⟩
   cases t with
   | false =>
    refine hK2 (qYt (i:=i) (by omega) (by omega) fun hx=>?_) h2 (e.trans e2)
    have:=ht.mpr hx
    cases this
   | true =>
    rw [Bool.not_true,cond_false,qQo (by omega) (by omega)]
    exact ih (i+1) h2 (e.trans e2) (by omega) (qWg (by omega) (by omega) he (ht.mp rfl))
 exact key l.length 0 h e (by omega) (by simp)
theorem xKy (sr:qJj D 14) (hp:∀ {h'},Ext h0 h'→h' p=some (.cells cp)) (hq:∀ {h'},Ext h0 h'→h' q=some (.cells cq)) {sv sw:Value} (hcp:cp[5]?=some sv) (hcq:cq[5]?=some sw) {l m:List Cm} {va vb:List (List Value)} (ra:RowK 2 h0 sv va) (qa:Rel2 (CmR h0) va l) (rb:RowK 2 h0 sw vb) (qb:Rel2 (CmR h0) vb m) (hlen:l.length=m.length) (hsl:l.length<2 ^ 40) {K:Kl} (e:Ext h0 h)
  (hK1:l=m→∀ h',Ext h0 h'→K (.e 4) [] h') (hK2:l≠m→∀ h',Ext h0 h'→K .r [.bool false] h'):loop19_14 D [Pt p,Pt q,.int .i64 0] h K:=by
 have hla:=qa.len
 have hlb:=qb.len
 intro I hI
 have key:∀ (n i:Nat) (h:H),Ext h0 h→i+n=l.length→(l.drop i=m.drop i↔l=m)→I [Pt p,Pt q,.int .i64 ((i:Nat):Int)] h:=by
  intro n
  induction n with
  | zero =>
   intro i h e hi he
   refine hI _ _ _ _ ?_
   unfold round19_14
   rw [qQa]
   refine ldj (hp e) hcp ?_
   rw [(ra.ext e).len,hla,qQd]
   exact ⟨fun hlt=>by omega,fun _=>hK1 (qYk (by omega) (by omega) he) h e⟩
  | succ n ih =>
   intro i h e hi he
   refine hI _ _ _ _ ?_
   unfold round19_14
   rw [qQa]
   refine ldj (hp e) hcp ?_
   rw [(ra.ext e).len,hla,qQd]
   refine ⟨fun hlt=>?_,fun _=>by omega⟩
   have hvi:va[i]?=some va[i]:=List.getElem?_eq_getElem (by omega)
   have hwi:vb[i]?=some vb[i]:=List.getElem?_eq_getElem (by omega)
   have na:=qa.at_ i _ _ hvi (List.getElem?_eq_getElem (show i<l.length by omega))
   have nb:=qb.at_ i _ _ hwi (List.getElem?_eq_getElem (show i<m.length by omega))
   have stop:l[i]≠m[i]→l≠m:=qYt (by omega) (by omega)
   have step:l[i]=m[i]→(l.drop (i+1)=m.drop (i+1)↔l=m):=qWg (by omega) (by omega) he
   generalize l[i]=x at na stop step
   generalize m[i]=y at nb stop step
   obtain ⟨tv,tvs,hv,a1,a2,a3,a4⟩:=na
   obtain ⟨tw,tws,hv',b1,b2,b3,b4⟩:=nb
   rw [hv] at hvi
   rw [hv'] at hwi
   refine ldj (hp e) hcp (qWc (ra.ext e) hvi fun ad r1 _=>⟨_,_,r1,?_⟩)
   refine (Hp.nil_ h).new_ fun bp h1 hb1 o1=>?_
   refine o1.st6 (i:=0) (vs:=[.string (strB x.word),tv]) rfl rfl (by simp only [List.all_cons,List.all_nil,qQu a2.isSl]; rfl) rfl fun h2 o2=>?_
   have o2:Hp h h2 (qQp bp [.string (strB x.word),tv]::[]):=o2
   refine ldj (hq (e.trans o2.ext)) hcq (qWc (rb.ext (e.trans o2.ext)) hwi fun ad r2 _=>⟨_,_,r2,?_⟩)
   refine o2.new_ fun bq h3 hb3 o3=>?_
   refine o3.st6 (i:=0) (vs:=[.string (strB y.word),tw]) rfl rfl (by simp only [List.all_cons,List.all_nil,qQu b2.isSl]; rfl) rfl fun h4 o4=>?_
   have o4:Hp h h4 (qQp bq [.string (strB y.word),tw]::qQp bp [.string (strB x.word),tv]::[]):=o4
   have e4:=e.trans o4.ext
   have hbp:∀ {h'},Ext h4 h'→h' bp=some (.cells [.string (strB x.word),tv]):=fun e=>(o4.later e).cell (i:=1) rfl
   have hbq:∀ {h'},Ext h4 h'→h' bq=some (.cells [.string (strB y.word),tw]):=fun e=>(o4.later e).cell (i:=0) rfl
   have bad:x≠y→j19_14_19 D I K (Pt p) (Pt q) (.int .i64 (i:Int)) (Pt bp) (Pt bq) (.bool true) h4:=fun hne=>by
    unfold j19_14_19
    rw [qQa,qQc,cond_true]
    exact hK2 (stop hne) h4 e4
   refine ldx (hbp (Ext.refl _)) rfl (ldx (hbq (Ext.refl _)) rfl ?_)
   rw [qVd,qQk,qQk,Bool.not_not]
   by_cases hw:x.word=y.word
   rotate_left
   ·rw [beq_eq_false_iff_ne.mpr hw,cond_false]
    exact bad fun hx=>hw (by rw [hx])
   rw [beq_iff_eq.mpr hw,cond_true]
   refine ldj (hbp (Ext.refl _)) rfl ?_
   rw [(a2.ext e4).len,a3.len]
   refine ldj (hbq (Ext.refl _)) rfl ?_
   rw [(b2.ext e4).len,b3.len]
   by_cases htl:x.terms.length=y.terms.length
   rotate_left
   ·rw [show ((x.terms.length:Int) != (y.terms.length:Int))=true from bne_iff_ne.mpr (by omega)]
    exact bad fun hx=>htl (by rw [hx])
   rw [show ((x.terms.length:Int) != (y.terms.length:Int))=false by rw [htl]; simp]
   unfold j19_14_19
   rw [qQa,qQc,cond_false]
   refine xWe (h0:=h4) sr hbp hbq (va:=tvs) (vb:=tws) rfl rfl (a2.ext e4) (a3.mono fun _ _ i=>i.ext e4) (b2.ext e4) (b3.mono fun _ _ i=>i.ext e4) htl a4 (Ext.refl _) (fun heq h5 e5=>?_) fun hne h5 e5=>?_
   ·show xs (X.e 6) _ _ _
    rw [xs_e]
    show cond true _ _
    rw [cond_true,nth0,nth1,nth2,qQa,qQo (by omega) (by omega)]
    exact ih (i+1) h5 (e4.trans e5) (by omega) (step (cm_eq.mpr ⟨hw,heq⟩))
   ·show xs X.r _ _ _
    rw [xs_r,nth0,qQc]
    exact hK2 (stop fun hx=>hne (by rw [hx])) h5 (e4.trans e5)
 exact key l.length 0 h e (by omega) (by simp)
def qEv (D:Orc) (f:Nat):Prop:=∀ (c d:List Value) (x y:Bk) h (k:Kv) kp,BkA h c x→BkA h d y→Sam h x y k→D f [.agg c.toArray,.agg d.toArray] h k kp
theorem xNl (c:Cl19 D) (sr:qJj D 14) (su:qDl D 49) (sp:qEw D 50) (sn:qCc D 51):qEv D 19:=by
 intro cc dd x y h k kp hx hy hk
 obtain ⟨⟨sg,ru,eq,pr,ce,co,rus,eqs,ces,cos,rfl,a1,a2,a3,a4,a5,a6,a7,a8,a9,a10,a11⟩,n1,n2,n3,n4,n5,n6,_⟩:=hx
 obtain ⟨⟨sg',ru',eq',pr',ce',co',rus',eqs',ces',cos',rfl,b1,b2,b3,b4,b5,b6,b7,b8,b9,b10,b11⟩,m1,m2,m3,m4,m5,m6,_⟩:=hy
 refine c _ _ _ _ _ ?_
 unfold F19
 rw [qVz]
 refine (Hp.nil_ h).new_ fun p h1 hp o1=>?_
 rw [qVz]
 refine o1.new_ fun q h2 hq o2=>?_
 have o2:Hp h h2 (qQp q [sg',ru',eq',pr',ce',co']::qQp p [sg,ru,eq,pr,ce,co]::[]):=o2
 have hcp:∀ {h'},Ext h2 h'→h' p=some (.cells [sg,ru,eq,pr,ce,co]):=fun e=>(o2.later e).cell (i:=1) rfl
 have hcq:∀ {h'},Ext h2 h'→h' q=some (.cells [sg',ru',eq',pr',ce',co']):=fun e=>(o2.later e).cell (i:=0) rfl
 have e2:=o2.ext
 have bad:∀ h3,Ext h h3→x≠y→j19__2 D k kp (Pt p) (Pt q) (.bool true) h3:=fun h3 e3 hne=>by
  unfold j19__2
  rw [qQc,cond_true]
  exact qAe hk e3 hne
 have rux:∀ {h3:H} {vs rules},Ext h h3→Rel2 (RuI h) vs rules→Rel2 (RuI h3) vs rules:=fun e r=>r.mono fun _ _ i=>i.ext e
 refine ldj (hcp (Ext.refl _)) rfl ?_
 rw [(a1.ext e2).row.len,qQt,qXr]
 refine ldj (hcq (Ext.refl _)) rfl ?_
 rw [(b1.ext e2).row.len,qQt,qXr,qQn,qZd]
 refine ⟨fun hne=>bad h2 e2 fun e=>hne (by rw [e]),fun hl1=>?_⟩
 refine ldj (hcp (Ext.refl _)) rfl (ldj (hcq (Ext.refl _)) rfl ?_)
 refine su ru ru' _ _ x.rules y.rules h2 _ _ (a2.ext e2) (rux e2 a3) (b2.ext e2) (rux e2 b3) (by omega) (by omega) fun t h3 e3 ht=>⟨t,rfl,?_⟩
 have e03:=e2.trans e3
 rw [Bool.not_not]
 cases t with
 | false =>
  refine bad h3 e03 fun e=>?_
  have:=ht.mpr (by rw [e])
  cases this
 | true =>
 have q2:=ht.mp rfl
 rw [cond_true]
 refine ldj (hcp e3) rfl (ldj (hcq e3) rfl ?_)
 refine su eq eq' _ _ x.eqs y.eqs h3 _ _ (a4.ext e03) (rux e03 a5) (b4.ext e03) (rux e03 b5) (by omega) (by omega) fun t h4 e4 ht=>⟨t,rfl,?_⟩
 have e04:=e03.trans e4
 have e24:=e3.trans e4
 rw [Bool.not_not]
 cases t with
 | false =>
  refine bad h4 e04 fun e=>?_
  have:=ht.mpr (by rw [e])
  cases this
 | true =>
 have q3:=ht.mp rfl
 rw [cond_true]
 refine ldj (hcp e24) rfl (ldj (hcq e24) rfl ?_)
 refine sp pr pr' x.prec y.prec h4 _ _ (a6.ext e04) (b6.ext e04) (by omega) (by omega) fun t h5 e5 ht=>⟨t,rfl,?_⟩
 have e05:=e04.trans e5
 have e25:=e24.trans e5
 rw [Bool.not_not]
 cases t with
 | false =>
  refine bad h5 e05 fun e=>?_
  have:=ht.mpr (by rw [e])
  cases this
 | true =>
 have q4:=ht.mp rfl
 rw [cond_true]
 refine ldj (hcp e25) rfl ?_
 rw [(a8.ext e05).len,a9.len]
 refine ldj (hcq e25) rfl ?_
 rw [(b8.ext e05).len,b9.len,qQn,qZd]
 refine ⟨fun hne=>bad h5 e05 fun e=>hne (by rw [e]),fun hl5=>?_⟩
 refine ldj (hcp e25) rfl ?_
 rw [(a10.ext e05).len,a11.len]
 refine ldj (hcq e25) rfl ?_
 rw [(b10.ext e05).len,b11.len]
 by_cases hl6:x.cmds.length=y.cmds.length
 rotate_left
 ·rw [show ((x.cmds.length:Int) != (y.cmds.length:Int))=true from bne_iff_ne.mpr (by omega)]
  exact bad h5 e05 fun e=>hl6 (by rw [e])
 rw [show ((x.cmds.length:Int) != (y.cmds.length:Int))=false by rw [hl6]; simp]
 unfold j19__2
 rw [qQc,cond_false]
 have hcp5:∀ {h'},Ext h5 h'→h' p=some (.cells [sg,ru,eq,pr,ce,co]):=fun e=>hcp (e25.trans e)
 have hcq5:∀ {h'},Ext h5 h'→h' q=some (.cells [sg',ru',eq',pr',ce',co']):=fun e=>hcq (e25.trans e)
 have no:∀ h',Ext h5 h'→x≠y→k (.bool false) h':=fun h' e hne=>qAe hk (e05.trans e) hne
 refine xWm hcp5 hcq5 rfl rfl (a1.ext e05) (b1.ext e05) (by omega) (Ext.refl _) (fun q1=>?_) fun hne=>?_
 rotate_left
 ·show xs X.r _ _ _
  rw [xs_r,nth0,qQc]
  exact no h5 (Ext.refl _) fun e=>hne (by rw [e])
 show xs (X.e 0) _ _ _
 rw [xs_e]
 show cond true _ _
 rw [cond_true,nth0,nth1]
 refine xXc sn hcp5 hcq5 (va:=ces) (vb:=ces') rfl rfl (a8.ext e05) (a9.mono fun _ _=>NdR.ext e05) (b8.ext e05) (b9.mono fun _ _=>NdR.ext e05) (by omega) (by omega) (Ext.refl _) (fun q5 h6 e6=>?_) fun hne h6 e6=>?_
 rotate_left
 ·show xs X.r _ _ _
  rw [xs_r,nth0,qQc]
  exact no h6 e6 fun e=>hne (by rw [e])
 show xs (X.e 2) _ _ _
 rw [xs_e]
 show cond true _ _
 rw [cond_true,nth0,nth1]
 refine xKy sr hcp5 hcq5 (va:=cos) (vb:=cos') rfl rfl (a10.ext e05) (a11.mono fun _ _=>CmR.ext e05) (b10.ext e05) (b11.mono fun _ _=>CmR.ext e05) hl6 (by omega) e6 (fun q6 h7 e7=>?_) fun hne h7 e7=>?_
 ·exact qCi hk (e05.trans e7) (bk_eq.mpr ⟨q1,q2,q3,q4,q5,q6⟩)
 ·show xs X.r _ _ _
  rw [xs_r,nth0,qQc]
  exact no h7 e7 fun e=>hne (by rw [e])
end Go.Proofs.YtkdneddcocggdaaGreatDoor.Am
namespace Go.Proofs.Sp
open Go Go.Lib Sys
theorem qGy {sig:Sg} {s:Bs} {l:List Int} (h:qZo sig s=.ok l):l.length≤s.length+1:=by
 unfold qZo at h
 split at h
 ·cases h
 ·rename_i u r hr
  split at h
  ·rename_i h0
   injection h with h
   subst h; subst h0
   have:=qFp _ _ _ _ hr
   simpa using this
  ·cases h
def ttl (w:List Bs):Nat:=(w.map fun x=>x.length+1).sum
theorem xBt (w:List Bs) (i:Nat):(at1 w i).length≤ttl w:=by
 unfold at1
 cases hx:w[i]? with
 | none=>simp
 | some x =>
  have:=xKt (C:=fun x:Bs=>x.length+1) (List.mem_of_getElem? hx)
  show x.length≤_
  unfold cst at this
  unfold ttl; omega
theorem xPp:∀ w:List Bs,w.length≤ttl w
 | []=>by simp
 | x::w=>by
  have:=xPp w
  unfold ttl at *
  simp only [List.map_cons,List.sum_cons,List.length_cons]; omega
theorem qHp {B:Bk} {n m:Nd} {k:Nat} (hl:qAj B=.ok n) (h:ndC m≤ndC n+k):bkC (qZm B m)≤bkC B+k:=by
 unfold qAj at hl
 have hl:=qHd.mp hl
 obtain ⟨pre,hp⟩:∃ pre,B.cert=pre++[n]:=by
  rw [List.getLast?_eq_some_iff] at hl
  exact hl
 unfold bkC qZm
 simp only
 rw [hp,List.dropLast_concat,qYe,qYe]
 have:∀ x:Nd,cst ndC [x]=ndC x:=fun x=>by simp [cst]
 rw [this,this]; omega
theorem qGv {sig:Sg} {w:List Bs} {mid:Bs} {r:Ru} (h:qJx sig w mid=.ok r):r.1.length+r.2.length≤2*ttl w+2:=by
 unfold qJx at h
 obtain ⟨_,_,h⟩:=qQg.mp h
 obtain ⟨a,h1,h⟩:=qQg.mp h
 obtain ⟨c,h2,h⟩:=qQg.mp h
 obtain rfl:=Except.ok.inj h
 have:=qGy h1
 have:=qGy h2
 have:=xBt w 1
 have:=xBt w 3
 show a.length+c.length≤_
 omega
theorem xZs {top:Nat}:∀ {ws:List Bs} {es:List Int},qUb top ws=some es→es.length=ws.length
 | [],es,h=>by
  obtain rfl:=Option.some.inj h
  rfl
 | w::ws,es,h=>by
  unfold qUb at h
  split at h
  ·rename_i n hn
   obtain ⟨es',h1,rfl⟩:=Option.map_eq_some_iff.mp h
   simp [xZs h1]
  ·cases h
theorem xEd {B:Bk} {p p':Bool} {w:List Bs} {B':Bk} (h:qJz B p w=.ok (B',p')):bkC B'≤bkC B+100*ttl w+1000:=by
 have one:∀ {α:Type} {C:α→Nat} {x:α},cst C [x]=C x:=by intro α C x; simp [cst]
 have none_:∀ {α:Type} {C:α→Nat},cst C []=0:=by intro α C; rfl
 unfold qJz at h
 split at h
 ·obtain ⟨B1,h1,h⟩:=qQg.mp h
  obtain ⟨rfl,_⟩:=Prod.mk.inj (Except.ok.inj h)
  unfold symM at h1
  obtain ⟨_,_,h1⟩:=qQg.mp h1
  obtain ⟨_,_,h1⟩:=qQg.mp h1
  obtain ⟨_,_,h1⟩:=qQg.mp h1
  obtain ⟨n,hn,h1⟩:=qQg.mp h1
  obtain ⟨_,hm,h1⟩:=qQg.mp h1
  obtain rfl:=Except.ok.inj h1
  unfold bkC
  simp only [qYe,one,syC]; omega
 ·obtain ⟨B1,h1,h⟩:=qQg.mp h
  obtain ⟨rfl,_⟩:=Prod.mk.inj (Except.ok.inj h)
  unfold qWl at h1
  dsimp only at h1
  by_cases hc:at1 w 0=qJw
  ·rw [if_pos hc] at h1
   obtain ⟨r,hr,h1⟩:=qQg.mp h1
   obtain ⟨_,hm,h1⟩:=qQg.mp h1
   obtain rfl:=Except.ok.inj h1
   have:=qGv hr
   unfold bkC
   simp only [qYe,one,ruC]; omega
  rw [if_neg hc] at h1
  by_cases hc:at1 w 0=wEq
  ·rw [if_pos hc] at h1
   obtain ⟨r,hr,h1⟩:=qQg.mp h1
   obtain ⟨_,hm,h1⟩:=qQg.mp h1
   obtain rfl:=Except.ok.inj h1
   have:=qGv hr
   unfold bkC
   simp only [qYe,one,ruC]; omega
  rw [if_neg hc] at h1
  by_cases hc:at1 w 0=qVc
  ·rw [if_pos hc] at h1
   obtain ⟨_,_,h1⟩:=qQg.mp h1
   obtain ⟨_,_,h1⟩:=qQg.mp h1
   obtain ⟨_,_,h1⟩:=qQg.mp h1
   obtain rfl:=Except.ok.inj h1
   unfold bkC
   simp only [qYe,one,prC]; omega
  rw [if_neg hc] at h1
  by_cases hc:at1 w 0=qYw
  ·rw [if_pos hc] at h1
   obtain ⟨_,_,h1⟩:=qQg.mp h1
   obtain ⟨_,_,h1⟩:=qQg.mp h1
   obtain ⟨_,_,h1⟩:=qQg.mp h1
   obtain rfl:=Except.ok.inj h1
   unfold bkC
   simp only [qYe,one,ndC,none_]; omega
  rw [if_neg hc] at h1
  by_cases hc:at1 w 0=qVv
  ·rw [if_pos hc] at h1
   obtain ⟨_,_,h1⟩:=qQg.mp h1
   obtain ⟨n,hl,h1⟩:=qQg.mp h1
   obtain ⟨_,_,h1⟩:=qQg.mp h1
   obtain ⟨_,_,h1⟩:=qQg.mp h1
   obtain rfl:=Except.ok.inj h1
   exact Nat.le_trans (qHp hl (k:=100) (by unfold ndC; simp only [qYe,one,prC]; omega)) (by omega)
  rw [if_neg hc] at h1
  by_cases hc:at1 w 0=wSet
  ·rw [if_pos hc] at h1
   obtain ⟨_,_,h1⟩:=qQg.mp h1
   obtain ⟨n,hl,h1⟩:=qQg.mp h1
   obtain ⟨_,_,h1⟩:=qQg.mp h1
   obtain rfl:=Except.ok.inj h1
   exact Nat.le_trans (qHp hl (k:=100) (by unfold ndC; simp only [qYe,one,itC,none_]; omega)) (by omega)
  rw [if_neg hc] at h1
  by_cases hc:at1 w 0=qVo
  ·rw [if_pos hc] at h1
   obtain ⟨_,_,h1⟩:=qQg.mp h1
   obtain ⟨n,hl,h1⟩:=qQg.mp h1
   obtain ⟨it,hit,h1⟩:=qQg.mp h1
   obtain ⟨co,_,h1⟩:=qQg.mp h1
   obtain ⟨es,hes,h1⟩:=qQg.mp h1
   obtain rfl:=Except.ok.inj h1
   have hes:=xZs (qHd.mp hes)
   rw [List.length_drop] at hes
   have hw:=xPp w
   have hit:=qHd.mp hit
   rw [List.getLast?_eq_some_iff] at hit
   obtain ⟨pre,hp⟩:=hit
   refine Nat.le_trans (qHp hl (k:=30*ttl w+700) ?_) (by omega)
   unfold ndC
   simp only
   rw [hp,List.dropLast_concat]
   simp only [qYe,one,itC,moC]
   omega
  rw [if_neg hc] at h1
  by_cases hc:at1 w 0=qWy∨at1 w 0=qZa∨at1 w 0=qAg∨at1 w 0=qWm∨at1 w 0=qZb
  ·rw [if_pos hc] at h1
   obtain ⟨_,_,h1⟩:=qQg.mp h1
   obtain rfl:=Except.ok.inj h1
   unfold bkC
   simp only [qYe,one,cmC,List.flatten_nil,List.length_nil]; omega
  rw [if_neg hc] at h1
  by_cases hc:at1 w 0=qZk
  ·rw [if_pos hc] at h1
   obtain ⟨_,_,h1⟩:=qQg.mp h1
   obtain ⟨l,hr,h1⟩:=qQg.mp h1
   obtain rfl:=Except.ok.inj h1
   have:=qGy hr
   have:=xBt w 1
   unfold bkC
   simp only [qYe,one,cmC,List.flatten_cons,List.flatten_nil,List.append_nil,List.length_cons,List.length_nil]; omega
  rw [if_neg hc] at h1
  by_cases hc:at1 w 0=qVp
  ·rw [if_pos hc] at h1
   obtain ⟨r,hr,h1⟩:=qQg.mp h1
   obtain rfl:=Except.ok.inj h1
   have:=qGv hr
   unfold bkC
   simp only [qYe,one,cmC,List.flatten_cons,List.flatten_nil,List.append_nil,List.length_cons,List.length_nil,List.length_append]; omega
  rw [if_neg hc] at h1
  cases h1
theorem xQy (x:UInt8):∀ l:Bs,ttl (qVb x l)=l.length+1
 | []=>rfl
 | b::l=>by
  have ih:=xQy x l
  unfold qVb
  split
  ·unfold ttl at *
   simp only [List.map_cons,List.sum_cons,List.length_nil,List.length_cons,ih]; omega
  ·unfold ttl at *
   split
   ·rename_i h
    rw [h] at ih
    simp at ih
   ·rename_i c cs h
    rw [h] at ih
    simp only [List.map_cons,List.sum_cons,List.length_cons] at *
    omega
theorem xGo:∀ {a b:List Bs},a.Sublist b→ttl a≤ttl b:=fun s=>by
 induction s with
 | slnil=>exact Nat.le_refl _
 | cons x _ ih=>unfold ttl at *; simp only [List.map_cons,List.sum_cons]; omega
 | cons_cons x _ ih=>unfold ttl at *; simp only [List.map_cons,List.sum_cons]; omega
theorem xJy (l:Bs):ttl (qXd l)≤l.length+1:=by
 rw [← xQy 32 l]
 exact xGo List.filter_sublist
theorem qCs:∀ (ls:List Bs) (B:Bk) (p:Bool) (n:Nat) (y:Bk × Bool),qJr B p n ls=.ok y→bkC y.1≤bkC B+1100*ttl ls
 | [],B,p,n,y,h=>by
  obtain rfl:=Except.ok.inj h
  exact Nat.le_add_right _ _
 | l::ls,B,p,n,y,h=>by
  have ht:ttl (l::ls)=l.length+1+ttl ls:=rfl
  unfold qJr at h
  split at h
  ·have:=qCs ls B p (n+1) y h
   omega
  ·split at h
   ·rename_i B1 p1 hl
    have h1:=qCs ls B1 p1 (n+1) y h
    have h2:=xEd hl
    have h3:=xJy l
    omega
   ·cases h
end Go.Proofs.Sp
namespace Go.Proofs.YtkdneddcocggdaaGreatDoor.Am
open Go Go.Proofs Go.RowKit Go.Lib Sys Sp
set_option maxRecDepth 100000
def sum0:Sg:=[([122,101,114,111],0),([115],1),([112,108,117,115],2)]
def qBz:Bk:=⟨sum0,[([2,0,-1],[-1])],[],[],[⟨1,0,[(2,1)],[]⟩],[⟨qZk,[[1,0]]⟩]⟩
def xPu:Bs:=[115,121,109,32,122,101,114,111,32,48,10,115,121,109,32,115,32,49,10,115,121,109,32,112,108,117,115,32,50,10,114,117,108,101,32,112,108,117,115,40,122,101,114,111,44,95,48,41,32,45,62,32,95,48,10,110,111,100,101,32,108,112,111,32,48,10,111,118,101,114,32,112,108,117,115,32,115,10,110,111,114,109,97,108,32,115,40,122,101,114,111,41]
theorem xDx:qPd xPu=.ok (qBz,true):=by kernel_rfl
theorem xKd:qPd [99,104,101,99,107,10,115,121,109,32,102,32,49]=.error (2,222):=by kernel_rfl
theorem xOm:qZu (toSy sum0)=0:=by kernel_rfl
def xVw:Bs:=[112,108,117,115,40,115,40,95,48,41,44,122,101,114,111,41]
theorem xIp:qMc (toSy sum0) xVw=.ok [2,1,-1,0]:=by kernel_rfl
theorem xDv:qMc (toSy sum0) [122,101,114,111,40,41]=.error 224:=by kernel_rfl
theorem xDu:qMc (toSy sum0) [95,48,49]=.error 225:=by kernel_rfl
theorem qMd {sig:Sg} {s:Bs} {u:List Int} (h:qZo sig s=.ok u):qAh sig u=.ok s:=by
 have w:=qGz h
 unfold qAh
 have h0:scan sig 1 u=0:=w.term
 rw [if_neg (by rw [h0]; simp),W_of w]
theorem ex_W:W (S2 (toSy sum0)) [2,1,-1,0]=xVw:=W_of (qGz (sig:=S2 (toSy sum0)) (s:=xVw) (by kernel_rfl))
theorem xOo:qJv (toSy sum0) [2,1,-1,0]=0:=by kernel_rfl
theorem xIq:xUo (toSy sum0) [2,1,-1,0]=.ok xVw:=by
 unfold xUo
 rw [xOo,ex_W,if_neg (by simp),if_neg (by decide)]
theorem xIr:qDu sum0 qJw qWe [([2,0,-1],[-1])]=.ok [114,117,108,101,32,112,108,117,115,40,122,101,114,111,44,95,48,41,32,45,62,32,95,48,10]:=by
 unfold qDu allM allM qTt
 have t1:qAh sum0 [2,0,-1]=.ok [112,108,117,115,40,122,101,114,111,44,95,48,41]:=qMd (by kernel_rfl)
 have t2:qAh sum0 [-1]=.ok [95,48]:=qMd (by kernel_rfl)
 simp only [t1,t2]
 show (_:Except Int Bs)=_
 kernel_rfl
theorem xOn:allM (cmdW sum0) [⟨qZk,[[1,0]]⟩]=.ok [110,111,114,109,97,108,32,115,40,122,101,114,111,41,10]:=by
 unfold allM allM cmdW rowM rowM
 have t1:qAh sum0 [1,0]=.ok [115,40,122,101,114,111,41]:=qMd (by kernel_rfl)
 simp only [t1]
 show (_:Except Int Bs)=_
 kernel_rfl
theorem xDw:xZp qBz=.ok (xPu++[10]):=by
 unfold xZp xAf
 have e1:qZu (toSy qBz.sig)=0:=xOm
 have e2:qDu qBz.sig qJw qWe qBz.rules=_:=xIr
 have e3:qDu qBz.sig wEq wIs qBz.eqs=.ok []:=by kernel_rfl
 have e4:allM (cmdW qBz.sig) qBz.cmds=_:=xOn
 rw [e1,if_neg (by simp),e2,e3,e4]
 show (_:Except Int Bs)=_
 kernel_rfl
variable {D:Orc} {E:Dorc} {h h' h0 g:H} {k:Kv} {kp:Kp} {L R:List Res} {B:Bk} {V:BkV} {N:Nat}
theorem BkA.ext {c:List Value} (b:BkA h c B) (e:Ext h h'):BkA h' c B:=by
 obtain ⟨⟨sg,ru,eq,pr,ce,co,rus,eqs,ces,cos,hc,a1,a2,a3,a4,a5,a6,a7,a8,a9,a10,a11⟩,n1,n2,n3,n4,n5,n6,sz⟩:=b
 exact ⟨⟨sg,ru,eq,pr,ce,co,rus,eqs,ces,cos,hc,a1.ext e,a2.ext e,a3.mono fun _ _ i=>i.ext e,a4.ext e,a5.mono fun _ _ i=>i.ext e,a6.ext e,a7,a8.ext e,a9.mono fun _ _ i=>NdR.ext e i,a10.ext e,a11.mono fun _ _ i=>CmR.ext e i⟩,n1,n2,n3,n4,n5,n6,sz⟩
theorem xUv {c:List Value} {r:Ru} (e:Ext g h):RuB g c r→RuI h c r:=fun ⟨v,w,h1,h2,h3⟩=>⟨v,w,h1,h2.ir.ext e,h3.ir.ext e⟩
theorem qIc {bp:Nat} {tl:List Value} (o:Hp h0 h (bkL bp tl V g B R)) (I:BkI g V B) (s:Sm N B) (hN:N<2 ^ 30) (hsz:bkC B<2 ^ 36):BkA h [V.sg,V.ru,V.eq,V.pr,V.ce,V.co] B:=by
 obtain ⟨g',e,o',hce⟩:=xQz o I s (by omega)
 have eg:Ext g' h:=(o'.get (i:=1) rfl:(frzR g').ok h)
 have egg:Ext g h:=e.trans eg
 refine ⟨⟨V.sg,V.ru,V.eq,V.pr,V.ce,V.co,V.rur,V.eqr,V.cer,V.cor,rfl,s.sr (o'.rowK (i:=2) rfl),o'.rowK (i:=3) rfl,I.ru.mono fun _ _=>xUv egg,o'.rowK (i:=4) rfl,I.eq.mono fun _ _=>xUv egg,o'.rowK (i:=5) rfl,I.pr,o'.rowK (i:=6) rfl,hce.mono fun _ _=>NdR.ext eg,o'.rowK (i:=7) rfl,I.co.mono fun _ _=>CmR.ext egg⟩,?_,?_,?_,?_,?_,?_,hsz⟩
 ·have:=s.sig; omega
 ·have:=s.rules; omega
 ·have:=s.eqs; omega
 ·have:=s.prec; omega
 ·have:=s.cert; omega
 ·have:=s.cmds; omega
theorem qFs (h:H):BkA h nilB Bk.nil:=⟨⟨_,_,_,_,_,_,[],[],[],[],rfl,⟨RowK.nil_,by decide,fun x hx=>(by cases hx)⟩,RowK.nil_,.nil_,RowK.nil_,.nil_,RowK.nil_,fun x hx=>(by cases hx),RowK.nil_,.nil_,RowK.nil_,.nil_⟩,by decide,by decide,by decide,by decide,by decide,by decide,by decide⟩
theorem qCm {t:Bs} {y:Bk × Bool} (h:qPd t=.ok y):bkC y.1<2 ^ 36∧t.length≤65536:=by
 unfold qPd at h
 split at h
 ·cases h
 ·rename_i hn
  split at h
  ·cases h
  ·have:=qCs _ _ _ _ _ h
   rw [xQy] at this
   have h0:bkC Bk.nil=0:=rfl
   omega
def qDn (D:Orc) (f:Nat) (T:H→Prop):Prop:=∀ (s:ByteArray) h (k:Kv) kp,s.size<2 ^ 40→T h→(match qPd (bts s) with
  | .ok y=>∀ c h',Ext h h'→BkA h' c y.1→k (.tuple #[.agg c.toArray,.int .i64 0,.int .i64 0]) h'
  | .error y=>∀ h',Ext h h'→k (.tuple #[.agg nilB.toArray,.int .i64 (y.1:Int),.int .i64 y.2]) h')→D f [.string s] h k kp
theorem xOd (sp:qYg D 17 Tbl):qDn D 17 Tbl:=by
 intro s h k kp hs ht hk
 refine sp s h k kp hs ht ?_
 cases hp:qPd (bts s) with
 | error y=>rw [hp] at hk; exact hk
 | ok y =>
  rw [hp] at hk
  intro bp tl V g N h' hN sm I o
  exact hk [V.sg,V.ru,V.eq,V.pr,V.ce,V.co] h' o.ext (qIc o I sm hN (qCm hp).1)
theorem qCq {n:Nat} {ws:List Value} {K:Value→H→Prop} (hn:ws.length=n) (hK:∀ s h',Ext h h'→Row h' s ws→K s h'):Am.qQy h n ws K:=fun b hb=>hK _ _ (Ext.new hb) (Row.cells qQi hn)
theorem qBl {n sz:Nat} {ws:List Value} {vs:List (List Value)} {K:Value→H→Prop} (hn:vs.length=n) (hsz:∀ v∈vs,v.length=sz) (hws:ws=vs.flatten) (hK:∀ s h',Ext h h'→RowK sz h' s vs→K s h'):Am.qQy h n ws K:=fun b hb=>hK _ _ (Ext.new hb) (RowK.cells qQi hn hsz hws)
def qIi (D:Orc) (f:Nat):Prop:=∀ h (k:Kv) kp,(∀ v h',Ext h h'→Sr h' v (toSy sum0)→k v h')→D f [] h k kp
theorem xNj (c:Cl24 D):qIi D 24:=by
 intro h k kp hk
 refine c _ _ _ ?_
 unfold F24
 refine ⟨rfl,by decide,rfl,by decide,rfl,by decide,rfl,by decide,rfl,by decide,rfl,by decide,rfl,by decide,rfl,by decide,?_⟩
 refine qBl (sz:=2) (vs:=qWq (toSy sum0)) rfl (by simp [qWq,toSy,sum0,qXy]) rfl fun s h1 e1 r=>hk s h1 e1 ⟨r,by decide,fun x hx=>?_⟩
 simp only [toSy,sum0,List.map_cons,List.map_nil,List.mem_cons,List.not_mem_nil,or_false] at hx
 rcases hx with rfl | rfl | rfl <;> (rw [qXp]; decide)
theorem xYw {v:Value} {l:List Int} (r:Row h v (Z l)) (hl:l.length<2 ^ 40) (hr:∀ x∈l,inI x):Ir h v l:=⟨r,hl,hr⟩
def qAc (D:Orc) (f:Nat) (T:H→Prop):Prop:=∀ h (k:Kv) kp,T h→(∀ h',Ext h h'→k (.bool true) h')→D f [] h k kp
theorem xNs (c:Cl11 D) (su:qIi D 24) (st:qYu D 12 Tbl) (ss:qCb D 15 Tbl) (sp:qDn D 17 Tbl) (sw:qIl D 20 Tbl) (sr:qJj D 14) (sm:qEv D 19):qAc D 11 Tbl:=by
 intro h k kp ht hk
 refine c _ _ _ ?_
 unfold F11
 refine su h _ _ fun v2 h1 e1 r2=>⟨_,rfl,?_⟩
 have t1:=qQw _ _ e1 ht
 refine st (toSy sum0) v2 _ h1 _ _ (by decide) r2 t1 ?_
 have w1:bts (ByteArray.mk #[112,108,117,115,40,115,40,95,48,41,44,122,101,114,111,41])=xVw:=rfl
 rw [w1,xIp]
 intro v5 h4 e4 b5
 refine ⟨_,_,rfl,?_⟩
 have r5:Ir h4 v5 [2,1,-1,0]:=xYw b5.row (by decide) (by intro x hx; simp at hx; unfold inI; omega)
 refine su h4 _ _ fun v9 h8 e8 r9=>⟨_,rfl,rfl,by decide,rfl,by decide,rfl,by decide,rfl,by decide,?_⟩
 refine qCq (ws:=Z [2,1,-1,0]) rfl fun s10 h11 e11 r10=>?_
 have x11:=(e4.trans e8).trans e11
 have t11:=qQw _ _ x11 t1
 refine ss (toSy sum0) v9 s10 [2,1,-1,0] h11 _ _ (r9.ext e11) t11 (xYw r10 (by decide) (by intro x hx; simp at hx; unfold inI; omega)) (fun _=>by rw [ex_W]; decide) ?_
 rw [xIq]
 intro h13 e13
 refine ⟨_,_,rfl,?_⟩
 refine su h13 _ _ fun v18 h17 e17 r18=>⟨_,rfl,?_⟩
 have x17:=(x11.trans e13).trans e17
 have t17:=qQw _ _ x17 t1
 refine st (toSy sum0) v18 _ h17 _ _ (by decide) r18 t17 ?_
 have w2:bts (ByteArray.mk #[122,101,114,111,40,41])=[122,101,114,111,40,41]:=rfl
 rw [w2,xDv]
 intro h20 e20
 refine ⟨_,_,rfl,?_⟩
 refine su h20 _ _ fun v25 h24 e24 r25=>⟨_,rfl,?_⟩
 have x24:=(x17.trans e20).trans e24
 have t24:=qQw _ _ x24 t1
 refine st (toSy sum0) v25 _ h24 _ _ (by decide) r25 t24 ?_
 have w3:bts (ByteArray.mk #[95,48,49])=[95,48,49]:=rfl
 rw [w3,xDu]
 intro h27 e27
 refine ⟨_,_,rfl,?_⟩
 have x27:=x24.trans e27
 refine sp _ h27 _ _ (by decide) (qQw _ _ x27 t1) ?_
 have w4:qPd (bts (ByteArray.mk #[115,121,109,32,122,101,114,111,32,48,10,115,121,109,32,115,32,49,10,115,121,109,32,112,108,117,115,32,50,10,114,117,108,101,32,112,108,117,115,40,122,101,114,111,44,95,48,41,32,45,62,32,95,48,10,110,111,100,101,32,108,112,111,32,48,10,111,118,101,114,32,112,108,117,115,32,115,10,110,111,114,109,97,108,32,115,40,122,101,114,111,41]))=.ok (qBz,true):=xDx
 rw [w4]
 intro cc h31 e31 bA
 have x31:=x27.trans e31
 obtain ⟨v32,v33,v34,v35,v36,v37,_,_,_,_,rfl,y1,y2,_,y4,_,y6,_,y8,_,y10,_⟩:=bA.sl
 refine ⟨_,_,_,_,_,_,_,_,rfl,?_⟩
 refine (Hp.nil_ h31).new_ fun p40 h41 hp40 o41=>?_
 refine o41.st6 (i:=0) (vs:=[v32,v33,v34,v35,v36,v37]) rfl rfl (by
  simp only [List.all_cons,List.all_nil,qQu y1.row.isSl,qQu y2.isSl,qQu y4.isSl,qQu y6.isSl,qQu y8.isSl,qQu y10.isSl]; rfl) rfl fun h43 o43=>?_
 have o43:Hp h31 h43 (qQp p40 [v32,v33,v34,v35,v36,v37]::[]):=o43
 have x43:=x31.trans o43.ext
 refine sp _ h43 _ _ (by decide) (qQw _ _ x43 t1) ?_
 have w5:qPd (bts (ByteArray.mk #[99,104,101,99,107,10,115,121,109,32,102,32,49]))=.error (2,222):=xKd
 rw [w5]
 intro h45 e45
 refine ⟨_,_,_,_,_,_,_,_,rfl,?_⟩
 refine (Hp.nil_ h45).new_ fun p54 h55 hp54 o55=>?_
 refine o55.st6 (i:=0) (vs:=nilB) rfl rfl rfl rfl fun h57 o57=>?_
 have x57:=(e45.trans o57.ext)
 refine su h57 _ _ fun v60 h59 e59 r60=>⟨_,rfl,rfl,by decide,rfl,by decide,rfl,by decide,?_⟩
 refine qCq (ws:=Z [2,0,-1]) rfl fun s61 h62 e62 r61=>⟨rfl,by decide,?_⟩
 refine qCq (ws:=Z [-1]) rfl fun s63 h64 e64 r63=>⟨qQu r61.isSl,by decide,qQu r63.isSl,by decide,rfl,by decide,?_⟩
 refine qBl (sz:=2) (vs:=[[s61,s63]]) rfl (by simp) rfl fun s65 h66 e66 r65=>⟨rfl,by decide,rfl,by decide,rfl,by decide,?_⟩
 refine qBl (sz:=2) (vs:=[qAi (2,1)]) rfl (by simp [qAi]) rfl fun s67 h68 e68 r67=>⟨rfl,by decide,qQu r67.isSl,by decide,rfl,by decide,?_⟩
 refine qBl (sz:=4) (vs:=[[.int .i64 1,s67,.slice none 0 0,.int .i64 0]]) rfl (by simp) rfl fun s69 h70 e70 r69=>⟨rfl,by decide,rfl,by decide,?_⟩
 refine qCq (ws:=Z [1,0]) rfl fun s71 h72 e72 r71=>⟨qQu r71.isSl,by decide,?_⟩
 refine qCq (ws:=[s71]) rfl fun s73 h74 e74 r73=>⟨rfl,by decide,qQu r73.isSl,by decide,rfl,by decide,?_⟩
 refine qBl (sz:=2) (vs:=[[.string (strB qZk),s73]]) rfl (by simp) rfl fun s75 h76 e76 r75=>⟨qQu r60.row.isSl,by decide,qQu r65.isSl,by decide,qQu r69.isSl,by decide,qQu r75.isSl,by decide,?_⟩
 have z74:=e76
 have z72:=e74.trans z74
 have z70:=e72.trans z72
 have z68:=e70.trans z70
 have z66:=e68.trans z68
 have z64:=e66.trans z66
 have z62:=e64.trans z64
 have z59:=e62.trans z62
 have z57:=e59.trans z59
 have bW:BkA h76 [v60,s65,.slice none 0 0,.slice none 0 0,s69,s75] qBz:=by
  refine ⟨⟨_,_,_,_,_,_,[[s61,s63]],[],[[.int .i64 1,s67,.slice none 0 0,.int .i64 0]],[[.string (strB qZk),s73]],rfl,r60.ext z59,r65.ext z66,?_,RowK.nil_,.nil_,RowK.nil_,fun x hx=>(by cases hx),r69.ext z70,?_,r75,?_⟩,by decide,by decide,by decide,by decide,by decide,by decide,by decide⟩
  ·exact .one_ ⟨s61,s63,rfl,(xYw r61 (by decide) (by intro x hx; simp at hx; unfold inI; omega)).ext z62,(xYw r63 (by decide) (by intro x hx; simp at hx; unfold inI; omega)).ext z64⟩
  ·refine .one_ ⟨s67,.slice none 0 0,[],rfl,by unfold inI; decide,by unfold inI; decide,r67.ext z68,fun x hx=>?_,by decide,RowK.nil_,.nil_,by decide⟩
   have hx:x=(2,1):=by simpa using hx
   rw [hx]
   unfold inP inI
   decide
  ·exact .one_ ⟨s73,[s71],rfl,by decide,r73.ext z74,.one_ ((xYw r71 (by decide) (by intro x hx; simp at hx; unfold inI; omega)).ext z72),by decide⟩
 refine (Hp.nil_ h76).new_ fun p77 h78 hp77 o78=>?_
 refine o78.st6 (i:=0) (vs:=[v60,s65,.slice none 0 0,.slice none 0 0,s69,s75]) rfl rfl (by
  simp only [List.all_cons,List.all_nil,qQu r60.row.isSl,qQu r65.isSl,qQu r69.isSl,qQu r75.isSl]; rfl) rfl fun h80 o80=>?_
 have o80:Hp h76 h80 (qQp p77 [v60,s65,.slice none 0 0,.slice none 0 0,s69,s75]::[]):=o80
 rw [qQf]
 refine ⟨_,_,_,_,_,_,rdn (o80.cell (i:=0) rfl) (by simp),?_⟩
 have x80:=z57.trans o80.ext
 have y80:=(x43.trans x57).trans x80
 refine sw [v60,s65,.slice none 0 0,.slice none 0 0,s69,s75] qBz h80 _ _ (bW.ext o80.ext) (qQw _ _ y80 t1) ?_
 rw [xDw]
 intro h89 e89
 refine ⟨_,_,rfl,?_⟩
 show j11__10 D k kp v5 (.string (strB xVw)) (Pt p40) (.int .i64 0) (.int .i64 2) (Pt p77) (.string (strB (xPu++[10]))) (.bool false) h89
 unfold j11__10
 rw [qQb,qQa,qQa,qQb,qQc,cond_false]
 refine ⟨rfl,by decide,rfl,by decide,rfl,by decide,rfl,by decide,?_⟩
 refine qCq (ws:=Z [2,1,-1,0]) rfl fun s98 h99 e99 r98=>?_
 have y99:=(y80.trans e89).trans e99
 have ye:∀ {h'},Ext h89 h'→Ext h4 h':=fun e=>((((((((e8.trans e11).trans e13).trans e17).trans e20).trans e24).trans e27).trans e31).trans (o43.ext.trans (x57.trans (x80.trans (e89.trans e)))))
 refine sr v5 s98 _ _ h99 _ _ (r5.ext (ye e99)) (xYw r98 (by decide) (by intro x hx; simp at hx; unfold inI; omega)) fun t h101 e101 ht=>⟨t,rfl,?_⟩
 rw [ht.mpr rfl,cond_true,qVd,qQk]
 show cond true _ _
 rw [cond_true]
 have z101:=e99.trans e101
 rw [qQf]
 refine ⟨_,_,_,_,_,_,rdn (((o43.later (x57.trans (x80.trans (e89.trans z101))))).cell (i:=0) rfl) (by simp),?_⟩
 rw [qQf]
 refine ⟨_,_,_,_,_,_,rdn ((o80.later (e89.trans z101)).cell (i:=0) rfl) (by simp),?_⟩
 refine sm [v32,v33,v34,v35,v36,v37] [v60,s65,.slice none 0 0,.slice none 0 0,s69,s75] qBz qBz h101 _ _ (bA.ext (o43.ext.trans (x57.trans (x80.trans (e89.trans z101))))) (bW.ext (o80.ext.trans (e89.trans z101))) fun t h118 e118 ht=>⟨t,rfl,?_⟩
 rw [ht.mpr rfl,cond_true,qVd,qQk]
 show k (.bool (xPu++[10]==xPu++[10])) h118
 rw [beq_self_eq_true]
 exact hk h118 (e1.trans (y99.trans (e101.trans e118)))
end Go.Proofs.YtkdneddcocggdaaGreatDoor.Am
namespace Go.Proofs.Sp
open Go Go.Lib Sys
theorem xKb {l:List UInt8} (hl:l≠[]) (hr:(decodeL l).1=65533):(decodeL l).2=1↔¬ l.take 3=[239,191,189]:=by
 constructor
 ·intro hw h3
  have hsp:l=[239,191,189]++l.drop 3:=by rw [← h3,List.take_append_drop]
  have hd:decodeL ([239,191,189]:List UInt8)=(65533,3):=by rw [decL]; decide
  have:decodeL l=(65533,3):=by rw [hsp,xLd (by simp) (by rw [hd]; decide),hd]
  rw [this] at hw
  cases hw
 ·intro h3
  by_cases hw:(decodeL l).2=1
  ·exact hw
  ·exfalso
   have he:=encode_decode l hl (by omega)
   rw [hr] at he
   have h1:encodeRune ((65533:Nat):Int)=[239,191,189]:=by decide
   rw [h1] at he
   have hlen:=congrArg List.length he
   rw [List.length_take] at hlen
   have h2:=decodeL_le l hl
   have:(decodeL l).2=3:=by simp at hlen; omega
   rw [this] at he
   exact h3 he.symm
end Go.Proofs.Sp
namespace Go.Proofs.YtkdneddcocggdaaGreatDoor.Am
open Go Go.Proofs Go.RowKit Go.Lib Sys Sp
set_option maxRecDepth 100000
variable {D:Orc} {E:Dorc} {h h' h0:H} {k:Kv} {kp:Kp}
theorem xDb {kd:IntKind} {n:Int} {k:Option Int→Prop}:optI (some (.int kd n)) k=k (some n):=rfl
theorem qAm {s:ByteArray} {n m:Int} {k:ByteArray→Prop} (h0:0≤n) (h1:n≤m) (h2:m≤s.size) (hk:∀ t,bts t=((bts s).take m.toNat).drop n.toNat→k t):qXe s (some n) (some m) k:=by
 refine ⟨by simpa using h0,by simpa using h1,by simpa using h2,hk _ ?_⟩
 rw [qYf]
 simp
theorem xPi {s:ByteArray} {b:Nat} (h0b:h0 b=none) (hs:s.size<2 ^ 40) {K:Kl} {I:List Value→H→Prop} (hI:∀ a0 a1 h,round32_2 D I K a0 a1 h→I [a0,a1] h) :
  ∀ (n p:Nat) (h:H),s.size - p≤n→h b=some (.sit s p)→Ext h0 h→(∀ h',Ext h0 h'→validD ((bts s).drop p)=true→K (.e 0) [] h')→(∀ h',Ext h0 h'→validD ((bts s).drop p)=false→K .r [.bool false] h') →
   I [.string s,.pointer (some ⟨b,0,none⟩)] h:=by
 have hbl:(bts s).length=s.size:=rfl
 intro n
 induction n with
 | zero =>
  intro p h hn hb he hK1 hK2
  refine hI _ _ _ ?_
  unfold round32_2
  rw [qQb,qQf]
  refine qVe hb (fun _=>?_) (fun hp=>by omega)
  rw [show (#[Value.bool false]:Array Value)=[Value.bool false].toArray from rfl,ex0,qQc,cond_false]
  exact hK1 _ he (by rw [List.drop_eq_nil_of_le (by omega)]; rfl)
 | succ n ih =>
  intro p h hn hb he hK1 hK2
  refine hI _ _ _ ?_
  unfold round32_2
  rw [qQb,qQf]
  refine qVe hb (fun hp=>?_) (fun hp=>?_)
  ·rw [show (#[Value.bool false]:Array Value)=[Value.bool false].toArray from rfl,ex0,qQc,cond_false]
   exact hK1 _ he (by rw [List.drop_eq_nil_of_le (by omega)]; rfl)
  ·have hw:=width_pos s p
   have hne:(bts s).drop p≠[]:=by
    intro h0
    have:=congrArg List.length h0
    rw [List.length_drop,hbl] at this
    simp at this; omega
   have hL:decodeL ((bts s).drop p)=Utf8.decode s p:=decodeL_drop s p
   have step:=validD_step _ hne
   have fs:=xKb (l:=(bts s).drop p) hne
   rw [hL,List.drop_drop] at step
   rw [hL] at fs
   generalize Utf8.decode s p=rw at step fs hw ⊢
   obtain ⟨r,wd⟩:=rw
   dsimp only at step fs hw ⊢
   rw [show (#[Value.bool true,Value.int .i64 ((p:Nat):Int),Value.int .i32 ((r:Nat):Int)]:Array Value)=[Value.bool true,Value.int .i64 ((p:Nat):Int),Value.int .i32 ((r:Nat):Int)].toArray from rfl,ex0,qQc,cond_true,ex1,ex2,qQa]
   have he':Ext h0 (h.set b (.sit s (p+wd))):=he.set h0b
   have fin:∀ t:Bool,(t=true↔(r=65533∧wd=1))→j32_2_5 D I K (.string s) (.pointer (some ⟨b,0,none⟩)) (.bool t) (h.set b (.sit s (p+wd))):=fun t ht=>by
    unfold j32_2_5
    rw [qQb,qQc]
    cases t with
    | true =>
     rw [if_pos (ht.mp rfl)] at step
     exact hK2 _ he' step
    | false =>
     rw [if_neg (fun hh=>by have:=ht.mpr hh; cases this)] at step
     exact ih (p+wd) _ (by omega) qQi he' (fun h' e hk=>hK1 h' e (by rw [step]; exact hk)) fun h' e hk=>hK2 h' e (by rw [step]; exact hk)
   rw [qXf]
   refine ⟨fun hr=>?_,fun hr=>fin false ⟨fun hh=>(by cases hh),fun hh=>absurd hh.1 (by omega)⟩⟩
   have hr:r=65533:=by omega
   have fs:=fs hr
   rw [qQa,qQo (by omega) (by omega),qQn,qQd]
   refine ⟨fun hlt=>?_,fun hge=>?_⟩
   ·refine fin true ⟨fun _=>⟨hr,fs.mpr fun h3=>?_⟩,fun _=>rfl⟩
    have:=congrArg List.length h3
    rw [List.length_take,List.length_drop,hbl] at this
    simp at this; omega
   ·rw [qQa]
    rw [qQo (by omega) (by omega),xDb]
    refine qAm (by omega) (by omega) (by omega) fun t htt=>?_
    refine fin _ ?_
    have h3:bts t=((bts s).drop p).take 3:=by
     rw [htt,Int.toNat_natCast,List.drop_take]
     congr 1; omega
    rw [qQz,qQz,h3]
    have hx:bts (ByteArray.mk #[239,191,189])=[239,191,189]:=rfl
    rw [hx,Bool.not_eq_true',beq_eq_false_iff_ne]
    exact ⟨fun h=>⟨hr,fs.mpr h⟩,fun h=>fs.mp h.2⟩
theorem xFx (c:Cl32 D) {s:ByteArray} (hs:s.size<2 ^ 40) (hk:∀ h',Ext h h'→k (.bool (validD (bts s))) h'):D 32 [.string s] h k kp:=by
 refine c _ _ _ _ ?_
 unfold F32
 rw [qQb]
 intro b hb I hI
 refine xPi hb hs hI s.size 0 _ (by omega) qQi (Ext.new hb) (fun h' e hv=>?_) fun h' e hv=>?_
 ·rw [xs_e]
  show cond true _ _
  rw [cond_true]
  have:=hk h' e
  rw [List.drop_zero] at hv
  rw [hv] at this; exact this
 ·rw [xs_r,nth0,qQc]
  have:=hk h' e
  rw [List.drop_zero] at hv
  rw [hv] at this; exact this
def qEx (D:Orc) (f:Nat):Prop:=∀ (s:ByteArray) h (k:Kv) kp,s.size<2 ^ 40→k (.int .i64 (((bts s).takeWhile Sp.qXc).length:Int)) h→D f [.string s] h k kp
theorem xLa (b:UInt8):Sp.qXc b=(decide ((b.toNat:Int)≥48) && decide ((b.toNat:Int)≤57)):=by
 unfold Sp.qXc
 rw [Bool.eq_iff_iff]
 simp; omega
theorem xMf (c:Cl76 D):qEx D 76:=by
 intro s h k kp hs hk
 refine c _ _ _ _ ?_
 unfold F76
 rw [qQb]
 have hbl:(bts s).length=s.size:=rfl
 intro I hI
 have key:∀ m i:Nat,i+m=s.size→i+(((bts s).drop i).takeWhile Sp.qXc).length=((bts s).takeWhile Sp.qXc).length→I [.string s,.int .i64 (i:Int)] h:=by
  intro m
  induction m with
  | zero =>
   intro i hi hd
   refine hI _ _ _ ?_
   unfold round76_2
   rw [qQb,qQa,qQd]
   refine ⟨fun hlt=>by omega,fun _=>?_⟩
   rw [List.drop_eq_nil_of_le (by omega)] at hd
   have hd:i+0=((bts s).takeWhile Sp.qXc).length:=hd
   rw [xs_e]
   show cond true _ _
   rw [cond_true,nth0,qQa]
   rw [← hd] at hk
   exact hk
  | succ m ih =>
   intro i hi hd
   refine hI _ _ _ ?_
   unfold round76_2
   rw [qQb,qQa,qQd]
   refine ⟨fun _=>?_,fun hge=>by omega⟩
   have hil:i<(bts s).length:=by omega
   have hds:(bts s).drop i=(bts s)[i]::(bts s).drop (i+1):=List.drop_eq_getElem_cons hil
   rw [hds,List.takeWhile_cons] at hd
   have stop:Sp.qXc (bts s)[i]=false→xs (X.e 0) (intK .i64 (nth [Value.int .i64 (i:Int)] 0) (fun x10=>k (.int .i64 x10) h)) (fun i9=>cond (Nat.beq i9 0) (intK .i64 (nth [Value.int .i64 (i:Int)] 0) (fun x11=>k (.int .i64 x11) h)) (False)) (fun c=>kp c h):=fun hf=>by
    rw [hf] at hd
    have hd:i+0=((bts s).takeWhile Sp.qXc).length:=hd
    rw [xs_e]
    show cond true _ _
    rw [cond_true,nth0,qQa]
    rw [← hd] at hk
    exact hk
   refine qQx (by omega) (by omega) fun b hb=>?_
   rw [Int.toNat_natCast,List.getElem?_eq_getElem hil] at hb
   have hb:=Option.some.inj hb
   rw [hb] at hd stop
   rw [xLa] at hd stop
   rw [qQd]
   refine ⟨fun h48=>?_,fun h48=>stop (by rw [decide_eq_false h48]; rfl)⟩
   refine qQx (by omega) (by omega) fun b' hb'=>?_
   rw [Int.toNat_natCast,List.getElem?_eq_getElem hil,hb] at hb'
   obtain rfl:=Option.some.inj hb'
   rw [qQd]
   refine ⟨fun h57=>?_,fun h57=>stop (by rw [decide_eq_false h57,Bool.and_false])⟩
   rw [decide_eq_true h48,decide_eq_true h57] at hd
   simp only [Bool.and_self,if_true,List.length_cons] at hd
   rw [qQo (by omega) (by omega)]
   have e2:(i:Int)+1=((i+1:Nat):Int):=by omega
   rw [e2]
   exact ih (i+1) (by omega) (by omega)
 exact key s.size 0 (by omega) (by simp)
theorem xQa {l:Bs}:numV l=if qVm l then some (dec l) else none:=by
 have hv:valD l=dec l:=rfl
 unfold numV
 rw [hv]
 by_cases h:qVm l=true
 ·rw [if_pos h,if_pos (by rw [← qPv]; exact (xGn h).symm)]
 ·rw [if_neg h,if_neg]
  intro e
  apply h
  rw [e,← qPv]
  exact (xWd _).1
theorem qNq {p:UInt8→Bool}:∀ {l:Bs},(l.takeWhile p).length=l.length↔l.all p=true
 | []=>by simp
 | b::l=>by
  rw [List.takeWhile_cons,List.all_cons]
  cases hb:p b with
  | true=>simp [qNq (l:=l)]
  | false=>simp
theorem xVj (l:Bs) (b:UInt8):dec (l++[b])=10*dec l+(b.toNat - 48):=qGc l b
theorem xGg:∀ (n:Nat) (l:Bs),l.length=n→l.all Sp.qXc=true→dec l<10 ^ n
 | 0,l,hn,_=>by
  obtain rfl:=List.length_eq_zero_iff.mp hn
  decide
 | n+1,l,hn,hd=>by
  rcases List.eq_nil_or_concat l with rfl | ⟨m,b,rfl⟩
  ·simp at hn
  ·simp only [List.concat_eq_append] at *
   rw [List.all_append,Bool.and_eq_true] at hd
   have h1:=xGg n m (by simpa using hn) hd.1
   have hb:Sp.qXc b=true:=by simpa using hd.2
   unfold Sp.qXc at hb
   simp only [Bool.and_eq_true,decide_eq_true_eq] at hb
   rw [xVj,Nat.pow_succ]
   omega
theorem xGh:∀ (n:Nat) (l:Bs),l.length=n+1→l.all Sp.qXc=true→(∀ x r,l=x::r→x≠48)→10 ^ n≤dec l
 | 0,l,hn,hd,hh=>by
  obtain ⟨x,rfl⟩:=List.length_eq_one_iff.mp hn
  have:=hh x [] rfl
  have hb:Sp.qXc x=true:=by simpa using hd
  unfold Sp.qXc at hb
  simp only [Bool.and_eq_true,decide_eq_true_eq] at hb
  have:x.toNat≠48:=fun e=>this (UInt8.toNat_inj.mp e)
  show 1≤10*0+(x.toNat - 48)
  omega
 | n+1,l,hn,hd,hh=>by
  rcases List.eq_nil_or_concat l with rfl | ⟨m,b,rfl⟩
  ·simp at hn
  ·simp only [List.concat_eq_append] at *
   rw [List.all_append,Bool.and_eq_true] at hd
   have h1:=xGh n m (by simpa using hn) hd.1 fun x r e=>hh x (r++[b]) (by rw [e]; rfl)
   rw [xVj,Nat.pow_succ]
   omega
def qGg (D:Orc) (f:Nat):Prop:=∀ (s:ByteArray) (top:Nat) h (k:Kv) kp,s.size<2 ^ 40→top<10 ^ 18→(∀ n,numT (bts s) top=some n→k (.tuple #[.int .i64 (n:Int),.bool true]) h)→(numT (bts s) top=none→∀ x,k (.tuple #[.int .i64 x,.bool false]) h)→D f [.string s,.int .i64 (top:Int)] h k kp
theorem xMe (c:Cl77 D) (sd:qEx D 76):qGg D 77:=by
 intro s top h k kp hs htop hk1 hk2
 refine c _ _ _ _ _ ?_
 unfold F77
 rw [qQb,qQa]
 have hbl:(bts s).length=s.size:=rfl
 have none_:∀ {t:Bool},t=true→numT (bts s) top=none→j77__2 D k kp (.string s) (.int .i64 (top:Int)) (.bool t) h:=fun ht hn=>by
  subst ht
  unfold j77__2
  rw [qQb,qQa,qQc,cond_true]
  exact hk2 hn 0
 have bad:qVm (bts s)=false→numT (bts s) top=none:=fun hb=>by
  unfold numT
  rw [xQa,if_neg (by rw [hb]; simp)]
 rw [qQn,qXf]
 refine ⟨fun h0=>none_ rfl (bad (by
  have:bts s=[]:=List.length_eq_zero_iff.mp (by omega)
  rw [this]; rfl)),fun h0=>?_⟩
 refine sd s h _ _ hs ⟨_,rfl,?_⟩
 rw [qQn,qZd]
 refine ⟨fun hne=>none_ rfl (bad ?_),fun heq=>?_⟩
 ·rw [← Bool.not_eq_true]
  intro hok
  refine hne ?_
  have hall:(bts s).all Sp.qXc=true:=by
   unfold qVm at hok
   split at hok
   ·cases hok
   ·rename_i x r e
    rw [e]
    exact (Bool.and_eq_true _ _ ▸ hok).2
  have:=qNq.mpr hall
  omega
 ·have hall:(bts s).all Sp.qXc=true:=qNq.mp (by omega)
  obtain ⟨x,r,hxr⟩:=List.exists_cons_of_ne_nil (show bts s≠[] from fun e=>h0 (by
   have:s.size=0:=by rw [← hbl,e]; rfl
   omega))
  have htx:qVm (bts s)=(!(x==48) || r.isEmpty):=by
   rw [hxr] at hall ⊢
   show ((!(x==48) || r.isEmpty) && (x::r).all Sp.qXc)=_
   rw [hall,Bool.and_true]
  have hrl:s.size=r.length+1:=by rw [← hbl,hxr]; rfl
  have good:qVm (bts s)=true→j77__2 D k kp (.string s) (.int .i64 (top:Int)) (.bool (decide ((s.size:Int)>18))) h:=fun hok=>by
   by_cases h18:(s.size:Int)>18
   ·refine none_ (decide_eq_true h18) ?_
    unfold numT
    rw [xQa,if_pos hok]
    have hge:10 ^ (s.size - 1)≤dec (bts s):=xGh (s.size - 1) (bts s) (by omega) hall fun y q e=>by
     rw [hxr] at e
     obtain ⟨rfl,rfl⟩:=List.cons.inj e
     rw [htx] at hok
     rcases (Bool.or_eq_true _ _).mp hok with hok | hok
     ·simpa using hok
     ·have:r=[]:=by simpa using hok
      rw [this] at hrl; simp at hrl; omega
    have:10 ^ 18≤10 ^ (s.size - 1):=Nat.pow_le_pow_right (by omega) (by omega)
    dsimp only
    rw [if_neg (by omega)]
   ·unfold j77__2
    rw [qQb,qQa,qQc,decide_eq_false h18,cond_false]
    intro I hI
    have key:∀ m i:Nat,i+m=s.size→I [.string s,.int .i64 (top:Int),.int .i64 (dec ((bts s).take i):Int),.int .i64 (i:Int)] h:=by
     intro m
     induction m with
     | zero =>
      intro i hi
      refine hI _ _ _ _ _ ?_
      unfold round77_5
      rw [qQb,qQa,qQa,qQa,qQd]
      refine ⟨fun hlt=>by omega,fun _=>?_⟩
      show xs (X.e 0) _ _ _
      rw [xs_e]
      show cond true _ _
      rw [cond_true,nth0,nth1,qQa,qQa,List.take_of_length_le (by omega)]
      have hnv:numT (bts s) top=if dec (bts s)≤top then some (dec (bts s)) else none:=by
       unfold numT
       rw [xQa,if_pos hok]
      by_cases hle:dec (bts s)≤top
      ·rw [decide_eq_true (by omega)]
       exact hk1 _ (by rw [hnv,if_pos hle])
      ·rw [decide_eq_false (by omega)]
       exact hk2 (by rw [hnv,if_neg hle]) _
     | succ m ih =>
      intro i hi
      refine hI _ _ _ _ _ ?_
      unfold round77_5
      rw [qQb,qQa,qQa,qQa,qQd]
      refine ⟨fun _=>?_,fun hge=>by omega⟩
      have hil:i<(bts s).length:=by omega
      refine qQx (by omega) (by omega) fun b hb=>?_
      rw [Int.toNat_natCast] at hb
      have hbd:Sp.qXc b=true:=List.all_eq_true.mp hall b (List.mem_of_getElem? hb)
      have hbd':=hbd
      unfold Sp.qXc at hbd'
      simp only [Bool.and_eq_true,decide_eq_true_eq] at hbd'
      have hlt:=xGg i ((bts s).take i) (by rw [List.length_take]; omega) (List.all_eq_true.mpr fun y hy=>List.all_eq_true.mp hall y ((List.take_sublist _ _).subset hy))
      have hp:10 ^ i≤10 ^ 17:=Nat.pow_le_pow_right (by omega) (by omega)
      have h17:(10:Nat) ^ 17=100000000000000000:=by decide
      have hu:IntKind.u8.wrap ((b.toNat:Int) - 48)=((b.toNat - 48:Nat):Int):=by
       rw [xPl (by omega) (by omega)]; omega
      have w1:IntKind.i64.wrap (10*(dec ((bts s).take i):Int))=10*(dec ((bts s).take i):Int):=qQo (by omega) (by omega)
      have w2:IntKind.i64.wrap ((b.toNat - 48:Nat):Int)=((b.toNat - 48:Nat):Int):=qQo (by omega) (by omega)
      rw [hu,w1,w2,qQo (by omega) (by omega),qQo (by omega) (by omega)]
      have e2:(i:Int)+1=((i+1:Nat):Int):=by omega
      have e3:10*(dec ((bts s).take i):Int)+((b.toNat - 48:Nat):Int)=(dec ((bts s).take (i+1)):Int):=by
       rw [qJh hb]; omega
      rw [e2,e3]
      exact ih (i+1) (by omega)
    exact key s.size 0 (by omega)
  rw [qQd]
  refine ⟨fun h1=>?_,fun h1=>good ?_⟩
  ·refine qQx (by omega) (by omega) fun b hb=>?_
   have hbx:b=x:=by
    rw [hxr] at hb
    simpa using hb.symm
   subst hbx
   rw [qQn,qXf]
   refine ⟨fun h48=>none_ rfl (bad ?_),fun h48=>good ?_⟩
   ·have hb48:b=48:=UInt8.toNat_inj.mp (by
     have:(48:UInt8).toNat=48:=rfl
     omega)
    rw [htx,hb48]
    cases r with
    | nil=>simp at hrl; omega
    | cons y q=>rfl
   ·rw [htx]
    have:b≠48:=fun e=>h48 (by rw [e]; rfl)
    simp [this]
  ·rw [htx]
   have:r=[]:=List.length_eq_zero_iff.mp (by omega)
   rw [this]; simp
end Go.Proofs.YtkdneddcocggdaaGreatDoor.Am
namespace Go.Proofs.Sp
open Go Go.Lib Sys
theorem qRd {g:Bs→Except Int (List Int × Bs)} (hg:∀ s e,g s=.error e→e≠0):∀ (n:Nat) (b:Bool) (s:Bs) (e:Int),qYy g n b s=.error e→e≠0
 | 0,true,s,e,h=>by cases h
 | 0,false,s,e,h=>by
  unfold qYy at h
  split at h
  ·cases h
  ·obtain rfl:=Except.error.inj h; decide
 | n+1,b,s,e,h=>by
  unfold qYy at h
  by_cases hc:s.head?=some (if b then 40 else 44)
  ·rw [if_pos hc] at h
   split at h
   ·rename_i e' he
    obtain rfl:=Except.error.inj h
    exact hg _ _ he
   ·split at h
    ·rename_i e' he
     obtain rfl:=Except.error.inj h
     exact qRd hg n _ _ _ he
    ·cases h
  ·rw [if_neg hc] at h
   obtain rfl:=Except.error.inj h; decide
theorem qBf {sig:Sg}:∀ (f:Nat) (s:Bs) (e:Int),qJf sig f s=.error e→e≠0
 | 0,s,e,h=>by obtain rfl:=Except.error.inj h; decide
 | f+1,s,e,h=>by
  unfold qJf at h
  split at h
  ·split at h
   ·cases h
   ·obtain rfl:=Except.error.inj h; decide
  ·split at h
   ·obtain rfl:=Except.error.inj h; decide
   ·split at h
    ·cases h
    ·rename_i e' he
     obtain rfl:=Except.error.inj h
     exact qRd (qBf f) _ _ _ _ he
end Go.Proofs.Sp
namespace Go.Proofs.YtkdneddcocggdaaGreatDoor.Am
open Go Go.Proofs Go.RowKit Go.Lib Sys Sp
set_option maxRecDepth 100000
variable {D:Orc} {E:Dorc} {h h' h0:H} {k:Kv} {kp:Kp} {L R:List Res}
def qDo (D:Orc) (f:Nat):Prop:=∀ (s:ByteArray) h (k:Kv) kp,s.size<2 ^ 40→(∀ h',Ext h h'→k (.int .i64 (qWt (bts s):Int)) h')→D f [.string s] h k kp
theorem xYg {s:ByteArray} {b:Nat} (h0b:h0 b=none) {K:Kl} {h1:H} (hb1:h1 b=some (.sit s 0)) (e1:Ext h0 h1)
  (hK:∀ h',Ext h0 h'→K (.e 0) [.string s,.int .i64 (qEz (bts s):Int)] h'):loop78_3 D [.string s,.int .i64 (s.size:Int),.pointer (some ⟨b,0,none⟩)] h1 K:=by
 intro I hI
 have hlen:(bts s).length=s.size:=rfl
 have key:∀ (n p:Nat) (h:H),s.size - p≤n→p≤s.size→h b=some (.sit s p)→Ext h0 h→(0<p→qZi (s.get! 0)=true)→(∀ j,j<p→qWr (s.get! j)=true)→I [.string s,.int .i64 (s.size:Int),.pointer (some ⟨b,0,none⟩)] h:=by
  intro n
  induction n with
  | zero =>
   intro p h hn hp hb he hA hB
   refine hI _ _ _ _ ?_
   unfold round78_3
   rw [qQb,qQa,qQf]
   refine qVe hb (fun _=>?_) (fun hp=>by omega)
   rw [show (#[Value.bool false]:Array Value)=[Value.bool false].toArray from rfl,ex0,qQc,cond_false]
   have:=hK _ he
   rw [qEs (l:=bts s) (e:=s.size) (by omega) (fun h0=>⟨_,get!_eq s 0 (by omega),hA (by omega)⟩) (fun j hj=>⟨_,get!_eq s j (by omega),hB j (by omega)⟩) (fun x hx=>by
    have:=(List.getElem?_eq_some_iff.mp hx).1; omega)] at this
   exact this
  | succ n ih =>
   intro p h hn hp hb he hA hB
   refine hI _ _ _ _ ?_
   unfold round78_3
   rw [qQb,qQa,qQf]
   refine qVe hb (fun hp2=>?_) (fun hp2=>?_)
   ·rw [show (#[Value.bool false]:Array Value)=[Value.bool false].toArray from rfl,ex0,qQc,cond_false]
    obtain rfl:p=s.size:=by omega
    have:=hK _ he
    rw [qEs (l:=bts s) (e:=s.size) (by omega) (fun h0=>⟨_,get!_eq s 0 (by omega),hA (by omega)⟩) (fun j hj=>⟨_,get!_eq s j (by omega),hB j (by omega)⟩) (fun x hx=>by
     have:=(List.getElem?_eq_some_iff.mp hx).1; omega)] at this
    exact this
   ·obtain ⟨r1,r2,r3,r4,r5⟩:=qOw hp2
    generalize Utf8.decode s p=rw at r1 r2 r3 r4 r5 ⊢
    obtain ⟨r,wd⟩:=rw
    dsimp only at r1 r2 r3 r4 r5 ⊢
    rw [show (#[Value.bool true,Value.int .i64 ((p:Nat):Int),Value.int .i32 ((r:Nat):Int)]:Array Value)=[Value.bool true,Value.int .i64 ((p:Nat):Int),Value.int .i32 ((r:Nat):Int)].toArray from rfl,ex0,qQc,cond_true,ex1,ex2]
    have he':Ext h0 (h.set b (.sit s (p+wd))):=he.set h0b
    have go:(if p=0 then qZi (s.get! p) else qWr (s.get! p))=true→I [.string s,.int .i64 (s.size:Int),.pointer (some ⟨b,0,none⟩)] (h.set b (.sit s (p+wd))):=fun hc=>by
     have hm1:qWr (s.get! p)=true:=by
      by_cases hp0:p=0
      ·rw [if_pos hp0] at hc; exact qUr hc
      ·rw [if_neg hp0] at hc; exact hc
     refine ih (p+wd) _ (by omega) r4 qQi he' (fun _=>?_) fun j hj=>?_
     ·by_cases hp0:p=0
      ·subst hp0; rwa [if_pos rfl] at hc
      ·exact hA (by omega)
     ·by_cases hjp:j<p
      ·exact hB j hjp
      ·by_cases hje:j=p
       ·subst hje; exact hm1
       ·exact r5 j (by omega) hj hje
    have stop:(if p=0 then qZi (s.get! p) else qWr (s.get! p))=false→K (.e 0) [.string s,.int .i64 (p:Int)] (h.set b (.sit s (p+wd))):=fun hc=>by
     have:=hK _ he'
     rw [qEs (l:=bts s) (e:=p) (by omega) (fun h0=>⟨_,get!_eq s 0 (by omega),hA h0⟩) (fun j hj=>⟨_,get!_eq s j (by omega),hB j hj⟩) (fun x hx=>by
      rw [get!_eq s p hp2] at hx
      obtain rfl:=Option.some.inj hx
      refine ⟨fun h0=>by rwa [if_pos h0] at hc,fun h0=>by rwa [if_neg (by omega)] at hc⟩)] at this
     exact this
    have fin:∀ t:Bool,t=!(if p=0 then qZi (s.get! p) else qWr (s.get! p))→j78_3_8 D I K (.string s) (.int .i64 (s.size:Int)) (.int .i64 (p:Int)) (.pointer (some ⟨b,0,none⟩)) (.bool t) (h.set b (.sit s (p+wd))):=fun t ht=>by
     unfold j78_3_8
     rw [qQb,qQa,qQa,qQc]
     subst ht
     cases hc:(if p=0 then qZi (s.get! p) else qWr (s.get! p)) with
     | true=>exact go hc
     | false=>exact stop hc
    have seven:∀ m:Bool,(if p=0 then qZi (s.get! p) else qWr (s.get! p))=(letter r || m)→j78_3_7 D I K (.string s) (.int .i64 (s.size:Int)) (.int .i64 (p:Int)) (.bool (letter r)) (.bool m) (.pointer (some ⟨b,0,none⟩)) (h.set b (.sit s (p+wd))):=fun m hm=>by
     unfold j78_3_7
     rw [qQb,qQa,qQa,qQc,qQc,qQn]
     cases hl:letter r with
     | true=>exact fin false (by rw [hm,hl]; rfl)
     | false=>exact fin (!m) (by rw [hm,hl]; simp)
    have six:∀ t:Bool,t=letter r→j78_3_6 D I K (.string s) (.int .i64 (s.size:Int)) (.int .i64 (p:Int)) (.int .i32 (r:Int)) (.bool t) (.pointer (some ⟨b,0,none⟩)) (h.set b (.sit s (p+wd))):=fun t ht=>by
     subst ht
     unfold j78_3_6
     rw [qQb,qQa,qQa,qQa,qQc,qQd]
     refine ⟨fun hp0=>?_,fun hp0=>seven false (by rw [if_pos (by omega),← r1,Bool.or_false])⟩
     rw [if_neg (by omega),← r2] at seven
     have hm:more r=(letter r || (48≤r && r≤57) || r==95 || r==39):=rfl
     have a95:∀ x:Bool,x=((48≤r && r≤57) || r==95 || r==39)→more r=(letter r || x):=fun x hx=>by rw [hm,hx,Bool.or_assoc,Bool.or_assoc,Bool.or_assoc]
     have i95:((r:Int)==95)=(r==95):=by rw [Bool.eq_iff_iff]; simp only [beq_iff_eq]; omega
     have i39:((r:Int)==39)=(r==39):=by rw [Bool.eq_iff_iff]; simp only [beq_iff_eq]; omega
     have lst:¬ (48≤r∧r≤57)→cond (!(((r:Int)==95))) (j78_3_7 D I K (.string s) (.int .i64 (s.size:Int)) (.int .i64 (p:Int)) (.bool (letter r)) (.bool ((r:Int)==39)) (.pointer (some ⟨b,0,none⟩)) (h.set b (.sit s (p+wd)))) (j78_3_7 D I K (.string s) (.int .i64 (s.size:Int)) (.int .i64 (p:Int)) (.bool (letter r)) (.bool true) (.pointer (some ⟨b,0,none⟩)) (h.set b (.sit s (p+wd)))):=fun hnd=>by
      have hnd':(decide (48≤r) && decide (r≤57))=false:=by simp; omega
      rw [i95,i39]
      cases h95:(r==95) with
      | true=>exact seven true (a95 _ (by rw [hnd',h95]; rfl))
      | false=>exact seven _ (a95 _ (by rw [hnd',h95]; rfl))
     rw [qQd]
     refine ⟨fun h48=>?_,fun h48=>lst (by omega)⟩
     rw [qQn,qQd]
     refine ⟨fun h57=>seven true (a95 _ ?_),fun h57=>?_⟩
     ·have:(decide (48≤r) && decide (r≤57))=true:=by simp; omega
      rw [this]; rfl
     ·have:=lst (by omega)
      exact this
    have hl:letter r=((97≤r && r≤122) || (65≤r && r≤90) || 128≤r):=rfl
    have d128:decide ((r:Int)≥128)=decide (128≤r):=by congr 1; exact propext (by omega)
    have yes:(97≤r∧r≤122)∨(65≤r∧r≤90)→true=letter r:=fun h=>by rw [hl]; symm; simp; omega
    have no:¬ ((97≤r∧r≤122)∨(65≤r∧r≤90))→decide (128≤r)=letter r:=fun h=>by rw [hl,Bool.eq_iff_iff]; simp; omega
    simp only [qQa,qQn,qQd,d128]
    exact ⟨fun h1=>⟨fun h2=>six _ (yes (by omega)),fun h2=>⟨fun h3=>⟨fun h4=>six _ (yes (by omega)),fun h4=>six _ (no (by omega))⟩,fun h3=>six _ (no (by omega))⟩⟩,fun h1=>⟨fun h3=>⟨fun h4=>six _ (yes (by omega)),fun h4=>six _ (no (by omega))⟩,fun h3=>six _ (no (by omega))⟩⟩
 exact key s.size 0 h1 (by omega) (by omega) hb1 e1 (fun h=>by omega) fun j hj=>by omega
theorem xMd (c:Cl78 D):qDo D 78:=by
 intro s h k kp hs hk
 refine c _ _ _ _ ?_
 unfold F78
 rw [qQb]
 intro b hb
 have hlen:(bts s).length=s.size:=rfl
 have hle:=qNm (bts s)
 refine xYg hb qQi (Ext.new hb) fun h' e=>?_
 rw [xs_e]
 show cond true _ _
 rw [cond_true,nth0,nth1,qQb,qQa]
 have mid:∀ t:Bool,t=decide (0<qEz (bts s)∧(bts s)[qEz (bts s)]?=some 35)→j78__10 D k kp (.int .i64 (qEz (bts s):Int)) (.bool t) h':=fun t ht=>by
  unfold j78__10 j78__11
  rw [qQa,qQc]
  subst ht
  have:=hk h' e
  unfold qWt at this
  rw [qQd]
  refine ⟨fun hc=>?_,fun hc=>?_⟩
  ·rw [if_pos hc] at this
   rw [qQa,qQo (by omega) (by omega)]
   exact this
  ·rw [if_neg hc] at this
   rw [qQa]
   exact this
 rw [qQd]
 refine ⟨fun hpos=>?_,fun hz=>mid _ (by rw [decide_eq_false]; exact fun hh=>by omega)⟩
 rw [qQd]
 refine ⟨fun hlt=>?_,fun hge=>mid _ (by
  rw [decide_eq_false]
  exact fun hh=>by
   have:=(List.getElem?_eq_some_iff.mp hh.2).1
   omega)⟩
 refine qQx (by omega) (by omega) fun x hx=>mid _ ?_
 rw [Int.toNat_natCast] at hx
 rw [hx,Bool.eq_iff_iff,beq_iff_eq,decide_eq_true_eq]
 constructor
 ·intro h35
  exact ⟨by omega,by congr 1; exact UInt8.toNat_inj.mp (by have:(35:UInt8).toNat=35:=rfl; omega)⟩
 ·rintro ⟨_,h35⟩
  rw [Option.some.inj h35]; rfl
theorem xMc (c:Cl79 D):qUz D 79:=by
 intro s sig nm h k kp hs hk
 refine c _ _ _ _ _ ?_
 unfold F79
 rw [qQb]
 have hlen:=hs.len
 have hnl:(nmOf sig).length=sig.length:=by unfold nmOf; rw [List.length_map,qMa]
 have hk:=hk h (Ext.refl h)
 intro I hI
 have key:∀ m i:Nat,i+m=sig.length→(∀ j,j<i→∀ y,(nmOf sig)[j]?=some y→(y==bts nm)=false)→I [s,.string nm,.int .i64 (i:Int)] h:=by
  intro m
  induction m with
  | zero =>
   intro i hi hb
   refine hI _ _ _ _ ?_
   unfold round79_2
   rw [qQb,qQa,hs.row.len,qQt,qQd]
   refine ⟨fun h=>by omega,fun _=>?_⟩
   show xs (X.e 0) _ _ _
   rw [xs_e]
   show k (.int .i64 (-1)) h
   have:symI (nmOf sig) (bts nm)=none:=by
    unfold symI
    rw [List.findIdx?_eq_none_iff]
    intro y hy
    obtain ⟨j,hj,rfl⟩:=List.getElem_of_mem hy
    exact hb j (by omega) _ (List.getElem?_eq_getElem hj)
   rw [this] at hk; exact hk
  | succ m ih =>
   intro i hi hb
   refine hI _ _ _ _ ?_
   unfold round79_2
   rw [qQb,qQa,hs.row.len,qQt,qQd]
   refine ⟨fun _=>?_,fun h=>by omega⟩
   have hil:i<sig.length:=by omega
   have hin:(nmOf sig)[i]?=some (bts sig[i].1):=by
    unfold nmOf S2
    rw [List.map_map,List.getElem?_map,List.getElem?_eq_getElem hil]; rfl
   refine hs.row.at_ (by omega) (by rw [qQt]; omega) fun ad v hv _ hj=>?_
   obtain ⟨z,hz,rfl⟩:=qZr hv
   rw [Int.toNat_natCast,List.getElem?_eq_getElem hil] at hz
   obtain rfl:=Option.some.inj hz
   refine ⟨sig[i].1,hj 0 _ rfl,?_⟩
   rw [qVd]
   cases he:(bts sig[i].1==bts nm) with
   | true =>
    rw [cond_true]
    show xs X.r _ _ _
    rw [xs_r,nth0,qQa]
    have:symI (nmOf sig) (bts nm)=some i:=by
     unfold symI
     rw [List.findIdx?_eq_some_iff_getElem]
     refine ⟨by omega,?_,fun j hj=>?_⟩
     ·have:=(List.getElem?_eq_some_iff.mp hin).2
      rw [this,he]
     ·have:=hb j hj _ (List.getElem?_eq_getElem (by omega))
      simp [this]
    rw [this] at hk; exact hk
   | false =>
    rw [cond_false,qQo (by omega) (by omega)]
    have e2:(i:Int)+1=((i+1:Nat):Int):=by omega
    rw [e2]
    refine ih (i+1) (by omega) fun j hj y hy=>?_
    rcases Nat.lt_succ_iff_lt_or_eq.mp hj with hj | rfl
    ·exact hb j hj y hy
    ·rw [hin] at hy
     rw [← Option.some.inj hy]; exact he
 exact key sig.length 0 (by omega) fun j hj=>by omega
variable {D:Orc} {E:Dorc} {h h' h0:H} {k:Kv} {kp:Kp} {L R:List Res}
def xCa (D:Orc) (f:Nat) (T:H→Prop) (n:Nat):Prop:=∀ (sig:List Sy) (sg:Value) (s:ByteArray) h (k:Kv) kp,(bts s).length<n→(bts s).length<2 ^ 38 →
 Sr h sg sig→ArOk sig→(∀ y∈sig,bts y.1≠[])→T h →
 Out (qJf (S2 sig) n (bts s)) (fun x=>∀ v rest h',bts rest=x.2→Ext h h'→Buf h h' v (Z x.1)→k (.tuple #[v,.string rest,.int .i64 0]) h') (fun e=>∀ h',Ext h h'→k (.tuple #[.slice none 0 0,.string (ByteArray.mk #[]),.int .i64 e]) h')→D f [sg,.string s] h k kp
theorem xCw (c : Cl33 D) (sd : qEx D 76) (sn : qGg D 77) (sf : qDo D 78) (ss : qUz D 79) : ∀ n, xCa D 33 Tbl n := by
  intro n
  induction n with
  | zero=>intro sig sg s h k kp hn; omega
  | succ n ih =>
    intro sig sg s h k kp hn hlen hs ha hne ht hk
    refine c _ _ _ _ _ ?_
    unfold F33
    rw [qQb]
    have hbl:(bts s).length=s.size:=rfl
    have main:∀ t:Bool,t=((bts s).head?==some 95)→j33__2 D k kp sg (.string s) (.bool t) h:=fun t htt=>by
      subst htt
      unfold j33__2
      rw [qQb,qQc]
      unfold qJf at hk
      by_cases hh:(bts s).head?=some 95
      · rw [if_pos hh] at hk
        rw [hh,show ((some 95:Option UInt8)==some 95)=true from rfl,cond_true]
        have hpos:0<s.size:=by
          rw [← qQq]
          cases hb:bts s with
          | nil=>rw [hb] at hh; simp at hh
          | cons y m=>simp
        refine qXs (by omega) (by omega) fun t ht'=>?_
        rw [show (1:Int).toNat=1 from rfl] at ht'
        have htl:t.size+1=s.size:=by
          have:=congrArg List.length ht'
          rw [qQq,List.length_drop,qQq] at this
          omega
        refine sd t h _ _ (by omega) ⟨_,rfl,?_⟩
        rw [← ht'] at hk
        have htb:(bts t).length=t.size:=rfl
        have hdl:=qYx Sp.qXc (bts t)
        have w1:IntKind.i64.wrap (1+(((bts t).takeWhile Sp.qXc).length:Int))=((1+((bts t).takeWhile Sp.qXc).length:Nat):Int):=by
          rw [qQo (by omega) (by omega)]; omega
        rw [w1]
        refine qAm (by omega) (by omega) (by omega) fun v hv=>?_
        have hv:bts v=(bts t).takeWhile Sp.qXc:=by
          rw [hv,Int.toNat_natCast,show (1:Int).toNat=1 from rfl,List.drop_take,← ht',Nat.add_sub_cancel_left]
          exact qKa _
        refine sn v 1048575 h _ _ (by
          have:=congrArg List.length hv
          rw [qQq] at this; omega) (by decide) (fun m hm=>⟨_,_,rfl,?_⟩) fun hm x=>⟨_,_,rfl,?_⟩
        · rw [hv] at hm
          rw [hm] at hk
          have hmm:=(qWf hm).2
          show cond false _ _
          rw [cond_false,qQo (by omega) (by omega)]
          refine ⟨rfl,by decide,?_⟩
          refine (Hp.nil_ h).newSlN (ws:=Z [-1 - (m:Int)]) rfl fun sv h1 o1=>?_
          refine qXs (by omega) (by omega) fun w hw=>?_
          refine hk sv w h1 ?_ o1.ext o1.blk
          rw [hw,Int.toNat_natCast,show 1+((bts t).takeWhile Sp.qXc).length=((bts t).takeWhile Sp.qXc).length+1 by omega,← qKb,ht',List.drop_drop]
          congr 1; omega
        · rw [hv] at hm
          rw [hm] at hk
          show cond true _ _
          rw [cond_true]
          exact hk h (Ext.refl h)
      · rw [if_neg hh] at hk
        rw [show ((bts s).head?==some 95)=false from beq_eq_false_iff_ne.mpr hh,cond_false]
        refine sf s h _ _ (by omega) fun h1 e1=>⟨_,rfl,?_⟩
        have hfl:=qHs (bts s)
        refine qZy (by omega) (by omega) fun nm hnm=>?_
        rw [Int.toNat_natCast] at hnm
        refine ss sg sig nm h1 _ _ (hs.ext e1) fun h2 e2=>⟨_,rfl,?_⟩
        have e12:=e1.trans e2
        rw [hnm]
        unfold nmOf
        have err:∀ {t:Bool},t=true→(∀ h',Ext h h'→k (.tuple #[.slice none 0 0,.string (ByteArray.mk #[]),.int .i64 223]) h')→j33__10 D k kp sg (.string s) (.int .i64 (qWt (bts s):Int)) (.int .i64 (symV (symI ((S2 sig).map (·.1)) ((bts s).take (qWt (bts s)))))) (.bool t) h2:=fun ht hk=>by
          subst ht
          unfold j33__10
          rw [qQb,qQa,qQa,qQc,cond_true]
          exact hk h2 e12
        cases hc:symI ((S2 sig).map (·.1)) ((bts s).take (qWt (bts s))) with
        | none =>
          rw [hc] at hk err
          rw [qQn]
          cases (((qWt (bts s):Nat):Int)==0) with
          | true=>exact err rfl hk
          | false=>exact err (decide_eq_true (by show (-1:Int)<0; omega)) hk
        | some cc =>
          rw [hc] at hk
          dsimp only at hk
          have hsc:=qBb hc
          rw [List.getElem?_map] at hsc
          obtain ⟨y,hy,hy2⟩:=Option.map_eq_some_iff.mp hsc
          unfold S2 at hy
          rw [List.getElem?_map] at hy
          obtain ⟨x,hx,rfl⟩:=Option.map_eq_some_iff.mp hy
          have hcl:=(List.getElem?_eq_some_iff.mp hx).1
          have hsl:=hs.len
          have hkid:=qHq (xOw hx)
          have hax:=ha x (List.mem_of_getElem? hx)
          have hnx:=hne x (List.mem_of_getElem? hx)
          have hfpos:0<qWt (bts s):=Nat.pos_of_ne_zero fun h0=>by
            rw [h0] at hy2
            exact hnx hy2
          rw [hkid] at hk
          rw [qQn,qXf]
          refine ⟨fun h0=>by omega,fun _=>?_⟩
          have hsv:symV (some cc)=(cc:Int):=rfl
          rw [hsv,decide_eq_false (by omega)]
          unfold j33__10
          rw [qQb,qQa,qQa,qQc,cond_false]
          refine ⟨rfl,by decide,?_⟩
          refine ((Hp.nil_ h).later e12).newSlN (ws:=Z [(cc:Int)]) rfl fun ts h3 o3=>?_
          refine qXs (by omega) (by omega) fun w hw=>?_
          rw [Int.toNat_natCast] at hw
          rw [← hw] at hk
          obtain ⟨ar,har⟩:=Int.eq_ofNat_of_zero_le hax.1
          have har8:ar≤8:=by omega
          rw [har,Int.toNat_natCast] at hk
          have arity:∀ {h':H} {K:Int→Prop},Ext h h'→K (ar:Int)→qQj sg (cc:Int) 2 fun ad=>∃ x58:Int,rd h' (Addr.add ad 1)=some (.int .i64 x58)∧K x58:=fun e hK=>by
            refine (hs.ext e).row.at_ (by omega) (by rw [qQt]; omega) fun ad v hv _ hj=>?_
            obtain ⟨y,hy,rfl⟩:=qZr hv
            rw [Int.toNat_natCast,hx] at hy
            obtain rfl:=Option.some.inj hy
            exact ⟨x.2,hj 1 _ rfl,by rw [har]; exact hK⟩
          have hwl:(bts w).length<(bts s).length:=by rw [hw,List.length_drop]; omega
          intro I hI
          have key:∀ m i:Nat,i+m=ar→∀ (q:ByteArray) (ts':Value) (l':List Int) (h':H),(bts q).length<n→l'.length+(bts q).length≤2 ^ 38→Hp h h' (bufR ts' (Z l')::[]) →
              Out (Sp.qYy (qJf (S2 sig) n) m (i==0) (bts q)) (fun x=>∀ v rest h2,bts rest=x.2→Hp h h2 (bufR v (Z (l'++x.1))::[])→k (.tuple #[v,.string rest,.int .i64 0]) h2) (fun e=>∀ h2,Ext h h2→k (.tuple #[.slice none 0 0,.string (ByteArray.mk #[]),.int .i64 e]) h2) →
              I [sg,.string q,.int .i64 (cc:Int),ts',.int .i64 (i:Int)] h':=by
            intro m
            induction m with
            | zero =>
              intro i hi q ts' l' h' hq hl' o' hk'
              have hql:(bts q).length=q.size:=rfl
              refine hI _ _ _ _ _ _ ?_
              unfold round33_14
              rw [qQb,qQa,qQa]
              refine arity o'.ext ?_
              rw [qQd]
              refine ⟨fun hlt=>by omega,fun _=>?_⟩
              show xs (X.e 0) _ _ _
              rw [xs_e]
              show cond true _ _
              rw [cond_true,nth0,nth1,nth2,nth3,qQb,qQa]
              refine arity o'.ext ?_
              rw [qXf]
              refine ⟨fun hz=>?_,fun hnz=>?_⟩
              · have hi0:(i==0)=true:=beq_iff_eq.mpr (by omega)
                rw [hi0] at hk'
                refine hk' ts' q h' rfl ?_
                rw [List.append_nil]; exact o'
              · have hi0:(i==0)=false:=beq_eq_false_iff_ne.mpr (by omega)
                rw [hi0] at hk'
                unfold Sp.qYy at hk'
                have last:∀ t:Bool,t=!((bts q).head?==some 41)→j33__29 D k kp (.string q) ts' (.bool t) h':=fun t htt=>by
                  subst htt
                  unfold j33__29
                  rw [qQb,qQc]
                  by_cases h41:(bts q).head?=some 41
                  · rw [if_pos h41] at hk'
                    rw [h41]
                    show cond false _ _
                    rw [cond_false]
                    have hqp:0<q.size:=by
                      rw [← hql]
                      cases hb:bts q with
                      | nil=>rw [hb] at h41; simp at h41
                      | cons y m=>simp
                    refine qXs (by omega) (by omega) fun w2 hw2=>hk' ts' w2 h' hw2 ?_
                    rw [List.append_nil]; exact o'
                  · rw [if_neg h41] at hk'
                    rw [beq_eq_false_iff_ne.mpr h41]
                    show cond true _ _
                    rw [cond_true]
                    exact hk' h' o'.ext
                rw [qQn,qXf]
                refine ⟨fun h0=>last true ?_,fun h0=>?_⟩
                · have:bts q=[]:=List.length_eq_zero_iff.mp (by omega)
                  rw [this]; rfl
                · refine qQx (by omega) (by omega) fun y hy=>last _ ?_
                  have hy:(bts q).head?=some y:=by rw [List.head?_eq_getElem?]; exact hy
                  rw [hy]
                  rw [Bool.eq_iff_iff,bne_iff_ne,Bool.not_eq_true',beq_eq_false_iff_ne]
                  exact ⟨fun h e=>h (by rw [Option.some.inj e]; rfl),fun h e=>h (by
                    congr 1
                    exact UInt8.toNat_inj.mp (by have:(41:UInt8).toNat=41:=rfl; omega))⟩
            | succ m ihm =>
              intro i hi q ts' l' h' hq hl' o' hk'
              have hql:(bts q).length=q.size:=rfl
              refine hI _ _ _ _ _ _ ?_
              unfold round33_14
              rw [qQb,qQa,qQa]
              refine arity o'.ext ?_
              rw [qQd]
              refine ⟨fun _=>?_,fun hge=>by omega⟩
              have step:∀ mk:UInt8,mk=(if (i==0) then 40 else 44)→j33_14_19 D I (fun x60 vs61 h59=>xs x60 (strW (nth vs61 1) (fun s63=>intK .i64 (nth vs61 2) (fun x64=>k (.tuple #[(nth vs61 0),(.string s63),(.int .i64 x64)]) h59))) (fun i62=>cond (Nat.beq i62 0) (
strW (nth vs61 1) (fun s65=>intK .i64 (nth vs61 2) (fun x66=>qQj (nth vs61 0) x66 2 (fun ad67=>∃ x68:Int,rd h59 (Addr.add ad67 1)=some (.int .i64 x68)∧cond (x68==0) (
k (.tuple #[(nth vs61 3),(.string s65),(.int .i64 0)]) h59) (
cond (!((s65.size:Int)==0)) (
qXt s65 0 (fun x69=>j33__29 D k kp (.string s65) (nth vs61 3) (.bool (x69 != 41)) h59)) (
j33__29 D k kp (.string s65) (nth vs61 3) (.bool true) h59)))))) (False)) (fun c => kp c h59)) sg (.string q) (.int .i64 (cc : Int)) ts' (.int .i64 (i : Int)) (.int .u8 (mk.toNat : Int)) h' := fun mk hmk => by
                unfold j33_14_19
                rw [qQb,qQa,qQa,qQa]
                unfold Sp.qYy at hk'
                rw [← hmk] at hk'
                have go:∀ t:Bool,t=!((bts q).head?==some mk)→j33_14_20 D I (fun x60 vs61 h59=>xs x60 (strW (nth vs61 1) (fun s63=>intK .i64 (nth vs61 2) (fun x64=>k (.tuple #[(nth vs61 0),(.string s63),(.int .i64 x64)]) h59))) (fun i62=>cond (Nat.beq i62 0) (
strW (nth vs61 1) (fun s65=>intK .i64 (nth vs61 2) (fun x66=>qQj (nth vs61 0) x66 2 (fun ad67=>∃ x68:Int,rd h59 (Addr.add ad67 1)=some (.int .i64 x68)∧cond (x68==0) (
k (.tuple #[(nth vs61 3),(.string s65),(.int .i64 0)]) h59) (
cond (!((s65.size:Int)==0)) (
qXt s65 0 (fun x69=>j33__29 D k kp (.string s65) (nth vs61 3) (.bool (x69 != 41)) h59)) (
j33__29 D k kp (.string s65) (nth vs61 3) (.bool true) h59)))))) (False)) (fun c => kp c h59)) sg (.string q) (.int .i64 (cc : Int)) ts' (.int .i64 (i : Int)) (.bool t) h' := fun t htt => by
                  subst htt
                  unfold j33_14_20
                  rw [qQb,qQa,qQa,qQc]
                  by_cases hmh:(bts q).head?=some mk
                  · rw [if_pos hmh] at hk'
                    rw [hmh,show (some mk==some mk)=true from beq_iff_eq.mpr rfl]
                    show cond false _ _
                    rw [cond_false]
                    have hqp:0<q.size:=by
                      rw [← hql]
                      cases hb:bts q with
                      | nil=>rw [hb] at hmh; simp at hmh
                      | cons y m=>simp
                    refine qXs (by omega) (by omega) fun q2 hq2=>?_
                    rw [show (1:Int).toNat=1 from rfl] at hq2
                    have hq2l:(bts q2).length+1=(bts q).length:=by rw [hq2,List.length_drop]; omega
                    rw [← hq2] at hk'
                    refine ih sig sg q2 h' _ _ (by omega) (by omega) (hs.ext o'.ext) ha hne (qQw _ _ o'.ext ht) ?_
                    cases hr:qJf (S2 sig) n (bts q2) with
                    | error e =>
                      rw [hr] at hk'
                      intro h4 e4
                      refine ⟨_,_,_,rfl,?_⟩
                      rw [qZd]
                      refine ⟨fun _=>?_,fun h0=>absurd h0 (qBf _ _ _ hr)⟩
                      show xs X.r _ _ _
                      rw [xs_r,nth0,nth1,nth2,qQb,qQa]
                      exact hk' h4 (o'.ext.trans e4)
                    | ok ur =>
                      obtain ⟨u,r⟩:=ur
                      rw [hr] at hk'
                      dsimp only at hk'
                      intro v rest h4 hrest e4 hb
                      refine ⟨_,_,_,rfl,?_⟩
                      show cond false _ _
                      rw [cond_false]
                      have hul:=qFp _ _ _ _ hr
                      have hrest:bts rest=r:=hrest
                      have o4:=o'.later e4
                      have hrow:=hb.row
                      have hl2:l'.length+u.length≤2 ^ 40:=by omega
                      have app:∀ {K:Value→H→Prop},(∀ s' h5,Hp h h5 (bufR s' (Z (l'++u))::[])→K s' h5)→qXg v (fun n=>srcW h4 1 v n (fun w=>apW h4 1 8 [(Value.int IntKind.i64 (0:Int))] ts' n w (fun s' h'=>K s' h'))):=fun {K} hK=>by
                        obtain ⟨base,cap,rfl,hc,hb2⟩:=hrow
                        rw [qYb]
                        refine Row.src (vs:=Z u) ⟨base,cap,rfl,hc,hb2⟩ (Nat.le_refl _) ?_
                        rw [List.take_length]
                        exact o4.app (i:=0) (s:=ts') (vs:=Z l') (ws:=Z u) (bytes:=8) rfl (by simp [Z,one]) (by decide) (by rw [Zl,Zl]; omega) fun s' h5 o5=>hK s' h5 (by rw [← qSy]; exact o5)
                      refine app fun s' h5 o5=>?_
                      rw [qQo (by omega) (by omega)]
                      have e2:(i:Int)+1=((i+1:Nat):Int):=by omega
                      rw [e2]
                      refine ihm (i+1) (by omega) rest s' (l'++u) h5 (by rw [hrest]; omega) (by rw [hrest,List.length_append]; omega) o5 ?_
                      rw [hrest,show (i+1==0)=false from rfl]
                      cases hra:Sp.qYy (qJf (S2 sig) n) m false r with
                      | error e =>
                        rw [hra] at hk'
                        exact hk'
                      | ok x =>
                        rw [hra] at hk'
                        intro v2 rest2 h6 hr2 o6
                        refine hk' v2 rest2 h6 hr2 ?_
                        show Hp h h6 [bufR v2 (Z (l'++(u++x.1)))]
                        rw [← List.append_assoc]
                        exact o6
                  · rw [if_neg hmh] at hk'
                    rw [beq_eq_false_iff_ne.mpr hmh]
                    show cond true _ _
                    rw [cond_true]
                    show xs X.r _ _ _
                    rw [xs_r,nth0,nth1,nth2,qQb,qQa]
                    exact hk' h' o'.ext
                rw [qQn,qXf]
                refine ⟨fun h0=>go true ?_,fun h0=>?_⟩
                · have:bts q=[]:=List.length_eq_zero_iff.mp (by omega)
                  rw [this]; rfl
                · refine qQx (by omega) (by omega) fun y hy=>go _ ?_
                  have hy:(bts q).head?=some y:=by rw [List.head?_eq_getElem?]; exact hy
                  rw [hy]
                  rw [Bool.eq_iff_iff,bne_iff_ne,Bool.not_eq_true',beq_eq_false_iff_ne]
                  exact ⟨fun h e=>h (by rw [Option.some.inj e]),fun h e=>h (by
                    congr 1
                    exact UInt8.toNat_inj.mp (by omega))⟩
              rw [qXf]
              refine ⟨fun h0=>step 40 (by rw [if_pos (beq_iff_eq.mpr (by omega))]),fun h0=>step 44 (by rw [if_neg (fun h=>h0 (by have:=beq_iff_eq.mp h; omega))])⟩
          refine key ar 0 (by omega) w ts [(cc:Int)] h3 (by omega) (by simp; omega) o3 ?_
          cases hra:Sp.qYy (qJf (S2 sig) n) ar (0==0) (bts w) with
          | error e =>
            have hra':Sp.qYy (qJf (S2 sig) n) ar true (bts w)=.error e:=hra
            rw [hra'] at hk
            exact hk
          | ok x =>
            have hra':Sp.qYy (qJf (S2 sig) n) ar true (bts w)=.ok x:=hra
            rw [hra'] at hk
            intro v rest h2 hr o2
            exact hk v rest h2 hr o2.ext o2.blk
    rw [qQd]
    refine ⟨fun hpos=>?_,fun hz=>main false ?_⟩
    · refine qQx (by omega) (by omega) fun y hy=>main _ ?_
      have hy:(bts s).head?=some y:=by rw [List.head?_eq_getElem?]; exact hy
      rw [hy,Bool.eq_iff_iff,beq_iff_eq,beq_iff_eq]
      exact ⟨fun h=>by
        congr 1
        exact UInt8.toNat_inj.mp (by have:(95:UInt8).toNat=95:=rfl; omega),fun h=>by rw [Option.some.inj h]; rfl⟩
    · have:bts s=[]:=List.length_eq_zero_iff.mp (by omega)
      rw [this]; rfl
theorem nm_ne {sig:List Sy} (h:qZu sig=0):∀ y∈sig,bts y.1≠[]:=fun y hy=>xDf ((qEa h).2 y hy).1
theorem xNq (c:Cl13 D) (cs:qAb D 31 Tbl) (cu:Cl32 D) (srd:∀ n,xCa D 33 Tbl n):qYu D 13 Tbl:=by
 intro sig sg s h k kp hsz hs ht hk
 refine c _ _ _ _ _ ?_
 unfold F13
 rw [qQb]
 refine cs _ _ _ _ _ hs ht fun h1 e1=>⟨_,rfl,?_⟩
 unfold qMc at hk
 have hbl:(bts s).length=s.size:=rfl
 rw [qZd]
 refine ⟨fun hne=>?_,fun h0=>?_⟩
 ·rw [if_pos hne] at hk
  exact hk h1 e1
 ·rw [if_neg (by simpa using h0),hbl] at hk
  rw [qQd]
  refine ⟨fun hgt=>?_,fun hle=>?_⟩
  ·rw [if_pos (by omega)] at hk
   exact hk h1 e1
  ·rw [if_neg (by omega)] at hk
   refine xFx cu (by omega) fun h2 e2=>⟨_,rfl,?_⟩
   have e12:=e1.trans e2
   rw [qQn]
   cases hv:validD (bts s) with
   | false =>
    rw [if_pos hv] at hk
    exact hk h2 e12
   | true =>
    rw [if_neg (by rw [hv]; simp)] at hk
    rw [cond_true]
    refine srd (s.size+1) sig sg s h2 _ _ (by omega) (by omega) (hs.ext e12) (xJq h0) (nm_ne h0) (qQw _ _ e12 ht) ?_
    unfold qZo at hk
    rw [hbl] at hk
    cases hr:qJf (S2 sig) (s.size+1) (bts s) with
    | error e =>
     rw [hr] at hk
     intro h3 e3
     refine ⟨_,_,_,rfl,?_⟩
     rw [qXf]
     refine ⟨fun h0=>absurd h0 (qBf _ _ _ hr),fun hne=>?_⟩
     unfold j13__10 j13__11
     rw [qQa,qQc,cond_false,qQa,qZd]
     exact ⟨fun _=>hk h3 (e12.trans e3),fun h0=>absurd h0 hne⟩
    | ok ur =>
     obtain ⟨u,r⟩:=ur
     rw [hr] at hk
     dsimp only at hk
     intro v rest h3 hrest e3 hb
     have hrest:bts rest=r:=hrest
     refine ⟨_,_,_,rfl,?_⟩
     show cond true _ _
     rw [cond_true,qVd,hrest]
     have hnil:bts (ByteArray.mk #[])=[]:=rfl
     rw [hnil]
     unfold j13__10 j13__11
     rw [qQa,qQc,qQn]
     by_cases hz:r=[]
     ·rw [if_pos hz] at hk
      rw [beq_iff_eq.mpr hz,cond_true,qQa]
      show cond false _ _
      rw [cond_false]
      exact hk v h3 (e12.trans e3) (hb.mono e12)
     ·rw [if_neg hz] at hk
      rw [beq_eq_false_iff_ne.mpr hz,cond_false,qQa]
      show cond true _ _
      rw [cond_true]
      exact hk h3 (e12.trans e3)
variable {D:Orc} {E:Dorc} {h h' h0:H} {k:Kv} {kp:Kp} {L R:List Res} {bv:Value} {l:Bs}
end Go.Proofs.YtkdneddcocggdaaGreatDoor.Am
