/-
  Packed: The statements' own helpers: what is the same. The statements' own helpers: nodes that are the same. The statements' own helpers: books that are the same; how many lines a text has; the document's signature. What is read from a text is no greater than the text: plain. The document's examples: plain. What Parse answers is a book; the document's examples are walked. The document's way: UTF-8, digits, numbers, names, symbols. The document's way: names, symbols, terms are read. The document's way: a term is read. The document's way: a term is written.
-/
import Derived.Test.YtkdneddcocggdaaGreatDoorPkH
set_option linter.unusedVariables false
set_option linter.unusedSimpArgs false
set_option linter.unnecessarySimpa false
namespace Go.Proofs.YtkdneddcocggdaaGreatDoor.Am
open Go Go.Proofs Go.RowKit Go.Lib Sys Sp
set_option maxRecDepth 100000
variable {D:Orc} {E:Dorc} {h h' h0:H} {k:Kv} {kp:Kp} {L R:List Res}
def Sam {α:Type} (h:H) (x y:α) (k:Kv):Prop:=∀ (t:Bool) h',Ext h h'→(t=true↔x=y)→k (.bool t) h'
theorem qBc {α:Type} {x y:α} (s:Sam h x y k) (e:Ext h h') (hxy:x=y):k (.bool true) h':=s true h' e ⟨fun _=>hxy,fun _=>rfl⟩
theorem qPn {α:Type} {x y:α} (s:Sam h x y k) (e:Ext h h') (hxy:x≠y):k (.bool false) h':=s false h' e ⟨fun h=>(by cases h),fun h=>absurd h hxy⟩
theorem qTb {α:Type} {l:List α} {i:Nat} (hi:i<l.length):l.drop i=l[i]::l.drop (i+1):=List.drop_eq_getElem_cons hi
theorem qVd {α:Type} {l m:List α} {i:Nat} (hl:i<l.length) (hm:i<m.length) (hd:l.drop i=m.drop i↔l=m) (he:l[i]=m[i]):l.drop (i+1)=m.drop (i+1)↔l=m:=by
 rw [qTb hl,qTb hm,he] at hd
 rw [← hd]
 exact ⟨fun h=>by rw [h],fun h=>(List.cons.inj h).2⟩
theorem qWh {α:Type} {l m:List α} {i:Nat} (hl:i<l.length) (hm:i<m.length) (he:l[i]≠m[i]):l≠m:=fun e=>by subst e; exact he rfl
theorem qVz {α:Type} {l m:List α} {i:Nat} (hl:l.length≤i) (hm:m.length≤i) (hd:l.drop i=m.drop i↔l=m):l=m:=hd.mp (by rw [List.drop_eq_nil_of_le hl,List.drop_eq_nil_of_le hm])
def qWt (D:Orc) (f:Nat):Prop:=∀ a b (l m:List Int) h (k:Kv) kp,Ir h a l→Ir h b m→Sam h l m k→D f [a,b] h k kp
theorem xIp (c:Cl14 D):qWt D 14:=by
 intro a b l m h k kp ra rb hk
 refine c _ _ _ _ _ ?_
 unfold F14
 have hl:=ra.len
 have hm:=rb.len
 rw [ra.len_,rb.len_,qZl]
 refine ⟨fun hne=>qPn hk (Ext.refl h) fun e=>hne (by rw [e]),fun heq=>?_⟩
 have hlen:l.length=m.length:=by omega
 intro I hI
 have key:∀ (n i:Nat),i+n=l.length→(l.drop i=m.drop i↔l=m)→I [a,b,.int .i64 ((i:Nat):Int)] h:=by
  intro n
  induction n with
  | zero =>
   intro i hi he
   refine hI _ _ _ _ ?_
   unfold round14_4
   rw [qQa,ra.len_,qQd]
   refine ⟨fun hlt=>by omega,fun _=>?_⟩
   exact qBc hk (Ext.refl h) (qVz (by omega) (by omega) he)
  | succ n ih =>
   intro i hi he
   refine hI _ _ _ _ ?_
   unfold round14_4
   rw [qQa,ra.len_,qQd]
   refine ⟨fun hlt=>?_,fun _=>by omega⟩
   refine ra.at_ (by omega) (by omega) fun ad x hx _ hrd=>⟨x,hrd,?_⟩
   refine rb.at_ (by omega) (by omega) fun ad2 y hy _ hrd2=>⟨y,hrd2,?_⟩
   rw [Int.toNat_natCast,List.getElem?_eq_getElem (by omega)] at hx hy
   have hx:=Option.some.inj hx
   have hy:=Option.some.inj hy
   rw [qZl]
   refine ⟨fun hne=>qPn hk (Ext.refl h) (qWh (i:=i) (by omega) (by omega) (by rw [hx,hy]; exact hne)),fun heq=>?_⟩
   rw [qQr (by omega) (by omega)]
   exact ih (i+1) (by omega) (qVd (by omega) (by omega) he (by rw [hx,hy]; exact heq))
 exact key l.length 0 (by omega) (by simp)
def qCe (D:Orc) (f:Nat):Prop:=∀ a b va vb (l m:List Ru) h (k:Kv) kp,RowK 2 h a va→Rel2 (RuI h) va l→RowK 2 h b vb→Rel2 (RuI h) vb m→l.length<2 ^ 40→m.length<2 ^ 40→Sam h l m k→D f [a,b] h k kp
theorem xHy (c:Cl49 D) (sr:qWt D 14):qCe D 49:=by
 intro a b va vb l m h k kp ra qa rb qb hl hm hk
 refine c _ _ _ _ _ ?_
 unfold F49
 rw [ra.len,rb.len,qa.len,qb.len,qZl]
 refine ⟨fun hne=>qPn hk (Ext.refl h) fun e=>hne (by rw [e]),fun heq=>?_⟩
 have hlen:l.length=m.length:=by omega
 have hla:=qa.len
 have hlb:=qb.len
 intro I hI
 have key:∀ (n i:Nat) (h':H),Ext h h'→i+n=l.length→(l.drop i=m.drop i↔l=m)→I [a,b,.int .i64 ((i:Nat):Int)] h':=by
  intro n
  induction n with
  | zero =>
   intro i h' e hi he
   refine hI _ _ _ _ ?_
   unfold round49_4
   rw [qQa,(ra.ext e).len,qa.len,qQd]
   refine ⟨fun hlt=>by omega,fun _=>?_⟩
   exact qBc hk e (qVz (by omega) (by omega) he)
  | succ n ih =>
   intro i h' e hi he
   refine hI _ _ _ _ ?_
   unfold round49_4
   rw [qQa,(ra.ext e).len,qa.len,qQd]
   refine ⟨fun hlt=>?_,fun _=>by omega⟩
   obtain ⟨v,w,hv,iv,iw⟩:=qa.at_ i va[i] l[i] (List.getElem?_eq_getElem (by omega)) (List.getElem?_eq_getElem (by omega))
   obtain ⟨v',w',hv',iv',iw'⟩:=qb.at_ i vb[i] m[i] (List.getElem?_eq_getElem (by omega)) (List.getElem?_eq_getElem (by omega))
   have ata:∀ {h2:H} (e2:Ext h h2) {K:Addr→Prop},(∀ ad,rd h2 (Addr.add ad 0)=some v→rd h2 (Addr.add ad 1)=some w→K ad)→qQm a (i:Int) 2 K:=fun {h2} e2 {K} hK=>by
    refine RowK.at_ (n:=(i:Int)) (ra.ext e2) (by omega) (by omega) fun ad c hc _ hj=>?_
    rw [Int.toNat_natCast,List.getElem?_eq_getElem (show i<va.length by omega),hv] at hc
    obtain rfl:=Option.some.inj hc
    exact hK ad (hj 0 _ rfl) (hj 1 _ rfl)
   have atb:∀ {h2:H} (e2:Ext h h2) {K:Addr→Prop},(∀ ad,rd h2 (Addr.add ad 0)=some v'→rd h2 (Addr.add ad 1)=some w'→K ad)→qQm b (i:Int) 2 K:=fun {h2} e2 {K} hK=>by
    refine RowK.at_ (n:=(i:Int)) (rb.ext e2) (by omega) (by omega) fun ad c hc _ hj=>?_
    rw [Int.toNat_natCast,List.getElem?_eq_getElem (show i<vb.length by omega),hv'] at hc
    obtain rfl:=Option.some.inj hc
    exact hK ad (hj 0 _ rfl) (hj 1 _ rfl)
   have fin:∀ (t:Bool) (h2:H),Ext h h2→(t=true↔l[i]≠m[i])→j49_4_7 D I (fun x23 vs24 h22=>xs x23 (qQp (nth vs24 0) (fun t26=>k (.bool t26) h22)) (fun i25=>cond (Nat.beq i25 0) (
k (.bool true) h22) (False)) (fun c=>kp c h22)) a b (.int .i64 (i:Int)) (.bool t) h2:=fun t h2 e2 ht=>by
    unfold j49_4_7
    rw [qQa,qQc]
    cases t with
    | true=>exact qPn hk e2 (qWh (i:=i) (by omega) (by omega) (ht.mp rfl))
    | false =>
     rw [cond_false,qQr (by omega) (by omega)]
     refine ih (i+1) h2 e2 (by omega) (qVd (by omega) (by omega) he ?_)
     exact Classical.byContradiction fun hn=>by have:=ht.mpr hn; cases this
   refine ata e fun ad1 r1 _=>⟨v,r1,?_⟩
   refine atb e fun ad2 r2 _=>⟨v',r2,?_⟩
   refine sr v v' _ _ h' _ _ (iv.ext e) (iv'.ext e) fun t h2 e2 ht=>⟨t,rfl,?_⟩
   rw [Bool.not_not]
   cases t with
   | false =>
    refine fin true h2 (e.trans e2) ⟨fun _ hx=>?_,fun _=>rfl⟩
    have:=ht.mpr (by rw [hx]); cases this
   | true =>
    have h1:=ht.mp rfl
    rw [cond_true]
    refine ata (e.trans e2) fun ad3 _ r3=>⟨w,r3,?_⟩
    refine atb (e.trans e2) fun ad4 _ r4=>⟨w',r4,?_⟩
    refine sr w w' _ _ h2 _ _ (iw.ext (e.trans e2)) (iw'.ext (e.trans e2)) fun t h3 e3 ht=>⟨t,rfl,?_⟩
    refine fin _ h3 ((e.trans e2).trans e3) ?_
    rw [Bool.not_eq_true',← Bool.not_eq_true,ht]
    exact ⟨fun h hx=>h (by rw [hx]),fun h hx=>h (Prod.ext h1 hx)⟩
 exact key l.length 0 h (Ext.refl h) (by omega) (by simp)
def qAd (D:Orc) (f:Nat):Prop:=∀ a b (l m:List (Int × Int)) h (k:Kv) kp,RowK 2 h a (l.map qAf)→RowK 2 h b (m.map qAf)→l.length<2 ^ 40→m.length<2 ^ 40→Sam h l m k→D f [a,b] h k kp
theorem xHx (c:Cl50 D):qAd D 50:=by
 intro a b l m h k kp ra rb hl hm hk
 refine c _ _ _ _ _ ?_
 unfold F50
 rw [ra.len,rb.len,List.length_map,List.length_map,qZl]
 refine ⟨fun hne=>qPn hk (Ext.refl h) fun e=>hne (by rw [e]),fun heq=>?_⟩
 have hlen:l.length=m.length:=by omega
 intro I hI
 have key:∀ (n i:Nat),i+n=l.length→(l.drop i=m.drop i↔l=m)→I [a,b,.int .i64 ((i:Nat):Int)] h:=by
  intro n
  induction n with
  | zero =>
   intro i hi he
   refine hI _ _ _ _ ?_
   unfold round50_4
   rw [qQa,ra.len,List.length_map,qQd]
   refine ⟨fun hlt=>by omega,fun _=>?_⟩
   exact qBc hk (Ext.refl h) (qVz (by omega) (by omega) he)
  | succ n ih =>
   intro i hi he
   refine hI _ _ _ _ ?_
   unfold round50_4
   rw [qQa,ra.len,List.length_map,qQd]
   refine ⟨fun hlt=>?_,fun _=>by omega⟩
   refine ra.at_ (by omega) (by rw [List.length_map]; omega) fun ad v hv hrd _=>?_
   rw [Int.toNat_natCast,List.getElem?_map,List.getElem?_eq_getElem (by omega)] at hv
   obtain rfl:=Option.some.inj hv
   refine ⟨l[i].1,l[i].2,hrd,?_⟩
   refine rb.at_ (by omega) (by rw [List.length_map]; omega) fun ad v hv hrd _=>?_
   rw [Int.toNat_natCast,List.getElem?_map,List.getElem?_eq_getElem (by omega)] at hv
   obtain rfl:=Option.some.inj hv
   refine ⟨m[i].1,m[i].2,hrd,?_⟩
   rw [qQx,Bool.and_true,qVk]
   refine ⟨fun ht=>?_,fun hf=>?_⟩
   ·rw [Bool.and_eq_true,beq_iff_eq,beq_iff_eq] at ht
    rw [qQr (by omega) (by omega)]
    exact ih (i+1) (by omega) (qVd (by omega) (by omega) he (Prod.ext ht.1 ht.2))
   ·refine qPn hk (Ext.refl h) (qWh (i:=i) (by omega) (by omega) fun hx=>?_)
    rw [hx] at hf
    simp at hf
 exact key l.length 0 (by omega) (by simp)
variable {D:Orc} {E:Dorc} {h h' h0:H} {k:Kv} {kp:Kp} {L R:List Res}
theorem qVa {sz:Nat} {s:Value} {vs:List (List Value)} (r:RowK sz h s vs) {i:Nat} {c:List Value} (hc:vs[i]?=some c) {K:Addr→Prop} (hK:∀ ad,rdN h ad sz=some c→(∀ j v,c[j]?=some v→rd h (Addr.add ad j)=some v)→K ad):qQm s (i:Int) sz K:=by
 have hi:=(List.getElem?_eq_some_iff.mp hc).1
 refine r.at_ (by omega) (by omega) fun ad c' hc' h1 h2=>?_
 rw [Int.toNat_natCast,hc] at hc'
 obtain rfl:=Option.some.inj hc'
 exact hK ad h1 h2
theorem xCs {s:Value} {vs:List Value} (r:Row h s vs) {i:Nat} {v:Value} (hc:vs[i]?=some v) {K:Addr→Prop} (hK:∀ ad,rd h ad=some v→K ad):qQm s (i:Int) 1 K:=by
 have hi:=(List.getElem?_eq_some_iff.mp hc).1
 refine r.at_ (by omega) (by omega) fun ad v' hc' h1=>?_
 rw [Int.toNat_natCast,hc] at hc'
 obtain rfl:=Option.some.inj hc'
 exact hK ad h1
def qGy (D:Orc) (f:Nat):Prop:=∀ (c d:List Value) (x y:Mo) h (k:Kv) kp,MoR h c x→MoR h d y→Sam h x y k→D f [.agg c.toArray,.agg d.toArray] h k kp
theorem xHb (c:Cl98 D) (sr:qWt D 14):qGy D 98:=by
 intro cc dd x y h k kp hx hy hk
 obtain ⟨v,w,rfl,nv,iw⟩:=hx
 obtain ⟨v',w',rfl,nv',iw'⟩:=hy
 refine c _ _ _ _ _ ?_
 unfold F98
 rw [qVq]
 refine (Hp.nil_ h).new_ fun p h1 hp o1=>?_
 rw [qVq]
 refine o1.new_ fun q h2 hq o2=>?_
 have o2:Hp h h2 (qQn q [v',w']::qQn p [v,w]::[]):=o2
 have hcp:∀ {h'},Ext h2 h'→h' p=some (.cells [v,w]):=fun e=>(o2.later e).cell (i:=1) rfl
 have hcq:∀ {h'},Ext h2 h'→h' q=some (.cells [v',w']):=fun e=>(o2.later e).cell (i:=0) rfl
 refine ldj (hcp (Ext.refl _)) rfl ?_
 rw [(nv.ext o2.ext).len]
 refine ldj (hcq (Ext.refl _)) rfl ?_
 rw [(nv'.ext o2.ext).len]
 have hmo:x=y↔x.coef=y.coef∧x.exps=y.exps:=by
  cases x; cases y
  constructor
  ·intro h; cases h; exact ⟨rfl,rfl⟩
  ·rintro ⟨h1,h2⟩; dsimp only at h1 h2; rw [h1,h2]
 rw [qQx,qZl]
 have bad:∀ h3,Ext h h3→x≠y→j98__2 D k kp (Pt p) (Pt q) (.bool true) h3:=fun h3 e3 hne=>by
  unfold j98__2
  rw [qQc,cond_true]
  exact qPn hk e3 hne
 refine ⟨fun hne=>bad h2 o2.ext fun e=>hne (by rw [e]),fun heq=>?_⟩
 have hlen:x.coef.length=y.coef.length:=by omega
 have hsm:=nv.small
 refine ldj (hcp (Ext.refl _)) rfl (ldj (hcq (Ext.refl _)) rfl ?_)
 refine sr w w' _ _ h2 _ _ (iw.ext o2.ext) (iw'.ext o2.ext) fun t h3 e3 ht=>⟨t,rfl,?_⟩
 cases t with
 | false =>
  refine bad h3 (o2.ext.trans e3) fun e=>?_
  have:=ht.mpr (by rw [e])
  cases this
 | true =>
  have hex:=ht.mp rfl
  unfold j98__2
  rw [qQc,Bool.not_true,cond_false]
  have e23:=o2.ext.trans e3
  intro I hI
  have key:∀ (n i:Nat),i+n=x.coef.length→(x.coef.drop i=y.coef.drop i↔x.coef=y.coef)→I [Pt p,Pt q,.int .i64 ((i:Nat):Int)] h3:=by
   intro n
   induction n with
   | zero =>
    intro i hi he
    refine hI _ _ _ _ ?_
    unfold round98_4
    rw [qQa]
    refine ldj (hcp e3) rfl ?_
    rw [(nv.ext e23).len,qQd]
    refine ⟨fun hlt=>by omega,fun _=>?_⟩
    exact qBc hk e23 (hmo.mpr ⟨qVz (by omega) (by omega) he,hex⟩)
   | succ n ih =>
    intro i hi he
    refine hI _ _ _ _ ?_
    unfold round98_4
    rw [qQa]
    refine ldj (hcp e3) rfl ?_
    rw [(nv.ext e23).len,qQd]
    refine ⟨fun hlt=>?_,fun _=>by omega⟩
    refine ldj (hcp e3) rfl ?_
    refine (nv.ext e23).at_ (by omega) (by omega) fun ad u hu _ hrd=>⟨_,hrd,?_⟩
    refine ldj (hcq e3) rfl ?_
    refine (nv'.ext e23).at_ (by omega) (by omega) fun ad2 u2 hu2 _ hrd2=>⟨_,hrd2,?_⟩
    rw [Int.toNat_natCast,List.getElem?_eq_getElem (by omega)] at hu hu2
    have hu:=Option.some.inj hu
    have hu2:=Option.some.inj hu2
    rw [qZl]
    refine ⟨fun hne=>qPn hk e23 fun e=>hne (by
     have:=qWh (i:=i) (l:=x.coef) (m:=y.coef) (by omega) (by omega)
     rw [← hu,← hu2]
     congr 1
     subst e; rfl),fun heq=>?_⟩
    rw [qQr (by omega) (by omega)]
    exact ih (i+1) (by omega) (qVd (by omega) (by omega) he (by rw [hu,hu2]; omega))
  exact key x.coef.length 0 (by omega) (by simp)
theorem it_eq {x y:It}:x=y↔x.sym=y.sym∧x.p=y.p:=by
 cases x; cases y
 constructor
 ·intro h; cases h; exact ⟨rfl,rfl⟩
 ·rintro ⟨h1,h2⟩; dsimp only at h1 h2; rw [h1,h2]
theorem nd_eq {x y:Nd}:x=y↔x.kind=y.kind∧x.kids=y.kids∧x.prec=y.prec∧x.ints=y.ints:=by
 cases x; cases y
 constructor
 ·intro h; cases h; exact ⟨rfl,rfl,rfl,rfl⟩
 ·rintro ⟨h1,h2,h3,h4⟩; dsimp only at h1 h2 h3 h4; rw [h1,h2,h3,h4]
def qKr (D:Orc) (f:Nat):Prop:=∀ (c d:List Value) (x y:Nd) h (k:Kv) kp,NdR h c x→NdR h d y→Sam h x y k→D f [.agg c.toArray,.agg d.toArray] h k kp
set_option maxHeartbeats 1600000 in
theorem xHw (c:Cl51 D) (sm:qGy D 98) (sp:qAd D 50):qKr D 51:=by
 intro cc dd x y h k kp hx hy hk
 obtain ⟨pv,iv,vs,rfl,a1,a2,a3,a4,a5,a6,a7,a8⟩:=hx
 obtain ⟨pv',iv',vs',rfl,b1,b2,b3,b4,b5,b6,b7,b8⟩:=hy
 refine c _ _ _ _ _ ?_
 unfold F51
 rw [qVq]
 refine (Hp.nil_ h).new_ fun p h1 hp o1=>?_
 rw [qVq]
 refine o1.new_ fun q h2 hq o2=>?_
 have o2:Hp h h2 (qQn q [.int .i64 y.kind,pv',iv',.int .i64 y.kids]::qQn p [.int .i64 x.kind,pv,iv,.int .i64 x.kids]::[]):=o2
 have hcp:∀ {h'},Ext h2 h'→h' p=some (.cells [.int .i64 x.kind,pv,iv,.int .i64 x.kids]):=fun e=>(o2.later e).cell (i:=1) rfl
 have hcq:∀ {h'},Ext h2 h'→h' q=some (.cells [.int .i64 y.kind,pv',iv',.int .i64 y.kids]):=fun e=>(o2.later e).cell (i:=0) rfl
 have e02:=o2.ext
 have bad:∀ h3,Ext h h3→x≠y→j51__2 D k kp (Pt p) (Pt q) (.bool true) h3:=fun h3 e3 hne=>by
  unfold j51__2
  rw [qQc,cond_true]
  exact qPn hk e3 hne
 refine ldjI (hcp (Ext.refl _)) rfl (ldjI (hcq (Ext.refl _)) rfl ?_)
 rw [qQx,qZl]
 refine ⟨fun hne=>bad h2 e02 fun e=>hne (by rw [e]),fun hkind=>?_⟩
 refine ldjI (hcp (Ext.refl _)) rfl (ldjI (hcq (Ext.refl _)) rfl ?_)
 rw [qQx,qZl]
 refine ⟨fun hne=>bad h2 e02 fun e=>hne (by rw [e]),fun hkids=>?_⟩
 refine ldj (hcp (Ext.refl _)) rfl (ldj (hcq (Ext.refl _)) rfl ?_)
 refine sp pv pv' x.prec y.prec h2 _ _ (a3.ext e02) (b3.ext e02) a5 b5 fun t h3 e3 ht=>⟨t,rfl,?_⟩
 have e03:=e02.trans e3
 rw [Bool.not_not]
 cases t with
 | false =>
  refine bad h3 e03 fun e=>?_
  have:=ht.mpr (by rw [e])
  cases this
 | true =>
  have hprec:=ht.mp rfl
  rw [cond_true]
  refine ldj (hcp e3) rfl ?_
  rw [(a6.ext e03).len,a7.len]
  refine ldj (hcq e3) rfl ?_
  rw [(b6.ext e03).len,b7.len]
  by_cases hil:x.ints.length=y.ints.length
  rotate_left
  ·rw [show ((x.ints.length:Int) != (y.ints.length:Int))=true from bne_iff_ne.mpr (by omega)]
   exact bad h3 e03 fun e=>hil (by rw [e])
  rw [show ((x.ints.length:Int) != (y.ints.length:Int))=false by rw [hil]; simp]
  unfold j51__2
  rw [qQc,cond_false]
  have hva:=a7.len
  have hvb:=b7.len
  intro I hI
  have key:∀ (n i:Nat) (h4:H),Ext h3 h4→i+n=x.ints.length→(x.ints.drop i=y.ints.drop i↔x.ints=y.ints)→I [Pt p,Pt q,.int .i64 ((i:Nat):Int)] h4:=by
   intro n
   induction n with
   | zero =>
    intro i h4 e4 hi he
    have e04:=e03.trans e4
    refine hI _ _ _ _ ?_
    unfold round51_4
    rw [qQa]
    refine ldj (hcp (e3.trans e4)) rfl ?_
    rw [(a6.ext e04).len,a7.len,qQd]
    refine ⟨fun hlt=>by omega,fun _=>?_⟩
    exact qBc hk e04 (nd_eq.mpr ⟨hkind,hkids,hprec,qVz (by omega) (by omega) he⟩)
   | succ n ih =>
    intro i h4 e4 hi he
    have e04:=e03.trans e4
    have e24:=e3.trans e4
    refine hI _ _ _ _ ?_
    unfold round51_4
    rw [qQa]
    refine ldj (hcp e24) rfl ?_
    rw [(a6.ext e04).len,a7.len,qQd]
    refine ⟨fun hlt=>?_,fun _=>by omega⟩
    have hxi:x.ints[i]?=some x.ints[i]:=List.getElem?_eq_getElem (by omega)
    have hyi:y.ints[i]?=some y.ints[i]:=List.getElem?_eq_getElem (by omega)
    have hvi:vs[i]?=some vs[i]:=List.getElem?_eq_getElem (by omega)
    have hwi:vs'[i]?=some vs'[i]:=List.getElem?_eq_getElem (by omega)
    obtain ⟨mv,mvs,hv,f1,f2,f3,f4⟩:=a7.at_ i _ _ hvi hxi
    obtain ⟨mv',mvs',hv',g1,g2,g3,g4⟩:=b7.at_ i _ _ hwi hyi
    rw [hv] at hvi
    rw [hv'] at hwi
    have hne_of:∀ {P:Prop},(x.ints[i]=y.ints[i]→P)→¬ P→x≠y:=fun hp hn e=>hn (hp (by
     subst e; rfl))
    have stop:∀ h5,Ext h h5→x≠y→xs X.r (qQp (nth [Value.bool false] 0) (fun t90=>k (.bool t90) h5)) (fun i89=>cond (Nat.beq i89 0) (k (.bool true) h5) (False)) (fun c=>kp c h5):=fun h5 e5 hne=>qPn hk e5 hne
    refine ldj (hcp e24) rfl (qVa (a6.ext e04) hvi fun ad1 _ r1=>⟨_,r1 0 _ rfl,?_⟩)
    refine ldj (hcq e24) rfl (qVa (b6.ext e04) hwi fun ad2 _ r2=>⟨_,r2 0 _ rfl,?_⟩)
    have bad4:x≠y→j51_4_7 D I (fun x87 vs88 h86=>xs x87 (qQp (nth vs88 0) (fun t90=>k (.bool t90) h86)) (fun i89=>cond (Nat.beq i89 0) (
k (.bool true) h86) (False)) (fun c=>kp c h86)) (Pt p) (Pt q) (.int .i64 (i:Int)) (.bool true) h4:=fun hne=>by
     unfold j51_4_7
     rw [qQa,qQc,cond_true]
     exact stop h4 e04 hne
    rw [qQx,qZl]
    refine ⟨fun hne=>bad4 (hne_of (fun e=>by rw [e]) hne),fun hsym=>?_⟩
    refine ldj (hcp e24) rfl (qVa (a6.ext e04) hvi fun ad3 _ r3=>⟨_,r3 1 _ rfl,?_⟩)
    rw [(f2.ext e04).len,f3.len]
    refine ldj (hcq e24) rfl (qVa (b6.ext e04) hwi fun ad5 _ r5=>⟨_,r5 1 _ rfl,?_⟩)
    rw [(g2.ext e04).len,g3.len]
    by_cases hpl:x.ints[i].p.length=y.ints[i].p.length
    rotate_left
    ·rw [show ((x.ints[i].p.length:Int) != (y.ints[i].p.length:Int))=true from bne_iff_ne.mpr (by omega)]
     exact bad4 (hne_of (fun e=>by rw [e]) hpl)
    rw [show ((x.ints[i].p.length:Int) != (y.ints[i].p.length:Int))=false by rw [hpl]; simp]
    unfold j51_4_7
    rw [qQa,qQc,cond_false]
    have hma:=f3.len
    have hmb:=g3.len
    intro J hJ
    have inner:∀ (n' j:Nat) (h5:H),Ext h4 h5→j+n'=x.ints[i].p.length→(x.ints[i].p.drop j=y.ints[i].p.drop j↔x.ints[i].p=y.ints[i].p)→J [Pt p,Pt q,.int .i64 ((i:Nat):Int),.int .i64 ((j:Nat):Int)] h5:=by
     intro n'
     induction n' with
     | zero =>
      intro j h5 e5 hj hje
      have e05:=e04.trans e5
      refine hJ _ _ _ _ _ ?_
      unfold round51_9
      rw [qQa,qQa]
      refine ldj (hcp (e24.trans e5)) rfl (qVa (a6.ext e05) hvi fun ad3 _ r3=>⟨_,r3 1 _ rfl,?_⟩)
      rw [(f2.ext e05).len,f3.len,qQd]
      refine ⟨fun hlt=>by omega,fun _=>?_⟩
      show xs (X.e 2) _ _ _
      rw [xs_e]
      show cond true _ _
      rw [cond_true,nth0,nth1,nth2,qQa,qQr (by omega) (by omega)]
      exact ih (i+1) h5 (e4.trans e5) (by omega) (qVd (by omega) (by omega) he (it_eq.mpr ⟨hsym,qVz (by omega) (by omega) hje⟩))
     | succ n' ihj =>
      intro j h5 e5 hj hje
      have e05:=e04.trans e5
      have e25:=e24.trans e5
      refine hJ _ _ _ _ _ ?_
      unfold round51_9
      rw [qQa,qQa]
      refine ldj (hcp e25) rfl (qVa (a6.ext e05) hvi fun ad3 _ r3=>⟨_,r3 1 _ rfl,?_⟩)
      rw [(f2.ext e05).len,f3.len,qQd]
      refine ⟨fun hlt=>?_,fun _=>by omega⟩
      have hxj:x.ints[i].p[j]?=some x.ints[i].p[j]:=List.getElem?_eq_getElem (by omega)
      have hyj:y.ints[i].p[j]?=some y.ints[i].p[j]:=List.getElem?_eq_getElem (by omega)
      have hvj:mvs[j]?=some mvs[j]:=List.getElem?_eq_getElem (by omega)
      have hwj:mvs'[j]?=some mvs'[j]:=List.getElem?_eq_getElem (by omega)
      have q1:=f3.at_ j _ _ hvj hxj
      have q2:=g3.at_ j _ _ hwj hyj
      obtain ⟨u1,u2,hu,u3,u4⟩:=q1
      obtain ⟨z1,z2,hz,z3,z4⟩:=q2
      rw [hu] at hvj
      rw [hz] at hwj
      refine ldj (hcp e25) rfl (qVa (a6.ext e05) hvi fun ad3 _ r3=>⟨_,r3 1 _ rfl,qVa (f2.ext e05) hvj fun ad4 r4 _=>⟨_,_,r4,?_⟩⟩)
      refine ldj (hcq e25) rfl (qVa (b6.ext e05) hwi fun ad3 _ r3=>⟨_,r3 1 _ rfl,qVa (g2.ext e05) hwj fun ad4 r4 _=>⟨_,_,r4,?_⟩⟩)
      refine sm [u1,u2] [z1,z2] x.ints[i].p[j] y.ints[i].p[j] h5 _ _ (MoR.ext e05 ⟨u1,u2,rfl,u3,u4⟩) (MoR.ext e05 ⟨z1,z2,rfl,z3,z4⟩) fun t h6 e6 ht=>⟨t,rfl,?_⟩
      cases t with
      | false =>
       rw [Bool.not_false,cond_true]
       show xs X.r _ _ _
       rw [xs_r,nth0,qQc]
       refine stop h6 (e05.trans e6) fun e=>?_
       have:x.ints[i].p[j]=y.ints[i].p[j]:=by subst e; rfl
       have:=ht.mpr this
       cases this
      | true =>
       rw [Bool.not_true,cond_false,qQr (by omega) (by omega)]
       exact ihj (j+1) h6 (e5.trans e6) (by omega) (qVd (by omega) (by omega) hje (ht.mp rfl))
    exact inner x.ints[i].p.length 0 h4 (Ext.refl _) (by omega) (by simp)
  exact key x.ints.length 0 h3 (Ext.refl _) (by omega) (by simp)
variable {D:Orc} {E:Dorc} {h h' h0:H} {k:Kv} {kp:Kp} {L R:List Res} {p q:Nat} {cp cq:List Value}
theorem cm_eq {x y:Cm}:x=y↔x.word=y.word∧x.terms=y.terms:=by
 cases x; cases y
 constructor
 ·intro h; cases h; exact ⟨rfl,rfl⟩
 ·rintro ⟨h1,h2⟩; dsimp only at h1 h2; rw [h1,h2]
theorem bk_eq {x y:Bk}:x=y↔x.sig=y.sig∧x.rules=y.rules∧x.eqs=y.eqs∧x.prec=y.prec∧x.cert=y.cert∧x.cmds=y.cmds:=by
 cases x; cases y
 constructor
 ·intro h; cases h; exact ⟨rfl,rfl,rfl,rfl,rfl,rfl⟩
 ·rintro ⟨h1,h2,h3,h4,h5,h6⟩; dsimp only at h1 h2 h3 h4 h5 h6; rw [h1,h2,h3,h4,h5,h6]
theorem xYj {sig:Sg} {i:Nat} (hi:i<sig.length):(qVv (toSy sig))[i]?=some [.string (strB sig[i].1),.int .i64 sig[i].2]:=by
 unfold qVv toSy
 rw [List.getElem?_map,List.getElem?_map,List.getElem?_eq_getElem hi]; rfl
theorem xZi (hp:∀ {h'},Ext h0 h'→h' p=some (.cells cp)) (hq:∀ {h'},Ext h0 h'→h' q=some (.cells cq)) {sv sw:Value} (hcp:cp[0]?=some sv) (hcq:cq[0]?=some sw) {l m:Sg} (ra:Sr h0 sv (toSy l)) (rb:Sr h0 sw (toSy m)) (hlen:l.length=m.length) {K:Kl} (e:Ext h0 h)
  (hK1:l=m→K (.e 0) [Pt p,Pt q] h) (hK2:l≠m→K .r [.bool false] h):loop19_4 D [Pt p,Pt q,.int .i64 0] h K:=by
 have hsl:=ra.len
 rw [qXq] at hsl
 intro I hI
 have key:∀ (n i:Nat),i+n=l.length→(l.drop i=m.drop i↔l=m)→I [Pt p,Pt q,.int .i64 ((i:Nat):Int)] h:=by
  intro n
  induction n with
  | zero =>
   intro i hi he
   refine hI _ _ _ _ ?_
   unfold round19_4
   rw [qQa]
   refine ldj (hp e) hcp ?_
   rw [(ra.ext e).row.len,qXd,qXq,qQd]
   exact ⟨fun hlt=>by omega,fun _=>hK1 (qVz (by omega) (by omega) he)⟩
  | succ n ih =>
   intro i hi he
   refine hI _ _ _ _ ?_
   unfold round19_4
   rw [qQa]
   refine ldj (hp e) hcp ?_
   rw [(ra.ext e).row.len,qXd,qXq,qQd]
   refine ⟨fun hlt=>?_,fun _=>by omega⟩
   refine ldj (hp e) hcp (qVa (ra.ext e).row (xYj (show i<l.length by omega)) fun ad r1 _=>⟨_,_,r1,?_⟩)
   refine ldj (hq e) hcq (qVa (rb.ext e).row (xYj (show i<m.length by omega)) fun ad r2 _=>⟨_,_,r2,?_⟩)
   rw [qCi,qQv,qQv,qQx,Bool.and_true,qVk]
   refine ⟨fun ht=>?_,fun hf=>?_⟩
   ·rw [Bool.and_eq_true,beq_iff_eq,beq_iff_eq] at ht
    rw [qQr (by omega) (by omega)]
    exact ih (i+1) (by omega) (qVd (by omega) (by omega) he (Prod.ext ht.1 ht.2))
   ·refine hK2 (qWh (i:=i) (by omega) (by omega) fun hx=>?_)
    rw [hx] at hf
    simp at hf
 exact key l.length 0 (by omega) (by simp)
theorem qTh (sn:qKr D 51) (hp:∀ {h'},Ext h0 h'→h' p=some (.cells cp)) (hq:∀ {h'},Ext h0 h'→h' q=some (.cells cq)) {sv sw:Value} (hcp:cp[4]?=some sv) (hcq:cq[4]?=some sw) {l m:List Nd} {va vb:List (List Value)} (ra:RowK 4 h0 sv va) (qa:Rel2 (NdR h0) va l) (rb:RowK 4 h0 sw vb) (qb:Rel2 (NdR h0) vb m) (hlen:l.length=m.length) (hsl:l.length<2 ^ 40) {K:Kl} (e:Ext h0 h)
  (hK1:l=m→∀ h',Ext h0 h'→K (.e 2) [Pt p,Pt q] h') (hK2:l≠m→∀ h',Ext h0 h'→K .r [.bool false] h'):loop19_9 D [Pt p,Pt q,.int .i64 0] h K:=by
 have hla:=qa.len
 have hlb:=qb.len
 intro I hI
 have key:∀ (n i:Nat) (h:H),Ext h0 h→i+n=l.length→(l.drop i=m.drop i↔l=m)→I [Pt p,Pt q,.int .i64 ((i:Nat):Int)] h:=by
  intro n
  induction n with
  | zero =>
   intro i h e hi he
   refine hI _ _ _ _ ?_
   unfold round19_9
   rw [qQa]
   refine ldj (hp e) hcp ?_
   rw [(ra.ext e).len,hla,qQd]
   exact ⟨fun hlt=>by omega,fun _=>hK1 (qVz (by omega) (by omega) he) h e⟩
  | succ n ih =>
   intro i h e hi he
   refine hI _ _ _ _ ?_
   unfold round19_9
   rw [qQa]
   refine ldj (hp e) hcp ?_
   rw [(ra.ext e).len,hla,qQd]
   refine ⟨fun hlt=>?_,fun _=>by omega⟩
   have hvi:va[i]?=some va[i]:=List.getElem?_eq_getElem (by omega)
   have hwi:vb[i]?=some vb[i]:=List.getElem?_eq_getElem (by omega)
   have na:=qa.at_ i _ _ hvi (List.getElem?_eq_getElem (show i<l.length by omega))
   have nb:=qb.at_ i _ _ hwi (List.getElem?_eq_getElem (show i<m.length by omega))
   obtain ⟨a1,a2,a3,hv,a4⟩:=na
   obtain ⟨b1,b2,b3,hv',b4⟩:=nb
   rw [hv] at hvi
   rw [hv'] at hwi
   refine ldj (hp e) hcp (qVa (ra.ext e) hvi fun ad r1 _=>⟨_,_,_,_,r1,?_⟩)
   refine ldj (hq e) hcq (qVa (rb.ext e) hwi fun ad r2 _=>⟨_,_,_,_,r2,?_⟩)
   refine sn [.int .i64 l[i].kind,a1,a2,.int .i64 l[i].kids] [.int .i64 m[i].kind,b1,b2,.int .i64 m[i].kids] l[i] m[i] h _ _ (NdR.ext e ⟨a1,a2,a3,rfl,a4⟩) (NdR.ext e ⟨b1,b2,b3,rfl,b4⟩) fun t h2 e2 ht=>⟨t,rfl,?_⟩
   cases t with
   | false =>
    refine hK2 (qWh (i:=i) (by omega) (by omega) fun hx=>?_) h2 (e.trans e2)
    have:=ht.mpr hx
    cases this
   | true =>
    rw [Bool.not_true,cond_false,qQr (by omega) (by omega)]
    exact ih (i+1) h2 (e.trans e2) (by omega) (qVd (by omega) (by omega) he (ht.mp rfl))
 exact key l.length 0 h e (by omega) (by simp)
theorem xZa {bp bq:Nat} {cpx cqx:List Value} (sr:qWt D 14) (hp:∀ {h'},Ext h0 h'→h' bp=some (.cells cpx)) (hq:∀ {h'},Ext h0 h'→h' bq=some (.cells cqx)) {x:Int} {sv sw:Value} (hcp:cpx[1]?=some sv) (hcq:cqx[1]?=some sw) {l m:List (List Int)} {va vb:List Value} (ra:Row h0 sv va) (qa:Rel2 (fun v l=>Ir h0 v l) va l) (rb:Row h0 sw vb) (qb:Rel2 (fun v l=>Ir h0 v l) vb m) (hlen:l.length=m.length) (hsl:l.length<2 ^ 40) {K:Kl} (e:Ext h0 h)
  (hK1:l=m→∀ h',Ext h0 h'→K (.e 6) [Pt p,Pt q,.int .i64 x] h') (hK2:l≠m→∀ h',Ext h0 h'→K .r [.bool false] h'):loop19_21 D [Pt p,Pt q,.int .i64 x,Pt bp,Pt bq,.int .i64 0] h K:=by
 have hla:=qa.len
 have hlb:=qb.len
 intro I hI
 have key:∀ (n i:Nat) (h:H),Ext h0 h→i+n=l.length→(l.drop i=m.drop i↔l=m)→I [Pt p,Pt q,.int .i64 x,Pt bp,Pt bq,.int .i64 ((i:Nat):Int)] h:=by
  intro n
  induction n with
  | zero =>
   intro i h e hi he
   refine hI _ _ _ _ _ _ _ ?_
   unfold round19_21
   rw [qQa,qQa]
   refine ldj (hp e) hcp ?_
   rw [(ra.ext e).len,hla,qQd]
   exact ⟨fun hlt=>by omega,fun _=>hK1 (qVz (by omega) (by omega) he) h e⟩
  | succ n ih =>
   intro i h e hi he
   refine hI _ _ _ _ _ _ _ ?_
   unfold round19_21
   rw [qQa,qQa]
   refine ldj (hp e) hcp ?_
   rw [(ra.ext e).len,hla,qQd]
   refine ⟨fun hlt=>?_,fun _=>by omega⟩
   have hvi:va[i]?=some va[i]:=List.getElem?_eq_getElem (by omega)
   have hwi:vb[i]?=some vb[i]:=List.getElem?_eq_getElem (by omega)
   have na:=qa.at_ i _ _ hvi (List.getElem?_eq_getElem (show i<l.length by omega))
   have nb:=qb.at_ i _ _ hwi (List.getElem?_eq_getElem (show i<m.length by omega))
   refine ldj (hp e) hcp (xCs (ra.ext e) hvi fun ad r1=>⟨_,r1,?_⟩)
   refine ldj (hq e) hcq (xCs (rb.ext e) hwi fun ad r2=>⟨_,r2,?_⟩)
   refine sr _ _ _ _ h _ _ (na.ext e) (nb.ext e) fun t h2 e2 ht=>⟨t,rfl,?_⟩
   cases t with
   | false =>
    refine hK2 (qWh (i:=i) (by omega) (by omega) fun hx=>?_) h2 (e.trans e2)
    have:=ht.mpr hx
    cases this
   | true =>
    rw [Bool.not_true,cond_false,qQr (by omega) (by omega)]
    exact ih (i+1) h2 (e.trans e2) (by omega) (qVd (by omega) (by omega) he (ht.mp rfl))
 exact key l.length 0 h e (by omega) (by simp)
theorem xAn (sr:qWt D 14) (hp:∀ {h'},Ext h0 h'→h' p=some (.cells cp)) (hq:∀ {h'},Ext h0 h'→h' q=some (.cells cq)) {sv sw:Value} (hcp:cp[5]?=some sv) (hcq:cq[5]?=some sw) {l m:List Cm} {va vb:List (List Value)} (ra:RowK 2 h0 sv va) (qa:Rel2 (CmR h0) va l) (rb:RowK 2 h0 sw vb) (qb:Rel2 (CmR h0) vb m) (hlen:l.length=m.length) (hsl:l.length<2 ^ 40) {K:Kl} (e:Ext h0 h)
  (hK1:l=m→∀ h',Ext h0 h'→K (.e 4) [] h') (hK2:l≠m→∀ h',Ext h0 h'→K .r [.bool false] h'):loop19_14 D [Pt p,Pt q,.int .i64 0] h K:=by
 have hla:=qa.len
 have hlb:=qb.len
 intro I hI
 have key:∀ (n i:Nat) (h:H),Ext h0 h→i+n=l.length→(l.drop i=m.drop i↔l=m)→I [Pt p,Pt q,.int .i64 ((i:Nat):Int)] h:=by
  intro n
  induction n with
  | zero =>
   intro i h e hi he
   refine hI _ _ _ _ ?_
   unfold round19_14
   rw [qQa]
   refine ldj (hp e) hcp ?_
   rw [(ra.ext e).len,hla,qQd]
   exact ⟨fun hlt=>by omega,fun _=>hK1 (qVz (by omega) (by omega) he) h e⟩
  | succ n ih =>
   intro i h e hi he
   refine hI _ _ _ _ ?_
   unfold round19_14
   rw [qQa]
   refine ldj (hp e) hcp ?_
   rw [(ra.ext e).len,hla,qQd]
   refine ⟨fun hlt=>?_,fun _=>by omega⟩
   have hvi:va[i]?=some va[i]:=List.getElem?_eq_getElem (by omega)
   have hwi:vb[i]?=some vb[i]:=List.getElem?_eq_getElem (by omega)
   have na:=qa.at_ i _ _ hvi (List.getElem?_eq_getElem (show i<l.length by omega))
   have nb:=qb.at_ i _ _ hwi (List.getElem?_eq_getElem (show i<m.length by omega))
   have stop:l[i]≠m[i]→l≠m:=qWh (by omega) (by omega)
   have step:l[i]=m[i]→(l.drop (i+1)=m.drop (i+1)↔l=m):=qVd (by omega) (by omega) he
   generalize l[i]=x at na stop step
   generalize m[i]=y at nb stop step
   obtain ⟨tv,tvs,hv,a1,a2,a3,a4⟩:=na
   obtain ⟨tw,tws,hv',b1,b2,b3,b4⟩:=nb
   rw [hv] at hvi
   rw [hv'] at hwi
   refine ldj (hp e) hcp (qVa (ra.ext e) hvi fun ad r1 _=>⟨_,_,r1,?_⟩)
   refine (Hp.nil_ h).new_ fun bp h1 hb1 o1=>?_
   refine o1.st6 (i:=0) (vs:=[.string (strB x.word),tv]) rfl rfl (by simp only [List.all_cons,List.all_nil,qQy a2.isSl]; rfl) rfl fun h2 o2=>?_
   have o2:Hp h h2 (qQn bp [.string (strB x.word),tv]::[]):=o2
   refine ldj (hq (e.trans o2.ext)) hcq (qVa (rb.ext (e.trans o2.ext)) hwi fun ad r2 _=>⟨_,_,r2,?_⟩)
   refine o2.new_ fun bq h3 hb3 o3=>?_
   refine o3.st6 (i:=0) (vs:=[.string (strB y.word),tw]) rfl rfl (by simp only [List.all_cons,List.all_nil,qQy b2.isSl]; rfl) rfl fun h4 o4=>?_
   have o4:Hp h h4 (qQn bq [.string (strB y.word),tw]::qQn bp [.string (strB x.word),tv]::[]):=o4
   have e4:=e.trans o4.ext
   have hbp:∀ {h'},Ext h4 h'→h' bp=some (.cells [.string (strB x.word),tv]):=fun e=>(o4.later e).cell (i:=1) rfl
   have hbq:∀ {h'},Ext h4 h'→h' bq=some (.cells [.string (strB y.word),tw]):=fun e=>(o4.later e).cell (i:=0) rfl
   have bad:x≠y→j19_14_19 D I K (Pt p) (Pt q) (.int .i64 (i:Int)) (Pt bp) (Pt bq) (.bool true) h4:=fun hne=>by
    unfold j19_14_19
    rw [qQa,qQc,cond_true]
    exact hK2 (stop hne) h4 e4
   refine ldx (hbp (Ext.refl _)) rfl (ldx (hbq (Ext.refl _)) rfl ?_)
   rw [qCi,qQv,qQv,Bool.not_not]
   by_cases hw:x.word=y.word
   rotate_left
   ·rw [beq_eq_false_iff_ne.mpr hw,cond_false]
    exact bad fun hx=>hw (by rw [hx])
   rw [beq_iff_eq.mpr hw,cond_true]
   refine ldj (hbp (Ext.refl _)) rfl ?_
   rw [(a2.ext e4).len,a3.len]
   refine ldj (hbq (Ext.refl _)) rfl ?_
   rw [(b2.ext e4).len,b3.len]
   by_cases htl:x.terms.length=y.terms.length
   rotate_left
   ·rw [show ((x.terms.length:Int) != (y.terms.length:Int))=true from bne_iff_ne.mpr (by omega)]
    exact bad fun hx=>htl (by rw [hx])
   rw [show ((x.terms.length:Int) != (y.terms.length:Int))=false by rw [htl]; simp]
   unfold j19_14_19
   rw [qQa,qQc,cond_false]
   refine xZa (h0:=h4) sr hbp hbq (va:=tvs) (vb:=tws) rfl rfl (a2.ext e4) (a3.mono fun _ _ i=>i.ext e4) (b2.ext e4) (b3.mono fun _ _ i=>i.ext e4) htl a4 (Ext.refl _) (fun heq h5 e5=>?_) fun hne h5 e5=>?_
   ·show xs (X.e 6) _ _ _
    rw [xs_e]
    show cond true _ _
    rw [cond_true,nth0,nth1,nth2,qQa,qQr (by omega) (by omega)]
    exact ih (i+1) h5 (e4.trans e5) (by omega) (step (cm_eq.mpr ⟨hw,heq⟩))
   ·show xs X.r _ _ _
    rw [xs_r,nth0,qQc]
    exact hK2 (stop fun hx=>hne (by rw [hx])) h5 (e4.trans e5)
 exact key l.length 0 h e (by omega) (by simp)
def qJp (D:Orc) (f:Nat):Prop:=∀ (c d:List Value) (x y:Bk) h (k:Kv) kp,BkA h c x→BkA h d y→Sam h x y k→D f [.agg c.toArray,.agg d.toArray] h k kp
theorem xIm (c:Cl19 D) (sr:qWt D 14) (su:qCe D 49) (sp:qAd D 50) (sn:qKr D 51):qJp D 19:=by
 intro cc dd x y h k kp hx hy hk
 obtain ⟨⟨sg,ru,eq,pr,ce,co,rus,eqs,ces,cos,rfl,a1,a2,a3,a4,a5,a6,a7,a8,a9,a10,a11⟩,n1,n2,n3,n4,n5,n6,_⟩:=hx
 obtain ⟨⟨sg',ru',eq',pr',ce',co',rus',eqs',ces',cos',rfl,b1,b2,b3,b4,b5,b6,b7,b8,b9,b10,b11⟩,m1,m2,m3,m4,m5,m6,_⟩:=hy
 refine c _ _ _ _ _ ?_
 unfold F19
 rw [qVq]
 refine (Hp.nil_ h).new_ fun p h1 hp o1=>?_
 rw [qVq]
 refine o1.new_ fun q h2 hq o2=>?_
 have o2:Hp h h2 (qQn q [sg',ru',eq',pr',ce',co']::qQn p [sg,ru,eq,pr,ce,co]::[]):=o2
 have hcp:∀ {h'},Ext h2 h'→h' p=some (.cells [sg,ru,eq,pr,ce,co]):=fun e=>(o2.later e).cell (i:=1) rfl
 have hcq:∀ {h'},Ext h2 h'→h' q=some (.cells [sg',ru',eq',pr',ce',co']):=fun e=>(o2.later e).cell (i:=0) rfl
 have e2:=o2.ext
 have bad:∀ h3,Ext h h3→x≠y→j19__2 D k kp (Pt p) (Pt q) (.bool true) h3:=fun h3 e3 hne=>by
  unfold j19__2
  rw [qQc,cond_true]
  exact qPn hk e3 hne
 have rux:∀ {h3:H} {vs rules},Ext h h3→Rel2 (RuI h) vs rules→Rel2 (RuI h3) vs rules:=fun e r=>r.mono fun _ _ i=>i.ext e
 refine ldj (hcp (Ext.refl _)) rfl ?_
 rw [(a1.ext e2).row.len,qXd,qXq]
 refine ldj (hcq (Ext.refl _)) rfl ?_
 rw [(b1.ext e2).row.len,qXd,qXq,qQx,qZl]
 refine ⟨fun hne=>bad h2 e2 fun e=>hne (by rw [e]),fun hl1=>?_⟩
 refine ldj (hcp (Ext.refl _)) rfl (ldj (hcq (Ext.refl _)) rfl ?_)
 refine su ru ru' _ _ x.rules y.rules h2 _ _ (a2.ext e2) (rux e2 a3) (b2.ext e2) (rux e2 b3) (by omega) (by omega) fun t h3 e3 ht=>⟨t,rfl,?_⟩
 have e03:=e2.trans e3
 rw [Bool.not_not]
 cases t with
 | false =>
  refine bad h3 e03 fun e=>?_
  have:=ht.mpr (by rw [e])
  cases this
 | true =>
 have q2:=ht.mp rfl
 rw [cond_true]
 refine ldj (hcp e3) rfl (ldj (hcq e3) rfl ?_)
 refine su eq eq' _ _ x.eqs y.eqs h3 _ _ (a4.ext e03) (rux e03 a5) (b4.ext e03) (rux e03 b5) (by omega) (by omega) fun t h4 e4 ht=>⟨t,rfl,?_⟩
 have e04:=e03.trans e4
 have e24:=e3.trans e4
 rw [Bool.not_not]
 cases t with
 | false =>
  refine bad h4 e04 fun e=>?_
  have:=ht.mpr (by rw [e])
  cases this
 | true =>
 have q3:=ht.mp rfl
 rw [cond_true]
 refine ldj (hcp e24) rfl (ldj (hcq e24) rfl ?_)
 refine sp pr pr' x.prec y.prec h4 _ _ (a6.ext e04) (b6.ext e04) (by omega) (by omega) fun t h5 e5 ht=>⟨t,rfl,?_⟩
 have e05:=e04.trans e5
 have e25:=e24.trans e5
 rw [Bool.not_not]
 cases t with
 | false =>
  refine bad h5 e05 fun e=>?_
  have:=ht.mpr (by rw [e])
  cases this
 | true =>
 have q4:=ht.mp rfl
 rw [cond_true]
 refine ldj (hcp e25) rfl ?_
 rw [(a8.ext e05).len,a9.len]
 refine ldj (hcq e25) rfl ?_
 rw [(b8.ext e05).len,b9.len,qQx,qZl]
 refine ⟨fun hne=>bad h5 e05 fun e=>hne (by rw [e]),fun hl5=>?_⟩
 refine ldj (hcp e25) rfl ?_
 rw [(a10.ext e05).len,a11.len]
 refine ldj (hcq e25) rfl ?_
 rw [(b10.ext e05).len,b11.len]
 by_cases hl6:x.cmds.length=y.cmds.length
 rotate_left
 ·rw [show ((x.cmds.length:Int) != (y.cmds.length:Int))=true from bne_iff_ne.mpr (by omega)]
  exact bad h5 e05 fun e=>hl6 (by rw [e])
 rw [show ((x.cmds.length:Int) != (y.cmds.length:Int))=false by rw [hl6]; simp]
 unfold j19__2
 rw [qQc,cond_false]
 have hcp5:∀ {h'},Ext h5 h'→h' p=some (.cells [sg,ru,eq,pr,ce,co]):=fun e=>hcp (e25.trans e)
 have hcq5:∀ {h'},Ext h5 h'→h' q=some (.cells [sg',ru',eq',pr',ce',co']):=fun e=>hcq (e25.trans e)
 have no:∀ h',Ext h5 h'→x≠y→k (.bool false) h':=fun h' e hne=>qPn hk (e05.trans e) hne
 refine xZi hcp5 hcq5 rfl rfl (a1.ext e05) (b1.ext e05) (by omega) (Ext.refl _) (fun q1=>?_) fun hne=>?_
 rotate_left
 ·show xs X.r _ _ _
  rw [xs_r,nth0,qQc]
  exact no h5 (Ext.refl _) fun e=>hne (by rw [e])
 show xs (X.e 0) _ _ _
 rw [xs_e]
 show cond true _ _
 rw [cond_true,nth0,nth1]
 refine qTh sn hcp5 hcq5 (va:=ces) (vb:=ces') rfl rfl (a8.ext e05) (a9.mono fun _ _=>NdR.ext e05) (b8.ext e05) (b9.mono fun _ _=>NdR.ext e05) (by omega) (by omega) (Ext.refl _) (fun q5 h6 e6=>?_) fun hne h6 e6=>?_
 rotate_left
 ·show xs X.r _ _ _
  rw [xs_r,nth0,qQc]
  exact no h6 e6 fun e=>hne (by rw [e])
 show xs (X.e 2) _ _ _
 rw [xs_e]
 show cond true _ _
 rw [cond_true,nth0,nth1]
 refine xAn sr hcp5 hcq5 (va:=cos) (vb:=cos') rfl rfl (a10.ext e05) (a11.mono fun _ _=>CmR.ext e05) (b10.ext e05) (b11.mono fun _ _=>CmR.ext e05) hl6 (by omega) e6 (fun q6 h7 e7=>?_) fun hne h7 e7=>?_
 ·exact qBc hk (e05.trans e7) (bk_eq.mpr ⟨q1,q2,q3,q4,q5,q6⟩)
 ·show xs X.r _ _ _
  rw [xs_r,nth0,qQc]
  exact no h7 e7 fun e=>hne (by rw [e])
def qHb (D:Orc) (f:Nat):Prop:=∀ (s:ByteArray) h (k:Kv) kp,s.size<2 ^ 40→k (.int .i64 (((bts s).count 10+1:Nat):Int)) h→D f [.string s] h k kp
theorem xIk (c:Cl23 D):qHb D 23:=by
 intro s h k kp hs hk
 refine c _ _ _ _ ?_
 unfold F23
 rw [qQb]
 have hbl:(bts s).length=s.size:=rfl
 intro I hI
 have key:∀ (n i j:Nat),i+n=s.size→j≤i+1→j+((bts s).drop i).count 10=(bts s).count 10+1→I [.string s,.int .i64 (j:Int),.int .i64 (i:Int)] h:=by
  intro n
  induction n with
  | zero =>
   intro i j hi hj hc
   refine hI _ _ _ _ ?_
   unfold round23_3
   rw [qQb,qQa,qQa,qQd]
   refine ⟨fun hlt=>by omega,fun _=>?_⟩
   rw [List.drop_eq_nil_of_le (by omega)] at hc
   have hc:j+0=(bts s).count 10+1:=hc
   rw [← hc] at hk
   exact hk
  | succ n ih =>
   intro i j hi hj hc
   refine hI _ _ _ _ ?_
   unfold round23_3
   rw [qQb,qQa,qQa,qQd]
   refine ⟨fun _=>?_,fun hge=>by omega⟩
   have hil:i<(bts s).length:=by omega
   rw [qTb hil,List.count_cons] at hc
   refine qXk (by omega) (by omega) fun b hb=>?_
   rw [Int.toNat_natCast,List.getElem?_eq_getElem hil] at hb
   rw [Option.some.inj hb] at hc
   unfold j23_3_4
   rw [qZf]
   refine ⟨fun h10=>?_,fun h10=>?_⟩
   ·have:b=10:=UInt8.toNat_inj.mp (by have:(10:UInt8).toNat=10:=rfl; omega)
    rw [this] at hc
    simp only [beq_self_eq_true,if_true] at hc
    rw [qQb,qQa,qQa,qQr (by omega) (by omega),qQr (by omega) (by omega)]
    have e2:(i:Int)+1=((i+1:Nat):Int):=by omega
    have e3:(j:Int)+1=((j+1:Nat):Int):=by omega
    rw [e2,e3]
    exact ih (i+1) (j+1) (by omega) (by omega) (by omega)
   ·have:(b==10)=false:=beq_eq_false_iff_ne.mpr fun e=>h10 (by rw [e]; rfl)
    rw [this] at hc
    simp only [Bool.false_eq_true,if_false] at hc
    rw [qQb,qQa,qQa,qQr (by omega) (by omega)]
    have e2:(i:Int)+1=((i+1:Nat):Int):=by omega
    rw [e2]
    exact ih (i+1) j (by omega) (by omega) (by omega)
 exact key s.size 0 1 (by omega) (by omega) (by rw [List.drop_zero]; omega)
end Go.Proofs.YtkdneddcocggdaaGreatDoor.Am
namespace Go.Proofs.Sp
open Go Go.Lib Sys
theorem qFp {sig:Sg} {s:Bs} {l:List Int} (h:qWj sig s=.ok l):l.length≤s.length+1:=by
 unfold qWj at h
 split at h
 ·cases h
 ·rename_i u r hr
  split at h
  ·rename_i h0
   injection h with h
   subst h; subst h0
   have:=qLa _ _ _ _ hr
   simpa using this
  ·cases h
def ttl (w:List Bs):Nat:=(w.map fun x=>x.length+1).sum
theorem xEj (w:List Bs) (i:Nat):(at1 w i).length≤ttl w:=by
 unfold at1
 cases hx:w[i]? with
 | none=>simp
 | some x =>
  have:=xAg (C:=fun x:Bs=>x.length+1) (List.mem_of_getElem? hx)
  show x.length≤_
  unfold cst at this
  unfold ttl; omega
theorem xYf:∀ w:List Bs,w.length≤ttl w
 | []=>by simp
 | x::w=>by
  have:=xYf w
  unfold ttl at *
  simp only [List.map_cons,List.sum_cons,List.length_cons]; omega
theorem qGe {B:Bk} {n m:Nd} {k:Nat} (hl:qAg B=.ok n) (h:ndC m≤ndC n+k):bkC (qVn B m)≤bkC B+k:=by
 unfold qAg at hl
 have hl:=qIb.mp hl
 obtain ⟨pre,hp⟩:∃ pre,B.cert=pre++[n]:=by
  rw [List.getLast?_eq_some_iff] at hl
  exact hl
 unfold bkC qVn
 simp only
 rw [hp,List.dropLast_concat,qVw,qVw]
 have:∀ x:Nd,cst ndC [x]=ndC x:=fun x=>by simp [cst]
 rw [this,this]; omega
theorem qFm {sig:Sg} {w:List Bs} {mid:Bs} {r:Ru} (h:qJa sig w mid=.ok r):r.1.length+r.2.length≤2*ttl w+2:=by
 unfold qJa at h
 obtain ⟨_,_,h⟩:=qQg.mp h
 obtain ⟨a,h1,h⟩:=qQg.mp h
 obtain ⟨c,h2,h⟩:=qQg.mp h
 obtain rfl:=Except.ok.inj h
 have:=qFp h1
 have:=qFp h2
 have:=xEj w 1
 have:=xEj w 3
 show a.length+c.length≤_
 omega
theorem xQp {top:Nat}:∀ {ws:List Bs} {es:List Int},qAy top ws=some es→es.length=ws.length
 | [],es,h=>by
  obtain rfl:=Option.some.inj h
  rfl
 | w::ws,es,h=>by
  unfold qAy at h
  split at h
  ·rename_i n hn
   obtain ⟨es',h1,rfl⟩:=Option.map_eq_some_iff.mp h
   simp [xQp h1]
  ·cases h
theorem xPu {B:Bk} {p p':Bool} {w:List Bs} {B':Bk} (h:qCw B p w=.ok (B',p')):bkC B'≤bkC B+100*ttl w+1000:=by
 have one:∀ {α:Type} {C:α→Nat} {x:α},cst C [x]=C x:=by intro α C x; simp [cst]
 have none_:∀ {α:Type} {C:α→Nat},cst C []=0:=by intro α C; rfl
 unfold qCw at h
 split at h
 ·obtain ⟨B1,h1,h⟩:=qQg.mp h
  obtain ⟨rfl,_⟩:=Prod.mk.inj (Except.ok.inj h)
  unfold symM at h1
  obtain ⟨_,_,h1⟩:=qQg.mp h1
  obtain ⟨_,_,h1⟩:=qQg.mp h1
  obtain ⟨_,_,h1⟩:=qQg.mp h1
  obtain ⟨n,hn,h1⟩:=qQg.mp h1
  obtain ⟨_,hm,h1⟩:=qQg.mp h1
  obtain rfl:=Except.ok.inj h1
  unfold bkC
  simp only [qVw,one,syC]; omega
 ·obtain ⟨B1,h1,h⟩:=qQg.mp h
  obtain ⟨rfl,_⟩:=Prod.mk.inj (Except.ok.inj h)
  unfold qSo at h1
  dsimp only at h1
  by_cases hc:at1 w 0=qHh
  ·rw [if_pos hc] at h1
   obtain ⟨r,hr,h1⟩:=qQg.mp h1
   obtain ⟨_,hm,h1⟩:=qQg.mp h1
   obtain rfl:=Except.ok.inj h1
   have:=qFm hr
   unfold bkC
   simp only [qVw,one,ruC]; omega
  rw [if_neg hc] at h1
  by_cases hc:at1 w 0=wEq
  ·rw [if_pos hc] at h1
   obtain ⟨r,hr,h1⟩:=qQg.mp h1
   obtain ⟨_,hm,h1⟩:=qQg.mp h1
   obtain rfl:=Except.ok.inj h1
   have:=qFm hr
   unfold bkC
   simp only [qVw,one,ruC]; omega
  rw [if_neg hc] at h1
  by_cases hc:at1 w 0=qYl
  ·rw [if_pos hc] at h1
   obtain ⟨_,_,h1⟩:=qQg.mp h1
   obtain ⟨_,_,h1⟩:=qQg.mp h1
   obtain ⟨_,_,h1⟩:=qQg.mp h1
   obtain rfl:=Except.ok.inj h1
   unfold bkC
   simp only [qVw,one,prC]; omega
  rw [if_neg hc] at h1
  by_cases hc:at1 w 0=qKx
  ·rw [if_pos hc] at h1
   obtain ⟨_,_,h1⟩:=qQg.mp h1
   obtain ⟨_,_,h1⟩:=qQg.mp h1
   obtain ⟨_,_,h1⟩:=qQg.mp h1
   obtain rfl:=Except.ok.inj h1
   unfold bkC
   simp only [qVw,one,ndC,none_]; omega
  rw [if_neg hc] at h1
  by_cases hc:at1 w 0=qKw
  ·rw [if_pos hc] at h1
   obtain ⟨_,_,h1⟩:=qQg.mp h1
   obtain ⟨n,hl,h1⟩:=qQg.mp h1
   obtain ⟨_,_,h1⟩:=qQg.mp h1
   obtain ⟨_,_,h1⟩:=qQg.mp h1
   obtain rfl:=Except.ok.inj h1
   exact Nat.le_trans (qGe hl (k:=100) (by unfold ndC; simp only [qVw,one,prC]; omega)) (by omega)
  rw [if_neg hc] at h1
  by_cases hc:at1 w 0=wSet
  ·rw [if_pos hc] at h1
   obtain ⟨_,_,h1⟩:=qQg.mp h1
   obtain ⟨n,hl,h1⟩:=qQg.mp h1
   obtain ⟨_,_,h1⟩:=qQg.mp h1
   obtain rfl:=Except.ok.inj h1
   exact Nat.le_trans (qGe hl (k:=100) (by unfold ndC; simp only [qVw,one,itC,none_]; omega)) (by omega)
  rw [if_neg hc] at h1
  by_cases hc:at1 w 0=qAs
  ·rw [if_pos hc] at h1
   obtain ⟨_,_,h1⟩:=qQg.mp h1
   obtain ⟨n,hl,h1⟩:=qQg.mp h1
   obtain ⟨it,hit,h1⟩:=qQg.mp h1
   obtain ⟨co,_,h1⟩:=qQg.mp h1
   obtain ⟨es,hes,h1⟩:=qQg.mp h1
   obtain rfl:=Except.ok.inj h1
   have hes:=xQp (qIb.mp hes)
   rw [List.length_drop] at hes
   have hw:=xYf w
   have hit:=qIb.mp hit
   rw [List.getLast?_eq_some_iff] at hit
   obtain ⟨pre,hp⟩:=hit
   refine Nat.le_trans (qGe hl (k:=30*ttl w+700) ?_) (by omega)
   unfold ndC
   simp only
   rw [hp,List.dropLast_concat]
   simp only [qVw,one,itC,moC]
   omega
  rw [if_neg hc] at h1
  by_cases hc:at1 w 0=qAi∨at1 w 0=qVb∨at1 w 0=qHi∨at1 w 0=qPs∨at1 w 0=qVc
  ·rw [if_pos hc] at h1
   obtain ⟨_,_,h1⟩:=qQg.mp h1
   obtain rfl:=Except.ok.inj h1
   unfold bkC
   simp only [qVw,one,cmC,List.flatten_nil,List.length_nil]; omega
  rw [if_neg hc] at h1
  by_cases hc:at1 w 0=qVt
  ·rw [if_pos hc] at h1
   obtain ⟨_,_,h1⟩:=qQg.mp h1
   obtain ⟨l,hr,h1⟩:=qQg.mp h1
   obtain rfl:=Except.ok.inj h1
   have:=qFp hr
   have:=xEj w 1
   unfold bkC
   simp only [qVw,one,cmC,List.flatten_cons,List.flatten_nil,List.append_nil,List.length_cons,List.length_nil]; omega
  rw [if_neg hc] at h1
  by_cases hc:at1 w 0=qEn
  ·rw [if_pos hc] at h1
   obtain ⟨r,hr,h1⟩:=qQg.mp h1
   obtain rfl:=Except.ok.inj h1
   have:=qFm hr
   unfold bkC
   simp only [qVw,one,cmC,List.flatten_cons,List.flatten_nil,List.append_nil,List.length_cons,List.length_nil,List.length_append]; omega
  rw [if_neg hc] at h1
  cases h1
theorem qTf (x:UInt8):∀ l:Bs,ttl (qXl x l)=l.length+1
 | []=>rfl
 | b::l=>by
  have ih:=qTf x l
  unfold qXl
  split
  ·unfold ttl at *
   simp only [List.map_cons,List.sum_cons,List.length_nil,List.length_cons,ih]; omega
  ·unfold ttl at *
   split
   ·rename_i h
    rw [h] at ih
    simp at ih
   ·rename_i c cs h
    rw [h] at ih
    simp only [List.map_cons,List.sum_cons,List.length_cons] at *
    omega
theorem xDi:∀ {a b:List Bs},a.Sublist b→ttl a≤ttl b:=fun s=>by
 induction s with
 | slnil=>exact Nat.le_refl _
 | cons x _ ih=>unfold ttl at *; simp only [List.map_cons,List.sum_cons]; omega
 | cons_cons x _ ih=>unfold ttl at *; simp only [List.map_cons,List.sum_cons]; omega
theorem xWv (l:Bs):ttl (qQj l)≤l.length+1:=by
 rw [← qTf 32 l]
 exact xDi List.filter_sublist
theorem qBn:∀ (ls:List Bs) (B:Bk) (p:Bool) (n:Nat) (y:Bk × Bool),qXo B p n ls=.ok y→bkC y.1≤bkC B+1100*ttl ls
 | [],B,p,n,y,h=>by
  obtain rfl:=Except.ok.inj h
  exact Nat.le_add_right _ _
 | l::ls,B,p,n,y,h=>by
  have ht:ttl (l::ls)=l.length+1+ttl ls:=rfl
  unfold qXo at h
  split at h
  ·have:=qBn ls B p (n+1) y h
   omega
  ·split at h
   ·rename_i B1 p1 hl
    have h1:=qBn ls B1 p1 (n+1) y h
    have h2:=xPu hl
    have h3:=xWv l
    omega
   ·cases h
end Go.Proofs.Sp
namespace Go.Proofs.YtkdneddcocggdaaGreatDoor.Am
open Go Go.Proofs Go.RowKit Go.Lib Sys Sp
set_option maxRecDepth 100000
def sum0:Sg:=[([122,101,114,111],0),([115],1),([112,108,117,115],2)]
def qKo:Bk:=⟨sum0,[([2,0,-1],[-1])],[],[],[⟨1,0,[(2,1)],[]⟩],[⟨qVt,[[1,0]]⟩]⟩
def xYl:Bs:=[115,121,109,32,122,101,114,111,32,48,10,115,121,109,32,115,32,49,10,115,121,109,32,112,108,117,115,32,50,10,114,117,108,101,32,112,108,117,115,40,122,101,114,111,44,95,48,41,32,45,62,32,95,48,10,110,111,100,101,32,108,112,111,32,48,10,111,118,101,114,32,112,108,117,115,32,115,10,110,111,114,109,97,108,32,115,40,122,101,114,111,41]
theorem xBq:qWe xYl=.ok (qKo,true):=by kernel_rfl
theorem xUp:qWe [99,104,101,99,107,10,115,121,109,32,102,32,49]=.error (2,222):=by kernel_rfl
theorem xLi:qVe (toSy sum0)=0:=by kernel_rfl
def xXu:Bs:=[112,108,117,115,40,115,40,95,48,41,44,122,101,114,111,41]
theorem xGe:xZd (toSy sum0) xXu=.ok [2,1,-1,0]:=by kernel_rfl
theorem xBo:xZd (toSy sum0) [122,101,114,111,40,41]=.error 224:=by kernel_rfl
theorem xBn:xZd (toSy sum0) [95,48,49]=.error 225:=by kernel_rfl
theorem qIt {sig:Sg} {s:Bs} {u:List Int} (h:qWj sig s=.ok u):qJv sig u=.ok s:=by
 have w:=qFq h
 unfold qJv
 have h0:scan sig 1 u=0:=w.term
 rw [if_neg (by rw [h0]; simp),W_of w]
theorem ex_W:W (S2 (toSy sum0)) [2,1,-1,0]=xXu:=W_of (qFq (sig:=S2 (toSy sum0)) (s:=xXu) (by kernel_rfl))
theorem xLk:qYf (toSy sum0) [2,1,-1,0]=0:=by kernel_rfl
theorem xGf:xJb (toSy sum0) [2,1,-1,0]=.ok xXu:=by
 unfold xJb
 rw [xLk,ex_W,if_neg (by simp),if_neg (by decide)]
theorem xGg:qCk sum0 qHh qEo [([2,0,-1],[-1])]=.ok [114,117,108,101,32,112,108,117,115,40,122,101,114,111,44,95,48,41,32,45,62,32,95,48,10]:=by
 unfold qCk allM allM qIw
 have t1:qJv sum0 [2,0,-1]=.ok [112,108,117,115,40,122,101,114,111,44,95,48,41]:=qIt (by kernel_rfl)
 have t2:qJv sum0 [-1]=.ok [95,48]:=qIt (by kernel_rfl)
 simp only [t1,t2]
 show (_:Except Int Bs)=_
 kernel_rfl
theorem xLj:allM (cmdW sum0) [⟨qVt,[[1,0]]⟩]=.ok [110,111,114,109,97,108,32,115,40,122,101,114,111,41,10]:=by
 unfold allM allM cmdW rowM rowM
 have t1:qJv sum0 [1,0]=.ok [115,40,122,101,114,111,41]:=qIt (by kernel_rfl)
 simp only [t1]
 show (_:Except Int Bs)=_
 kernel_rfl
theorem xBp:qNx qKo=.ok (xYl++[10]):=by
 unfold qNx xJt
 have e1:qVe (toSy qKo.sig)=0:=xLi
 have e2:qCk qKo.sig qHh qEo qKo.rules=_:=xGg
 have e3:qCk qKo.sig wEq wIs qKo.eqs=.ok []:=by kernel_rfl
 have e4:allM (cmdW qKo.sig) qKo.cmds=_:=xLj
 rw [e1,if_neg (by simp),e2,e3,e4]
 show (_:Except Int Bs)=_
 kernel_rfl
variable {D:Orc} {E:Dorc} {h h' h0 g:H} {k:Kv} {kp:Kp} {L R:List Res} {B:Bk} {V:BkV} {N:Nat}
theorem BkA.ext {c:List Value} (b:BkA h c B) (e:Ext h h'):BkA h' c B:=by
 obtain ⟨⟨sg,ru,eq,pr,ce,co,rus,eqs,ces,cos,hc,a1,a2,a3,a4,a5,a6,a7,a8,a9,a10,a11⟩,n1,n2,n3,n4,n5,n6,sz⟩:=b
 exact ⟨⟨sg,ru,eq,pr,ce,co,rus,eqs,ces,cos,hc,a1.ext e,a2.ext e,a3.mono fun _ _ i=>i.ext e,a4.ext e,a5.mono fun _ _ i=>i.ext e,a6.ext e,a7,a8.ext e,a9.mono fun _ _ i=>NdR.ext e i,a10.ext e,a11.mono fun _ _ i=>CmR.ext e i⟩,n1,n2,n3,n4,n5,n6,sz⟩
theorem xJj {c:List Value} {r:Ru} (e:Ext g h):RuB g c r→RuI h c r:=fun ⟨v,w,h1,h2,h3⟩=>⟨v,w,h1,h2.ir.ext e,h3.ir.ext e⟩
theorem xGv {bp:Nat} {tl:List Value} (o:Hp h0 h (bkL bp tl V g B R)) (I:BkI g V B) (s:Sm N B) (hN:N<2 ^ 30) (hsz:bkC B<2 ^ 36):BkA h [V.sg,V.ru,V.eq,V.pr,V.ce,V.co] B:=by
 obtain ⟨g',e,o',hce⟩:=xAp o I s (by omega)
 have eg:Ext g' h:=(o'.get (i:=1) rfl:(frzR g').ok h)
 have egg:Ext g h:=e.trans eg
 refine ⟨⟨V.sg,V.ru,V.eq,V.pr,V.ce,V.co,V.rur,V.eqr,V.cer,V.cor,rfl,s.sr (o'.rowK (i:=2) rfl),o'.rowK (i:=3) rfl,I.ru.mono fun _ _=>xJj egg,o'.rowK (i:=4) rfl,I.eq.mono fun _ _=>xJj egg,o'.rowK (i:=5) rfl,I.pr,o'.rowK (i:=6) rfl,hce.mono fun _ _=>NdR.ext eg,o'.rowK (i:=7) rfl,I.co.mono fun _ _=>CmR.ext egg⟩,?_,?_,?_,?_,?_,?_,hsz⟩
 ·have:=s.sig; omega
 ·have:=s.rules; omega
 ·have:=s.eqs; omega
 ·have:=s.prec; omega
 ·have:=s.cert; omega
 ·have:=s.cmds; omega
theorem xQq (h:H):BkA h nilB Bk.nil:=⟨⟨_,_,_,_,_,_,[],[],[],[],rfl,⟨RowK.nil_,by decide,fun x hx=>(by cases hx)⟩,RowK.nil_,.nil_,RowK.nil_,.nil_,RowK.nil_,fun x hx=>(by cases hx),RowK.nil_,.nil_,RowK.nil_,.nil_⟩,by decide,by decide,by decide,by decide,by decide,by decide,by decide⟩
theorem xZt {t:Bs} {y:Bk × Bool} (h:qWe t=.ok y):bkC y.1<2 ^ 36∧t.length≤65536:=by
 unfold qWe at h
 split at h
 ·cases h
 ·rename_i hn
  split at h
  ·cases h
  ·have:=qBn _ _ _ _ _ h
   rw [qTf] at this
   have h0:bkC Bk.nil=0:=rfl
   omega
def qAe (D:Orc) (f:Nat) (T:H→Prop):Prop:=∀ (s:ByteArray) h (k:Kv) kp,s.size<2 ^ 40→T h→(match qWe (bts s) with
  | .ok y=>∀ c h',Ext h h'→BkA h' c y.1→k (.tuple #[.agg c.toArray,.int .i64 0,.int .i64 0]) h'
  | .error y=>∀ h',Ext h h'→k (.tuple #[.agg nilB.toArray,.int .i64 (y.1:Int),.int .i64 y.2]) h')→D f [.string s] h k kp
theorem xLa (sp:qJr D 17 Tbl):qAe D 17 Tbl:=by
 intro s h k kp hs ht hk
 refine sp s h k kp hs ht ?_
 cases hp:qWe (bts s) with
 | error y=>rw [hp] at hk; exact hk
 | ok y =>
  rw [hp] at hk
  intro bp tl V g N h' hN sm I o
  exact hk [V.sg,V.ru,V.eq,V.pr,V.ce,V.co] h' o.ext (xGv o I sm hN (xZt hp).1)
theorem qBj {n:Nat} {ws:List Value} {K:Value→H→Prop} (hn:ws.length=n) (hK:∀ s h',Ext h h'→Row h' s ws→K s h'):Am.qQz h n ws K:=fun b hb=>hK _ _ (Ext.new hb) (Row.cells qQf hn)
theorem qEy {n sz:Nat} {ws:List Value} {vs:List (List Value)} {K:Value→H→Prop} (hn:vs.length=n) (hsz:∀ v∈vs,v.length=sz) (hws:ws=vs.flatten) (hK:∀ s h',Ext h h'→RowK sz h' s vs→K s h'):Am.qQz h n ws K:=fun b hb=>hK _ _ (Ext.new hb) (RowK.cells qQf hn hsz hws)
def qGw (D:Orc) (f:Nat):Prop:=∀ h (k:Kv) kp,(∀ v h',Ext h h'→Sr h' v (toSy sum0)→k v h')→D f [] h k kp
theorem xIj (c:Cl24 D):qGw D 24:=by
 intro h k kp hk
 refine c _ _ _ ?_
 unfold F24
 refine ⟨rfl,by decide,rfl,by decide,rfl,by decide,rfl,by decide,rfl,by decide,rfl,by decide,rfl,by decide,rfl,by decide,?_⟩
 refine qEy (sz:=2) (vs:=qVv (toSy sum0)) rfl (by simp [qVv,toSy,sum0,qXn]) rfl fun s h1 e1 r=>hk s h1 e1 ⟨r,by decide,fun x hx=>?_⟩
 simp only [toSy,sum0,List.map_cons,List.map_nil,List.mem_cons,List.not_mem_nil,or_false] at hx
 rcases hx with rfl | rfl | rfl <;> (rw [qXv]; decide)
theorem xVp {v:Value} {l:List Int} (r:Row h v (Z l)) (hl:l.length<2 ^ 40) (hr:∀ x∈l,inI x):Ir h v l:=⟨r,hl,hr⟩
def qVx (D:Orc) (f:Nat) (T:H→Prop):Prop:=∀ h (k:Kv) kp,T h→(∀ h',Ext h h'→k (.bool true) h')→D f [] h k kp
theorem xIr (c:Cl11 D) (su:qGw D 24) (st:qUn D 12 Tbl) (ss:qKq D 15 Tbl) (sp:qAe D 17 Tbl) (sw:qUo D 20 Tbl) (sr:qWt D 14) (sm:qJp D 19):qVx D 11 Tbl:=by
 intro h k kp ht hk
 refine c _ _ _ ?_
 unfold F11
 refine su h _ _ fun v2 h1 e1 r2=>⟨_,rfl,?_⟩
 have t1:=qQt _ _ e1 ht
 refine st (toSy sum0) v2 _ h1 _ _ (by decide) r2 t1 ?_
 have w1:bts (ByteArray.mk #[112,108,117,115,40,115,40,95,48,41,44,122,101,114,111,41])=xXu:=rfl
 rw [w1,xGe]
 intro v5 h4 e4 b5
 refine ⟨_,_,rfl,?_⟩
 have r5:Ir h4 v5 [2,1,-1,0]:=xVp b5.row (by decide) (by intro x hx; simp at hx; unfold inI; omega)
 refine su h4 _ _ fun v9 h8 e8 r9=>⟨_,rfl,rfl,by decide,rfl,by decide,rfl,by decide,rfl,by decide,?_⟩
 refine qBj (ws:=Z [2,1,-1,0]) rfl fun s10 h11 e11 r10=>?_
 have x11:=(e4.trans e8).trans e11
 have t11:=qQt _ _ x11 t1
 refine ss (toSy sum0) v9 s10 [2,1,-1,0] h11 _ _ (r9.ext e11) t11 (xVp r10 (by decide) (by intro x hx; simp at hx; unfold inI; omega)) (fun _=>by rw [ex_W]; decide) ?_
 rw [xGf]
 intro h13 e13
 refine ⟨_,_,rfl,?_⟩
 refine su h13 _ _ fun v18 h17 e17 r18=>⟨_,rfl,?_⟩
 have x17:=(x11.trans e13).trans e17
 have t17:=qQt _ _ x17 t1
 refine st (toSy sum0) v18 _ h17 _ _ (by decide) r18 t17 ?_
 have w2:bts (ByteArray.mk #[122,101,114,111,40,41])=[122,101,114,111,40,41]:=rfl
 rw [w2,xBo]
 intro h20 e20
 refine ⟨_,_,rfl,?_⟩
 refine su h20 _ _ fun v25 h24 e24 r25=>⟨_,rfl,?_⟩
 have x24:=(x17.trans e20).trans e24
 have t24:=qQt _ _ x24 t1
 refine st (toSy sum0) v25 _ h24 _ _ (by decide) r25 t24 ?_
 have w3:bts (ByteArray.mk #[95,48,49])=[95,48,49]:=rfl
 rw [w3,xBn]
 intro h27 e27
 refine ⟨_,_,rfl,?_⟩
 have x27:=x24.trans e27
 refine sp _ h27 _ _ (by decide) (qQt _ _ x27 t1) ?_
 have w4:qWe (bts (ByteArray.mk #[115,121,109,32,122,101,114,111,32,48,10,115,121,109,32,115,32,49,10,115,121,109,32,112,108,117,115,32,50,10,114,117,108,101,32,112,108,117,115,40,122,101,114,111,44,95,48,41,32,45,62,32,95,48,10,110,111,100,101,32,108,112,111,32,48,10,111,118,101,114,32,112,108,117,115,32,115,10,110,111,114,109,97,108,32,115,40,122,101,114,111,41]))=.ok (qKo,true):=xBq
 rw [w4]
 intro cc h31 e31 bA
 have x31:=x27.trans e31
 obtain ⟨v32,v33,v34,v35,v36,v37,_,_,_,_,rfl,y1,y2,_,y4,_,y6,_,y8,_,y10,_⟩:=bA.sl
 refine ⟨_,_,_,_,_,_,_,_,rfl,?_⟩
 refine (Hp.nil_ h31).new_ fun p40 h41 hp40 o41=>?_
 refine o41.st6 (i:=0) (vs:=[v32,v33,v34,v35,v36,v37]) rfl rfl (by
  simp only [List.all_cons,List.all_nil,qQy y1.row.isSl,qQy y2.isSl,qQy y4.isSl,qQy y6.isSl,qQy y8.isSl,qQy y10.isSl]; rfl) rfl fun h43 o43=>?_
 have o43:Hp h31 h43 (qQn p40 [v32,v33,v34,v35,v36,v37]::[]):=o43
 have x43:=x31.trans o43.ext
 refine sp _ h43 _ _ (by decide) (qQt _ _ x43 t1) ?_
 have w5:qWe (bts (ByteArray.mk #[99,104,101,99,107,10,115,121,109,32,102,32,49]))=.error (2,222):=xUp
 rw [w5]
 intro h45 e45
 refine ⟨_,_,_,_,_,_,_,_,rfl,?_⟩
 refine (Hp.nil_ h45).new_ fun p54 h55 hp54 o55=>?_
 refine o55.st6 (i:=0) (vs:=nilB) rfl rfl rfl rfl fun h57 o57=>?_
 have x57:=(e45.trans o57.ext)
 refine su h57 _ _ fun v60 h59 e59 r60=>⟨_,rfl,rfl,by decide,rfl,by decide,rfl,by decide,?_⟩
 refine qBj (ws:=Z [2,0,-1]) rfl fun s61 h62 e62 r61=>⟨rfl,by decide,?_⟩
 refine qBj (ws:=Z [-1]) rfl fun s63 h64 e64 r63=>⟨qQy r61.isSl,by decide,qQy r63.isSl,by decide,rfl,by decide,?_⟩
 refine qEy (sz:=2) (vs:=[[s61,s63]]) rfl (by simp) rfl fun s65 h66 e66 r65=>⟨rfl,by decide,rfl,by decide,rfl,by decide,?_⟩
 refine qEy (sz:=2) (vs:=[qAf (2,1)]) rfl (by simp [qAf]) rfl fun s67 h68 e68 r67=>⟨rfl,by decide,qQy r67.isSl,by decide,rfl,by decide,?_⟩
 refine qEy (sz:=4) (vs:=[[.int .i64 1,s67,.slice none 0 0,.int .i64 0]]) rfl (by simp) rfl fun s69 h70 e70 r69=>⟨rfl,by decide,rfl,by decide,?_⟩
 refine qBj (ws:=Z [1,0]) rfl fun s71 h72 e72 r71=>⟨qQy r71.isSl,by decide,?_⟩
 refine qBj (ws:=[s71]) rfl fun s73 h74 e74 r73=>⟨rfl,by decide,qQy r73.isSl,by decide,rfl,by decide,?_⟩
 refine qEy (sz:=2) (vs:=[[.string (strB qVt),s73]]) rfl (by simp) rfl fun s75 h76 e76 r75=>⟨qQy r60.row.isSl,by decide,qQy r65.isSl,by decide,qQy r69.isSl,by decide,qQy r75.isSl,by decide,?_⟩
 have z74:=e76
 have z72:=e74.trans z74
 have z70:=e72.trans z72
 have z68:=e70.trans z70
 have z66:=e68.trans z68
 have z64:=e66.trans z66
 have z62:=e64.trans z64
 have z59:=e62.trans z62
 have z57:=e59.trans z59
 have bW:BkA h76 [v60,s65,.slice none 0 0,.slice none 0 0,s69,s75] qKo:=by
  refine ⟨⟨_,_,_,_,_,_,[[s61,s63]],[],[[.int .i64 1,s67,.slice none 0 0,.int .i64 0]],[[.string (strB qVt),s73]],rfl,r60.ext z59,r65.ext z66,?_,RowK.nil_,.nil_,RowK.nil_,fun x hx=>(by cases hx),r69.ext z70,?_,r75,?_⟩,by decide,by decide,by decide,by decide,by decide,by decide,by decide⟩
  ·exact .one_ ⟨s61,s63,rfl,(xVp r61 (by decide) (by intro x hx; simp at hx; unfold inI; omega)).ext z62,(xVp r63 (by decide) (by intro x hx; simp at hx; unfold inI; omega)).ext z64⟩
  ·refine .one_ ⟨s67,.slice none 0 0,[],rfl,by unfold inI; decide,by unfold inI; decide,r67.ext z68,fun x hx=>?_,by decide,RowK.nil_,.nil_,by decide⟩
   have hx:x=(2,1):=by simpa using hx
   rw [hx]
   unfold inP inI
   decide
  ·exact .one_ ⟨s73,[s71],rfl,by decide,r73.ext z74,.one_ ((xVp r71 (by decide) (by intro x hx; simp at hx; unfold inI; omega)).ext z72),by decide⟩
 refine (Hp.nil_ h76).new_ fun p77 h78 hp77 o78=>?_
 refine o78.st6 (i:=0) (vs:=[v60,s65,.slice none 0 0,.slice none 0 0,s69,s75]) rfl rfl (by
  simp only [List.all_cons,List.all_nil,qQy r60.row.isSl,qQy r65.isSl,qQy r69.isSl,qQy r75.isSl]; rfl) rfl fun h80 o80=>?_
 have o80:Hp h76 h80 (qQn p77 [v60,s65,.slice none 0 0,.slice none 0 0,s69,s75]::[]):=o80
 rw [qQe]
 refine ⟨_,_,_,_,_,_,rdn (o80.cell (i:=0) rfl) (by simp),?_⟩
 have x80:=z57.trans o80.ext
 have y80:=(x43.trans x57).trans x80
 refine sw [v60,s65,.slice none 0 0,.slice none 0 0,s69,s75] qKo h80 _ _ (bW.ext o80.ext) (qQt _ _ y80 t1) ?_
 rw [xBp]
 intro h89 e89
 refine ⟨_,_,rfl,?_⟩
 show j11__10 D k kp v5 (.string (strB xXu)) (Pt p40) (.int .i64 0) (.int .i64 2) (Pt p77) (.string (strB (xYl++[10]))) (.bool false) h89
 unfold j11__10
 rw [qQb,qQa,qQa,qQb,qQc,cond_false]
 refine ⟨rfl,by decide,rfl,by decide,rfl,by decide,rfl,by decide,?_⟩
 refine qBj (ws:=Z [2,1,-1,0]) rfl fun s98 h99 e99 r98=>?_
 have y99:=(y80.trans e89).trans e99
 have ye:∀ {h'},Ext h89 h'→Ext h4 h':=fun e=>((((((((e8.trans e11).trans e13).trans e17).trans e20).trans e24).trans e27).trans e31).trans (o43.ext.trans (x57.trans (x80.trans (e89.trans e)))))
 refine sr v5 s98 _ _ h99 _ _ (r5.ext (ye e99)) (xVp r98 (by decide) (by intro x hx; simp at hx; unfold inI; omega)) fun t h101 e101 ht=>⟨t,rfl,?_⟩
 rw [ht.mpr rfl,cond_true,qCi,qQv]
 show cond true _ _
 rw [cond_true]
 have z101:=e99.trans e101
 rw [qQe]
 refine ⟨_,_,_,_,_,_,rdn (((o43.later (x57.trans (x80.trans (e89.trans z101))))).cell (i:=0) rfl) (by simp),?_⟩
 rw [qQe]
 refine ⟨_,_,_,_,_,_,rdn ((o80.later (e89.trans z101)).cell (i:=0) rfl) (by simp),?_⟩
 refine sm [v32,v33,v34,v35,v36,v37] [v60,s65,.slice none 0 0,.slice none 0 0,s69,s75] qKo qKo h101 _ _ (bA.ext (o43.ext.trans (x57.trans (x80.trans (e89.trans z101))))) (bW.ext (o80.ext.trans (e89.trans z101))) fun t h118 e118 ht=>⟨t,rfl,?_⟩
 rw [ht.mpr rfl,cond_true,qCi,qQv]
 show k (.bool (xYl++[10]==xYl++[10])) h118
 rw [beq_self_eq_true]
 exact hk h118 (e1.trans (y99.trans (e101.trans e118)))
end Go.Proofs.YtkdneddcocggdaaGreatDoor.Am
namespace Go.Proofs.Sp
open Go Go.Lib Sys
end Go.Proofs.Sp
namespace Go.Proofs.YtkdneddcocggdaaGreatDoor.Am
open Go Go.Proofs Go.RowKit Go.Lib Sys Sp
set_option maxRecDepth 100000
variable {D:Orc} {E:Dorc} {h h' h0:H} {k:Kv} {kp:Kp}
end Go.Proofs.YtkdneddcocggdaaGreatDoor.Am
namespace Go.Proofs.Sp
open Go Go.Lib Sys
theorem qNr {g:Bs→Except Int (List Int × Bs)} (hg:∀ s e,g s=.error e→e≠0):∀ (n:Nat) (b:Bool) (s:Bs) (e:Int),qPq g n b s=.error e→e≠0
 | 0,true,s,e,h=>by cases h
 | 0,false,s,e,h=>by
  unfold qPq at h
  split at h
  ·cases h
  ·obtain rfl:=Except.error.inj h; decide
 | n+1,b,s,e,h=>by
  unfold qPq at h
  by_cases hc:s.head?=some (if b then 40 else 44)
  ·rw [if_pos hc] at h
   split at h
   ·rename_i e' he
    obtain rfl:=Except.error.inj h
    exact hg _ _ he
   ·split at h
    ·rename_i e' he
     obtain rfl:=Except.error.inj h
     exact qNr hg n _ _ _ he
    ·cases h
  ·rw [if_neg hc] at h
   obtain rfl:=Except.error.inj h; decide
theorem qNo {sig:Sg}:∀ (f:Nat) (s:Bs) (e:Int),qAw sig f s=.error e→e≠0
 | 0,s,e,h=>by obtain rfl:=Except.error.inj h; decide
 | f+1,s,e,h=>by
  unfold qAw at h
  split at h
  ·split at h
   ·cases h
   ·obtain rfl:=Except.error.inj h; decide
  ·split at h
   ·obtain rfl:=Except.error.inj h; decide
   ·split at h
    ·cases h
    ·rename_i e' he
     obtain rfl:=Except.error.inj h
     exact qNr (qNo f) _ _ _ _ he
end Go.Proofs.Sp
namespace Go.Proofs.YtkdneddcocggdaaGreatDoor.Am
open Go Go.Proofs Go.RowKit Go.Lib Sys Sp
set_option maxRecDepth 100000
variable {D:Orc} {E:Dorc} {h h' h0:H} {k:Kv} {kp:Kp} {L R:List Res}
variable {D:Orc} {E:Dorc} {h h' h0:H} {k:Kv} {kp:Kp} {L R:List Res}
variable {D:Orc} {E:Dorc} {h h' h0:H} {k:Kv} {kp:Kp} {L R:List Res} {bv:Value} {l:Bs}
def NN (v:Value):Prop:=∃ a n c,v=.slice (some a) n c
theorem nn_of {vs:List Value} (r:Buf h0 h bv vs) (hv:vs≠[]):NN bv:=by
 rcases r with ⟨⟨a,rfl⟩,rfl⟩ | ⟨b,off,cap,l,_,rfl,_⟩
 ·exact absurd rfl hv
 ·exact ⟨_,_,_,rfl⟩
theorem U8_ne {l:Bs} (h:l≠[]):U8 l≠[]:=fun e=>h (by
 have:=congrArg List.length e
 rw [qXz] at this
 exact List.length_eq_zero_iff.mp this)
end Go.Proofs.YtkdneddcocggdaaGreatDoor.Am
