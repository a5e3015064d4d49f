/-
  Packed: The statements' own helpers: what is the same. The statements' own helpers: nodes that are the same. The statements' own helpers: books that are the same; how many lines a text has; the document's signature. What is read from a text is no greater than the text: plain. The document's examples: plain. What Parse answers is a book; the document's examples are walked. The document's way: UTF-8, digits, numbers, names, symbols. The document's way: names, symbols, terms are read. The document's way: a term is read. The document's way: a term is written.
-/
import Derived.Test.YtkdneddcocggdaaGreatDoorPkH
set_option linter.unusedVariables false
set_option linter.unusedSimpArgs false
set_option linter.unnecessarySimpa false
namespace Go.Proofs.YtkdneddcocggdaaGreatDoor.Am
open Go Go.Proofs Go.RowKit Go.Lib Sys Sp
set_option linter.unusedVariables false
set_option linter.unusedSimpArgs false
set_option maxRecDepth 100000
variable {D:Orc} {E:Dorc} {h h' h0:H} {k:Kv} {kp:Kp} {L R:List Res}
def Sam {α:Type} (h:H) (x y:α) (k:Kv):Prop:=∀ (t:Bool) h',Ext h h'→(t=true↔x=y)→k (.bool t) h'
theorem sam_yes {α:Type} {x y:α} (s:Sam h x y k) (e:Ext h h') (hxy:x=y):k (.bool true) h':=s true h' e ⟨fun _=>hxy,fun _=>rfl⟩
theorem sam_no {α:Type} {x y:α} (s:Sam h x y k) (e:Ext h h') (hxy:x≠y):k (.bool false) h':=s false h' e ⟨fun h=>(by cases h),fun h=>absurd h hxy⟩
theorem drop_at {α:Type} {l:List α} {i:Nat} (hi:i<l.length):l.drop i=l[i]::l.drop (i+1):=List.drop_eq_getElem_cons hi
theorem drop_step {α:Type} {l m:List α} {i:Nat} (hl:i<l.length) (hm:i<m.length) (hd:l.drop i=m.drop i↔l=m) (he:l[i]=m[i]):l.drop (i+1)=m.drop (i+1)↔l=m:=by
  rw [drop_at hl,drop_at hm,he] at hd
  rw [← hd]
  exact ⟨fun h=>by rw [h],fun h=>(List.cons.inj h).2⟩
theorem drop_stop {α:Type} {l m:List α} {i:Nat} (hl:i<l.length) (hm:i<m.length) (he:l[i]≠m[i]):l≠m:=fun e=>by subst e; exact he rfl
theorem drop_end {α:Type} {l m:List α} {i:Nat} (hl:l.length≤i) (hm:m.length≤i) (hd:l.drop i=m.drop i↔l=m):l=m:=hd.mp (by rw [List.drop_eq_nil_of_le hl,List.drop_eq_nil_of_le hm])
def SpecSRow (D:Orc) (f:Nat):Prop:=∀ a b (l m:List Int) h (k:Kv) kp,Ir h a l→Ir h b m→Sam h l m k→D f [a,b] h k kp
theorem spec14 (c:Cl14 D):SpecSRow D 14:=by
  intro a b l m h k kp ra rb hk
  refine c _ _ _ _ _ ?_
  unfold F14
  have hl:=ra.len
  have hm:=rb.len
  rw [ra.len_,rb.len_,cond_ne]
  refine ⟨fun hne=>sam_no hk (Ext.refl h) fun e=>hne (by rw [e]),fun heq=>?_⟩
  have hlen:l.length=m.length:=by omega
  intro I hI
  have key:∀ (n i:Nat),i+n=l.length→(l.drop i=m.drop i↔l=m)→I [a,b,.int .i64 ((i:Nat):Int)] h:=by
    intro n
    induction n with
    | zero =>
      intro i hi he
      refine hI _ _ _ _ ?_
      unfold round14_4
      rw [intK_int,ra.len_,cond_dec]
      refine ⟨fun hlt=>by omega,fun _=>?_⟩
      exact sam_yes hk (Ext.refl h) (drop_end (by omega) (by omega) he)
    | succ n ih =>
      intro i hi he
      refine hI _ _ _ _ ?_
      unfold round14_4
      rw [intK_int,ra.len_,cond_dec]
      refine ⟨fun hlt=>?_,fun _=>by omega⟩
      refine ra.at_ (by omega) (by omega) fun ad x hx _ hrd=>⟨x,hrd,?_⟩
      refine rb.at_ (by omega) (by omega) fun ad2 y hy _ hrd2=>⟨y,hrd2,?_⟩
      rw [Int.toNat_natCast,List.getElem?_eq_getElem (by omega)] at hx hy
      have hx:=Option.some.inj hx
      have hy:=Option.some.inj hy
      rw [cond_ne]
      refine ⟨fun hne=>sam_no hk (Ext.refl h) (drop_stop (i:=i) (by omega) (by omega) (by rw [hx,hy]; exact hne)),fun heq=>?_⟩
      rw [i64_id (by omega) (by omega)]
      exact ih (i+1) (by omega) (drop_step (by omega) (by omega) he (by rw [hx,hy]; exact heq))
  exact key l.length 0 (by omega) (by simp)
def SpecSRules (D:Orc) (f:Nat):Prop:=∀ a b va vb (l m:List Ru) h (k:Kv) kp,RowK 2 h a va→Rel2 (RuI h) va l→RowK 2 h b vb→Rel2 (RuI h) vb m→l.length<2 ^ 40→m.length<2 ^ 40→Sam h l m k→D f [a,b] h k kp
theorem spec49 (c : Cl49 D) (sr : SpecSRow D 14) : SpecSRules D 49 := by
  intro a b va vb l m h k kp ra qa rb qb hl hm hk
  refine c _ _ _ _ _ ?_
  unfold F49
  rw [ra.len,rb.len,qa.len,qb.len,cond_ne]
  refine ⟨fun hne=>sam_no hk (Ext.refl h) fun e=>hne (by rw [e]),fun heq=>?_⟩
  have hlen:l.length=m.length:=by omega
  have hla:=qa.len
  have hlb:=qb.len
  intro I hI
  have key:∀ (n i:Nat) (h':H),Ext h h'→i+n=l.length→(l.drop i=m.drop i↔l=m)→I [a,b,.int .i64 ((i:Nat):Int)] h':=by
    intro n
    induction n with
    | zero =>
      intro i h' e hi he
      refine hI _ _ _ _ ?_
      unfold round49_4
      rw [intK_int,(ra.ext e).len,qa.len,cond_dec]
      refine ⟨fun hlt=>by omega,fun _=>?_⟩
      exact sam_yes hk e (drop_end (by omega) (by omega) he)
    | succ n ih =>
      intro i h' e hi he
      refine hI _ _ _ _ ?_
      unfold round49_4
      rw [intK_int,(ra.ext e).len,qa.len,cond_dec]
      refine ⟨fun hlt=>?_,fun _=>by omega⟩
      obtain ⟨v,w,hv,iv,iw⟩:=qa.at_ i va[i] l[i] (List.getElem?_eq_getElem (by omega)) (List.getElem?_eq_getElem (by omega))
      obtain ⟨v',w',hv',iv',iw'⟩:=qb.at_ i vb[i] m[i] (List.getElem?_eq_getElem (by omega)) (List.getElem?_eq_getElem (by omega))
      have ata:∀ {h2:H} (e2:Ext h h2) {K:Addr→Prop},(∀ ad,rd h2 (Addr.add ad 0)=some v→rd h2 (Addr.add ad 1)=some w→K ad)→slAtW a (i:Int) 2 K:=fun {h2} e2 {K} hK=>by
        refine RowK.at_ (n:=(i:Int)) (ra.ext e2) (by omega) (by omega) fun ad c hc _ hj=>?_
        rw [Int.toNat_natCast,List.getElem?_eq_getElem (show i<va.length by omega),hv] at hc
        obtain rfl:=Option.some.inj hc
        exact hK ad (hj 0 _ rfl) (hj 1 _ rfl)
      have atb:∀ {h2:H} (e2:Ext h h2) {K:Addr→Prop},(∀ ad,rd h2 (Addr.add ad 0)=some v'→rd h2 (Addr.add ad 1)=some w'→K ad)→slAtW b (i:Int) 2 K:=fun {h2} e2 {K} hK=>by
        refine RowK.at_ (n:=(i:Int)) (rb.ext e2) (by omega) (by omega) fun ad c hc _ hj=>?_
        rw [Int.toNat_natCast,List.getElem?_eq_getElem (show i<vb.length by omega),hv'] at hc
        obtain rfl:=Option.some.inj hc
        exact hK ad (hj 0 _ rfl) (hj 1 _ rfl)
      have fin:∀ (t:Bool) (h2:H),Ext h h2→(t=true↔l[i]≠m[i])→j49_4_7 D I (fun x23 vs24 h22=>xs x23 (boolW (nth vs24 0) (fun t26=>k (.bool t26) h22)) (fun i25=>cond (Nat.beq i25 0) (
k (.bool true) h22) (False)) (fun c => kp c h22)) a b (.int .i64 (i : Int)) (.bool t) h2 := fun t h2 e2 ht => by
        unfold j49_4_7
        rw [intK_int,boolW_bool]
        cases t with
        | true=>exact sam_no hk e2 (drop_stop (i:=i) (by omega) (by omega) (ht.mp rfl))
        | false =>
          rw [cond_false,i64_id (by omega) (by omega)]
          refine ih (i+1) h2 e2 (by omega) (drop_step (by omega) (by omega) he ?_)
          exact Classical.byContradiction fun hn=>by have:=ht.mpr hn; cases this
      refine ata e fun ad1 r1 _=>⟨v,r1,?_⟩
      refine atb e fun ad2 r2 _=>⟨v',r2,?_⟩
      refine sr v v' _ _ h' _ _ (iv.ext e) (iv'.ext e) fun t h2 e2 ht=>⟨t,rfl,?_⟩
      rw [Bool.not_not]
      cases t with
      | false =>
        refine fin true h2 (e.trans e2) ⟨fun _ hx=>?_,fun _=>rfl⟩
        have:=ht.mpr (by rw [hx]); cases this
      | true =>
        have h1:=ht.mp rfl
        rw [cond_true]
        refine ata (e.trans e2) fun ad3 _ r3=>⟨w,r3,?_⟩
        refine atb (e.trans e2) fun ad4 _ r4=>⟨w',r4,?_⟩
        refine sr w w' _ _ h2 _ _ (iw.ext (e.trans e2)) (iw'.ext (e.trans e2)) fun t h3 e3 ht=>⟨t,rfl,?_⟩
        refine fin _ h3 ((e.trans e2).trans e3) ?_
        rw [Bool.not_eq_true',← Bool.not_eq_true,ht]
        exact ⟨fun h hx=>h (by rw [hx]),fun h hx=>h (Prod.ext h1 hx)⟩
  exact key l.length 0 h (Ext.refl h) (by omega) (by simp)
def SpecSPairs (D:Orc) (f:Nat):Prop:=∀ a b (l m:List (Int × Int)) h (k:Kv) kp,RowK 2 h a (l.map pairC)→RowK 2 h b (m.map pairC)→l.length<2 ^ 40→m.length<2 ^ 40→Sam h l m k→D f [a,b] h k kp
theorem spec50 (c : Cl50 D) : SpecSPairs D 50 := by
  intro a b l m h k kp ra rb hl hm hk
  refine c _ _ _ _ _ ?_
  unfold F50
  rw [ra.len,rb.len,List.length_map,List.length_map,cond_ne]
  refine ⟨fun hne=>sam_no hk (Ext.refl h) fun e=>hne (by rw [e]),fun heq=>?_⟩
  have hlen:l.length=m.length:=by omega
  intro I hI
  have key:∀ (n i:Nat),i+n=l.length→(l.drop i=m.drop i↔l=m)→I [a,b,.int .i64 ((i:Nat):Int)] h:=by
    intro n
    induction n with
    | zero =>
      intro i hi he
      refine hI _ _ _ _ ?_
      unfold round50_4
      rw [intK_int,ra.len,List.length_map,cond_dec]
      refine ⟨fun hlt=>by omega,fun _=>?_⟩
      exact sam_yes hk (Ext.refl h) (drop_end (by omega) (by omega) he)
    | succ n ih =>
      intro i hi he
      refine hI _ _ _ _ ?_
      unfold round50_4
      rw [intK_int,ra.len,List.length_map,cond_dec]
      refine ⟨fun hlt=>?_,fun _=>by omega⟩
      refine ra.at_ (by omega) (by rw [List.length_map]; omega) fun ad v hv hrd _=>?_
      rw [Int.toNat_natCast,List.getElem?_map,List.getElem?_eq_getElem (by omega)] at hv
      obtain rfl:=Option.some.inj hv
      refine ⟨l[i].1,l[i].2,hrd,?_⟩
      refine rb.at_ (by omega) (by rw [List.length_map]; omega) fun ad v hv hrd _=>?_
      rw [Int.toNat_natCast,List.getElem?_map,List.getElem?_eq_getElem (by omega)] at hv
      obtain rfl:=Option.some.inj hv
      refine ⟨m[i].1,m[i].2,hrd,?_⟩
      rw [cond_not,Bool.and_true,cond_split]
      refine ⟨fun ht=>?_,fun hf=>?_⟩
      · rw [Bool.and_eq_true, beq_iff_eq, beq_iff_eq] at ht
        rw [i64_id (by omega) (by omega)]
        exact ih (i+1) (by omega) (drop_step (by omega) (by omega) he (Prod.ext ht.1 ht.2))
      · refine sam_no hk (Ext.refl h) (drop_stop (i := i) (by omega) (by omega) fun hx => ?_)
        rw [hx] at hf
        simp at hf
  exact key l.length 0 (by omega) (by simp)
end Go.Proofs.YtkdneddcocggdaaGreatDoor.Am

namespace Go.Proofs.YtkdneddcocggdaaGreatDoor.Am
open Go Go.Proofs Go.RowKit Go.Lib Sys Sp
set_option linter.unusedVariables false
set_option linter.unusedSimpArgs false
set_option maxRecDepth 100000
variable {D:Orc} {E:Dorc} {h h' h0:H} {k:Kv} {kp:Kp} {L R:List Res}
theorem rowk_at {sz:Nat} {s:Value} {vs:List (List Value)} (r:RowK sz h s vs) {i:Nat} {c:List Value} (hc:vs[i]?=some c) {K:Addr→Prop} (hK:∀ ad,rdN h ad sz=some c→(∀ j v,c[j]?=some v→rd h (Addr.add ad j)=some v)→K ad):slAtW s (i:Int) sz K:=by
  have hi:=(List.getElem?_eq_some_iff.mp hc).1
  refine r.at_ (by omega) (by omega) fun ad c' hc' h1 h2=>?_
  rw [Int.toNat_natCast,hc] at hc'
  obtain rfl:=Option.some.inj hc'
  exact hK ad h1 h2
theorem row_at {s:Value} {vs:List Value} (r:Row h s vs) {i:Nat} {v:Value} (hc:vs[i]?=some v) {K:Addr→Prop} (hK:∀ ad,rd h ad=some v→K ad):slAtW s (i:Int) 1 K:=by
  have hi:=(List.getElem?_eq_some_iff.mp hc).1
  refine r.at_ (by omega) (by omega) fun ad v' hc' h1=>?_
  rw [Int.toNat_natCast,hc] at hc'
  obtain rfl:=Option.some.inj hc'
  exact hK ad h1
def SpecSMono (D:Orc) (f:Nat):Prop:=∀ (c d:List Value) (x y:Mo) h (k:Kv) kp,MoR h c x→MoR h d y→Sam h x y k→D f [.agg c.toArray,.agg d.toArray] h k kp
theorem spec98 (c : Cl98 D) (sr : SpecSRow D 14) : SpecSMono D 98 := by
  intro cc dd x y h k kp hx hy hk
  obtain ⟨v,w,rfl,nv,iw⟩:=hx
  obtain ⟨v',w',rfl,nv',iw'⟩:=hy
  refine c _ _ _ _ _ ?_
  unfold F98
  rw [aggW_agg]
  refine (Hp.nil_ h).new_ fun p h1 hp o1=>?_
  rw [aggW_agg]
  refine o1.new_ fun q h2 hq o2=>?_
  have o2:Hp h h2 (cellR q [v',w']::cellR p [v,w]::[]):=o2
  have hcp:∀ {h'},Ext h2 h'→h' p=some (.cells [v,w]):=fun e=>(o2.later e).cell (i:=1) rfl
  have hcq:∀ {h'},Ext h2 h'→h' q=some (.cells [v',w']):=fun e=>(o2.later e).cell (i:=0) rfl
  refine ldj (hcp (Ext.refl _)) rfl ?_
  rw [(nv.ext o2.ext).len]
  refine ldj (hcq (Ext.refl _)) rfl ?_
  rw [(nv'.ext o2.ext).len]
  have hmo:x=y↔x.coef=y.coef∧x.exps=y.exps:=by
    cases x; cases y
    constructor
    · intro h; cases h; exact ⟨rfl,rfl⟩
    · rintro ⟨h1,h2⟩; dsimp only at h1 h2; rw [h1,h2]
  rw [cond_not,cond_ne]
  have bad:∀ h3,Ext h h3→x≠y→j98__2 D k kp (Pt p) (Pt q) (.bool true) h3:=fun h3 e3 hne=>by
    unfold j98__2
    rw [boolW_bool,cond_true]
    exact sam_no hk e3 hne
  refine ⟨fun hne=>bad h2 o2.ext fun e=>hne (by rw [e]),fun heq=>?_⟩
  have hlen:x.coef.length=y.coef.length:=by omega
  have hsm:=nv.small
  refine ldj (hcp (Ext.refl _)) rfl (ldj (hcq (Ext.refl _)) rfl ?_)
  refine sr w w' _ _ h2 _ _ (iw.ext o2.ext) (iw'.ext o2.ext) fun t h3 e3 ht=>⟨t,rfl,?_⟩
  cases t with
  | false =>
    refine bad h3 (o2.ext.trans e3) fun e=>?_
    have:=ht.mpr (by rw [e])
    cases this
  | true =>
    have hex:=ht.mp rfl
    unfold j98__2
    rw [boolW_bool,Bool.not_true,cond_false]
    have e23:=o2.ext.trans e3
    intro I hI
    have key:∀ (n i:Nat),i+n=x.coef.length→(x.coef.drop i=y.coef.drop i↔x.coef=y.coef)→I [Pt p,Pt q,.int .i64 ((i:Nat):Int)] h3:=by
      intro n
      induction n with
      | zero =>
        intro i hi he
        refine hI _ _ _ _ ?_
        unfold round98_4
        rw [intK_int]
        refine ldj (hcp e3) rfl ?_
        rw [(nv.ext e23).len,cond_dec]
        refine ⟨fun hlt=>by omega,fun _=>?_⟩
        exact sam_yes hk e23 (hmo.mpr ⟨drop_end (by omega) (by omega) he,hex⟩)
      | succ n ih =>
        intro i hi he
        refine hI _ _ _ _ ?_
        unfold round98_4
        rw [intK_int]
        refine ldj (hcp e3) rfl ?_
        rw [(nv.ext e23).len,cond_dec]
        refine ⟨fun hlt=>?_,fun _=>by omega⟩
        refine ldj (hcp e3) rfl ?_
        refine (nv.ext e23).at_ (by omega) (by omega) fun ad u hu _ hrd=>⟨_,hrd,?_⟩
        refine ldj (hcq e3) rfl ?_
        refine (nv'.ext e23).at_ (by omega) (by omega) fun ad2 u2 hu2 _ hrd2=>⟨_,hrd2,?_⟩
        rw [Int.toNat_natCast,List.getElem?_eq_getElem (by omega)] at hu hu2
        have hu:=Option.some.inj hu
        have hu2:=Option.some.inj hu2
        rw [cond_ne]
        refine ⟨fun hne=>sam_no hk e23 fun e=>hne (by
          have:=drop_stop (i:=i) (l:=x.coef) (m:=y.coef) (by omega) (by omega)
          rw [← hu,← hu2]
          congr 1
          subst e; rfl),fun heq=>?_⟩
        rw [i64_id (by omega) (by omega)]
        exact ih (i+1) (by omega) (drop_step (by omega) (by omega) he (by rw [hu,hu2]; omega))
    exact key x.coef.length 0 (by omega) (by simp)
theorem it_eq {x y:It}:x=y↔x.sym=y.sym∧x.p=y.p:=by
  cases x; cases y
  constructor
  · intro h; cases h; exact ⟨rfl,rfl⟩
  · rintro ⟨h1,h2⟩; dsimp only at h1 h2; rw [h1,h2]
theorem nd_eq {x y:Nd}:x=y↔x.kind=y.kind∧x.kids=y.kids∧x.prec=y.prec∧x.ints=y.ints:=by
  cases x; cases y
  constructor
  · intro h; cases h; exact ⟨rfl,rfl,rfl,rfl⟩
  · rintro ⟨h1,h2,h3,h4⟩; dsimp only at h1 h2 h3 h4; rw [h1,h2,h3,h4]
def SpecSNode (D:Orc) (f:Nat):Prop:=∀ (c d:List Value) (x y:Nd) h (k:Kv) kp,NdR h c x→NdR h d y→Sam h x y k→D f [.agg c.toArray,.agg d.toArray] h k kp
set_option maxHeartbeats 1600000 in
theorem spec51 (c : Cl51 D) (sm : SpecSMono D 98) (sp : SpecSPairs D 50) : SpecSNode D 51 := by
  intro cc dd x y h k kp hx hy hk
  obtain ⟨pv,iv,vs,rfl,a1,a2,a3,a4,a5,a6,a7,a8⟩:=hx
  obtain ⟨pv',iv',vs',rfl,b1,b2,b3,b4,b5,b6,b7,b8⟩:=hy
  refine c _ _ _ _ _ ?_
  unfold F51
  rw [aggW_agg]
  refine (Hp.nil_ h).new_ fun p h1 hp o1=>?_
  rw [aggW_agg]
  refine o1.new_ fun q h2 hq o2=>?_
  have o2:Hp h h2 (cellR q [.int .i64 y.kind,pv',iv',.int .i64 y.kids]::cellR p [.int .i64 x.kind,pv,iv,.int .i64 x.kids]::[]):=o2
  have hcp:∀ {h'},Ext h2 h'→h' p=some (.cells [.int .i64 x.kind,pv,iv,.int .i64 x.kids]):=fun e=>(o2.later e).cell (i:=1) rfl
  have hcq:∀ {h'},Ext h2 h'→h' q=some (.cells [.int .i64 y.kind,pv',iv',.int .i64 y.kids]):=fun e=>(o2.later e).cell (i:=0) rfl
  have e02:=o2.ext
  have bad:∀ h3,Ext h h3→x≠y→j51__2 D k kp (Pt p) (Pt q) (.bool true) h3:=fun h3 e3 hne=>by
    unfold j51__2
    rw [boolW_bool,cond_true]
    exact sam_no hk e3 hne
  refine ldjI (hcp (Ext.refl _)) rfl (ldjI (hcq (Ext.refl _)) rfl ?_)
  rw [cond_not,cond_ne]
  refine ⟨fun hne=>bad h2 e02 fun e=>hne (by rw [e]),fun hkind=>?_⟩
  refine ldjI (hcp (Ext.refl _)) rfl (ldjI (hcq (Ext.refl _)) rfl ?_)
  rw [cond_not,cond_ne]
  refine ⟨fun hne=>bad h2 e02 fun e=>hne (by rw [e]),fun hkids=>?_⟩
  refine ldj (hcp (Ext.refl _)) rfl (ldj (hcq (Ext.refl _)) rfl ?_)
  refine sp pv pv' x.prec y.prec h2 _ _ (a3.ext e02) (b3.ext e02) a5 b5 fun t h3 e3 ht=>⟨t,rfl,?_⟩
  have e03:=e02.trans e3
  rw [Bool.not_not]
  cases t with
  | false =>
    refine bad h3 e03 fun e=>?_
    have:=ht.mpr (by rw [e])
    cases this
  | true =>
    have hprec:=ht.mp rfl
    rw [cond_true]
    refine ldj (hcp e3) rfl ?_
    rw [(a6.ext e03).len,a7.len]
    refine ldj (hcq e3) rfl ?_
    rw [(b6.ext e03).len,b7.len]
    by_cases hil:x.ints.length=y.ints.length
    rotate_left
    · rw [show ((x.ints.length : Int) != (y.ints.length : Int)) = true from bne_iff_ne.mpr (by omega)]
      exact bad h3 e03 fun e=>hil (by rw [e])
    rw [show ((x.ints.length:Int) != (y.ints.length:Int))=false by rw [hil]; simp]
    unfold j51__2
    rw [boolW_bool,cond_false]
    have hva:=a7.len
    have hvb:=b7.len
    intro I hI
    have key:∀ (n i:Nat) (h4:H),Ext h3 h4→i+n=x.ints.length→(x.ints.drop i=y.ints.drop i↔x.ints=y.ints)→I [Pt p,Pt q,.int .i64 ((i:Nat):Int)] h4:=by
      intro n
      induction n with
      | zero =>
        intro i h4 e4 hi he
        have e04:=e03.trans e4
        refine hI _ _ _ _ ?_
        unfold round51_4
        rw [intK_int]
        refine ldj (hcp (e3.trans e4)) rfl ?_
        rw [(a6.ext e04).len,a7.len,cond_dec]
        refine ⟨fun hlt=>by omega,fun _=>?_⟩
        exact sam_yes hk e04 (nd_eq.mpr ⟨hkind,hkids,hprec,drop_end (by omega) (by omega) he⟩)
      | succ n ih =>
        intro i h4 e4 hi he
        have e04:=e03.trans e4
        have e24:=e3.trans e4
        refine hI _ _ _ _ ?_
        unfold round51_4
        rw [intK_int]
        refine ldj (hcp e24) rfl ?_
        rw [(a6.ext e04).len,a7.len,cond_dec]
        refine ⟨fun hlt=>?_,fun _=>by omega⟩
        have hxi:x.ints[i]?=some x.ints[i]:=List.getElem?_eq_getElem (by omega)
        have hyi:y.ints[i]?=some y.ints[i]:=List.getElem?_eq_getElem (by omega)
        have hvi:vs[i]?=some vs[i]:=List.getElem?_eq_getElem (by omega)
        have hwi:vs'[i]?=some vs'[i]:=List.getElem?_eq_getElem (by omega)
        obtain ⟨mv,mvs,hv,f1,f2,f3,f4⟩:=a7.at_ i _ _ hvi hxi
        obtain ⟨mv',mvs',hv',g1,g2,g3,g4⟩:=b7.at_ i _ _ hwi hyi
        rw [hv] at hvi
        rw [hv'] at hwi
        have hne_of:∀ {P:Prop},(x.ints[i]=y.ints[i]→P)→¬ P→x≠y:=fun hp hn e=>hn (hp (by
          subst e; rfl))
        have stop:∀ h5,Ext h h5→x≠y→xs X.r (boolW (nth [Value.bool false] 0) (fun t90=>k (.bool t90) h5)) (fun i89=>cond (Nat.beq i89 0) (k (.bool true) h5) (False)) (fun c=>kp c h5):=fun h5 e5 hne=>sam_no hk e5 hne
        refine ldj (hcp e24) rfl (rowk_at (a6.ext e04) hvi fun ad1 _ r1=>⟨_,r1 0 _ rfl,?_⟩)
        refine ldj (hcq e24) rfl (rowk_at (b6.ext e04) hwi fun ad2 _ r2=>⟨_,r2 0 _ rfl,?_⟩)
        have bad4:x≠y→j51_4_7 D I (fun x87 vs88 h86=>xs x87 (boolW (nth vs88 0) (fun t90=>k (.bool t90) h86)) (fun i89=>cond (Nat.beq i89 0) (
k (.bool true) h86) (False)) (fun c=>kp c h86)) (Pt p) (Pt q) (.int .i64 (i:Int)) (.bool true) h4:=fun hne=>by
          unfold j51_4_7
          rw [intK_int,boolW_bool,cond_true]
          exact stop h4 e04 hne
        rw [cond_not,cond_ne]
        refine ⟨fun hne=>bad4 (hne_of (fun e=>by rw [e]) hne),fun hsym=>?_⟩
        refine ldj (hcp e24) rfl (rowk_at (a6.ext e04) hvi fun ad3 _ r3=>⟨_,r3 1 _ rfl,?_⟩)
        rw [(f2.ext e04).len,f3.len]
        refine ldj (hcq e24) rfl (rowk_at (b6.ext e04) hwi fun ad5 _ r5=>⟨_,r5 1 _ rfl,?_⟩)
        rw [(g2.ext e04).len,g3.len]
        by_cases hpl:x.ints[i].p.length=y.ints[i].p.length
        rotate_left
        · rw [show ((x.ints[i].p.length : Int) != (y.ints[i].p.length : Int)) = true from bne_iff_ne.mpr (by omega)]
          exact bad4 (hne_of (fun e=>by rw [e]) hpl)
        rw [show ((x.ints[i].p.length:Int) != (y.ints[i].p.length:Int))=false by rw [hpl]; simp]
        unfold j51_4_7
        rw [intK_int,boolW_bool,cond_false]
        have hma:=f3.len
        have hmb:=g3.len
        intro J hJ
        have inner:∀ (n' j:Nat) (h5:H),Ext h4 h5→j+n'=x.ints[i].p.length→(x.ints[i].p.drop j=y.ints[i].p.drop j↔x.ints[i].p=y.ints[i].p)→J [Pt p,Pt q,.int .i64 ((i:Nat):Int),.int .i64 ((j:Nat):Int)] h5:=by
          intro n'
          induction n' with
          | zero =>
            intro j h5 e5 hj hje
            have e05:=e04.trans e5
            refine hJ _ _ _ _ _ ?_
            unfold round51_9
            rw [intK_int,intK_int]
            refine ldj (hcp (e24.trans e5)) rfl (rowk_at (a6.ext e05) hvi fun ad3 _ r3=>⟨_,r3 1 _ rfl,?_⟩)
            rw [(f2.ext e05).len,f3.len,cond_dec]
            refine ⟨fun hlt=>by omega,fun _=>?_⟩
            show xs (X.e 2) _ _ _
            rw [xs_e]
            show cond true _ _
            rw [cond_true,nth0,nth1,nth2,intK_int,i64_id (by omega) (by omega)]
            exact ih (i+1) h5 (e4.trans e5) (by omega) (drop_step (by omega) (by omega) he (it_eq.mpr ⟨hsym,drop_end (by omega) (by omega) hje⟩))
          | succ n' ihj =>
            intro j h5 e5 hj hje
            have e05:=e04.trans e5
            have e25:=e24.trans e5
            refine hJ _ _ _ _ _ ?_
            unfold round51_9
            rw [intK_int,intK_int]
            refine ldj (hcp e25) rfl (rowk_at (a6.ext e05) hvi fun ad3 _ r3=>⟨_,r3 1 _ rfl,?_⟩)
            rw [(f2.ext e05).len,f3.len,cond_dec]
            refine ⟨fun hlt=>?_,fun _=>by omega⟩
            have hxj:x.ints[i].p[j]?=some x.ints[i].p[j]:=List.getElem?_eq_getElem (by omega)
            have hyj:y.ints[i].p[j]?=some y.ints[i].p[j]:=List.getElem?_eq_getElem (by omega)
            have hvj:mvs[j]?=some mvs[j]:=List.getElem?_eq_getElem (by omega)
            have hwj:mvs'[j]?=some mvs'[j]:=List.getElem?_eq_getElem (by omega)
            have q1:=f3.at_ j _ _ hvj hxj
            have q2:=g3.at_ j _ _ hwj hyj
            obtain ⟨u1,u2,hu,u3,u4⟩:=q1
            obtain ⟨z1,z2,hz,z3,z4⟩:=q2
            rw [hu] at hvj
            rw [hz] at hwj
            refine ldj (hcp e25) rfl (rowk_at (a6.ext e05) hvi fun ad3 _ r3=>⟨_,r3 1 _ rfl,rowk_at (f2.ext e05) hvj fun ad4 r4 _=>⟨_,_,r4,?_⟩⟩)
            refine ldj (hcq e25) rfl (rowk_at (b6.ext e05) hwi fun ad3 _ r3=>⟨_,r3 1 _ rfl,rowk_at (g2.ext e05) hwj fun ad4 r4 _=>⟨_,_,r4,?_⟩⟩)
            refine sm [u1,u2] [z1,z2] x.ints[i].p[j] y.ints[i].p[j] h5 _ _ (MoR.ext e05 ⟨u1,u2,rfl,u3,u4⟩) (MoR.ext e05 ⟨z1,z2,rfl,z3,z4⟩) fun t h6 e6 ht=>⟨t,rfl,?_⟩
            cases t with
            | false =>
              rw [Bool.not_false,cond_true]
              show xs X.r _ _ _
              rw [xs_r,nth0,boolW_bool]
              refine stop h6 (e05.trans e6) fun e=>?_
              have:x.ints[i].p[j]=y.ints[i].p[j]:=by subst e; rfl
              have:=ht.mpr this
              cases this
            | true =>
              rw [Bool.not_true,cond_false,i64_id (by omega) (by omega)]
              exact ihj (j+1) h6 (e5.trans e6) (by omega) (drop_step (by omega) (by omega) hje (ht.mp rfl))
        exact inner x.ints[i].p.length 0 h4 (Ext.refl _) (by omega) (by simp)
    exact key x.ints.length 0 h3 (Ext.refl _) (by omega) (by simp)
end Go.Proofs.YtkdneddcocggdaaGreatDoor.Am

namespace Go.Proofs.YtkdneddcocggdaaGreatDoor.Am
open Go Go.Proofs Go.RowKit Go.Lib Sys Sp
set_option linter.unusedVariables false
set_option linter.unusedSimpArgs false
set_option maxRecDepth 100000
variable {D:Orc} {E:Dorc} {h h' h0:H} {k:Kv} {kp:Kp} {L R:List Res} {p q:Nat} {cp cq:List Value}
theorem cm_eq {x y:Cm}:x=y↔x.word=y.word∧x.terms=y.terms:=by
  cases x; cases y
  constructor
  · intro h; cases h; exact ⟨rfl,rfl⟩
  · rintro ⟨h1,h2⟩; dsimp only at h1 h2; rw [h1,h2]
theorem bk_eq {x y:Bk}:x=y↔x.sig=y.sig∧x.rules=y.rules∧x.eqs=y.eqs∧x.prec=y.prec∧x.cert=y.cert∧x.cmds=y.cmds:=by
  cases x; cases y
  constructor
  · intro h; cases h; exact ⟨rfl,rfl,rfl,rfl,rfl,rfl⟩
  · rintro ⟨h1,h2,h3,h4,h5,h6⟩; dsimp only at h1 h2 h3 h4 h5 h6; rw [h1,h2,h3,h4,h5,h6]
theorem toSy_at {sig:Sg} {i:Nat} (hi:i<sig.length):(sgRow (toSy sig))[i]?=some [.string (strB sig[i].1),.int .i64 sig[i].2]:=by
  unfold sgRow toSy
  rw [List.getElem?_map,List.getElem?_map,List.getElem?_eq_getElem hi]; rfl
theorem sig_same22 (hp : ∀ {h'}, Ext h0 h' → h' p = some (.cells cp)) (hq : ∀ {h'}, Ext h0 h' → h' q = some (.cells cq)) {sv sw : Value} (hcp : cp[0]? = some sv) (hcq : cq[0]? = some sw) {l m : Sg} (ra : Sr h0 sv (toSy l)) (rb : Sr h0 sw (toSy m)) (hlen : l.length = m.length) {K : Kl} (e : Ext h0 h)
    (hK1:l=m→K (.e 0) [Pt p,Pt q] h) (hK2:l≠m→K .r [.bool false] h):loop19_4 D [Pt p,Pt q,.int .i64 0] h K:=by
  have hsl:=ra.len
  rw [toSy_len] at hsl
  intro I hI
  have key:∀ (n i:Nat),i+n=l.length→(l.drop i=m.drop i↔l=m)→I [Pt p,Pt q,.int .i64 ((i:Nat):Int)] h:=by
    intro n
    induction n with
    | zero =>
      intro i hi he
      refine hI _ _ _ _ ?_
      unfold round19_4
      rw [intK_int]
      refine ldj (hp e) hcp ?_
      rw [(ra.ext e).row.len,sgRow_len,toSy_len,cond_dec]
      exact ⟨fun hlt=>by omega,fun _=>hK1 (drop_end (by omega) (by omega) he)⟩
    | succ n ih =>
      intro i hi he
      refine hI _ _ _ _ ?_
      unfold round19_4
      rw [intK_int]
      refine ldj (hp e) hcp ?_
      rw [(ra.ext e).row.len,sgRow_len,toSy_len,cond_dec]
      refine ⟨fun hlt=>?_,fun _=>by omega⟩
      refine ldj (hp e) hcp (rowk_at (ra.ext e).row (toSy_at (show i<l.length by omega)) fun ad r1 _=>⟨_,_,r1,?_⟩)
      refine ldj (hq e) hcq (rowk_at (rb.ext e).row (toSy_at (show i<m.length by omega)) fun ad r2 _=>⟨_,_,r2,?_⟩)
      rw [str_eq,bts_strB,bts_strB,cond_not,Bool.and_true,cond_split]
      refine ⟨fun ht=>?_,fun hf=>?_⟩
      · rw [Bool.and_eq_true, beq_iff_eq, beq_iff_eq] at ht
        rw [i64_id (by omega) (by omega)]
        exact ih (i+1) (by omega) (drop_step (by omega) (by omega) he (Prod.ext ht.1 ht.2))
      · refine hK2 (drop_stop (i := i) (by omega) (by omega) fun hx => ?_)
        rw [hx] at hf
        simp at hf
  exact key l.length 0 (by omega) (by simp)
theorem cert_same22 (sn : SpecSNode D 51) (hp : ∀ {h'}, Ext h0 h' → h' p = some (.cells cp)) (hq : ∀ {h'}, Ext h0 h' → h' q = some (.cells cq)) {sv sw : Value} (hcp : cp[4]? = some sv) (hcq : cq[4]? = some sw) {l m : List Nd} {va vb : List (List Value)} (ra : RowK 4 h0 sv va) (qa : Rel2 (NdR h0) va l) (rb : RowK 4 h0 sw vb) (qb : Rel2 (NdR h0) vb m) (hlen : l.length = m.length) (hsl : l.length < 2 ^ 40) {K : Kl} (e : Ext h0 h)
    (hK1:l=m→∀ h',Ext h0 h'→K (.e 2) [Pt p,Pt q] h') (hK2:l≠m→∀ h',Ext h0 h'→K .r [.bool false] h'):loop19_9 D [Pt p,Pt q,.int .i64 0] h K:=by
  have hla:=qa.len
  have hlb:=qb.len
  intro I hI
  have key:∀ (n i:Nat) (h:H),Ext h0 h→i+n=l.length→(l.drop i=m.drop i↔l=m)→I [Pt p,Pt q,.int .i64 ((i:Nat):Int)] h:=by
    intro n
    induction n with
    | zero =>
      intro i h e hi he
      refine hI _ _ _ _ ?_
      unfold round19_9
      rw [intK_int]
      refine ldj (hp e) hcp ?_
      rw [(ra.ext e).len,hla,cond_dec]
      exact ⟨fun hlt=>by omega,fun _=>hK1 (drop_end (by omega) (by omega) he) h e⟩
    | succ n ih =>
      intro i h e hi he
      refine hI _ _ _ _ ?_
      unfold round19_9
      rw [intK_int]
      refine ldj (hp e) hcp ?_
      rw [(ra.ext e).len,hla,cond_dec]
      refine ⟨fun hlt=>?_,fun _=>by omega⟩
      have hvi:va[i]?=some va[i]:=List.getElem?_eq_getElem (by omega)
      have hwi:vb[i]?=some vb[i]:=List.getElem?_eq_getElem (by omega)
      have na:=qa.at_ i _ _ hvi (List.getElem?_eq_getElem (show i<l.length by omega))
      have nb:=qb.at_ i _ _ hwi (List.getElem?_eq_getElem (show i<m.length by omega))
      obtain ⟨a1,a2,a3,hv,a4⟩:=na
      obtain ⟨b1,b2,b3,hv',b4⟩:=nb
      rw [hv] at hvi
      rw [hv'] at hwi
      refine ldj (hp e) hcp (rowk_at (ra.ext e) hvi fun ad r1 _=>⟨_,_,_,_,r1,?_⟩)
      refine ldj (hq e) hcq (rowk_at (rb.ext e) hwi fun ad r2 _=>⟨_,_,_,_,r2,?_⟩)
      refine sn [.int .i64 l[i].kind,a1,a2,.int .i64 l[i].kids] [.int .i64 m[i].kind,b1,b2,.int .i64 m[i].kids] l[i] m[i] h _ _ (NdR.ext e ⟨a1,a2,a3,rfl,a4⟩) (NdR.ext e ⟨b1,b2,b3,rfl,b4⟩) fun t h2 e2 ht=>⟨t,rfl,?_⟩
      cases t with
      | false =>
        refine hK2 (drop_stop (i:=i) (by omega) (by omega) fun hx=>?_) h2 (e.trans e2)
        have:=ht.mpr hx
        cases this
      | true =>
        rw [Bool.not_true,cond_false,i64_id (by omega) (by omega)]
        exact ih (i+1) h2 (e.trans e2) (by omega) (drop_step (by omega) (by omega) he (ht.mp rfl))
  exact key l.length 0 h e (by omega) (by simp)
theorem terms_same {bp bq : Nat} {cpx cqx : List Value} (sr : SpecSRow D 14) (hp : ∀ {h'}, Ext h0 h' → h' bp = some (.cells cpx)) (hq : ∀ {h'}, Ext h0 h' → h' bq = some (.cells cqx)) {x : Int} {sv sw : Value} (hcp : cpx[1]? = some sv) (hcq : cqx[1]? = some sw) {l m : List (List Int)} {va vb : List Value} (ra : Row h0 sv va) (qa : Rel2 (fun v l => Ir h0 v l) va l) (rb : Row h0 sw vb) (qb : Rel2 (fun v l => Ir h0 v l) vb m) (hlen : l.length = m.length) (hsl : l.length < 2 ^ 40) {K : Kl} (e : Ext h0 h)
    (hK1:l=m→∀ h',Ext h0 h'→K (.e 6) [Pt p,Pt q,.int .i64 x] h') (hK2:l≠m→∀ h',Ext h0 h'→K .r [.bool false] h'):loop19_21 D [Pt p,Pt q,.int .i64 x,Pt bp,Pt bq,.int .i64 0] h K:=by
  have hla:=qa.len
  have hlb:=qb.len
  intro I hI
  have key:∀ (n i:Nat) (h:H),Ext h0 h→i+n=l.length→(l.drop i=m.drop i↔l=m)→I [Pt p,Pt q,.int .i64 x,Pt bp,Pt bq,.int .i64 ((i:Nat):Int)] h:=by
    intro n
    induction n with
    | zero =>
      intro i h e hi he
      refine hI _ _ _ _ _ _ _ ?_
      unfold round19_21
      rw [intK_int,intK_int]
      refine ldj (hp e) hcp ?_
      rw [(ra.ext e).len,hla,cond_dec]
      exact ⟨fun hlt=>by omega,fun _=>hK1 (drop_end (by omega) (by omega) he) h e⟩
    | succ n ih =>
      intro i h e hi he
      refine hI _ _ _ _ _ _ _ ?_
      unfold round19_21
      rw [intK_int,intK_int]
      refine ldj (hp e) hcp ?_
      rw [(ra.ext e).len,hla,cond_dec]
      refine ⟨fun hlt=>?_,fun _=>by omega⟩
      have hvi:va[i]?=some va[i]:=List.getElem?_eq_getElem (by omega)
      have hwi:vb[i]?=some vb[i]:=List.getElem?_eq_getElem (by omega)
      have na:=qa.at_ i _ _ hvi (List.getElem?_eq_getElem (show i<l.length by omega))
      have nb:=qb.at_ i _ _ hwi (List.getElem?_eq_getElem (show i<m.length by omega))
      refine ldj (hp e) hcp (row_at (ra.ext e) hvi fun ad r1=>⟨_,r1,?_⟩)
      refine ldj (hq e) hcq (row_at (rb.ext e) hwi fun ad r2=>⟨_,r2,?_⟩)
      refine sr _ _ _ _ h _ _ (na.ext e) (nb.ext e) fun t h2 e2 ht=>⟨t,rfl,?_⟩
      cases t with
      | false =>
        refine hK2 (drop_stop (i:=i) (by omega) (by omega) fun hx=>?_) h2 (e.trans e2)
        have:=ht.mpr hx
        cases this
      | true =>
        rw [Bool.not_true,cond_false,i64_id (by omega) (by omega)]
        exact ih (i+1) h2 (e.trans e2) (by omega) (drop_step (by omega) (by omega) he (ht.mp rfl))
  exact key l.length 0 h e (by omega) (by simp)
theorem cmds_same (sr : SpecSRow D 14) (hp : ∀ {h'}, Ext h0 h' → h' p = some (.cells cp)) (hq : ∀ {h'}, Ext h0 h' → h' q = some (.cells cq)) {sv sw : Value} (hcp : cp[5]? = some sv) (hcq : cq[5]? = some sw) {l m : List Cm} {va vb : List (List Value)} (ra : RowK 2 h0 sv va) (qa : Rel2 (CmR h0) va l) (rb : RowK 2 h0 sw vb) (qb : Rel2 (CmR h0) vb m) (hlen : l.length = m.length) (hsl : l.length < 2 ^ 40) {K : Kl} (e : Ext h0 h)
    (hK1:l=m→∀ h',Ext h0 h'→K (.e 4) [] h') (hK2:l≠m→∀ h',Ext h0 h'→K .r [.bool false] h'):loop19_14 D [Pt p,Pt q,.int .i64 0] h K:=by
  have hla:=qa.len
  have hlb:=qb.len
  intro I hI
  have key:∀ (n i:Nat) (h:H),Ext h0 h→i+n=l.length→(l.drop i=m.drop i↔l=m)→I [Pt p,Pt q,.int .i64 ((i:Nat):Int)] h:=by
    intro n
    induction n with
    | zero =>
      intro i h e hi he
      refine hI _ _ _ _ ?_
      unfold round19_14
      rw [intK_int]
      refine ldj (hp e) hcp ?_
      rw [(ra.ext e).len,hla,cond_dec]
      exact ⟨fun hlt=>by omega,fun _=>hK1 (drop_end (by omega) (by omega) he) h e⟩
    | succ n ih =>
      intro i h e hi he
      refine hI _ _ _ _ ?_
      unfold round19_14
      rw [intK_int]
      refine ldj (hp e) hcp ?_
      rw [(ra.ext e).len,hla,cond_dec]
      refine ⟨fun hlt=>?_,fun _=>by omega⟩
      have hvi:va[i]?=some va[i]:=List.getElem?_eq_getElem (by omega)
      have hwi:vb[i]?=some vb[i]:=List.getElem?_eq_getElem (by omega)
      have na:=qa.at_ i _ _ hvi (List.getElem?_eq_getElem (show i<l.length by omega))
      have nb:=qb.at_ i _ _ hwi (List.getElem?_eq_getElem (show i<m.length by omega))
      have stop:l[i]≠m[i]→l≠m:=drop_stop (by omega) (by omega)
      have step:l[i]=m[i]→(l.drop (i+1)=m.drop (i+1)↔l=m):=drop_step (by omega) (by omega) he
      generalize l[i]=x at na stop step
      generalize m[i]=y at nb stop step
      obtain ⟨tv,tvs,hv,a1,a2,a3,a4⟩:=na
      obtain ⟨tw,tws,hv',b1,b2,b3,b4⟩:=nb
      rw [hv] at hvi
      rw [hv'] at hwi
      refine ldj (hp e) hcp (rowk_at (ra.ext e) hvi fun ad r1 _=>⟨_,_,r1,?_⟩)
      refine (Hp.nil_ h).new_ fun bp h1 hb1 o1=>?_
      refine o1.st6 (i:=0) (vs:=[.string (strB x.word),tv]) rfl rfl (by simp only [List.all_cons,List.all_nil,sl_one a2.isSl]; rfl) rfl fun h2 o2=>?_
      have o2:Hp h h2 (cellR bp [.string (strB x.word),tv]::[]):=o2
      refine ldj (hq (e.trans o2.ext)) hcq (rowk_at (rb.ext (e.trans o2.ext)) hwi fun ad r2 _=>⟨_,_,r2,?_⟩)
      refine o2.new_ fun bq h3 hb3 o3=>?_
      refine o3.st6 (i:=0) (vs:=[.string (strB y.word),tw]) rfl rfl (by simp only [List.all_cons,List.all_nil,sl_one b2.isSl]; rfl) rfl fun h4 o4=>?_
      have o4:Hp h h4 (cellR bq [.string (strB y.word),tw]::cellR bp [.string (strB x.word),tv]::[]):=o4
      have e4:=e.trans o4.ext
      have hbp:∀ {h'},Ext h4 h'→h' bp=some (.cells [.string (strB x.word),tv]):=fun e=>(o4.later e).cell (i:=1) rfl
      have hbq:∀ {h'},Ext h4 h'→h' bq=some (.cells [.string (strB y.word),tw]):=fun e=>(o4.later e).cell (i:=0) rfl
      have bad:x≠y→j19_14_19 D I K (Pt p) (Pt q) (.int .i64 (i:Int)) (Pt bp) (Pt bq) (.bool true) h4:=fun hne=>by
        unfold j19_14_19
        rw [intK_int,boolW_bool,cond_true]
        exact hK2 (stop hne) h4 e4
      refine ldx (hbp (Ext.refl _)) rfl (ldx (hbq (Ext.refl _)) rfl ?_)
      rw [str_eq,bts_strB,bts_strB,Bool.not_not]
      by_cases hw:x.word=y.word
      rotate_left
      · rw [beq_eq_false_iff_ne.mpr hw, cond_false]
        exact bad fun hx=>hw (by rw [hx])
      rw [beq_iff_eq.mpr hw,cond_true]
      refine ldj (hbp (Ext.refl _)) rfl ?_
      rw [(a2.ext e4).len,a3.len]
      refine ldj (hbq (Ext.refl _)) rfl ?_
      rw [(b2.ext e4).len,b3.len]
      by_cases htl:x.terms.length=y.terms.length
      rotate_left
      · rw [show ((x.terms.length : Int) != (y.terms.length : Int)) = true from bne_iff_ne.mpr (by omega)]
        exact bad fun hx=>htl (by rw [hx])
      rw [show ((x.terms.length:Int) != (y.terms.length:Int))=false by rw [htl]; simp]
      unfold j19_14_19
      rw [intK_int,boolW_bool,cond_false]
      refine terms_same (h0:=h4) sr hbp hbq (va:=tvs) (vb:=tws) rfl rfl (a2.ext e4) (a3.mono fun _ _ i=>i.ext e4) (b2.ext e4) (b3.mono fun _ _ i=>i.ext e4) htl a4 (Ext.refl _) (fun heq h5 e5=>?_) fun hne h5 e5=>?_
      · show xs (X.e 6) _ _ _
        rw [xs_e]
        show cond true _ _
        rw [cond_true,nth0,nth1,nth2,intK_int,i64_id (by omega) (by omega)]
        exact ih (i+1) h5 (e4.trans e5) (by omega) (step (cm_eq.mpr ⟨hw,heq⟩))
      · show xs X.r _ _ _
        rw [xs_r,nth0,boolW_bool]
        exact hK2 (stop fun hx=>hne (by rw [hx])) h5 (e4.trans e5)
  exact key l.length 0 h e (by omega) (by simp)
def SpecSame22 (D:Orc) (f:Nat):Prop:=∀ (c d:List Value) (x y:Bk) h (k:Kv) kp,BkA h c x→BkA h d y→Sam h x y k→D f [.agg c.toArray,.agg d.toArray] h k kp
theorem spec19 (c:Cl19 D) (sr:SpecSRow D 14) (su:SpecSRules D 49) (sp:SpecSPairs D 50) (sn:SpecSNode D 51):SpecSame22 D 19:=by
  intro cc dd x y h k kp hx hy hk
  obtain ⟨⟨sg,ru,eq,pr,ce,co,rus,eqs,ces,cos,rfl,a1,a2,a3,a4,a5,a6,a7,a8,a9,a10,a11⟩,n1,n2,n3,n4,n5,n6,_⟩:=hx
  obtain ⟨⟨sg',ru',eq',pr',ce',co',rus',eqs',ces',cos',rfl,b1,b2,b3,b4,b5,b6,b7,b8,b9,b10,b11⟩,m1,m2,m3,m4,m5,m6,_⟩:=hy
  refine c _ _ _ _ _ ?_
  unfold F19
  rw [aggW_agg]
  refine (Hp.nil_ h).new_ fun p h1 hp o1=>?_
  rw [aggW_agg]
  refine o1.new_ fun q h2 hq o2=>?_
  have o2:Hp h h2 (cellR q [sg',ru',eq',pr',ce',co']::cellR p [sg,ru,eq,pr,ce,co]::[]):=o2
  have hcp:∀ {h'},Ext h2 h'→h' p=some (.cells [sg,ru,eq,pr,ce,co]):=fun e=>(o2.later e).cell (i:=1) rfl
  have hcq:∀ {h'},Ext h2 h'→h' q=some (.cells [sg',ru',eq',pr',ce',co']):=fun e=>(o2.later e).cell (i:=0) rfl
  have e2:=o2.ext
  have bad:∀ h3,Ext h h3→x≠y→j19__2 D k kp (Pt p) (Pt q) (.bool true) h3:=fun h3 e3 hne=>by
    unfold j19__2
    rw [boolW_bool,cond_true]
    exact sam_no hk e3 hne
  have rux:∀ {h3:H} {vs rules},Ext h h3→Rel2 (RuI h) vs rules→Rel2 (RuI h3) vs rules:=fun e r=>r.mono fun _ _ i=>i.ext e
  refine ldj (hcp (Ext.refl _)) rfl ?_
  rw [(a1.ext e2).row.len,sgRow_len,toSy_len]
  refine ldj (hcq (Ext.refl _)) rfl ?_
  rw [(b1.ext e2).row.len,sgRow_len,toSy_len,cond_not,cond_ne]
  refine ⟨fun hne=>bad h2 e2 fun e=>hne (by rw [e]),fun hl1=>?_⟩
  refine ldj (hcp (Ext.refl _)) rfl (ldj (hcq (Ext.refl _)) rfl ?_)
  refine su ru ru' _ _ x.rules y.rules h2 _ _ (a2.ext e2) (rux e2 a3) (b2.ext e2) (rux e2 b3) (by omega) (by omega) fun t h3 e3 ht=>⟨t,rfl,?_⟩
  have e03:=e2.trans e3
  rw [Bool.not_not]
  cases t with
  | false =>
    refine bad h3 e03 fun e=>?_
    have:=ht.mpr (by rw [e])
    cases this
  | true =>
  have q2:=ht.mp rfl
  rw [cond_true]
  refine ldj (hcp e3) rfl (ldj (hcq e3) rfl ?_)
  refine su eq eq' _ _ x.eqs y.eqs h3 _ _ (a4.ext e03) (rux e03 a5) (b4.ext e03) (rux e03 b5) (by omega) (by omega) fun t h4 e4 ht=>⟨t,rfl,?_⟩
  have e04:=e03.trans e4
  have e24:=e3.trans e4
  rw [Bool.not_not]
  cases t with
  | false =>
    refine bad h4 e04 fun e=>?_
    have:=ht.mpr (by rw [e])
    cases this
  | true =>
  have q3:=ht.mp rfl
  rw [cond_true]
  refine ldj (hcp e24) rfl (ldj (hcq e24) rfl ?_)
  refine sp pr pr' x.prec y.prec h4 _ _ (a6.ext e04) (b6.ext e04) (by omega) (by omega) fun t h5 e5 ht=>⟨t,rfl,?_⟩
  have e05:=e04.trans e5
  have e25:=e24.trans e5
  rw [Bool.not_not]
  cases t with
  | false =>
    refine bad h5 e05 fun e=>?_
    have:=ht.mpr (by rw [e])
    cases this
  | true =>
  have q4:=ht.mp rfl
  rw [cond_true]
  refine ldj (hcp e25) rfl ?_
  rw [(a8.ext e05).len,a9.len]
  refine ldj (hcq e25) rfl ?_
  rw [(b8.ext e05).len,b9.len,cond_not,cond_ne]
  refine ⟨fun hne=>bad h5 e05 fun e=>hne (by rw [e]),fun hl5=>?_⟩
  refine ldj (hcp e25) rfl ?_
  rw [(a10.ext e05).len,a11.len]
  refine ldj (hcq e25) rfl ?_
  rw [(b10.ext e05).len,b11.len]
  by_cases hl6:x.cmds.length=y.cmds.length
  rotate_left
  · rw [show ((x.cmds.length : Int) != (y.cmds.length : Int)) = true from bne_iff_ne.mpr (by omega)]
    exact bad h5 e05 fun e=>hl6 (by rw [e])
  rw [show ((x.cmds.length:Int) != (y.cmds.length:Int))=false by rw [hl6]; simp]
  unfold j19__2
  rw [boolW_bool,cond_false]
  have hcp5:∀ {h'},Ext h5 h'→h' p=some (.cells [sg,ru,eq,pr,ce,co]):=fun e=>hcp (e25.trans e)
  have hcq5:∀ {h'},Ext h5 h'→h' q=some (.cells [sg',ru',eq',pr',ce',co']):=fun e=>hcq (e25.trans e)
  have no:∀ h',Ext h5 h'→x≠y→k (.bool false) h':=fun h' e hne=>sam_no hk (e05.trans e) hne
  refine sig_same22 hcp5 hcq5 rfl rfl (a1.ext e05) (b1.ext e05) (by omega) (Ext.refl _) (fun q1=>?_) fun hne=>?_
  rotate_left
  · show xs X.r _ _ _
    rw [xs_r,nth0,boolW_bool]
    exact no h5 (Ext.refl _) fun e=>hne (by rw [e])
  show xs (X.e 0) _ _ _
  rw [xs_e]
  show cond true _ _
  rw [cond_true,nth0,nth1]
  refine cert_same22 sn hcp5 hcq5 (va:=ces) (vb:=ces') rfl rfl (a8.ext e05) (a9.mono fun _ _=>NdR.ext e05) (b8.ext e05) (b9.mono fun _ _=>NdR.ext e05) (by omega) (by omega) (Ext.refl _) (fun q5 h6 e6=>?_) fun hne h6 e6=>?_
  rotate_left
  · show xs X.r _ _ _
    rw [xs_r,nth0,boolW_bool]
    exact no h6 e6 fun e=>hne (by rw [e])
  show xs (X.e 2) _ _ _
  rw [xs_e]
  show cond true _ _
  rw [cond_true,nth0,nth1]
  refine cmds_same sr hcp5 hcq5 (va:=cos) (vb:=cos') rfl rfl (a10.ext e05) (a11.mono fun _ _=>CmR.ext e05) (b10.ext e05) (b11.mono fun _ _=>CmR.ext e05) hl6 (by omega) e6 (fun q6 h7 e7=>?_) fun hne h7 e7=>?_
  · exact sam_yes hk (e05.trans e7) (bk_eq.mpr ⟨q1,q2,q3,q4,q5,q6⟩)
  · show xs X.r _ _ _
    rw [xs_r,nth0,boolW_bool]
    exact no h7 e7 fun e=>hne (by rw [e])
end Go.Proofs.YtkdneddcocggdaaGreatDoor.Am

namespace Go.Proofs.Sp
open Go Go.Lib Sys
theorem readW_len {sig:Sg} {s:Bs} {l:List Int} (h:readW sig s=.ok l):l.length≤s.length+1:=by
  unfold readW at h
  split at h
  · cases h
  · rename_i u r hr
    split at h
    · rename_i h0
      injection h with h
      subst h; subst h0
      have:=read_len _ _ _ _ hr
      simpa using this
    · cases h
def ttl (w:List Bs):Nat:=(w.map fun x=>x.length+1).sum
theorem at1_le (w:List Bs) (i:Nat):(at1 w i).length≤ttl w:=by
  unfold at1
  cases hx:w[i]? with
  | none=>simp
  | some x =>
    have:=cst_mem (C:=fun x:Bs=>x.length+1) (List.mem_of_getElem? hx)
    show x.length≤_
    unfold cst at this
    unfold ttl; omega
theorem ttl_len:∀ w:List Bs,w.length≤ttl w
  | []=>by simp
  | x :: w => by
    have:=ttl_len w
    unfold ttl at *
    simp only [List.map_cons,List.sum_cons,List.length_cons]; omega
theorem last_cost {B:Bk} {n m:Nd} {k:Nat} (hl:lastM B=.ok n) (h:ndC m≤ndC n+k):bkC (setLast B m)≤bkC B+k:=by
  unfold lastM at hl
  have hl:=opt_ok.mp hl
  obtain ⟨pre,hp⟩:∃ pre,B.cert=pre++[n]:=by
    rw [List.getLast?_eq_some_iff] at hl
    exact hl
  unfold bkC setLast
  simp only
  rw [hp,List.dropLast_concat,cst_app,cst_app]
  have:∀ x:Nd,cst ndC [x]=ndC x:=fun x=>by simp [cst]
  rw [this,this]; omega
theorem rule_cost {sig:Sg} {w:List Bs} {mid:Bs} {r:Ru} (h:ruleM sig w mid=.ok r):r.1.length+r.2.length≤2*ttl w+2:=by
  unfold ruleM at h
  obtain ⟨_,_,h⟩:=then_ok.mp h
  obtain ⟨a,h1,h⟩:=then_ok.mp h
  obtain ⟨c,h2,h⟩:=then_ok.mp h
  obtain rfl:=Except.ok.inj h
  have:=readW_len h1
  have:=readW_len h2
  have:=at1_le w 1
  have:=at1_le w 3
  show a.length+c.length≤_
  omega
theorem nums_len {top:Nat}:∀ {ws:List Bs} {es:List Int},numsT top ws=some es→es.length=ws.length
  | [], es, h => by
    obtain rfl:=Option.some.inj h
    rfl
  | w :: ws, es, h => by
    unfold numsT at h
    split at h
    · rename_i n hn
      obtain ⟨es',h1,rfl⟩:=Option.map_eq_some_iff.mp h
      simp [nums_len h1]
    · cases h
theorem line_cost {B:Bk} {p p':Bool} {w:List Bs} {B':Bk} (h:lineM B p w=.ok (B',p')):bkC B'≤bkC B+100*ttl w+1000:=by
  have one:∀ {α:Type} {C:α→Nat} {x:α},cst C [x]=C x:=by intro α C x; simp [cst]
  have none_:∀ {α:Type} {C:α→Nat},cst C []=0:=by intro α C; rfl
  unfold lineM at h
  split at h
  · obtain ⟨B1, h1, h⟩ := then_ok.mp h
    obtain ⟨rfl,_⟩:=Prod.mk.inj (Except.ok.inj h)
    unfold symM at h1
    obtain ⟨_,_,h1⟩:=then_ok.mp h1
    obtain ⟨_,_,h1⟩:=then_ok.mp h1
    obtain ⟨_,_,h1⟩:=then_ok.mp h1
    obtain ⟨n,hn,h1⟩:=then_ok.mp h1
    obtain ⟨_,hm,h1⟩:=then_ok.mp h1
    obtain rfl:=Except.ok.inj h1
    unfold bkC
    simp only [cst_app,one,syC]; omega
  · obtain ⟨B1, h1, h⟩ := then_ok.mp h
    obtain ⟨rfl,_⟩:=Prod.mk.inj (Except.ok.inj h)
    unfold lineN at h1
    dsimp only at h1
    by_cases hc:at1 w 0=wRule
    · rw [if_pos hc] at h1
      obtain ⟨r,hr,h1⟩:=then_ok.mp h1
      obtain ⟨_,hm,h1⟩:=then_ok.mp h1
      obtain rfl:=Except.ok.inj h1
      have:=rule_cost hr
      unfold bkC
      simp only [cst_app,one,ruC]; omega
    rw [if_neg hc] at h1
    by_cases hc:at1 w 0=wEq
    · rw [if_pos hc] at h1
      obtain ⟨r,hr,h1⟩:=then_ok.mp h1
      obtain ⟨_,hm,h1⟩:=then_ok.mp h1
      obtain rfl:=Except.ok.inj h1
      have:=rule_cost hr
      unfold bkC
      simp only [cst_app,one,ruC]; omega
    rw [if_neg hc] at h1
    by_cases hc:at1 w 0=wAbove
    · rw [if_pos hc] at h1
      obtain ⟨_,_,h1⟩:=then_ok.mp h1
      obtain ⟨_,_,h1⟩:=then_ok.mp h1
      obtain ⟨_,_,h1⟩:=then_ok.mp h1
      obtain rfl:=Except.ok.inj h1
      unfold bkC
      simp only [cst_app,one,prC]; omega
    rw [if_neg hc] at h1
    by_cases hc:at1 w 0=wNode
    · rw [if_pos hc] at h1
      obtain ⟨_,_,h1⟩:=then_ok.mp h1
      obtain ⟨_,_,h1⟩:=then_ok.mp h1
      obtain ⟨_,_,h1⟩:=then_ok.mp h1
      obtain rfl:=Except.ok.inj h1
      unfold bkC
      simp only [cst_app,one,ndC,none_]; omega
    rw [if_neg hc] at h1
    by_cases hc:at1 w 0=wOver
    · rw [if_pos hc] at h1
      obtain ⟨_,_,h1⟩:=then_ok.mp h1
      obtain ⟨n,hl,h1⟩:=then_ok.mp h1
      obtain ⟨_,_,h1⟩:=then_ok.mp h1
      obtain ⟨_,_,h1⟩:=then_ok.mp h1
      obtain rfl:=Except.ok.inj h1
      exact Nat.le_trans (last_cost hl (k:=100) (by unfold ndC; simp only [cst_app,one,prC]; omega)) (by omega)
    rw [if_neg hc] at h1
    by_cases hc:at1 w 0=wSet
    · rw [if_pos hc] at h1
      obtain ⟨_,_,h1⟩:=then_ok.mp h1
      obtain ⟨n,hl,h1⟩:=then_ok.mp h1
      obtain ⟨_,_,h1⟩:=then_ok.mp h1
      obtain rfl:=Except.ok.inj h1
      exact Nat.le_trans (last_cost hl (k:=100) (by unfold ndC; simp only [cst_app,one,itC,none_]; omega)) (by omega)
    rw [if_neg hc] at h1
    by_cases hc:at1 w 0=wMono
    · rw [if_pos hc] at h1
      obtain ⟨_,_,h1⟩:=then_ok.mp h1
      obtain ⟨n,hl,h1⟩:=then_ok.mp h1
      obtain ⟨it,hit,h1⟩:=then_ok.mp h1
      obtain ⟨co,_,h1⟩:=then_ok.mp h1
      obtain ⟨es,hes,h1⟩:=then_ok.mp h1
      obtain rfl:=Except.ok.inj h1
      have hes:=nums_len (opt_ok.mp hes)
      rw [List.length_drop] at hes
      have hw:=ttl_len w
      have hit:=opt_ok.mp hit
      rw [List.getLast?_eq_some_iff] at hit
      obtain ⟨pre,hp⟩:=hit
      refine Nat.le_trans (last_cost hl (k:=30*ttl w+700) ?_) (by omega)
      unfold ndC
      simp only
      rw [hp,List.dropLast_concat]
      simp only [cst_app,one,itC,moC]
      omega
    rw [if_neg hc] at h1
    by_cases hc:at1 w 0=wCheck∨at1 w 0=wCritical∨at1 w 0=wJoin∨at1 w 0=wPairs∨at1 w 0=wComplete
    · rw [if_pos hc] at h1
      obtain ⟨_,_,h1⟩:=then_ok.mp h1
      obtain rfl:=Except.ok.inj h1
      unfold bkC
      simp only [cst_app,one,cmC,List.flatten_nil,List.length_nil]; omega
    rw [if_neg hc] at h1
    by_cases hc:at1 w 0=wNormal
    · rw [if_pos hc] at h1
      obtain ⟨_,_,h1⟩:=then_ok.mp h1
      obtain ⟨l,hr,h1⟩:=then_ok.mp h1
      obtain rfl:=Except.ok.inj h1
      have:=readW_len hr
      have:=at1_le w 1
      unfold bkC
      simp only [cst_app,one,cmC,List.flatten_cons,List.flatten_nil,List.append_nil,List.length_cons,List.length_nil]; omega
    rw [if_neg hc] at h1
    by_cases hc:at1 w 0=wEqual
    · rw [if_pos hc] at h1
      obtain ⟨r,hr,h1⟩:=then_ok.mp h1
      obtain rfl:=Except.ok.inj h1
      have:=rule_cost hr
      unfold bkC
      simp only [cst_app,one,cmC,List.flatten_cons,List.flatten_nil,List.append_nil,List.length_cons,List.length_nil,List.length_append]; omega
    rw [if_neg hc] at h1
    cases h1
theorem cut_ttl (x : UInt8) : ∀ l : Bs, ttl (cutAt x l) = l.length + 1
  | []=>rfl
  | b :: l => by
    have ih:=cut_ttl x l
    unfold cutAt
    split
    · unfold ttl at *
      simp only [List.map_cons,List.sum_cons,List.length_nil,List.length_cons,ih]; omega
    · unfold ttl at *
      split
      · rename_i h
        rw [h] at ih
        simp at ih
      · rename_i c cs h
        rw [h] at ih
        simp only [List.map_cons,List.sum_cons,List.length_cons] at *
        omega
theorem ttl_sub:∀ {a b:List Bs},a.Sublist b→ttl a≤ttl b:=fun s=>by
  induction s with
  | slnil=>exact Nat.le_refl _
  | cons x _ ih=>unfold ttl at *; simp only [List.map_cons,List.sum_cons]; omega
  | cons_cons x _ ih=>unfold ttl at *; simp only [List.map_cons,List.sum_cons]; omega
theorem words_ttl (l:Bs):ttl (wordsOf l)≤l.length+1:=by
  rw [← cut_ttl 32 l]
  exact ttl_sub List.filter_sublist
theorem lines_cost : ∀ (ls : List Bs) (B : Bk) (p : Bool) (n : Nat) (y : Bk × Bool), linesE B p n ls = .ok y → bkC y.1 ≤ bkC B + 1100 * ttl ls
  | [], B, p, n, y, h => by
    obtain rfl:=Except.ok.inj h
    exact Nat.le_add_right _ _
  | l :: ls, B, p, n, y, h => by
    have ht:ttl (l::ls)=l.length+1+ttl ls:=rfl
    unfold linesE at h
    split at h
    · have := lines_cost ls B p (n + 1) y h
      omega
    · split at h
      · rename_i B1 p1 hl
        have h1:=lines_cost ls B1 p1 (n+1) y h
        have h2:=line_cost hl
        have h3:=words_ttl l
        omega
      · cases h
end Go.Proofs.Sp

namespace Go.Proofs.YtkdneddcocggdaaGreatDoor.Am
open Go Go.Proofs Go.RowKit Go.Lib Sys Sp
set_option linter.unusedVariables false
set_option linter.unusedSimpArgs false
set_option maxRecDepth 100000
def sum0:Sg:=[([122,101,114,111],0),([115],1),([112,108,117,115],2)]
def book0:Bk:=⟨sum0,[([2,0,-1],[-1])],[],[],[⟨1,0,[(2,1)],[]⟩],[⟨wNormal,[[1,0]]⟩]⟩
def text0:Bs:=[115,121,109,32,122,101,114,111,32,48,10,115,121,109,32,115,32,49,10,115,121,109,32,112,108,117,115,32,50,10,114,117,108,101,32,112,108,117,115,40,122,101,114,111,44,95,48,41,32,45,62,32,95,48,10,110,111,100,101,32,108,112,111,32,48,10,111,118,101,114,32,112,108,117,115,32,115,10,110,111,114,109,97,108,32,115,40,122,101,114,111,41]
theorem ex_parse:parseE text0=.ok (book0,true):=by kernel_rfl
theorem ex_parse2:parseE [99,104,101,99,107,10,115,121,109,32,102,32,49]=.error (2,222):=by kernel_rfl
theorem ex_sig:chkSig (toSy sum0)=0:=by kernel_rfl
def word0:Bs:=[112,108,117,115,40,115,40,95,48,41,44,122,101,114,111,41]
theorem ex_term:termR (toSy sum0) word0=.ok [2,1,-1,0]:=by kernel_rfl
theorem ex_term2:termR (toSy sum0) [122,101,114,111,40,41]=.error 224:=by kernel_rfl
theorem ex_term3:termR (toSy sum0) [95,48,49]=.error 225:=by kernel_rfl
theorem termM_of {sig:Sg} {s:Bs} {u:List Int} (h:readW sig s=.ok u):termM sig u=.ok s:=by
  have w:=readW_inv h
  unfold termM
  have h0:scan sig 1 u=0:=w.term
  rw [if_neg (by rw [h0]; simp),W_of w]
theorem ex_W:W (S2 (toSy sum0)) [2,1,-1,0]=word0:=W_of (readW_inv (sig:=S2 (toSy sum0)) (s:=word0) (by kernel_rfl))
theorem ex_chk:chkTerm (toSy sum0) [2,1,-1,0]=0:=by kernel_rfl
theorem ex_show:showR (toSy sum0) [2,1,-1,0]=.ok word0:=by
  unfold showR
  rw [ex_chk,ex_W,if_neg (by simp),if_neg (by decide)]
theorem ex_rule:rulesW sum0 wRule wArrow [([2,0,-1],[-1])]=.ok [114,117,108,101,32,112,108,117,115,40,122,101,114,111,44,95,48,41,32,45,62,32,95,48,10]:=by
  unfold rulesW allM allM ruleW
  have t1:termM sum0 [2,0,-1]=.ok [112,108,117,115,40,122,101,114,111,44,95,48,41]:=termM_of (by kernel_rfl)
  have t2:termM sum0 [-1]=.ok [95,48]:=termM_of (by kernel_rfl)
  simp only [t1,t2]
  show (_:Except Int Bs)=_
  kernel_rfl
theorem ex_cmd:allM (cmdW sum0) [⟨wNormal,[[1,0]]⟩]=.ok [110,111,114,109,97,108,32,115,40,122,101,114,111,41,10]:=by
  unfold allM allM cmdW rowM rowM
  have t1:termM sum0 [1,0]=.ok [115,40,122,101,114,111,41]:=termM_of (by kernel_rfl)
  simp only [t1]
  show (_:Except Int Bs)=_
  kernel_rfl
theorem ex_print:printB book0=.ok (text0++[10]):=by
  unfold printB printM
  have e1:chkSig (toSy book0.sig)=0:=ex_sig
  have e2:rulesW book0.sig wRule wArrow book0.rules=_:=ex_rule
  have e3:rulesW book0.sig wEq wIs book0.eqs=.ok []:=by kernel_rfl
  have e4:allM (cmdW book0.sig) book0.cmds=_:=ex_cmd
  rw [e1,if_neg (by simp),e2,e3,e4]
  show (_:Except Int Bs)=_
  kernel_rfl
end Go.Proofs.YtkdneddcocggdaaGreatDoor.Am

namespace Go.Proofs.YtkdneddcocggdaaGreatDoor.Am
open Go Go.Proofs Go.RowKit Go.Lib Sys Sp
set_option linter.unusedVariables false
set_option linter.unusedSimpArgs false
set_option maxRecDepth 100000
variable {D:Orc} {E:Dorc} {h h' h0 g:H} {k:Kv} {kp:Kp} {L R:List Res} {B:Bk} {V:BkV} {N:Nat}
theorem BkA.ext {c:List Value} (b:BkA h c B) (e:Ext h h'):BkA h' c B:=by
  obtain ⟨⟨sg,ru,eq,pr,ce,co,rus,eqs,ces,cos,hc,a1,a2,a3,a4,a5,a6,a7,a8,a9,a10,a11⟩,n1,n2,n3,n4,n5,n6,sz⟩:=b
  exact ⟨⟨sg,ru,eq,pr,ce,co,rus,eqs,ces,cos,hc,a1.ext e,a2.ext e,a3.mono fun _ _ i=>i.ext e,a4.ext e,a5.mono fun _ _ i=>i.ext e,a6.ext e,a7,a8.ext e,a9.mono fun _ _ i=>NdR.ext e i,a10.ext e,a11.mono fun _ _ i=>CmR.ext e i⟩,n1,n2,n3,n4,n5,n6,sz⟩
theorem rub_rui {c:List Value} {r:Ru} (e:Ext g h):RuB g c r→RuI h c r:=fun ⟨v,w,h1,h2,h3⟩=>⟨v,w,h1,h2.ir.ext e,h3.ir.ext e⟩
theorem bk_done {bp:Nat} {tl:List Value} (o:Hp h0 h (bkL bp tl V g B R)) (I:BkI g V B) (s:Sm N B) (hN:N<2 ^ 30) (hsz:bkC B<2 ^ 36):BkA h [V.sg,V.ru,V.eq,V.pr,V.ce,V.co] B:=by
  obtain ⟨g',e,o',hce⟩:=close_n o I s (by omega)
  have eg:Ext g' h:=(o'.get (i:=1) rfl:(frzR g').ok h)
  have egg:Ext g h:=e.trans eg
  refine ⟨⟨V.sg,V.ru,V.eq,V.pr,V.ce,V.co,V.rur,V.eqr,V.cer,V.cor,rfl,s.sr (o'.rowK (i:=2) rfl),o'.rowK (i:=3) rfl,I.ru.mono fun _ _=>rub_rui egg,o'.rowK (i:=4) rfl,I.eq.mono fun _ _=>rub_rui egg,o'.rowK (i:=5) rfl,I.pr,o'.rowK (i:=6) rfl,hce.mono fun _ _=>NdR.ext eg,o'.rowK (i:=7) rfl,I.co.mono fun _ _=>CmR.ext egg⟩,?_,?_,?_,?_,?_,?_,hsz⟩
  · have:=s.sig; omega
  · have:=s.rules; omega
  · have:=s.eqs; omega
  · have:=s.prec; omega
  · have:=s.cert; omega
  · have:=s.cmds; omega
theorem parse_cost {t:Bs} {y:Bk × Bool} (h:parseE t=.ok y):bkC y.1<2 ^ 36∧t.length≤65536:=by
  unfold parseE at h
  split at h
  · cases h
  · rename_i hn
    split at h
    · cases h
    · have := lines_cost _ _ _ _ _ h
      rw [cut_ttl] at this
      have h0:bkC Bk.nil=0:=rfl
      omega
def SpecParseA (D : Orc) (f : Nat) (T : H → Prop) : Prop := ∀ (s : ByteArray) h (k : Kv) kp, s.size < 2 ^ 40 → T h → (match parseE (bts s) with
    | .ok y=>∀ c h',Ext h h'→BkA h' c y.1→k (.tuple #[.agg c.toArray,.int .i64 0,.int .i64 0]) h'
    | .error y=>∀ h',Ext h h'→k (.tuple #[.agg nilB.toArray,.int .i64 (y.1:Int),.int .i64 y.2]) h')→D f [.string s] h k kp
theorem parseA (sp:SpecParseB D 17 Tbl):SpecParseA D 17 Tbl:=by
  intro s h k kp hs ht hk
  refine sp s h k kp hs ht ?_
  cases hp:parseE (bts s) with
  | error y=>rw [hp] at hk; exact hk
  | ok y =>
    rw [hp] at hk
    intro bp tl V g N h' hN sm I o
    exact hk [V.sg,V.ru,V.eq,V.pr,V.ce,V.co] h' o.ext (bk_done o I sm hN (parse_cost hp).1)
theorem new_row {n:Nat} {ws:List Value} {K:Value→H→Prop} (hn:ws.length=n) (hK:∀ s h',Ext h h'→Row h' s ws→K s h'):Am.newSl h n ws K:=fun b hb=>hK _ _ (Ext.new hb) (Row.cells set_here hn)
theorem new_rowk {n sz:Nat} {ws:List Value} {vs:List (List Value)} {K:Value→H→Prop} (hn:vs.length=n) (hsz:∀ v∈vs,v.length=sz) (hws:ws=vs.flatten) (hK:∀ s h',Ext h h'→RowK sz h' s vs→K s h'):Am.newSl h n ws K:=fun b hb=>hK _ _ (Ext.new hb) (RowK.cells set_here hn hsz hws)
def SpecSum22 (D:Orc) (f:Nat):Prop:=∀ h (k:Kv) kp,(∀ v h',Ext h h'→Sr h' v (toSy sum0)→k v h')→D f [] h k kp
theorem spec24 (c:Cl24 D):SpecSum22 D 24:=by
  intro h k kp hk
  refine c _ _ _ ?_
  unfold F24
  refine ⟨rfl,by decide,rfl,by decide,rfl,by decide,rfl,by decide,rfl,by decide,rfl,by decide,rfl,by decide,rfl,by decide,?_⟩
  refine new_rowk (sz:=2) (vs:=sgRow (toSy sum0)) rfl (by simp [sgRow,toSy,sum0,cellsOf]) rfl fun s h1 e1 r=>hk s h1 e1 ⟨r,by decide,fun x hx=>?_⟩
  simp only [toSy,sum0,List.map_cons,List.map_nil,List.mem_cons,List.not_mem_nil,or_false] at hx
  rcases hx with rfl | rfl | rfl <;> (rw [size_strB]; decide)
theorem ir_of {v:Value} {l:List Int} (r:Row h v (Z l)) (hl:l.length<2 ^ 40) (hr:∀ x∈l,inI x):Ir h v l:=⟨r,hl,hr⟩
def SpecShown22 (D:Orc) (f:Nat) (T:H→Prop):Prop:=∀ h (k:Kv) kp,T h→(∀ h',Ext h h'→k (.bool true) h')→D f [] h k kp
theorem spec11 (c:Cl11 D) (su:SpecSum22 D 24) (st:SpecTermR D 12 Tbl) (ss:SpecShow D 15 Tbl) (sp:SpecParseA D 17 Tbl) (sw:SpecPrint D 20 Tbl) (sr:SpecSRow D 14) (sm:SpecSame22 D 19):SpecShown22 D 11 Tbl:=by
  intro h k kp ht hk
  refine c _ _ _ ?_
  unfold F11
  refine su h _ _ fun v2 h1 e1 r2=>⟨_,rfl,?_⟩
  have t1:=env_stay _ _ e1 ht
  refine st (toSy sum0) v2 _ h1 _ _ (by decide) r2 t1 ?_
  have w1:bts (ByteArray.mk #[112,108,117,115,40,115,40,95,48,41,44,122,101,114,111,41])=word0:=rfl
  rw [w1,ex_term]
  intro v5 h4 e4 b5
  refine ⟨_,_,rfl,?_⟩
  have r5:Ir h4 v5 [2,1,-1,0]:=ir_of b5.row (by decide) (by intro x hx; simp at hx; unfold inI; omega)
  refine su h4 _ _ fun v9 h8 e8 r9=>⟨_,rfl,rfl,by decide,rfl,by decide,rfl,by decide,rfl,by decide,?_⟩
  refine new_row (ws:=Z [2,1,-1,0]) rfl fun s10 h11 e11 r10=>?_
  have x11:=(e4.trans e8).trans e11
  have t11:=env_stay _ _ x11 t1
  refine ss (toSy sum0) v9 s10 [2,1,-1,0] h11 _ _ (r9.ext e11) t11 (ir_of r10 (by decide) (by intro x hx; simp at hx; unfold inI; omega)) (fun _=>by rw [ex_W]; decide) ?_
  rw [ex_show]
  intro h13 e13
  refine ⟨_,_,rfl,?_⟩
  refine su h13 _ _ fun v18 h17 e17 r18=>⟨_,rfl,?_⟩
  have x17:=(x11.trans e13).trans e17
  have t17:=env_stay _ _ x17 t1
  refine st (toSy sum0) v18 _ h17 _ _ (by decide) r18 t17 ?_
  have w2:bts (ByteArray.mk #[122,101,114,111,40,41])=[122,101,114,111,40,41]:=rfl
  rw [w2,ex_term2]
  intro h20 e20
  refine ⟨_,_,rfl,?_⟩
  refine su h20 _ _ fun v25 h24 e24 r25=>⟨_,rfl,?_⟩
  have x24:=(x17.trans e20).trans e24
  have t24:=env_stay _ _ x24 t1
  refine st (toSy sum0) v25 _ h24 _ _ (by decide) r25 t24 ?_
  have w3:bts (ByteArray.mk #[95,48,49])=[95,48,49]:=rfl
  rw [w3,ex_term3]
  intro h27 e27
  refine ⟨_,_,rfl,?_⟩
  have x27:=x24.trans e27
  refine sp _ h27 _ _ (by decide) (env_stay _ _ x27 t1) ?_
  have w4:parseE (bts (ByteArray.mk #[115,121,109,32,122,101,114,111,32,48,10,115,121,109,32,115,32,49,10,115,121,109,32,112,108,117,115,32,50,10,114,117,108,101,32,112,108,117,115,40,122,101,114,111,44,95,48,41,32,45,62,32,95,48,10,110,111,100,101,32,108,112,111,32,48,10,111,118,101,114,32,112,108,117,115,32,115,10,110,111,114,109,97,108,32,115,40,122,101,114,111,41]))=.ok (book0,true):=ex_parse
  rw [w4]
  intro cc h31 e31 bA
  have x31:=x27.trans e31
  obtain ⟨v32,v33,v34,v35,v36,v37,_,_,_,_,rfl,y1,y2,_,y4,_,y6,_,y8,_,y10,_⟩:=bA.sl
  refine ⟨_,_,_,_,_,_,_,_,rfl,?_⟩
  refine (Hp.nil_ h31).new_ fun p40 h41 hp40 o41=>?_
  refine o41.st6 (i:=0) (vs:=[v32,v33,v34,v35,v36,v37]) rfl rfl (by
    simp only [List.all_cons,List.all_nil,sl_one y1.row.isSl,sl_one y2.isSl,sl_one y4.isSl,sl_one y6.isSl,sl_one y8.isSl,sl_one y10.isSl]; rfl) rfl fun h43 o43=>?_
  have o43:Hp h31 h43 (cellR p40 [v32,v33,v34,v35,v36,v37]::[]):=o43
  have x43:=x31.trans o43.ext
  refine sp _ h43 _ _ (by decide) (env_stay _ _ x43 t1) ?_
  have w5:parseE (bts (ByteArray.mk #[99,104,101,99,107,10,115,121,109,32,102,32,49]))=.error (2,222):=ex_parse2
  rw [w5]
  intro h45 e45
  refine ⟨_,_,_,_,_,_,_,_,rfl,?_⟩
  refine (Hp.nil_ h45).new_ fun p54 h55 hp54 o55=>?_
  refine o55.st6 (i:=0) (vs:=nilB) rfl rfl rfl rfl fun h57 o57=>?_
  have x57:=(e45.trans o57.ext)
  refine su h57 _ _ fun v60 h59 e59 r60=>⟨_,rfl,rfl,by decide,rfl,by decide,rfl,by decide,?_⟩
  refine new_row (ws:=Z [2,0,-1]) rfl fun s61 h62 e62 r61=>⟨rfl,by decide,?_⟩
  refine new_row (ws:=Z [-1]) rfl fun s63 h64 e64 r63=>⟨sl_one r61.isSl,by decide,sl_one r63.isSl,by decide,rfl,by decide,?_⟩
  refine new_rowk (sz:=2) (vs:=[[s61,s63]]) rfl (by simp) rfl fun s65 h66 e66 r65=>⟨rfl,by decide,rfl,by decide,rfl,by decide,?_⟩
  refine new_rowk (sz:=2) (vs:=[pairC (2,1)]) rfl (by simp [pairC]) rfl fun s67 h68 e68 r67=>⟨rfl,by decide,sl_one r67.isSl,by decide,rfl,by decide,?_⟩
  refine new_rowk (sz:=4) (vs:=[[.int .i64 1,s67,.slice none 0 0,.int .i64 0]]) rfl (by simp) rfl fun s69 h70 e70 r69=>⟨rfl,by decide,rfl,by decide,?_⟩
  refine new_row (ws:=Z [1,0]) rfl fun s71 h72 e72 r71=>⟨sl_one r71.isSl,by decide,?_⟩
  refine new_row (ws:=[s71]) rfl fun s73 h74 e74 r73=>⟨rfl,by decide,sl_one r73.isSl,by decide,rfl,by decide,?_⟩
  refine new_rowk (sz:=2) (vs:=[[.string (strB wNormal),s73]]) rfl (by simp) rfl fun s75 h76 e76 r75=>⟨sl_one r60.row.isSl,by decide,sl_one r65.isSl,by decide,sl_one r69.isSl,by decide,sl_one r75.isSl,by decide,?_⟩
  have z74:=e76
  have z72:=e74.trans z74
  have z70:=e72.trans z72
  have z68:=e70.trans z70
  have z66:=e68.trans z68
  have z64:=e66.trans z66
  have z62:=e64.trans z64
  have z59:=e62.trans z62
  have z57:=e59.trans z59
  have bW:BkA h76 [v60,s65,.slice none 0 0,.slice none 0 0,s69,s75] book0:=by
    refine ⟨⟨_,_,_,_,_,_,[[s61,s63]],[],[[.int .i64 1,s67,.slice none 0 0,.int .i64 0]],[[.string (strB wNormal),s73]],rfl,r60.ext z59,r65.ext z66,?_,RowK.nil_,.nil_,RowK.nil_,fun x hx=>(by cases hx),r69.ext z70,?_,r75,?_⟩,by decide,by decide,by decide,by decide,by decide,by decide,by decide⟩
    · exact .one_ ⟨s61,s63,rfl,(ir_of r61 (by decide) (by intro x hx; simp at hx; unfold inI; omega)).ext z62,(ir_of r63 (by decide) (by intro x hx; simp at hx; unfold inI; omega)).ext z64⟩
    · refine .one_ ⟨s67, .slice none 0 0, [], rfl, by unfold inI; decide, by unfold inI; decide, r67.ext z68, fun x hx => ?_, by decide, RowK.nil_, .nil_, by decide⟩
      have hx:x=(2,1):=by simpa using hx
      rw [hx]
      unfold inP inI
      decide
    · exact .one_ ⟨s73,[s71],rfl,by decide,r73.ext z74,.one_ ((ir_of r71 (by decide) (by intro x hx; simp at hx; unfold inI; omega)).ext z72),by decide⟩
  refine (Hp.nil_ h76).new_ fun p77 h78 hp77 o78=>?_
  refine o78.st6 (i:=0) (vs:=[v60,s65,.slice none 0 0,.slice none 0 0,s69,s75]) rfl rfl (by
    simp only [List.all_cons,List.all_nil,sl_one r60.row.isSl,sl_one r65.isSl,sl_one r69.isSl,sl_one r75.isSl]; rfl) rfl fun h80 o80=>?_
  have o80:Hp h76 h80 (cellR p77 [v60,s65,.slice none 0 0,.slice none 0 0,s69,s75]::[]):=o80
  rw [ptrW_ptr]
  refine ⟨_,_,_,_,_,_,rdn (o80.cell (i:=0) rfl) (by simp),?_⟩
  have x80:=z57.trans o80.ext
  have y80:=(x43.trans x57).trans x80
  refine sw [v60,s65,.slice none 0 0,.slice none 0 0,s69,s75] book0 h80 _ _ (bW.ext o80.ext) (env_stay _ _ y80 t1) ?_
  rw [ex_print]
  intro h89 e89
  refine ⟨_,_,rfl,?_⟩
  show j11__10 D k kp v5 (.string (strB word0)) (Pt p40) (.int .i64 0) (.int .i64 2) (Pt p77) (.string (strB (text0++[10]))) (.bool false) h89
  unfold j11__10
  rw [strW_string,intK_int,intK_int,strW_string,boolW_bool,cond_false]
  refine ⟨rfl,by decide,rfl,by decide,rfl,by decide,rfl,by decide,?_⟩
  refine new_row (ws:=Z [2,1,-1,0]) rfl fun s98 h99 e99 r98=>?_
  have y99:=(y80.trans e89).trans e99
  have ye:∀ {h'},Ext h89 h'→Ext h4 h':=fun e=>((((((((e8.trans e11).trans e13).trans e17).trans e20).trans e24).trans e27).trans e31).trans (o43.ext.trans (x57.trans (x80.trans (e89.trans e)))))
  refine sr v5 s98 _ _ h99 _ _ (r5.ext (ye e99)) (ir_of r98 (by decide) (by intro x hx; simp at hx; unfold inI; omega)) fun t h101 e101 ht=>⟨t,rfl,?_⟩
  rw [ht.mpr rfl,cond_true,str_eq,bts_strB]
  show cond true _ _
  rw [cond_true]
  have z101:=e99.trans e101
  rw [ptrW_ptr]
  refine ⟨_,_,_,_,_,_,rdn (((o43.later (x57.trans (x80.trans (e89.trans z101))))).cell (i:=0) rfl) (by simp),?_⟩
  rw [ptrW_ptr]
  refine ⟨_,_,_,_,_,_,rdn ((o80.later (e89.trans z101)).cell (i:=0) rfl) (by simp),?_⟩
  refine sm [v32,v33,v34,v35,v36,v37] [v60,s65,.slice none 0 0,.slice none 0 0,s69,s75] book0 book0 h101 _ _ (bA.ext (o43.ext.trans (x57.trans (x80.trans (e89.trans z101))))) (bW.ext (o80.ext.trans (e89.trans z101))) fun t h118 e118 ht=>⟨t,rfl,?_⟩
  rw [ht.mpr rfl,cond_true,str_eq,bts_strB]
  show k (.bool (text0++[10]==text0++[10])) h118
  rw [beq_self_eq_true]
  exact hk h118 (e1.trans (y99.trans (e101.trans e118)))
end Go.Proofs.YtkdneddcocggdaaGreatDoor.Am

namespace Go.Proofs.Sp
open Go Go.Lib Sys
theorem fffd_step {l:List UInt8} (hl:l≠[]) (hr:(decodeL l).1=65533):(decodeL l).2=1↔¬ l.take 3=[239,191,189]:=by
  constructor
  · intro hw h3
    have hsp:l=[239,191,189]++l.drop 3:=by rw [← h3,List.take_append_drop]
    have hd:decodeL ([239,191,189]:List UInt8)=(65533,3):=by rw [decL]; decide
    have:decodeL l=(65533,3):=by rw [hsp,dec_app (by simp) (by rw [hd]; decide),hd]
    rw [this] at hw
    cases hw
  · intro h3
    by_cases hw:(decodeL l).2=1
    · exact hw
    · exfalso
      have he:=encode_decode l hl (by omega)
      rw [hr] at he
      have h1:encodeRune ((65533:Nat):Int)=[239,191,189]:=by decide
      rw [h1] at he
      have hlen:=congrArg List.length he
      rw [List.length_take] at hlen
      have h2:=decodeL_le l hl
      have:(decodeL l).2=3:=by simp at hlen; omega
      rw [this] at he
      exact h3 he.symm
end Go.Proofs.Sp
namespace Go.Proofs.YtkdneddcocggdaaGreatDoor.Am
open Go Go.Proofs Go.RowKit Go.Lib Sys Sp
set_option linter.unusedVariables false
set_option linter.unusedSimpArgs false
set_option maxRecDepth 100000
variable {D:Orc} {E:Dorc} {h h' h0:H} {k:Kv} {kp:Kp}
theorem optI_int {kd:IntKind} {n:Int} {k:Option Int→Prop}:optI (some (.int kd n)) k=k (some n):=rfl
theorem strPart_rule {s:ByteArray} {n m:Int} {k:ByteArray→Prop} (h0:0≤n) (h1:n≤m) (h2:m≤s.size) (hk:∀ t,bts t=((bts s).take m.toNat).drop n.toNat→k t):strCutW s (some n) (some m) k:=by
  refine ⟨by simpa using h0,by simpa using h1,by simpa using h2,hk _ ?_⟩
  rw [bts_extract]
  simp
theorem utf8_loop {s : ByteArray} {b : Nat} (h0b : h0 b = none) (hs : s.size < 2 ^ 40) {K : Kl} {I : List Value → H → Prop} (hI : ∀ a0 a1 h, round32_2 D I K a0 a1 h → I [a0, a1] h) :
    ∀ (n p : Nat) (h : H), s.size - p ≤ n → h b = some (.sit s p) → Ext h0 h → (∀ h', Ext h0 h' → validD ((bts s).drop p) = true → K (.e 0) [] h') → (∀ h', Ext h0 h' → validD ((bts s).drop p) = false → K .r [.bool false] h') →
      I [.string s,.pointer (some ⟨b,0,none⟩)] h:=by
  have hbl:(bts s).length=s.size:=rfl
  intro n
  induction n with
  | zero =>
    intro p h hn hb he hK1 hK2
    refine hI _ _ _ ?_
    unfold round32_2
    rw [strW_string,ptrW_ptr]
    refine next_rule hb (fun _=>?_) (fun hp=>by omega)
    rw [show (#[Value.bool false]:Array Value)=[Value.bool false].toArray from rfl,ex0,boolW_bool,cond_false]
    exact hK1 _ he (by rw [List.drop_eq_nil_of_le (by omega)]; rfl)
  | succ n ih =>
    intro p h hn hb he hK1 hK2
    refine hI _ _ _ ?_
    unfold round32_2
    rw [strW_string,ptrW_ptr]
    refine next_rule hb (fun hp=>?_) (fun hp=>?_)
    · rw [show (#[Value.bool false] : Array Value) = [Value.bool false].toArray from rfl, ex0, boolW_bool, cond_false]
      exact hK1 _ he (by rw [List.drop_eq_nil_of_le (by omega)]; rfl)
    · have hw := width_pos s p
      have hne:(bts s).drop p≠[]:=by
        intro h0
        have:=congrArg List.length h0
        rw [List.length_drop,hbl] at this
        simp at this; omega
      have hL:decodeL ((bts s).drop p)=Utf8.decode s p:=decodeL_drop s p
      have step:=validD_step _ hne
      have fs:=fffd_step (l:=(bts s).drop p) hne
      rw [hL,List.drop_drop] at step
      rw [hL] at fs
      generalize Utf8.decode s p=rw at step fs hw ⊢
      obtain ⟨r,wd⟩:=rw
      dsimp only at step fs hw ⊢
      rw [show (#[Value.bool true,Value.int .i64 ((p:Nat):Int),Value.int .i32 ((r:Nat):Int)]:Array Value)=[Value.bool true,Value.int .i64 ((p:Nat):Int),Value.int .i32 ((r:Nat):Int)].toArray from rfl,ex0,boolW_bool,cond_true,ex1,ex2,intK_int]
      have he':Ext h0 (h.set b (.sit s (p+wd))):=he.set h0b
      have fin:∀ t:Bool,(t=true↔(r=65533∧wd=1))→j32_2_5 D I K (.string s) (.pointer (some ⟨b,0,none⟩)) (.bool t) (h.set b (.sit s (p+wd))):=fun t ht=>by
        unfold j32_2_5
        rw [strW_string,boolW_bool]
        cases t with
        | true =>
          rw [if_pos (ht.mp rfl)] at step
          exact hK2 _ he' step
        | false =>
          rw [if_neg (fun hh=>by have:=ht.mpr hh; cases this)] at step
          exact ih (p+wd) _ (by omega) set_here he' (fun h' e hk=>hK1 h' e (by rw [step]; exact hk)) fun h' e hk=>hK2 h' e (by rw [step]; exact hk)
      rw [cond_eq]
      refine ⟨fun hr=>?_,fun hr=>fin false ⟨fun hh=>(by cases hh),fun hh=>absurd hh.1 (by omega)⟩⟩
      have hr:r=65533:=by omega
      have fs:=fs hr
      rw [intK_int,i64_id (by omega) (by omega),cond_not,cond_dec]
      refine ⟨fun hlt=>?_,fun hge=>?_⟩
      · refine fin true ⟨fun _ => ⟨hr, fs.mpr fun h3 => ?_⟩, fun _ => rfl⟩
        have:=congrArg List.length h3
        rw [List.length_take,List.length_drop,hbl] at this
        simp at this; omega
      · rw [intK_int]
        rw [i64_id (by omega) (by omega),optI_int]
        refine strPart_rule (by omega) (by omega) (by omega) fun t htt=>?_
        refine fin _ ?_
        have h3:bts t=((bts s).drop p).take 3:=by
          rw [htt,Int.toNat_natCast,List.drop_take]
          congr 1; omega
        rw [toList_eq,toList_eq,h3]
        have hx:bts (ByteArray.mk #[239,191,189])=[239,191,189]:=rfl
        rw [hx,Bool.not_eq_true',beq_eq_false_iff_ne]
        exact ⟨fun h=>⟨hr,fs.mpr h⟩,fun h=>fs.mp h.2⟩
theorem spec32 (c:Cl32 D) {s:ByteArray} (hs:s.size<2 ^ 40) (hk:∀ h',Ext h h'→k (.bool (validD (bts s))) h'):D 32 [.string s] h k kp:=by
  refine c _ _ _ _ ?_
  unfold F32
  rw [strW_string]
  intro b hb I hI
  refine utf8_loop hb hs hI s.size 0 _ (by omega) set_here (Ext.new hb) (fun h' e hv=>?_) fun h' e hv=>?_
  · rw [xs_e]
    show cond true _ _
    rw [cond_true]
    have:=hk h' e
    rw [List.drop_zero] at hv
    rw [hv] at this; exact this
  · rw [xs_r, nth0, boolW_bool]
    have:=hk h' e
    rw [List.drop_zero] at hv
    rw [hv] at this; exact this
def SpecDigits (D:Orc) (f:Nat):Prop:=∀ (s:ByteArray) h (k:Kv) kp,s.size<2 ^ 40→k (.int .i64 (((bts s).takeWhile Sp.isDig).length:Int)) h→D f [.string s] h k kp
theorem dig_iff (b:UInt8):Sp.isDig b=(decide ((b.toNat:Int)≥48) && decide ((b.toNat:Int)≤57)):=by
  unfold Sp.isDig
  rw [Bool.eq_iff_iff]
  simp; omega
theorem spec76 (c : Cl76 D) : SpecDigits D 76 := by
  intro s h k kp hs hk
  refine c _ _ _ _ ?_
  unfold F76
  rw [strW_string]
  have hbl:(bts s).length=s.size:=rfl
  intro I hI
  have key:∀ m i:Nat,i+m=s.size→i+(((bts s).drop i).takeWhile Sp.isDig).length=((bts s).takeWhile Sp.isDig).length→I [.string s,.int .i64 (i:Int)] h:=by
    intro m
    induction m with
    | zero =>
      intro i hi hd
      refine hI _ _ _ ?_
      unfold round76_2
      rw [strW_string,intK_int,cond_dec]
      refine ⟨fun hlt=>by omega,fun _=>?_⟩
      rw [List.drop_eq_nil_of_le (by omega)] at hd
      have hd:i+0=((bts s).takeWhile Sp.isDig).length:=hd
      rw [xs_e]
      show cond true _ _
      rw [cond_true,nth0,intK_int]
      rw [← hd] at hk
      exact hk
    | succ m ih =>
      intro i hi hd
      refine hI _ _ _ ?_
      unfold round76_2
      rw [strW_string,intK_int,cond_dec]
      refine ⟨fun _=>?_,fun hge=>by omega⟩
      have hil:i<(bts s).length:=by omega
      have hds:(bts s).drop i=(bts s)[i]::(bts s).drop (i+1):=List.drop_eq_getElem_cons hil
      rw [hds,List.takeWhile_cons] at hd
      have stop:Sp.isDig (bts s)[i]=false→xs (X.e 0) (intK .i64 (nth [Value.int .i64 (i:Int)] 0) (fun x10=>k (.int .i64 x10) h)) (fun i9=>cond (Nat.beq i9 0) (intK .i64 (nth [Value.int .i64 (i:Int)] 0) (fun x11=>k (.int .i64 x11) h)) (False)) (fun c=>kp c h):=fun hf=>by
        rw [hf] at hd
        have hd:i+0=((bts s).takeWhile Sp.isDig).length:=hd
        rw [xs_e]
        show cond true _ _
        rw [cond_true,nth0,intK_int]
        rw [← hd] at hk
        exact hk
      refine strAt_rule (by omega) (by omega) fun b hb=>?_
      rw [Int.toNat_natCast,List.getElem?_eq_getElem hil] at hb
      have hb:=Option.some.inj hb
      rw [hb] at hd stop
      rw [dig_iff] at hd stop
      rw [cond_dec]
      refine ⟨fun h48=>?_,fun h48=>stop (by rw [decide_eq_false h48]; rfl)⟩
      refine strAt_rule (by omega) (by omega) fun b' hb'=>?_
      rw [Int.toNat_natCast,List.getElem?_eq_getElem hil,hb] at hb'
      obtain rfl:=Option.some.inj hb'
      rw [cond_dec]
      refine ⟨fun h57=>?_,fun h57=>stop (by rw [decide_eq_false h57,Bool.and_false])⟩
      rw [decide_eq_true h48,decide_eq_true h57] at hd
      simp only [Bool.and_self,if_true,List.length_cons] at hd
      rw [i64_id (by omega) (by omega)]
      have e2:(i:Int)+1=((i+1:Nat):Int):=by omega
      rw [e2]
      exact ih (i+1) (by omega) (by omega)
  exact key s.size 0 (by omega) (by simp)
theorem numV_ok {l:Bs}:numV l=if textOk l then some (dec l) else none:=by
  have hv:valD l=dec l:=rfl
  unfold numV
  rw [hv]
  by_cases h:textOk l=true
  · rw [if_pos h,if_pos (by rw [← txt_digits]; exact (txt_dec h).symm)]
  · rw [if_neg h, if_neg]
    intro e
    apply h
    rw [e,← txt_digits]
    exact (textOk_txt _).1
theorem all_take {p:UInt8→Bool}:∀ {l:Bs},(l.takeWhile p).length=l.length↔l.all p=true
  | []=>by simp
  | b :: l => by
    rw [List.takeWhile_cons,List.all_cons]
    cases hb:p b with
    | true=>simp [all_take (l:=l)]
    | false=>simp
theorem dec_app1 (l:Bs) (b:UInt8):dec (l++[b])=10*dec l+(b.toNat - 48):=dec_snoc l b
theorem dec_lt:∀ (n:Nat) (l:Bs),l.length=n→l.all Sp.isDig=true→dec l<10 ^ n
  | 0, l, hn, _ => by
    obtain rfl:=List.length_eq_zero_iff.mp hn
    decide
  | n + 1, l, hn, hd => by
    rcases List.eq_nil_or_concat l with rfl | ⟨m,b,rfl⟩
    · simp at hn
    · simp only [List.concat_eq_append] at *
      rw [List.all_append,Bool.and_eq_true] at hd
      have h1:=dec_lt n m (by simpa using hn) hd.1
      have hb:Sp.isDig b=true:=by simpa using hd.2
      unfold Sp.isDig at hb
      simp only [Bool.and_eq_true,decide_eq_true_eq] at hb
      rw [dec_app1,Nat.pow_succ]
      omega
theorem dec_ge:∀ (n:Nat) (l:Bs),l.length=n+1→l.all Sp.isDig=true→(∀ x r,l=x::r→x≠48)→10 ^ n≤dec l
  | 0, l, hn, hd, hh => by
    obtain ⟨x,rfl⟩:=List.length_eq_one_iff.mp hn
    have:=hh x [] rfl
    have hb:Sp.isDig x=true:=by simpa using hd
    unfold Sp.isDig at hb
    simp only [Bool.and_eq_true,decide_eq_true_eq] at hb
    have:x.toNat≠48:=fun e=>this (UInt8.toNat_inj.mp e)
    show 1≤10*0+(x.toNat - 48)
    omega
  | n + 1, l, hn, hd, hh => by
    rcases List.eq_nil_or_concat l with rfl | ⟨m,b,rfl⟩
    · simp at hn
    · simp only [List.concat_eq_append] at *
      rw [List.all_append,Bool.and_eq_true] at hd
      have h1:=dec_ge n m (by simpa using hn) hd.1 fun x r e=>hh x (r++[b]) (by rw [e]; rfl)
      rw [dec_app1,Nat.pow_succ]
      omega
def SpecNumR (D:Orc) (f:Nat):Prop:=∀ (s:ByteArray) (top:Nat) h (k:Kv) kp,s.size<2 ^ 40→top<10 ^ 18→(∀ n,numT (bts s) top=some n→k (.tuple #[.int .i64 (n:Int),.bool true]) h)→(numT (bts s) top=none→∀ x,k (.tuple #[.int .i64 x,.bool false]) h)→D f [.string s,.int .i64 (top:Int)] h k kp
theorem spec77 (c : Cl77 D) (sd : SpecDigits D 76) : SpecNumR D 77 := by
  intro s top h k kp hs htop hk1 hk2
  refine c _ _ _ _ _ ?_
  unfold F77
  rw [strW_string,intK_int]
  have hbl:(bts s).length=s.size:=rfl
  have none_:∀ {t:Bool},t=true→numT (bts s) top=none→j77__2 D k kp (.string s) (.int .i64 (top:Int)) (.bool t) h:=fun ht hn=>by
    subst ht
    unfold j77__2
    rw [strW_string,intK_int,boolW_bool,cond_true]
    exact hk2 hn 0
  have bad:textOk (bts s)=false→numT (bts s) top=none:=fun hb=>by
    unfold numT
    rw [numV_ok,if_neg (by rw [hb]; simp)]
  rw [cond_not,cond_eq]
  refine ⟨fun h0=>none_ rfl (bad (by
    have:bts s=[]:=List.length_eq_zero_iff.mp (by omega)
    rw [this]; rfl)),fun h0=>?_⟩
  refine sd s h _ _ hs ⟨_,rfl,?_⟩
  rw [cond_not,cond_ne]
  refine ⟨fun hne=>none_ rfl (bad ?_),fun heq=>?_⟩
  · rw [← Bool.not_eq_true]
    intro hok
    refine hne ?_
    have hall:(bts s).all Sp.isDig=true:=by
      unfold textOk at hok
      split at hok
      · cases hok
      · rename_i x r e
        rw [e]
        exact (Bool.and_eq_true _ _ ▸ hok).2
    have:=all_take.mpr hall
    omega
  · have hall : (bts s).all Sp.isDig = true := all_take.mp (by omega)
    obtain ⟨x,r,hxr⟩:=List.exists_cons_of_ne_nil (show bts s≠[] from fun e=>h0 (by
      have:s.size=0:=by rw [← hbl,e]; rfl
      omega))
    have htx:textOk (bts s)=(!(x==48) || r.isEmpty):=by
      rw [hxr] at hall ⊢
      show ((!(x==48) || r.isEmpty) && (x::r).all Sp.isDig)=_
      rw [hall,Bool.and_true]
    have hrl:s.size=r.length+1:=by rw [← hbl,hxr]; rfl
    have good : textOk (bts s) = true → j77__2 D k kp (.string s) (.int .i64 (top : Int)) (.bool (decide ((s.size : Int) > 18))) h := fun hok => by
      by_cases h18:(s.size:Int)>18
      · refine none_ (decide_eq_true h18) ?_
        unfold numT
        rw [numV_ok,if_pos hok]
        have hge:10 ^ (s.size - 1)≤dec (bts s):=dec_ge (s.size - 1) (bts s) (by omega) hall fun y q e=>by
          rw [hxr] at e
          obtain ⟨rfl,rfl⟩:=List.cons.inj e
          rw [htx] at hok
          rcases (Bool.or_eq_true _ _).mp hok with hok | hok
          · simpa using hok
          · have : r = [] := by simpa using hok
            rw [this] at hrl; simp at hrl; omega
        have:10 ^ 18≤10 ^ (s.size - 1):=Nat.pow_le_pow_right (by omega) (by omega)
        dsimp only
        rw [if_neg (by omega)]
      · unfold j77__2
        rw [strW_string,intK_int,boolW_bool,decide_eq_false h18,cond_false]
        intro I hI
        have key:∀ m i:Nat,i+m=s.size→I [.string s,.int .i64 (top:Int),.int .i64 (dec ((bts s).take i):Int),.int .i64 (i:Int)] h:=by
          intro m
          induction m with
          | zero =>
            intro i hi
            refine hI _ _ _ _ _ ?_
            unfold round77_5
            rw [strW_string,intK_int,intK_int,intK_int,cond_dec]
            refine ⟨fun hlt=>by omega,fun _=>?_⟩
            show xs (X.e 0) _ _ _
            rw [xs_e]
            show cond true _ _
            rw [cond_true,nth0,nth1,intK_int,intK_int,List.take_of_length_le (by omega)]
            have hnv:numT (bts s) top=if dec (bts s)≤top then some (dec (bts s)) else none:=by
              unfold numT
              rw [numV_ok,if_pos hok]
            by_cases hle:dec (bts s)≤top
            · rw [decide_eq_true (by omega)]
              exact hk1 _ (by rw [hnv,if_pos hle])
            · rw [decide_eq_false (by omega)]
              exact hk2 (by rw [hnv,if_neg hle]) _
          | succ m ih =>
            intro i hi
            refine hI _ _ _ _ _ ?_
            unfold round77_5
            rw [strW_string,intK_int,intK_int,intK_int,cond_dec]
            refine ⟨fun _=>?_,fun hge=>by omega⟩
            have hil:i<(bts s).length:=by omega
            refine strAt_rule (by omega) (by omega) fun b hb=>?_
            rw [Int.toNat_natCast] at hb
            have hbd:Sp.isDig b=true:=List.all_eq_true.mp hall b (List.mem_of_getElem? hb)
            have hbd':=hbd
            unfold Sp.isDig at hbd'
            simp only [Bool.and_eq_true,decide_eq_true_eq] at hbd'
            have hlt:=dec_lt i ((bts s).take i) (by rw [List.length_take]; omega) (List.all_eq_true.mpr fun y hy=>List.all_eq_true.mp hall y ((List.take_sublist _ _).subset hy))
            have hp:10 ^ i≤10 ^ 17:=Nat.pow_le_pow_right (by omega) (by omega)
            have h17:(10:Nat) ^ 17=100000000000000000:=by decide
            have hu:IntKind.u8.wrap ((b.toNat:Int) - 48)=((b.toNat - 48:Nat):Int):=by
              rw [u8_id (by omega) (by omega)]; omega
            have w1:IntKind.i64.wrap (10*(dec ((bts s).take i):Int))=10*(dec ((bts s).take i):Int):=i64_id (by omega) (by omega)
            have w2:IntKind.i64.wrap ((b.toNat - 48:Nat):Int)=((b.toNat - 48:Nat):Int):=i64_id (by omega) (by omega)
            rw [hu,w1,w2,i64_id (by omega) (by omega),i64_id (by omega) (by omega)]
            have e2:(i:Int)+1=((i+1:Nat):Int):=by omega
            have e3:10*(dec ((bts s).take i):Int)+((b.toNat - 48:Nat):Int)=(dec ((bts s).take (i+1)):Int):=by
              rw [dec_take_succ hb]; omega
            rw [e2,e3]
            exact ih (i+1) (by omega)
        exact key s.size 0 (by omega)
    rw [cond_dec]
    refine ⟨fun h1=>?_,fun h1=>good ?_⟩
    · refine strAt_rule (by omega) (by omega) fun b hb => ?_
      have hbx:b=x:=by
        rw [hxr] at hb
        simpa using hb.symm
      subst hbx
      rw [cond_not,cond_eq]
      refine ⟨fun h48=>none_ rfl (bad ?_),fun h48=>good ?_⟩
      · have hb48 : b = 48 := UInt8.toNat_inj.mp (by
          have:(48:UInt8).toNat=48:=rfl
          omega)
        rw [htx,hb48]
        cases r with
        | nil=>simp at hrl; omega
        | cons y q=>rfl
      · rw [htx]
        have:b≠48:=fun e=>h48 (by rw [e]; rfl)
        simp [this]
    · rw [htx]
      have:r=[]:=List.length_eq_zero_iff.mp (by omega)
      rw [this]; simp
def SpecTold (D:Orc) (f:Nat):Prop:=∀ (n:Nat) h (k:Kv) kp,n<2 ^ 62→(∀ h',Ext h h'→k (.string (strB (decDigits n))) h')→D f [.int .i64 (n:Int)] h k kp
end Go.Proofs.YtkdneddcocggdaaGreatDoor.Am

namespace Go.Proofs.Sp
open Go Go.Lib Sys
theorem readA_err {g : Bs → Except Int (List Int × Bs)} (hg : ∀ s e, g s = .error e → e ≠ 0) : ∀ (n : Nat) (b : Bool) (s : Bs) (e : Int), readA g n b s = .error e → e ≠ 0
  | 0,true,s,e,h=>by cases h
  | 0, false, s, e, h => by
    unfold readA at h
    split at h
    · cases h
    · obtain rfl:=Except.error.inj h; decide
  | n + 1, b, s, e, h => by
    unfold readA at h
    by_cases hc:s.head?=some (if b then 40 else 44)
    · rw [if_pos hc] at h
      split at h
      · rename_i e' he
        obtain rfl:=Except.error.inj h
        exact hg _ _ he
      · split at h
        · rename_i e' he
          obtain rfl:=Except.error.inj h
          exact readA_err hg n _ _ _ he
        · cases h
    · rw [if_neg hc] at h
      obtain rfl:=Except.error.inj h; decide
theorem readT_err {sig : Sg} : ∀ (f : Nat) (s : Bs) (e : Int), readT sig f s = .error e → e ≠ 0
  | 0,s,e,h=>by obtain rfl:=Except.error.inj h; decide
  | f + 1, s, e, h => by
    unfold readT at h
    split at h
    · split at h
      · cases h
      · obtain rfl:=Except.error.inj h; decide
    · split at h
      · obtain rfl:=Except.error.inj h; decide
      · split at h
        · cases h
        · rename_i e' he
          obtain rfl:=Except.error.inj h
          exact readA_err (readT_err f) _ _ _ _ he
end Go.Proofs.Sp
namespace Go.Proofs.YtkdneddcocggdaaGreatDoor.Am
open Go Go.Proofs Go.RowKit Go.Lib Sys Sp
set_option linter.unusedVariables false
set_option linter.unusedSimpArgs false
set_option maxRecDepth 100000
variable {D:Orc} {E:Dorc} {h h' h0:H} {k:Kv} {kp:Kp} {L R:List Res}
theorem spec83 (c : Cl83 D) (so : SpecOf D 118) (st : SpecText D 108) : SpecTold D 83 := by
  intro n h k kp hn hk
  refine c _ _ _ _ ?_
  unfold F83
  rw [intK_int]
  have hw:IntKind.u64.wrap (n:Int)=(n:Int):=u64_id (by omega) (by omega)
  rw [hw]
  refine so n h _ _ (by omega) fun s h1 nb=>⟨_,rfl,?_⟩
  have hr:Nats.right (Nats.limbs n):=by
    refine ⟨?_,by rw [Nats.val_limbs]⟩
    by_cases h0:n=0
    · rw [h0,Nats.limbs_zero]; simp
    · rw [Nats.limbs_pos h0]
      have hB:Nats.B=4294967296:=rfl
      by_cases h1:n / Nats.B=0
      · rw [h1,Nats.limbs_zero]; simp
      · rw [Nats.limbs_pos h1]
        have:n / Nats.B / Nats.B=0:=by rw [hB]; omega
        rw [this,Nats.limbs_zero]; simp
  refine st s _ h1 _ _ nb.nr (fun _ t h2 e2 ht=>⟨_,_,rfl,?_⟩) fun hx=>absurd hr hx
  have:=hk h2 (nb.ext.trans e2)
  rw [Nats.val_limbs,txt_digits] at ht
  rw [← ht,strB_bts] at this
  exact this
def SpecFrontN (D:Orc) (f:Nat):Prop:=∀ (s:ByteArray) h (k:Kv) kp,s.size<2 ^ 40→(∀ h',Ext h h'→k (.int .i64 (frontN (bts s):Int)) h')→D f [.string s] h k kp
theorem nameR_loop {s : ByteArray} {b : Nat} (h0b : h0 b = none) {K : Kl} {h1 : H} (hb1 : h1 b = some (.sit s 0)) (e1 : Ext h0 h1)
    (hK:∀ h',Ext h0 h'→K (.e 0) [.string s,.int .i64 (bodyN (bts s):Int)] h'):loop78_3 D [.string s,.int .i64 (s.size:Int),.pointer (some ⟨b,0,none⟩)] h1 K:=by
  intro I hI
  have hlen:(bts s).length=s.size:=rfl
  have key:∀ (n p:Nat) (h:H),s.size - p≤n→p≤s.size→h b=some (.sit s p)→Ext h0 h→(0<p→letterB (s.get! 0)=true)→(∀ j,j<p→moreB (s.get! j)=true)→I [.string s,.int .i64 (s.size:Int),.pointer (some ⟨b,0,none⟩)] h:=by
    intro n
    induction n with
    | zero =>
      intro p h hn hp hb he hA hB
      refine hI _ _ _ _ ?_
      unfold round78_3
      rw [strW_string,intK_int,ptrW_ptr]
      refine next_rule hb (fun _=>?_) (fun hp=>by omega)
      rw [show (#[Value.bool false]:Array Value)=[Value.bool false].toArray from rfl,ex0,boolW_bool,cond_false]
      have:=hK _ he
      rw [bodyN_of (l:=bts s) (e:=s.size) (by omega) (fun h0=>⟨_,get!_eq s 0 (by omega),hA (by omega)⟩) (fun j hj=>⟨_,get!_eq s j (by omega),hB j (by omega)⟩) (fun x hx=>by
        have:=(List.getElem?_eq_some_iff.mp hx).1; omega)] at this
      exact this
    | succ n ih =>
      intro p h hn hp hb he hA hB
      refine hI _ _ _ _ ?_
      unfold round78_3
      rw [strW_string,intK_int,ptrW_ptr]
      refine next_rule hb (fun hp2=>?_) (fun hp2=>?_)
      · rw [show (#[Value.bool false] : Array Value) = [Value.bool false].toArray from rfl, ex0, boolW_bool, cond_false]
        obtain rfl:p=s.size:=by omega
        have:=hK _ he
        rw [bodyN_of (l:=bts s) (e:=s.size) (by omega) (fun h0=>⟨_,get!_eq s 0 (by omega),hA (by omega)⟩) (fun j hj=>⟨_,get!_eq s j (by omega),hB j (by omega)⟩) (fun x hx=>by
          have:=(List.getElem?_eq_some_iff.mp hx).1; omega)] at this
        exact this
      · obtain ⟨r1, r2, r3, r4, r5⟩ := rune_byte hp2
        generalize Utf8.decode s p=rw at r1 r2 r3 r4 r5 ⊢
        obtain ⟨r,wd⟩:=rw
        dsimp only at r1 r2 r3 r4 r5 ⊢
        rw [show (#[Value.bool true,Value.int .i64 ((p:Nat):Int),Value.int .i32 ((r:Nat):Int)]:Array Value)=[Value.bool true,Value.int .i64 ((p:Nat):Int),Value.int .i32 ((r:Nat):Int)].toArray from rfl,ex0,boolW_bool,cond_true,ex1,ex2]
        have he':Ext h0 (h.set b (.sit s (p+wd))):=he.set h0b
        have go:(if p=0 then letterB (s.get! p) else moreB (s.get! p))=true→I [.string s,.int .i64 (s.size:Int),.pointer (some ⟨b,0,none⟩)] (h.set b (.sit s (p+wd))):=fun hc=>by
          have hm1:moreB (s.get! p)=true:=by
            by_cases hp0:p=0
            · rw [if_pos hp0] at hc; exact letter_more hc
            · rw [if_neg hp0] at hc; exact hc
          refine ih (p+wd) _ (by omega) r4 set_here he' (fun _=>?_) fun j hj=>?_
          · by_cases hp0 : p = 0
            · subst hp0; rwa [if_pos rfl] at hc
            · exact hA (by omega)
          · by_cases hjp : j < p
            · exact hB j hjp
            · by_cases hje : j = p
              · subst hje; exact hm1
              · exact r5 j (by omega) hj hje
        have stop:(if p=0 then letterB (s.get! p) else moreB (s.get! p))=false→K (.e 0) [.string s,.int .i64 (p:Int)] (h.set b (.sit s (p+wd))):=fun hc=>by
          have:=hK _ he'
          rw [bodyN_of (l:=bts s) (e:=p) (by omega) (fun h0=>⟨_,get!_eq s 0 (by omega),hA h0⟩) (fun j hj=>⟨_,get!_eq s j (by omega),hB j hj⟩) (fun x hx=>by
            rw [get!_eq s p hp2] at hx
            obtain rfl:=Option.some.inj hx
            refine ⟨fun h0=>by rwa [if_pos h0] at hc,fun h0=>by rwa [if_neg (by omega)] at hc⟩)] at this
          exact this
        have fin:∀ t:Bool,t=!(if p=0 then letterB (s.get! p) else moreB (s.get! p))→j78_3_8 D I K (.string s) (.int .i64 (s.size:Int)) (.int .i64 (p:Int)) (.pointer (some ⟨b,0,none⟩)) (.bool t) (h.set b (.sit s (p+wd))):=fun t ht=>by
          unfold j78_3_8
          rw [strW_string,intK_int,intK_int,boolW_bool]
          subst ht
          cases hc:(if p=0 then letterB (s.get! p) else moreB (s.get! p)) with
          | true=>exact go hc
          | false=>exact stop hc
        have seven:∀ m:Bool,(if p=0 then letterB (s.get! p) else moreB (s.get! p))=(letter r || m)→j78_3_7 D I K (.string s) (.int .i64 (s.size:Int)) (.int .i64 (p:Int)) (.bool (letter r)) (.bool m) (.pointer (some ⟨b,0,none⟩)) (h.set b (.sit s (p+wd))):=fun m hm=>by
          unfold j78_3_7
          rw [strW_string,intK_int,intK_int,boolW_bool,boolW_bool,cond_not]
          cases hl:letter r with
          | true=>exact fin false (by rw [hm,hl]; rfl)
          | false=>exact fin (!m) (by rw [hm,hl]; simp)
        have six:∀ t:Bool,t=letter r→j78_3_6 D I K (.string s) (.int .i64 (s.size:Int)) (.int .i64 (p:Int)) (.int .i32 (r:Int)) (.bool t) (.pointer (some ⟨b,0,none⟩)) (h.set b (.sit s (p+wd))):=fun t ht=>by
          subst ht
          unfold j78_3_6
          rw [strW_string,intK_int,intK_int,intK_int,boolW_bool,cond_dec]
          refine ⟨fun hp0=>?_,fun hp0=>seven false (by rw [if_pos (by omega),← r1,Bool.or_false])⟩
          rw [if_neg (by omega),← r2] at seven
          have hm:more r=(letter r || (48≤r && r≤57) || r==95 || r==39):=rfl
          have a95:∀ x:Bool,x=((48≤r && r≤57) || r==95 || r==39)→more r=(letter r || x):=fun x hx=>by rw [hm,hx,Bool.or_assoc,Bool.or_assoc,Bool.or_assoc]
          have i95:((r:Int)==95)=(r==95):=by rw [Bool.eq_iff_iff]; simp only [beq_iff_eq]; omega
          have i39:((r:Int)==39)=(r==39):=by rw [Bool.eq_iff_iff]; simp only [beq_iff_eq]; omega
          have lst:¬ (48≤r∧r≤57)→cond (!(((r:Int)==95))) (j78_3_7 D I K (.string s) (.int .i64 (s.size:Int)) (.int .i64 (p:Int)) (.bool (letter r)) (.bool ((r:Int)==39)) (.pointer (some ⟨b,0,none⟩)) (h.set b (.sit s (p+wd)))) (j78_3_7 D I K (.string s) (.int .i64 (s.size:Int)) (.int .i64 (p:Int)) (.bool (letter r)) (.bool true) (.pointer (some ⟨b,0,none⟩)) (h.set b (.sit s (p+wd)))):=fun hnd=>by
            have hnd':(decide (48≤r) && decide (r≤57))=false:=by simp; omega
            rw [i95,i39]
            cases h95:(r==95) with
            | true=>exact seven true (a95 _ (by rw [hnd',h95]; rfl))
            | false=>exact seven _ (a95 _ (by rw [hnd',h95]; rfl))
          rw [cond_dec]
          refine ⟨fun h48=>?_,fun h48=>lst (by omega)⟩
          rw [cond_not,cond_dec]
          refine ⟨fun h57=>seven true (a95 _ ?_),fun h57=>?_⟩
          · have : (decide (48 ≤ r) && decide (r ≤ 57)) = true := by simp; omega
            rw [this]; rfl
          · have := lst (by omega)
            exact this
        have hl:letter r=((97≤r && r≤122) || (65≤r && r≤90) || 128≤r):=rfl
        have d128:decide ((r:Int)≥128)=decide (128≤r):=by congr 1; exact propext (by omega)
        have yes:(97≤r∧r≤122)∨(65≤r∧r≤90)→true=letter r:=fun h=>by rw [hl]; symm; simp; omega
        have no:¬ ((97≤r∧r≤122)∨(65≤r∧r≤90))→decide (128≤r)=letter r:=fun h=>by rw [hl,Bool.eq_iff_iff]; simp; omega
        simp only [intK_int,cond_not,cond_dec,d128]
        exact ⟨fun h1=>⟨fun h2=>six _ (yes (by omega)),fun h2=>⟨fun h3=>⟨fun h4=>six _ (yes (by omega)),fun h4=>six _ (no (by omega))⟩,fun h3=>six _ (no (by omega))⟩⟩,fun h1=>⟨fun h3=>⟨fun h4=>six _ (yes (by omega)),fun h4=>six _ (no (by omega))⟩,fun h3=>six _ (no (by omega))⟩⟩
  exact key s.size 0 h1 (by omega) (by omega) hb1 e1 (fun h=>by omega) fun j hj=>by omega
theorem spec78 (c:Cl78 D):SpecFrontN D 78:=by
  intro s h k kp hs hk
  refine c _ _ _ _ ?_
  unfold F78
  rw [strW_string]
  intro b hb
  have hlen:(bts s).length=s.size:=rfl
  have hle:=bodyN_le (bts s)
  refine nameR_loop hb set_here (Ext.new hb) fun h' e=>?_
  rw [xs_e]
  show cond true _ _
  rw [cond_true,nth0,nth1,strW_string,intK_int]
  have mid:∀ t:Bool,t=decide (0<bodyN (bts s)∧(bts s)[bodyN (bts s)]?=some 35)→j78__10 D k kp (.int .i64 (bodyN (bts s):Int)) (.bool t) h':=fun t ht=>by
    unfold j78__10 j78__11
    rw [intK_int,boolW_bool]
    subst ht
    have:=hk h' e
    unfold frontN at this
    rw [cond_dec]
    refine ⟨fun hc=>?_,fun hc=>?_⟩
    · rw [if_pos hc] at this
      rw [intK_int,i64_id (by omega) (by omega)]
      exact this
    · rw [if_neg hc] at this
      rw [intK_int]
      exact this
  rw [cond_dec]
  refine ⟨fun hpos=>?_,fun hz=>mid _ (by rw [decide_eq_false]; exact fun hh=>by omega)⟩
  rw [cond_dec]
  refine ⟨fun hlt=>?_,fun hge=>mid _ (by
    rw [decide_eq_false]
    exact fun hh=>by
      have:=(List.getElem?_eq_some_iff.mp hh.2).1
      omega)⟩
  refine strAt_rule (by omega) (by omega) fun x hx=>mid _ ?_
  rw [Int.toNat_natCast] at hx
  rw [hx,Bool.eq_iff_iff,beq_iff_eq,decide_eq_true_eq]
  constructor
  · intro h35
    exact ⟨by omega,by congr 1; exact UInt8.toNat_inj.mp (by have:(35:UInt8).toNat=35:=rfl; omega)⟩
  · rintro ⟨_, h35⟩
    rw [Option.some.inj h35]; rfl
theorem spec79 (c : Cl79 D) : SpecSym D 79 := by
  intro s sig nm h k kp hs hk
  refine c _ _ _ _ _ ?_
  unfold F79
  rw [strW_string]
  have hlen:=hs.len
  have hnl:(nmOf sig).length=sig.length:=by unfold nmOf; rw [List.length_map,S2_len]
  have hk:=hk h (Ext.refl h)
  intro I hI
  have key:∀ m i:Nat,i+m=sig.length→(∀ j,j<i→∀ y,(nmOf sig)[j]?=some y→(y==bts nm)=false)→I [s,.string nm,.int .i64 (i:Int)] h:=by
    intro m
    induction m with
    | zero =>
      intro i hi hb
      refine hI _ _ _ _ ?_
      unfold round79_2
      rw [strW_string,intK_int,hs.row.len,sgRow_len,cond_dec]
      refine ⟨fun h=>by omega,fun _=>?_⟩
      show xs (X.e 0) _ _ _
      rw [xs_e]
      show k (.int .i64 (-1)) h
      have:symI (nmOf sig) (bts nm)=none:=by
        unfold symI
        rw [List.findIdx?_eq_none_iff]
        intro y hy
        obtain ⟨j,hj,rfl⟩:=List.getElem_of_mem hy
        exact hb j (by omega) _ (List.getElem?_eq_getElem hj)
      rw [this] at hk; exact hk
    | succ m ih =>
      intro i hi hb
      refine hI _ _ _ _ ?_
      unfold round79_2
      rw [strW_string,intK_int,hs.row.len,sgRow_len,cond_dec]
      refine ⟨fun _=>?_,fun h=>by omega⟩
      have hil:i<sig.length:=by omega
      have hin:(nmOf sig)[i]?=some (bts sig[i].1):=by
        unfold nmOf S2
        rw [List.map_map,List.getElem?_map,List.getElem?_eq_getElem hil]; rfl
      refine hs.row.at_ (by omega) (by rw [sgRow_len]; omega) fun ad v hv _ hj=>?_
      obtain ⟨z,hz,rfl⟩:=sgRow_at hv
      rw [Int.toNat_natCast,List.getElem?_eq_getElem hil] at hz
      obtain rfl:=Option.some.inj hz
      refine ⟨sig[i].1,hj 0 _ rfl,?_⟩
      rw [str_eq]
      cases he:(bts sig[i].1==bts nm) with
      | true =>
        rw [cond_true]
        show xs X.r _ _ _
        rw [xs_r,nth0,intK_int]
        have:symI (nmOf sig) (bts nm)=some i:=by
          unfold symI
          rw [List.findIdx?_eq_some_iff_getElem]
          refine ⟨by omega,?_,fun j hj=>?_⟩
          · have := (List.getElem?_eq_some_iff.mp hin).2
            rw [this,he]
          · have := hb j hj _ (List.getElem?_eq_getElem (by omega))
            simp [this]
        rw [this] at hk; exact hk
      | false =>
        rw [cond_false,i64_id (by omega) (by omega)]
        have e2:(i:Int)+1=((i+1:Nat):Int):=by omega
        rw [e2]
        refine ih (i+1) (by omega) fun j hj y hy=>?_
        rcases Nat.lt_succ_iff_lt_or_eq.mp hj with hj | rfl
        · exact hb j hj y hy
        · rw [hin] at hy
          rw [← Option.some.inj hy]; exact he
  exact key sig.length 0 (by omega) fun j hj=>by omega
end Go.Proofs.YtkdneddcocggdaaGreatDoor.Am

namespace Go.Proofs.YtkdneddcocggdaaGreatDoor.Am
open Go Go.Proofs Go.RowKit Go.Lib Sys Sp
set_option linter.unusedVariables false
set_option linter.unusedSimpArgs false
set_option maxRecDepth 100000
variable {D:Orc} {E:Dorc} {h h' h0:H} {k:Kv} {kp:Kp} {L R:List Res}
def SpecRR (D:Orc) (f:Nat) (T:H→Prop) (n:Nat):Prop:=∀ (sig:List Sy) (sg:Value) (s:ByteArray) h (k:Kv) kp,(bts s).length<n→(bts s).length<2 ^ 38 →
  Sr h sg sig→ArOk sig→(∀ y∈sig,bts y.1≠[])→T h →
  Out (readT (S2 sig) n (bts s)) (fun x=>∀ v rest h',bts rest=x.2→Ext h h'→Buf h h' v (Z x.1)→k (.tuple #[v,.string rest,.int .i64 0]) h') (fun e=>∀ h',Ext h h'→k (.tuple #[.slice none 0 0,.string (ByteArray.mk #[]),.int .i64 e]) h')→D f [sg,.string s] h k kp
theorem read_ref (c : Cl33 D) (sd : SpecDigits D 76) (sn : SpecNumR D 77) (sf : SpecFrontN D 78) (ss : SpecSym D 79) : ∀ n, SpecRR D 33 Tbl n := by
  intro n
  induction n with
  | zero=>intro sig sg s h k kp hn; omega
  | succ n ih =>
    intro sig sg s h k kp hn hlen hs ha hne ht hk
    refine c _ _ _ _ _ ?_
    unfold F33
    rw [strW_string]
    have hbl:(bts s).length=s.size:=rfl
    have main : ∀ t : Bool, t = ((bts s).head? == some 95) → j33__2 D k kp sg (.string s) (.bool t) h := fun t htt => by
      subst htt
      unfold j33__2
      rw [strW_string,boolW_bool]
      unfold readT at hk
      by_cases hh:(bts s).head?=some 95
      · rw [if_pos hh] at hk
        rw [hh,show ((some 95:Option UInt8)==some 95)=true from rfl,cond_true]
        have hpos:0<s.size:=by
          rw [← bts_len]
          cases hb:bts s with
          | nil=>rw [hb] at hh; simp at hh
          | cons y m=>simp
        refine strTail_rule (by omega) (by omega) fun t ht'=>?_
        rw [show (1:Int).toNat=1 from rfl] at ht'
        have htl:t.size+1=s.size:=by
          have:=congrArg List.length ht'
          rw [bts_len,List.length_drop,bts_len] at this
          omega
        refine sd t h _ _ (by omega) ⟨_,rfl,?_⟩
        rw [← ht'] at hk
        have htb:(bts t).length=t.size:=rfl
        have hdl:=takeWhile_len_le Sp.isDig (bts t)
        have w1:IntKind.i64.wrap (1+(((bts t).takeWhile Sp.isDig).length:Int))=((1+((bts t).takeWhile Sp.isDig).length:Nat):Int):=by
          rw [i64_id (by omega) (by omega)]; omega
        rw [w1]
        refine strPart_rule (by omega) (by omega) (by omega) fun v hv=>?_
        have hv:bts v=(bts t).takeWhile Sp.isDig:=by
          rw [hv,Int.toNat_natCast,show (1:Int).toNat=1 from rfl,List.drop_take,← ht',Nat.add_sub_cancel_left]
          exact takeWhile_take _
        refine sn v 1048575 h _ _ (by
          have:=congrArg List.length hv
          rw [bts_len] at this; omega) (by decide) (fun m hm=>⟨_,_,rfl,?_⟩) fun hm x=>⟨_,_,rfl,?_⟩
        · rw [hv] at hm
          rw [hm] at hk
          have hmm:=(numT_some hm).2
          show cond false _ _
          rw [cond_false,i64_id (by omega) (by omega)]
          refine ⟨rfl,by decide,?_⟩
          refine (Hp.nil_ h).newSlN (ws:=Z [-1 - (m:Int)]) rfl fun sv h1 o1=>?_
          refine strTail_rule (by omega) (by omega) fun w hw=>?_
          refine hk sv w h1 ?_ o1.ext o1.blk
          rw [hw,Int.toNat_natCast,show 1+((bts t).takeWhile Sp.isDig).length=((bts t).takeWhile Sp.isDig).length+1 by omega,← takeWhile_drop,ht',List.drop_drop]
          congr 1; omega
        · rw [hv] at hm
          rw [hm] at hk
          show cond true _ _
          rw [cond_true]
          exact hk h (Ext.refl h)
      · rw [if_neg hh] at hk
        rw [show ((bts s).head?==some 95)=false from beq_eq_false_iff_ne.mpr hh,cond_false]
        refine sf s h _ _ (by omega) fun h1 e1=>⟨_,rfl,?_⟩
        have hfl:=frontN_le (bts s)
        refine strHead_rule (by omega) (by omega) fun nm hnm=>?_
        rw [Int.toNat_natCast] at hnm
        refine ss sg sig nm h1 _ _ (hs.ext e1) fun h2 e2=>⟨_,rfl,?_⟩
        have e12:=e1.trans e2
        rw [hnm]
        unfold nmOf
        have err:∀ {t:Bool},t=true→(∀ h',Ext h h'→k (.tuple #[.slice none 0 0,.string (ByteArray.mk #[]),.int .i64 223]) h')→j33__10 D k kp sg (.string s) (.int .i64 (frontN (bts s):Int)) (.int .i64 (symV (symI ((S2 sig).map (·.1)) ((bts s).take (frontN (bts s)))))) (.bool t) h2:=fun ht hk=>by
          subst ht
          unfold j33__10
          rw [strW_string,intK_int,intK_int,boolW_bool,cond_true]
          exact hk h2 e12
        cases hc:symI ((S2 sig).map (·.1)) ((bts s).take (frontN (bts s))) with
        | none =>
          rw [hc] at hk err
          rw [cond_not]
          cases (((frontN (bts s):Nat):Int)==0) with
          | true=>exact err rfl hk
          | false=>exact err (decide_eq_true (by show (-1:Int)<0; omega)) hk
        | some cc =>
          rw [hc] at hk
          dsimp only at hk
          have hsc:=symI_some hc
          rw [List.getElem?_map] at hsc
          obtain ⟨y,hy,hy2⟩:=Option.map_eq_some_iff.mp hsc
          unfold S2 at hy
          rw [List.getElem?_map] at hy
          obtain ⟨x,hx,rfl⟩:=Option.map_eq_some_iff.mp hy
          have hcl:=(List.getElem?_eq_some_iff.mp hx).1
          have hsl:=hs.len
          have hkid:=kids_at (S2_at hx)
          have hax:=ha x (List.mem_of_getElem? hx)
          have hnx:=hne x (List.mem_of_getElem? hx)
          have hfpos:0<frontN (bts s):=Nat.pos_of_ne_zero fun h0=>by
            rw [h0] at hy2
            exact hnx hy2
          rw [hkid] at hk
          rw [cond_not,cond_eq]
          refine ⟨fun h0=>by omega,fun _=>?_⟩
          have hsv:symV (some cc)=(cc:Int):=rfl
          rw [hsv,decide_eq_false (by omega)]
          unfold j33__10
          rw [strW_string,intK_int,intK_int,boolW_bool,cond_false]
          refine ⟨rfl,by decide,?_⟩
          refine ((Hp.nil_ h).later e12).newSlN (ws:=Z [(cc:Int)]) rfl fun ts h3 o3=>?_
          refine strTail_rule (by omega) (by omega) fun w hw=>?_
          rw [Int.toNat_natCast] at hw
          rw [← hw] at hk
          obtain ⟨ar,har⟩:=Int.eq_ofNat_of_zero_le hax.1
          have har8:ar≤8:=by omega
          rw [har,Int.toNat_natCast] at hk
          have arity:∀ {h':H} {K:Int→Prop},Ext h h'→K (ar:Int)→slAtW sg (cc:Int) 2 fun ad=>∃ x58:Int,rd h' (Addr.add ad 1)=some (.int .i64 x58)∧K x58:=fun e hK=>by
            refine (hs.ext e).row.at_ (by omega) (by rw [sgRow_len]; omega) fun ad v hv _ hj=>?_
            obtain ⟨y,hy,rfl⟩:=sgRow_at hv
            rw [Int.toNat_natCast,hx] at hy
            obtain rfl:=Option.some.inj hy
            exact ⟨x.2,hj 1 _ rfl,by rw [har]; exact hK⟩
          have hwl:(bts w).length<(bts s).length:=by rw [hw,List.length_drop]; omega
          intro I hI
          have key:∀ m i:Nat,i+m=ar→∀ (q:ByteArray) (ts':Value) (l':List Int) (h':H),(bts q).length<n→l'.length+(bts q).length≤2 ^ 38→Hp h h' (bufR ts' (Z l')::[]) →
              Out (Sp.readA (readT (S2 sig) n) m (i==0) (bts q)) (fun x=>∀ v rest h2,bts rest=x.2→Hp h h2 (bufR v (Z (l'++x.1))::[])→k (.tuple #[v,.string rest,.int .i64 0]) h2) (fun e=>∀ h2,Ext h h2→k (.tuple #[.slice none 0 0,.string (ByteArray.mk #[]),.int .i64 e]) h2) →
              I [sg,.string q,.int .i64 (cc:Int),ts',.int .i64 (i:Int)] h':=by
            intro m
            induction m with
            | zero =>
              intro i hi q ts' l' h' hq hl' o' hk'
              have hql:(bts q).length=q.size:=rfl
              refine hI _ _ _ _ _ _ ?_
              unfold round33_14
              rw [strW_string,intK_int,intK_int]
              refine arity o'.ext ?_
              rw [cond_dec]
              refine ⟨fun hlt=>by omega,fun _=>?_⟩
              show xs (X.e 0) _ _ _
              rw [xs_e]
              show cond true _ _
              rw [cond_true,nth0,nth1,nth2,nth3,strW_string,intK_int]
              refine arity o'.ext ?_
              rw [cond_eq]
              refine ⟨fun hz=>?_,fun hnz=>?_⟩
              · have hi0 : (i == 0) = true := beq_iff_eq.mpr (by omega)
                rw [hi0] at hk'
                refine hk' ts' q h' rfl ?_
                rw [List.append_nil]; exact o'
              · have hi0 : (i == 0) = false := beq_eq_false_iff_ne.mpr (by omega)
                rw [hi0] at hk'
                unfold Sp.readA at hk'
                have last:∀ t:Bool,t=!((bts q).head?==some 41)→j33__29 D k kp (.string q) ts' (.bool t) h':=fun t htt=>by
                  subst htt
                  unfold j33__29
                  rw [strW_string,boolW_bool]
                  by_cases h41:(bts q).head?=some 41
                  · rw [if_pos h41] at hk'
                    rw [h41]
                    show cond false _ _
                    rw [cond_false]
                    have hqp:0<q.size:=by
                      rw [← hql]
                      cases hb:bts q with
                      | nil=>rw [hb] at h41; simp at h41
                      | cons y m=>simp
                    refine strTail_rule (by omega) (by omega) fun w2 hw2=>hk' ts' w2 h' hw2 ?_
                    rw [List.append_nil]; exact o'
                  · rw [if_neg h41] at hk'
                    rw [beq_eq_false_iff_ne.mpr h41]
                    show cond true _ _
                    rw [cond_true]
                    exact hk' h' o'.ext
                rw [cond_not,cond_eq]
                refine ⟨fun h0=>last true ?_,fun h0=>?_⟩
                · have : bts q = [] := List.length_eq_zero_iff.mp (by omega)
                  rw [this]; rfl
                · refine strAt_rule (by omega) (by omega) fun y hy => last _ ?_
                  have hy:(bts q).head?=some y:=by rw [List.head?_eq_getElem?]; exact hy
                  rw [hy]
                  rw [Bool.eq_iff_iff,bne_iff_ne,Bool.not_eq_true',beq_eq_false_iff_ne]
                  exact ⟨fun h e=>h (by rw [Option.some.inj e]; rfl),fun h e=>h (by
                    congr 1
                    exact UInt8.toNat_inj.mp (by have:(41:UInt8).toNat=41:=rfl; omega))⟩
            | succ m ihm =>
              intro i hi q ts' l' h' hq hl' o' hk'
              have hql:(bts q).length=q.size:=rfl
              refine hI _ _ _ _ _ _ ?_
              unfold round33_14
              rw [strW_string,intK_int,intK_int]
              refine arity o'.ext ?_
              rw [cond_dec]
              refine ⟨fun _=>?_,fun hge=>by omega⟩
              have step:∀ mk:UInt8,mk=(if (i==0) then 40 else 44)→j33_14_19 D I (fun x60 vs61 h59=>xs x60 (strW (nth vs61 1) (fun s63=>intK .i64 (nth vs61 2) (fun x64=>k (.tuple #[(nth vs61 0),(.string s63),(.int .i64 x64)]) h59))) (fun i62=>cond (Nat.beq i62 0) (
strW (nth vs61 1) (fun s65=>intK .i64 (nth vs61 2) (fun x66=>slAtW (nth vs61 0) x66 2 (fun ad67=>∃ x68:Int,rd h59 (Addr.add ad67 1)=some (.int .i64 x68)∧cond (x68==0) (
k (.tuple #[(nth vs61 3),(.string s65),(.int .i64 0)]) h59) (
cond (!((s65.size:Int)==0)) (
strAtW s65 0 (fun x69=>j33__29 D k kp (.string s65) (nth vs61 3) (.bool (x69 != 41)) h59)) (
j33__29 D k kp (.string s65) (nth vs61 3) (.bool true) h59)))))) (False)) (fun c => kp c h59)) sg (.string q) (.int .i64 (cc : Int)) ts' (.int .i64 (i : Int)) (.int .u8 (mk.toNat : Int)) h' := fun mk hmk => by
                unfold j33_14_19
                rw [strW_string,intK_int,intK_int,intK_int]
                unfold Sp.readA at hk'
                rw [← hmk] at hk'
                have go:∀ t:Bool,t=!((bts q).head?==some mk)→j33_14_20 D I (fun x60 vs61 h59=>xs x60 (strW (nth vs61 1) (fun s63=>intK .i64 (nth vs61 2) (fun x64=>k (.tuple #[(nth vs61 0),(.string s63),(.int .i64 x64)]) h59))) (fun i62=>cond (Nat.beq i62 0) (
strW (nth vs61 1) (fun s65=>intK .i64 (nth vs61 2) (fun x66=>slAtW (nth vs61 0) x66 2 (fun ad67=>∃ x68:Int,rd h59 (Addr.add ad67 1)=some (.int .i64 x68)∧cond (x68==0) (
k (.tuple #[(nth vs61 3),(.string s65),(.int .i64 0)]) h59) (
cond (!((s65.size:Int)==0)) (
strAtW s65 0 (fun x69=>j33__29 D k kp (.string s65) (nth vs61 3) (.bool (x69 != 41)) h59)) (
j33__29 D k kp (.string s65) (nth vs61 3) (.bool true) h59)))))) (False)) (fun c => kp c h59)) sg (.string q) (.int .i64 (cc : Int)) ts' (.int .i64 (i : Int)) (.bool t) h' := fun t htt => by
                  subst htt
                  unfold j33_14_20
                  rw [strW_string,intK_int,intK_int,boolW_bool]
                  by_cases hmh:(bts q).head?=some mk
                  · rw [if_pos hmh] at hk'
                    rw [hmh,show (some mk==some mk)=true from beq_iff_eq.mpr rfl]
                    show cond false _ _
                    rw [cond_false]
                    have hqp:0<q.size:=by
                      rw [← hql]
                      cases hb:bts q with
                      | nil=>rw [hb] at hmh; simp at hmh
                      | cons y m=>simp
                    refine strTail_rule (by omega) (by omega) fun q2 hq2=>?_
                    rw [show (1:Int).toNat=1 from rfl] at hq2
                    have hq2l:(bts q2).length+1=(bts q).length:=by rw [hq2,List.length_drop]; omega
                    rw [← hq2] at hk'
                    refine ih sig sg q2 h' _ _ (by omega) (by omega) (hs.ext o'.ext) ha hne (env_stay _ _ o'.ext ht) ?_
                    cases hr:readT (S2 sig) n (bts q2) with
                    | error e =>
                      rw [hr] at hk'
                      intro h4 e4
                      refine ⟨_,_,_,rfl,?_⟩
                      rw [cond_ne]
                      refine ⟨fun _=>?_,fun h0=>absurd h0 (readT_err _ _ _ hr)⟩
                      show xs X.r _ _ _
                      rw [xs_r,nth0,nth1,nth2,strW_string,intK_int]
                      exact hk' h4 (o'.ext.trans e4)
                    | ok ur =>
                      obtain ⟨u,r⟩:=ur
                      rw [hr] at hk'
                      dsimp only at hk'
                      intro v rest h4 hrest e4 hb
                      refine ⟨_,_,_,rfl,?_⟩
                      show cond false _ _
                      rw [cond_false]
                      have hul:=read_len _ _ _ _ hr
                      have hrest:bts rest=r:=hrest
                      have o4:=o'.later e4
                      have hrow:=hb.row
                      have hl2:l'.length+u.length≤2 ^ 40:=by omega
                      have app:∀ {K:Value→H→Prop},(∀ s' h5,Hp h h5 (bufR s' (Z (l'++u))::[])→K s' h5)→slenW v (fun n=>srcW h4 1 v n (fun w=>apW h4 1 8 [(Value.int IntKind.i64 (0:Int))] ts' n w (fun s' h'=>K s' h'))):=fun {K} hK=>by
                        obtain ⟨base,cap,rfl,hc,hb2⟩:=hrow
                        rw [slenW_slice]
                        refine Row.src (vs:=Z u) ⟨base,cap,rfl,hc,hb2⟩ (Nat.le_refl _) ?_
                        rw [List.take_length]
                        exact o4.app (i:=0) (s:=ts') (vs:=Z l') (ws:=Z u) (bytes:=8) rfl (by simp [Z,one]) (by decide) (by rw [Zl,Zl]; omega) fun s' h5 o5=>hK s' h5 (by rw [← Z_app]; exact o5)
                      refine app fun s' h5 o5=>?_
                      rw [i64_id (by omega) (by omega)]
                      have e2:(i:Int)+1=((i+1:Nat):Int):=by omega
                      rw [e2]
                      refine ihm (i+1) (by omega) rest s' (l'++u) h5 (by rw [hrest]; omega) (by rw [hrest,List.length_append]; omega) o5 ?_
                      rw [hrest,show (i+1==0)=false from rfl]
                      cases hra:Sp.readA (readT (S2 sig) n) m false r with
                      | error e =>
                        rw [hra] at hk'
                        exact hk'
                      | ok x =>
                        rw [hra] at hk'
                        intro v2 rest2 h6 hr2 o6
                        refine hk' v2 rest2 h6 hr2 ?_
                        show Hp h h6 [bufR v2 (Z (l'++(u++x.1)))]
                        rw [← List.append_assoc]
                        exact o6
                  · rw [if_neg hmh] at hk'
                    rw [beq_eq_false_iff_ne.mpr hmh]
                    show cond true _ _
                    rw [cond_true]
                    show xs X.r _ _ _
                    rw [xs_r,nth0,nth1,nth2,strW_string,intK_int]
                    exact hk' h' o'.ext
                rw [cond_not,cond_eq]
                refine ⟨fun h0=>go true ?_,fun h0=>?_⟩
                · have : bts q = [] := List.length_eq_zero_iff.mp (by omega)
                  rw [this]; rfl
                · refine strAt_rule (by omega) (by omega) fun y hy => go _ ?_
                  have hy:(bts q).head?=some y:=by rw [List.head?_eq_getElem?]; exact hy
                  rw [hy]
                  rw [Bool.eq_iff_iff,bne_iff_ne,Bool.not_eq_true',beq_eq_false_iff_ne]
                  exact ⟨fun h e=>h (by rw [Option.some.inj e]),fun h e=>h (by
                    congr 1
                    exact UInt8.toNat_inj.mp (by omega))⟩
              rw [cond_eq]
              refine ⟨fun h0=>step 40 (by rw [if_pos (beq_iff_eq.mpr (by omega))]),fun h0=>step 44 (by rw [if_neg (fun h=>h0 (by have:=beq_iff_eq.mp h; omega))])⟩
          refine key ar 0 (by omega) w ts [(cc:Int)] h3 (by omega) (by simp; omega) o3 ?_
          cases hra:Sp.readA (readT (S2 sig) n) ar (0==0) (bts w) with
          | error e =>
            have hra':Sp.readA (readT (S2 sig) n) ar true (bts w)=.error e:=hra
            rw [hra'] at hk
            exact hk
          | ok x =>
            have hra':Sp.readA (readT (S2 sig) n) ar true (bts w)=.ok x:=hra
            rw [hra'] at hk
            intro v rest h2 hr o2
            exact hk v rest h2 hr o2.ext o2.blk
    rw [cond_dec]
    refine ⟨fun hpos=>?_,fun hz=>main false ?_⟩
    · refine strAt_rule (by omega) (by omega) fun y hy => main _ ?_
      have hy:(bts s).head?=some y:=by rw [List.head?_eq_getElem?]; exact hy
      rw [hy,Bool.eq_iff_iff,beq_iff_eq,beq_iff_eq]
      exact ⟨fun h=>by
        congr 1
        exact UInt8.toNat_inj.mp (by have:(95:UInt8).toNat=95:=rfl; omega),fun h=>by rw [Option.some.inj h]; rfl⟩
    · have : bts s = [] := List.length_eq_zero_iff.mp (by omega)
      rw [this]; rfl
theorem nm_ne {sig:List Sy} (h:chkSig sig=0):∀ y∈sig,bts y.1≠[]:=fun y hy=>named_ne ((chkSig_named h).2 y hy).1
theorem spec13 (c : Cl13 D) (cs : SpecSig D 31 Tbl) (cu : Cl32 D) (srd : ∀ n, SpecRR D 33 Tbl n) : SpecTermR D 13 Tbl := by
  intro sig sg s h k kp hsz hs ht hk
  refine c _ _ _ _ _ ?_
  unfold F13
  rw [strW_string]
  refine cs _ _ _ _ _ hs ht fun h1 e1=>⟨_,rfl,?_⟩
  unfold termR at hk
  have hbl:(bts s).length=s.size:=rfl
  rw [cond_ne]
  refine ⟨fun hne=>?_,fun h0=>?_⟩
  · rw [if_pos hne] at hk
    exact hk h1 e1
  · rw [if_neg (by simpa using h0), hbl] at hk
    rw [cond_dec]
    refine ⟨fun hgt=>?_,fun hle=>?_⟩
    · rw [if_pos (by omega)] at hk
      exact hk h1 e1
    · rw [if_neg (by omega)] at hk
      refine spec32 cu (by omega) fun h2 e2=>⟨_,rfl,?_⟩
      have e12:=e1.trans e2
      rw [cond_not]
      cases hv:validD (bts s) with
      | false =>
        rw [if_pos hv] at hk
        exact hk h2 e12
      | true =>
        rw [if_neg (by rw [hv]; simp)] at hk
        rw [cond_true]
        refine srd (s.size+1) sig sg s h2 _ _ (by omega) (by omega) (hs.ext e12) (ar_of h0) (nm_ne h0) (env_stay _ _ e12 ht) ?_
        unfold readW at hk
        rw [hbl] at hk
        cases hr:readT (S2 sig) (s.size+1) (bts s) with
        | error e =>
          rw [hr] at hk
          intro h3 e3
          refine ⟨_,_,_,rfl,?_⟩
          rw [cond_eq]
          refine ⟨fun h0=>absurd h0 (readT_err _ _ _ hr),fun hne=>?_⟩
          unfold j13__10 j13__11
          rw [intK_int,boolW_bool,cond_false,intK_int,cond_ne]
          exact ⟨fun _=>hk h3 (e12.trans e3),fun h0=>absurd h0 hne⟩
        | ok ur =>
          obtain ⟨u,r⟩:=ur
          rw [hr] at hk
          dsimp only at hk
          intro v rest h3 hrest e3 hb
          have hrest:bts rest=r:=hrest
          refine ⟨_,_,_,rfl,?_⟩
          show cond true _ _
          rw [cond_true,str_eq,hrest]
          have hnil:bts (ByteArray.mk #[])=[]:=rfl
          rw [hnil]
          unfold j13__10 j13__11
          rw [intK_int,boolW_bool,cond_not]
          by_cases hz:r=[]
          · rw [if_pos hz] at hk
            rw [beq_iff_eq.mpr hz,cond_true,intK_int]
            show cond false _ _
            rw [cond_false]
            exact hk v h3 (e12.trans e3) (hb.mono e12)
          · rw [if_neg hz] at hk
            rw [beq_eq_false_iff_ne.mpr hz,cond_false,intK_int]
            show cond true _ _
            rw [cond_true]
            exact hk h3 (e12.trans e3)
end Go.Proofs.YtkdneddcocggdaaGreatDoor.Am

namespace Go.Proofs.YtkdneddcocggdaaGreatDoor.Am
open Go Go.Proofs Go.RowKit Go.Lib Sys Sp
set_option linter.unusedVariables false
set_option linter.unusedSimpArgs false
set_option maxRecDepth 100000
variable {D:Orc} {E:Dorc} {h h' h0:H} {k:Kv} {kp:Kp} {L R:List Res} {bv:Value} {l:Bs}
theorem rd_keep (e:Ext h h') {a:Addr} {v:Value} (hr:rd h a=some v):rd h' a=some v:=by
  unfold rd at hr ⊢
  split at hr
  · cases hx : rowOf (h a.block) with
    | none=>rw [hx] at hr; cases hr
    | some l=>rw [hx] at hr; rw [rowOf_ext e hx]; exact hr
  · cases hr
def NN (v:Value):Prop:=∃ a n c,v=.slice (some a) n c
theorem nn_of {vs:List Value} (r:Buf h0 h bv vs) (hv:vs≠[]):NN bv:=by
  rcases r with ⟨⟨a,rfl⟩,rfl⟩ | ⟨b,off,cap,l,_,rfl,_⟩
  · exact absurd rfl hv
  · exact ⟨_,_,_,rfl⟩
theorem U8_ne {l:Bs} (h:l≠[]):U8 l≠[]:=fun e=>h (by
  have:=congrArg List.length e
  rw [U8_len] at this
  exact List.length_eq_zero_iff.mp this)
theorem app_byte {e:TypeId} {c:UInt8} {b:Nat} {z:Value} (o:Hp h0 h (bufR bv (U8 l)::R)) (hl:l.length<2 ^ 39) (hb:h b=none) {K:Value→H→Prop} (hK:∀ bv' h2,NN bv'→Hp h0 h2 (bufR bv' (U8 (l++[c]))::R)→K bv' h2) :
    slenW (.slice (some ⟨b,0,none⟩) 1 1) fun n=>srcW (h.set b (.cells [.int .u8 (c.toNat:Int)])) 1 (.slice (some ⟨b,0,none⟩) 1 1) n fun w=>Am.apX false e (h.set b (.cells [.int .u8 (c.toNat:Int)])) 1 [z] bv n w K:=by
  rw [slenW_slice]
  have hrow:Row (h.set b (.cells [.int .u8 (c.toNat:Int)])) (.slice (some ⟨b,0,none⟩) 1 1) (U8 [c]):=Row.cells set_here rfl
  refine hrow.src (by simp [U8]) ?_
  have o1:=o.later (show Ext h (h.set b (.cells [.int .u8 (c.toNat:Int)])) from Ext.new hb)
  refine (o1.buf (i:=0) rfl).apX (.inl rfl) ?_
  refine o1.app (i:=0) (s:=bv) (vs:=U8 l) (ws:=U8 [c]) (bytes:=1) rfl (by simp [U8,one]) (by decide) (by rw [U8_len]; simp [U8]; omega) fun s' h5 o5=>?_
  have o5:Hp h0 h5 (bufR s' (U8 l++U8 [c])::R):=o5
  rw [U8_app] at o5
  exact hK s' h5 (nn_of (o5.buf (i:=0) rfl) (U8_ne (by simp))) o5
theorem app_string {e:TypeId} {s:ByteArray} {z:Value} (o:Hp h0 h (bufR bv (U8 l)::R)) (hl:l.length+s.size<2 ^ 39) (hn:NN bv) (hs:l++bts s≠[]) {K:Value→H→Prop} (hK:∀ bv' h2,NN bv'→Hp h0 h2 (bufR bv' (U8 (l++bts s))::R)→K bv' h2) :
    srcW h 1 (.string s) s.size fun w=>Am.apX true e h 1 [z] bv s.size w K:=by
  have hsz:s.size=(bts s).length:=rfl
  have hsrc:∀ {K:List Value→Prop},K (U8 (bts s))→srcW h 1 (.string s) s.size K:=fun {K} hK=>by
    show K _
    have:(s.extract 0 s.size).data.toList=bts s:=by
      have:=bts_extract s 0 s.size
      rw [List.drop_zero,List.take_of_length_le (by rw [bts_len]; exact Nat.le_refl _)] at this
      exact this
    rw [this]; exact hK
  refine hsrc ?_
  refine (o.buf (i:=0) rfl).apX (.inr hn) ?_
  have hU:s.size=(U8 (bts s)).length:=by rw [U8_len]; exact hsz
  rw [hU]
  refine o.app (i:=0) (s:=bv) (vs:=U8 l) (ws:=U8 (bts s)) (bytes:=1) rfl (by simp [U8,one]) (by decide) (by rw [U8_len,U8_len,← hsz]; omega) fun s' h5 o5=>?_
  have o5:Hp h0 h5 (bufR s' (U8 l++U8 (bts s))::R):=o5
  rw [U8_app] at o5
  exact hK s' h5 (nn_of (o5.buf (i:=0) rfl) (U8_ne hs)) o5
def SpecWrR (D:Orc) (f:Nat) (n:Nat):Prop:=∀ (sig:List Sy) (sg tv:Value) (u r:List Int) (s:Bs) (bv:Value) (l:Bs) (R:List Res) h0 h (k:Kv) kp,Wt (S2 sig) u s→u.length≤n→ArOk sig→(∀ y∈sig,bts y.1≠[])→Sr h0 sg sig→Ir h0 tv (u++r) →
  NN bv→l.length+s.length<2 ^ 38→Hp h0 h (bufR bv (U8 l)::R) →
  (∀ h' bv' tv',NN bv'→Hp h0 h' (bufR bv' (U8 (l++s))::R)→Ir h0 tv' r→k (.tuple #[bv',tv']) h')→D f [sg,tv,bv] h k kp
theorem write_ref (c : Cl38 D) (st : SpecTold D 83) : ∀ n, SpecWrR D 38 n := by
  intro n
  induction n with
  | zero =>
    intro sig sg tv u r s bv l R h0 h k kp w hn
    exact absurd (List.length_eq_zero_iff.mp (by omega)) (isTerm_ne w.term)
  | succ n ih =>
    intro sig sg tv u r s bv l R h0 h k kp w hn ha hnm hs hi hnn hl o hk
    refine c _ _ _ _ _ _ ?_
    unfold F38
    cases w with
    | @var m hm =>
      refine (hi.ext o.ext).at_ (by omega) (by simp) fun ad x hx hxi hrd=>⟨x,hrd,?_⟩
      obtain rfl : -1 - (m:Int)=x:=by simpa using hx
      rw [cond_dec]
      refine ⟨fun _=>⟨rfl,by decide,?_⟩,fun hh=>by omega⟩
      intro b hb
      have e1:Ext h (h.set b (.cells [.int .u8 95])):=Ext.new hb
      refine hi.at_ (by omega) (by simp) fun ad2 x2 hx2 hxi2 hrd2=>⟨x2,rd_keep (o.ext.trans e1) hrd2,?_⟩
      obtain rfl : -1 - (m:Int)=x2:=by simpa using hx2
      refine Ir.tail1 (c:=-1 - (m:Int)) (l:=r) hi fun s2 hs2=>?_
      have hml:(95::decDigits m).length=(decDigits m).length+1:=rfl
      refine app_byte (c:=95) o (by omega) hb fun bv1 h1 hn1 o1=>?_
      refine ⟨rd_keep o1.ext hrd2,?_⟩
      rw [i64_id (by omega) (by omega),show -1 - (-1 - (m:Int))=(m:Int) by omega]
      refine st m h1 _ _ (by omega) fun h2 e2=>⟨_,rfl,?_⟩
      refine app_string (o1.later e2) (by rw [size_strB,List.length_append,List.length_singleton]; omega) hn1 (by simp) fun bv3 h3 hn3 o3=>?_
      rw [bts_strB,List.append_assoc] at o3
      exact hk h3 bv3 s2 hn3 o3 hs2
    | @app cc nm a us ss hx hul hss hw =>
      refine (hi.ext o.ext).at_ (by omega) (by simp only [List.cons_append,List.length_cons]; omega) fun ad x hx' hxi hrd=>⟨x,hrd,?_⟩
      obtain rfl:(cc:Int)=x:=by simpa using hx'
      rw [cond_dec]
      refine ⟨fun hh=>by omega,fun _=>?_⟩
      refine (hi.ext o.ext).at_ (by omega) (by simp only [List.cons_append,List.length_cons]; omega) fun ad2 x2 hx2 hxi2 hrd2=>⟨x2,hrd2,?_⟩
      obtain rfl:(cc:Int)=x2:=by simpa using hx2
      unfold S2 at hx
      rw [List.getElem?_map] at hx
      obtain ⟨y,hy,hy2⟩:=Option.map_eq_some_iff.mp hx
      obtain ⟨rfl,rfl⟩:=Prod.mk.inj hy2
      have hcl:=(List.getElem?_eq_some_iff.mp hy).1
      have hay:=ha y (List.mem_of_getElem? hy)
      have hny:=hnm y (List.mem_of_getElem? hy)
      refine (hs.ext o.ext).row.at_ (by omega) (by rw [sgRow_len]; omega) fun ad3 v hv hrd3 _=>?_
      obtain ⟨z,hz,rfl⟩:=sgRow_at hv
      rw [Int.toNat_natCast,hy] at hz
      obtain rfl:=Option.some.inj hz
      refine ⟨y.1,y.2,hrd3,?_⟩
      refine o.new_ fun q h1 hq o1=>?_
      refine o1.st6 (i:=0) (vs:=[.string y.1,.int .i64 y.2]) rfl rfl rfl rfl fun h2 o2=>?_
      have o2:Hp h0 h2 (cellR q [.string y.1,.int .i64 y.2]::bufR bv (U8 l)::R):=o2
      refine ldx (o2.cell (i:=0) rfl) rfl ?_
      have hys:y.1.size=(bts y.1).length:=rfl
      rw [List.length_append] at hl
      have o2':Hp h0 h2 (bufR bv (U8 l)::cellR q [.string y.1,.int .i64 y.2]::R):=o2.perm (List.Perm.swap _ _ _)
      refine app_string o2' (by omega) hnn (by simp [hny]) fun bv3 h3 hn3 o3=>?_
      refine Ir.tail1 (c:=(cc:Int)) (l:=us.flatten++r) hi fun s2 hs2=>?_
      have hul8:us.length≤8:=by omega
      have hlen:y.2=((us.length:Nat):Int):=by omega
      intro I hI
      have key:∀ m i:Nat,i+m=us.length→∀ (A:Bs) (buf' tv':Value) (h':H),NN buf'→A++(if i=0 then argsB (ss.drop i) else argsT (ss.drop i))=l++(bts y.1++argsB ss)→Ir h0 tv' ((us.drop i).flatten++r)→Hp h0 h' (bufR buf' (U8 A)::cellR q [.string y.1,.int .i64 y.2]::R) →
          I [sg,tv',buf',Pt q,.int .i64 (i:Int)] h':=by
        intro m
        induction m with
        | zero =>
          intro i him A buf' tv' h' hnb hA hit o'
          refine hI _ _ _ _ _ _ ?_
          unfold round38_7
          rw [intK_int]
          refine ldjI (o'.cell (i:=1) rfl) rfl ?_
          rw [hlen,cond_dec]
          refine ⟨fun hlt=>by omega,fun _=>?_⟩
          show xs (X.e 0) _ _ _
          rw [xs_e]
          show cond true _ _
          rw [cond_true,nth0,nth1,nth2]
          refine ldjI (o'.cell (i:=1) rfl) rfl ?_
          rw [hlen,cond_dec]
          rw [List.drop_eq_nil_of_le (by omega)] at hit hA
          refine ⟨fun hpos=>⟨rfl,by decide,?_⟩,fun hz=>?_⟩
          · rw [if_neg (by omega)] at hA
            have hAl:=congrArg List.length hA
            simp only [List.length_append,argsT,List.length_singleton] at hAl
            intro b hb
            refine app_byte (c:=41) o' (by omega) hb fun bv5 h5 hn5 o5=>?_
            unfold j38__15
            refine hk h5 bv5 tv' hn5 ?_ hit
            have:A++[41]=l++(bts y.1++argsB ss):=by rw [← hA]; rfl
            rw [← this]
            exact (o5.perm (List.Perm.swap _ _ _)).tail
          · rw [if_pos (by omega)] at hA
            unfold j38__15
            refine hk h' buf' tv' hnb ?_ hit
            have:A=l++(bts y.1++argsB ss):=by rw [← hA]; simp [argsB]
            rw [← this]
            exact (o'.perm (List.Perm.swap _ _ _)).tail
        | succ m ihm =>
          intro i him A buf' tv' h' hnb hA hit o'
          refine hI _ _ _ _ _ _ ?_
          unfold round38_7
          rw [intK_int]
          refine ldjI (o'.cell (i:=1) rfl) rfl ?_
          rw [hlen,cond_dec]
          refine ⟨fun _=>?_,fun hge=>by omega⟩
          have hiu:i<us.length:=by omega
          have his:i<ss.length:=by omega
          have hds:ss.drop i=ss[i]::ss.drop (i+1):=List.drop_eq_getElem_cons his
          have hdu:us.drop i=us[i]::us.drop (i+1):=List.drop_eq_getElem_cons hiu
          have hA2:A++((if i=0 then (40:UInt8) else 44)::(ss[i]++argsT (ss.drop (i+1))))=l++(bts y.1++argsB ss):=by
            rw [← hA,hds]
            by_cases hi0:i=0
            · rw [if_pos hi0,if_pos hi0]; rfl
            · rw [if_neg hi0,if_neg hi0]; rfl
          have hAl:=congrArg List.length hA2
          simp only [List.length_append,List.length_cons] at hAl
          rw [hdu,List.flatten_cons,List.append_assoc] at hit
          have hw1:=hw i us[i] ss[i] (List.getElem?_eq_getElem hiu) (List.getElem?_eq_getElem his)
          have hfl:us[i].length≤us.flatten.length:=by
            have:=List.sublist_flatten_of_mem (List.getElem_mem hiu)
            exact this.length_le
          simp only [List.length_cons] at hn
          have step:∀ (mk:UInt8) (bv5:Value) (h5:H),mk=(if i=0 then (40:UInt8) else 44)→NN bv5→Hp h0 h5 (bufR bv5 (U8 (A++[mk]))::cellR q [.string y.1,.int .i64 y.2]::R)→j38_7_12 D I (fun x55 vs56 h54=>xs x55 (k (.tuple #[(nth vs56 0),(nth vs56 1)]) h54) (fun i57=>cond (Nat.beq i57 0) (
ptrW (nth vs56 2) (fun ad58=>∃ x59:Int,rd h54 (Addr.add ad58 1)=some (.int .i64 x59)∧cond (decide (x59>0)) (
one (.int .u8 41)=true∧0<1∧newSl h54 1 [(.int .u8 41)] (fun s60 h61=>slenW s60 (fun n62=>srcW h61 1 s60 (n62) (fun w63=>Am.apX false 5 h61 1 [(.int .u8 0)] (nth vs56 1) (n62) w63 (fun s64 h65=>j38__15 D k kp (nth vs56 0) s64 h65))))) (
j38__15 D k kp (nth vs56 0) (nth vs56 1) h54))) (False)) (fun c => kp c h54)) sg tv' bv5 (Pt q) (.int .i64 (i : Int)) h5 := fun mk bv5 h5 hmk hn5 o5 => by
            unfold j38_7_12
            rw [intK_int]
            refine ih sig sg tv' us[i] ((us.drop (i+1)).flatten++r) ss[i] bv5 (A++[mk]) _ h0 h5 _ _ hw1 (by omega) ha hnm hs hit hn5 (by rw [List.length_append,List.length_singleton]; omega) o5 fun h6 bv6 tv6 hn6 o6 hi6=>⟨_,_,rfl,?_⟩
            rw [i64_id (by omega) (by omega)]
            have e2:(i:Int)+1=((i+1:Nat):Int):=by omega
            rw [e2]
            refine ihm (i+1) (by omega) (A++[mk]++ss[i]) bv6 tv6 h6 hn6 ?_ hi6 o6
            rw [if_neg (show ¬ i+1=0 by omega),← hA2,hmk]
            simp only [List.append_assoc,List.singleton_append,List.cons_append,List.nil_append]
          rw [cond_eq]
          refine ⟨fun h0=>⟨rfl,by decide,?_⟩,fun h0=>⟨rfl,by decide,?_⟩⟩
          · intro b hb
            exact app_byte (c:=40) o' (by omega) hb fun bv5 h5 hn5 o5=>step 40 bv5 h5 (by rw [if_pos (by omega)]) hn5 o5
          · intro b hb
            exact app_byte (c:=44) o' (by omega) hb fun bv5 h5 hn5 o5=>step 44 bv5 h5 (by rw [if_neg (by omega)]) hn5 o5
      exact key us.length 0 (by omega) (l++bts y.1) bv3 s2 h3 hn3 (by rw [if_pos rfl,List.drop_zero,List.append_assoc]) (by rw [List.drop_zero]; exact hs2) o3
theorem spec16 (c:Cl16 D) (ck:SpecCheck D 22 Tbl) (wr:∀ n,SpecWrR D 38 n):SpecShow D 16 Tbl:=by
  intro sig sg tv u h k kp hs ht hi hW hk
  refine c _ _ _ _ _ ?_
  unfold F16
  refine ck _ _ _ _ _ _ _ hs ht hi fun h1 e1=>⟨_,rfl,?_⟩
  unfold showR at hk
  rw [cond_ne]
  refine ⟨fun hne=>?_,fun h0=>?_⟩
  · rw [if_pos hne] at hk
    exact hk h1 e1
  · rw [if_neg (by simpa using h0)] at hk
    have hW:=hW h0
    obtain ⟨hc0,hterm⟩:=chk_parts h0
    have w:=W_spec hterm
    intro b hb
    have o2:Hp h1 (h1.set b (.cells [])) (bufR (.slice (some ⟨b,0,none⟩) 0 0) []::[]):=((Hp.nil_ h1).newc hb []).cell_buf (i:=0) rfl rfl
    have hi1:Ir h1 tv (u++[]):=by rw [List.append_nil]; exact hi.ext e1
    refine wr _ sig sg tv u [] _ (.slice (some ⟨b,0,none⟩) 0 0) [] [] h1 _ _ _ w (Nat.le_refl _) (ar_of hc0) (nm_ne hc0) (hs.ext e1) hi1 ⟨_,_,_,rfl⟩ (by simp; omega) o2 fun h3 bv tv3 hn3 o3 _=>⟨_,_,rfl,?_⟩
    rw [List.nil_append] at o3
    have hrow:=o3.row (i:=0) rfl
    rw [hrow.len,U8_len,cond_dec]
    refine ⟨fun hbig=>?_,fun hsm=>?_⟩
    · rw [if_pos (by omega)] at hk
      exact hk h3 (e1.trans o3.ext)
    · rw [if_neg (by omega)] at hk
      refine bs_rule hrow fun s hss=>?_
      have:=hk h3 (e1.trans o3.ext)
      rw [← hss,strB_bts] at this
      exact this
end Go.Proofs.YtkdneddcocggdaaGreatDoor.Am
