/-
  Packed: The document's way: a text's lines, a line's words. The document's way: what stands in a line behind its word, and whether a line fits. The document's way: whether a line's words fit. A line is taken as the document takes it, word by word: plain. The document's way: a word of a line is read by its letter. The document's way: a line is taken into a book. The document's way: what a line says is put into a book. The document's way: a text is read as a book.
-/
import Derived.Test.YtkdneddcocggdaaGreatDoorPkI
import Derived.Test.YtkdneddcocggdaaGreatDoorPkH
set_option linter.unusedVariables false
set_option linter.unusedSimpArgs false
set_option linter.unnecessarySimpa false
namespace Go.Proofs.YtkdneddcocggdaaGreatDoor.Am
open Go Go.Proofs Go.RowKit Go.Lib Sys Sp
set_option maxRecDepth 100000
variable {D:Orc} {E:Dorc} {h h' h0:H} {k:Kv} {kp:Kp} {L R:List Res}
theorem qVq {s:Value} {vs:List Value} (r:Row h s vs) {i:Nat} {v:Value} (hc:vs[i]?=some v) {K:Addr→Prop} (hK:∀ ad,rd h ad=some v→K ad):qQj s (i:Int) 1 K:=by
 have hi:=(List.getElem?_eq_some_iff.mp hc).1
 refine r.at_ (by omega) (by omega) fun ad v' hc' h1=>?_
 rw [Int.toNat_natCast,hc] at hc'
 obtain rfl:=Option.some.inj hc'
 exact hK ad h1
theorem Hp.pushS {s z:Value} {ws:List Bs} {t:ByteArray} (o:Hp h0 h (bufR s (wsV ws)::L)) (hl:ws.length<2 ^ 39) {O U:Prop} (hO:O) (hU:U) {K:Value→H→Prop}
  (hK:∀ s' h',Hp h0 h' (bufR s' (wsV (ws++[bts t]))::L)→K s' h') :
  O∧U∧qQy h 1 [.string t] (fun s31 h32=>qXg s31 (fun n33=>srcW h32 1 s31 (n33) (fun w34=>apW h32 1 16 [z] s (n33) w34 (fun s35 h36=>K s35 h36)))):=by
 refine o.push (i:=0) (s:=s) (vs:=wsV ws) (v:=.string t) rfl (bytes:=16) (by decide) (by unfold wsV; rw [List.length_map]; omega) rfl hO hU fun s' h' o'=>hK s' h' ?_
 rw [qTc,qYh]
 exact o'
def qEu (D:Orc) (f:Nat):Prop:=∀ (s:ByteArray) (c:UInt8) h (k:Kv) kp,s.size<2 ^ 38→(∀ v h',Ext h h'→Buf h h' v (wsV (qVb c (bts s)))→k v h')→D f [.string s,.int .u8 (c.toNat:Int)] h k kp
theorem xMx (c:Cl45 D):qEu D 45:=by
 intro s x h k kp hs hk
 refine c _ _ _ _ _ ?_
 unfold F45
 rw [qQb,qQa]
 have hbl:(bts s).length=s.size:=rfl
 refine (Hp.nil_ h).newSl0 fun v h1 o1=>?_
 have o1:Hp h h1 (bufR v (wsV [])::[]):=o1
 intro I hI
 have key:∀ (m i fr:Nat) (acc:List Bs) (v:Value) (h1:H),i+m=s.size+1→fr≤i→acc.length≤fr→Hp h h1 (bufR v (wsV acc)::[])→(i≤s.size→acc++qVb x ((bts s).drop fr)=qVb x (bts s)∧∀ y∈((bts s).take i).drop fr,y≠x)→(i=s.size+1→acc=qVb x (bts s)) →
   I [.string s,.int .u8 (x.toNat:Int),v,.int .i64 (fr:Int),.int .i64 (i:Int)] h1:=by
  intro m
  induction m with
  | zero =>
   intro i fr acc v h1 him hfr hal o _ hfin
   refine hI _ _ _ _ _ _ ?_
   unfold round45_4
   rw [qQb,qQa,qQa,qQa,qQd]
   refine ⟨fun hle=>by omega,fun _=>?_⟩
   show xs (X.e 0) _ _ _
   rw [xs_e]
   show k v h1
   refine hk v h1 o.ext ?_
   rw [← hfin (by omega)]
   exact o.blk
  | succ m ih =>
   intro i fr acc v h1 him hfr hal o hinv hfin
   obtain ⟨hcut,hfree⟩:=hinv (by omega)
   refine hI _ _ _ _ _ _ ?_
   unfold round45_4
   rw [qQb,qQa,qQa,qQa,qQd]
   refine ⟨fun _=>?_,fun hgt=>by omega⟩
   have go:∀ t:Bool,(t=true↔(i=s.size∨(bts s)[i]?=some x))→j45_4_7 D I (fun x29 vs30 h28=>xs x29 (k (nth vs30 0) h28) (fun i31=>cond (Nat.beq i31 0) (
k (nth vs30 0) h28) (False)) (fun c=>kp c h28)) (.string s) (.int .u8 (x.toNat:Int)) v (.int .i64 (fr:Int)) (.int .i64 (i:Int)) (.bool t) h1:=fun t ht=>by
    unfold j45_4_7
    rw [qQb,qQa,qQa,qQa,qQc]
    have e2:(i:Int)+1=((i+1:Nat):Int):=by omega
    cases t with
    | true =>
     rw [cond_true]
     refine qAm (by omega) (by omega) (by omega) fun p hp=>?_
     rw [Int.toNat_natCast,Int.toNat_natCast] at hp
     refine o.pushS (by omega) rfl Nat.zero_lt_one fun v2 h2 o2=>?_
     unfold j45_4_5
     rw [qQb,qQa,qQa,qQa,qQo (by omega) (by omega),e2]
     have hdrop:(bts s).drop fr=bts p++(bts s).drop i:=by
      rw [hp,List.drop_take]
      have:(bts s).drop i=((bts s).drop fr).drop (i - fr):=by rw [List.drop_drop]; congr 1; omega
      rw [this,List.take_append_drop]
     rw [← hp] at hfree
     refine ih (i+1) (i+1) (acc++[bts p]) v2 h2 (by omega) (Nat.le_refl _) (by rw [List.length_append,List.length_singleton]; omega) o2 (fun hle=>⟨?_,?_⟩) fun hlast=>?_
     ·rcases ht.mp rfl with hi | hi
      ·omega
      ·have hil:=(List.getElem?_eq_some_iff.mp hi).1
       have hx:=(List.getElem?_eq_some_iff.mp hi).2
       rw [List.drop_eq_getElem_cons hil,hx] at hdrop
       rw [← hcut,hdrop,qSo x _ _ hfree,List.append_assoc]; rfl
     ·intro y hy
      rw [List.drop_take,Nat.sub_self,List.take_zero] at hy
      cases hy
     ·rw [← hcut,hdrop,List.drop_eq_nil_of_le (by omega),List.append_nil,qBx x _ hfree]
    | false =>
     rw [cond_false]
     unfold j45_4_5
     rw [qQb,qQa,qQa,qQa,qQo (by omega) (by omega),e2]
     have hno:¬ (i=s.size∨(bts s)[i]?=some x):=fun hh=>by have:=ht.mpr hh; cases this
     have hil:i<(bts s).length:=by
      rcases Nat.lt_or_ge i s.size with h | h
      ·omega
      ·exact absurd (.inl (by omega)) hno
     refine ih (i+1) fr acc v h1 (by omega) (by omega) hal o (fun hle=>⟨hcut,fun y hy=>?_⟩) fun hlast=>by omega
     rw [List.take_succ_eq_append_getElem hil,List.drop_append_of_le_length (by rw [List.length_take]; omega)] at hy
     rcases List.mem_append.mp hy with hy | hy
     ·exact hfree y hy
     ·rw [List.mem_singleton.mp hy]
      intro e
      exact hno (.inr (by rw [List.getElem?_eq_getElem hil,e]))
   rw [qQn,qXf]
   refine ⟨fun he=>go true ⟨fun _=>.inl (by omega),fun _=>rfl⟩,fun hne=>?_⟩
   have hil:i<s.size:=by omega
   refine qQx (by omega) (by omega) fun b hb=>go _ ?_
   rw [Int.toNat_natCast] at hb
   rw [hb,beq_iff_eq]
   constructor
   ·intro e
    exact .inr (by congr 1; exact UInt8.toNat_inj.mp (by omega))
   ·rintro (e | e)
    ·omega
    ·rw [Option.some.inj e]
 exact key (s.size+1) 0 0 [] v h1 (by omega) (Nat.le_refl _) (Nat.le_refl _) o1 (fun _=>⟨by rw [List.drop_zero]; rfl,fun y hy=>by simp at hy⟩) fun e=>by omega
def qDi (D:Orc) (f:Nat):Prop:=∀ (s:ByteArray) h (k:Kv) kp,s.size<2 ^ 38→(∀ v h',Ext h h'→Buf h h' v (wsV (qXd (bts s)))→k v h')→D f [.string s] h k kp
theorem xMw (c:Cl46 D) (sp:qEu D 45):qDi D 46:=by
 intro s h k kp hs hk
 refine c _ _ _ _ ?_
 unfold F46
 rw [qQb]
 refine sp s 32 h _ _ hs fun v h1 e1 b1=>⟨_,rfl,?_⟩
 have hbl:(bts s).length=s.size:=rfl
 have hcl:=(qNk 32 (bts s)).1
 have hw:qXd (bts s)=(qVb 32 (bts s)).filter (·≠[]):=rfl
 rw [hw] at hk
 generalize qVb 32 (bts s)=ps at b1 hk hcl
 have hpl:(wsV ps).length=ps.length:=by unfold wsV; rw [List.length_map]
 refine ((Hp.nil_ h).add_buf e1 b1).newSl0 fun w h2 o2=>?_
 have o2:Hp h h2 (bufR w (wsV [])::bufR v (wsV ps)::[]):=o2
 intro I hI
 have key:∀ (m i:Nat) (acc:List Bs) (w:Value) (h2:H),i+m=ps.length→acc.length≤i→Hp h h2 (bufR w (wsV acc)::bufR v (wsV ps)::[])→acc++(ps.drop i).filter (·≠[])=ps.filter (·≠[])→I [v,w,.int .i64 (i:Int)] h2:=by
  intro m
  induction m with
  | zero =>
   intro i acc w h2 him hal o hf
   have hr:Row h2 v (wsV ps):=o.row (i:=1) rfl
   refine hI _ _ _ _ ?_
   unfold round46_4
   rw [qQa,hr.len,hpl,qQd]
   refine ⟨fun hlt=>by omega,fun _=>?_⟩
   rw [List.drop_eq_nil_of_le (by omega),List.filter_nil,List.append_nil] at hf
   show xs (X.e 0) _ _ _
   rw [xs_e]
   show k w h2
   refine hk w h2 o.ext ?_
   rw [← hf]
   exact o.blk
  | succ m ih =>
   intro i acc w h2 him hal o hf
   have hr:Row h2 v (wsV ps):=o.row (i:=1) rfl
   refine hI _ _ _ _ ?_
   unfold round46_4
   rw [qQa,hr.len,hpl,qQd]
   refine ⟨fun _=>?_,fun hge=>by omega⟩
   have hil:i<ps.length:=by omega
   have hvi:(wsV ps)[i]?=some (.string (strB ps[i])):=by
    unfold wsV
    rw [List.getElem?_map,List.getElem?_eq_getElem hil]; rfl
   have e2:(i:Int)+1=((i+1:Nat):Int):=by omega
   rw [List.drop_eq_getElem_cons hil] at hf
   refine qVq hr hvi fun ad r1=>⟨_,r1,?_⟩
   rw [qVd,qQk,show bts (ByteArray.mk #[])=[] from rfl]
   by_cases hz:ps[i]=[]
   ·rw [beq_iff_eq.mpr hz]
    show cond false _ _
    rw [cond_false]
    unfold j46_4_5
    rw [qQa,qQo (by omega) (by omega),e2]
    refine ih (i+1) acc w h2 (by omega) (by omega) o ?_
    rw [List.filter_cons_of_neg (by simp [hz])] at hf
    exact hf
   ·rw [beq_eq_false_iff_ne.mpr hz]
    show cond true _ _
    rw [cond_true]
    refine qVq hr hvi fun ad r1=>⟨_,r1,?_⟩
    rw [List.filter_cons_of_pos (by simp [hz])] at hf
    refine o.pushS (by omega) rfl Nat.zero_lt_one fun w2 h3 o3=>?_
    unfold j46_4_5
    rw [qQa,qQo (by omega) (by omega),e2]
    rw [qQk] at o3
    exact ih (i+1) (acc++[ps[i]]) w2 h3 (by omega) (by rw [List.length_append,List.length_singleton]; omega) o3 (by rw [List.append_assoc]; exact hf)
 exact key ps.length 0 [] w h2 (by omega) (Nat.le_refl _) o2 (by rw [List.drop_zero]; rfl)
end Go.Proofs.YtkdneddcocggdaaGreatDoor.Am
namespace Go.Proofs.Sp
open Go Go.Lib Sys
def qVn (w:Bs):Bs :=
 if w=wSym then [110,105] else if w=qJw then [116,62,116] else if w=wEq∨w=qVp then [116,61,116] else if w=qVc then [110,110] else if w=qYw then [107,105] else if w=qVv then [109,109]
 else if w=wSet then [109] else if w=qVo then [99,42] else if w=qZk then [116] else if w=qWy∨w=qZa∨w=qAg∨w=qWm∨w=qZb then [] else [120]
def qNd (B:Bk) (syms:Bool) (w:List Bs):Prop :=
 qVn (at1 w 0)≠[120]∧(qVn (at1 w 0)=[99,42]→2≤w.length)∧(qVn (at1 w 0)≠[99,42]→w.length=(qVn (at1 w 0)).length+1) ∧
 (∀ i,(qVn (at1 w 0))[i]?=some 62→at1 w (i+1)=qWe)∧(∀ i,(qVn (at1 w 0))[i]?=some 61→at1 w (i+1)=wIs) ∧
 (at1 w 0=wSym→syms=true)∧(at1 w 0=qVv∨at1 w 0=wSet→B.cert≠[])∧(at1 w 0=qVo→∃ n,B.cert.getLast?=some n∧n.ints≠[])
theorem xDs (w:Bs):(qVn w).length≤3:=by
 unfold qVn
 repeat' split
 all_goals decide
end Go.Proofs.Sp
namespace Go.Proofs.YtkdneddcocggdaaGreatDoor.Am
open Go Go.Proofs Go.RowKit Go.Lib Sys Sp
set_option maxRecDepth 100000
variable {D:Orc} {E:Dorc} {h h' h0 g:H} {k:Kv} {kp:Kp} {L R:List Res} {B:Bk} {V:BkV} {N:Nat}
theorem qXi {x:ByteArray} {y:ByteArray} {A B:Prop}:cond (x.toList==y.toList) A B↔(bts x=bts y→A)∧(bts x≠bts y→B):=by
 rw [qVd]
 by_cases h:bts x=bts y
 ·rw [beq_iff_eq.mpr h,cond_true]; simp [h]
 ·rw [beq_eq_false_iff_ne.mpr h,cond_false]; simp [h]
def qGi (D:Orc) (f:Nat):Prop:=∀ (w:ByteArray) h (k:Kv) kp,k (.string (strB (qVn (bts w)))) h→D f [.string w] h k kp
theorem xLq (c:Cl96 D):qGi D 96:=by
 intro w h k kp hk
 refine c _ _ _ _ ?_
 unfold F96
 rw [qQb]
 unfold qVn at hk
 have last:∀ t:Bool,bts w≠wSym→bts w≠qJw→bts w≠wEq→bts w≠qVp→bts w≠qVc→bts w≠qYw→bts w≠qVv→bts w≠wSet→bts w≠qVo→bts w≠qZk→(t=true↔(bts w=qWy∨bts w=qZa∨bts w=qAg∨bts w=qWm∨bts w=qZb))→j96__26 D k kp (.bool t) h:=fun t h1 h2 h3 h4 h5 h6 h7 h8 h9 h10 ht=>by
  unfold j96__26
  rw [qQc]
  rw [if_neg h1,if_neg h2,if_neg (fun h=>h.elim h3 h4),if_neg h5,if_neg h6,if_neg h7,if_neg h8,if_neg h9,if_neg h10] at hk
  cases t with
  | true=>rw [if_pos (ht.mp rfl)] at hk; exact hk
  | false=>rw [if_neg (fun h=>by have:=ht.mpr h; cases this)] at hk; exact hk
 have eight:∀ t:Bool,bts w≠wSym→bts w≠qJw→(t=true↔(bts w=wEq∨bts w=qVp))→j96__8 D k kp (.string w) (.bool t) h:=fun t h1 h2 ht=>by
  unfold j96__8
  rw [qQb,qQc]
  have hk':=hk
  rw [if_neg h1,if_neg h2] at hk
  cases t with
  | true =>
   rw [if_pos (ht.mp rfl)] at hk
   exact hk
  | false =>
   have hne:¬ (bts w=wEq∨bts w=qVp):=fun h=>by have:=ht.mpr h; cases this
   rw [if_neg hne] at hk
   have h3:bts w≠wEq:=fun h=>hne (.inl h)
   have h4:bts w≠qVp:=fun h=>hne (.inr h)
   rw [cond_false]
   have b1:bts (ByteArray.mk #[97,98,111,118,101])=qVc:=rfl
   have b2:bts (ByteArray.mk #[110,111,100,101])=qYw:=rfl
   have b3:bts (ByteArray.mk #[111,118,101,114])=qVv:=rfl
   have b4:bts (ByteArray.mk #[115,101,116])=wSet:=rfl
   have b5:bts (ByteArray.mk #[109,111,110,111])=qVo:=rfl
   have b6:bts (ByteArray.mk #[110,111,114,109,97,108])=qZk:=rfl
   have b7:bts (ByteArray.mk #[99,104,101,99,107])=qWy:=rfl
   have b8:bts (ByteArray.mk #[99,114,105,116,105,99,97,108])=qZa:=rfl
   have b9:bts (ByteArray.mk #[106,111,105,110])=qAg:=rfl
   have b10:bts (ByteArray.mk #[112,97,105,114,115])=qWm:=rfl
   have b11:bts (ByteArray.mk #[99,111,109,112,108,101,116,101])=qZb:=rfl
   rw [qXi,b1]
   refine ⟨fun h=>by rw [if_pos h] at hk; exact hk,fun h5=>?_⟩
   rw [if_neg h5] at hk
   rw [qXi,b2]
   refine ⟨fun h=>by rw [if_pos h] at hk; exact hk,fun h6=>?_⟩
   rw [if_neg h6] at hk
   rw [qXi,b3]
   refine ⟨fun h=>by rw [if_pos h] at hk; exact hk,fun h7=>?_⟩
   rw [if_neg h7] at hk
   rw [qXi,b4]
   refine ⟨fun h=>by rw [if_pos h] at hk; exact hk,fun h8=>?_⟩
   rw [if_neg h8] at hk
   rw [qXi,b5]
   refine ⟨fun h=>by rw [if_pos h] at hk; exact hk,fun h9=>?_⟩
   rw [if_neg h9] at hk
   rw [qXi,b6]
   refine ⟨fun h=>by rw [if_pos h] at hk; exact hk,fun h10=>?_⟩
   have go:∀ t:Bool,(t=true↔(bts w=qWy∨bts w=qZa∨bts w=qAg∨bts w=qWm∨bts w=qZb))→j96__26 D k kp (.bool t) h:=fun t ht=>last t h1 h2 h3 h4 h5 h6 h7 h8 h9 h10 ht
   have yes:∀ x y:ByteArray,bts x=bts y→(bts w=qWy∨bts w=qZa∨bts w=qAg∨bts w=qWm∨bts w=qZb)→j96__26 D k kp (.bool (x.toList==y.toList)) h:=fun x y hxy hc=>by
    rw [qVd,beq_iff_eq.mpr hxy]
    exact go true ⟨fun _=>hc,fun _=>rfl⟩
   rw [qXi,b7]
   refine ⟨fun e=>yes _ _ e (.inl e),fun h11=>?_⟩
   rw [qXi,b8]
   refine ⟨fun e=>yes _ _ e (.inr (.inl e)),fun h12=>?_⟩
   rw [qXi,b9]
   refine ⟨fun e=>yes _ _ e (.inr (.inr (.inl e))),fun h13=>?_⟩
   rw [qXi,b10]
   refine ⟨fun e=>yes _ _ e (.inr (.inr (.inr (.inl e)))),fun h14=>?_⟩
   refine go _ ?_
   rw [qVd,b11,beq_iff_eq]
   constructor
   ·intro e; exact .inr (.inr (.inr (.inr e)))
   ·rintro (e | e | e | e | e)
    ·exact absurd e h11
    ·exact absurd e h12
    ·exact absurd e h13
    ·exact absurd e h14
    ·exact e
 have c1:bts (ByteArray.mk #[115,121,109])=wSym:=rfl
 have c2:bts (ByteArray.mk #[114,117,108,101])=qJw:=rfl
 have c3:bts (ByteArray.mk #[101,113])=wEq:=rfl
 have c4:bts (ByteArray.mk #[101,113,117,97,108])=qVp:=rfl
 rw [qXi,c1]
 refine ⟨fun h=>by rw [if_pos h] at hk; exact hk,fun h1=>?_⟩
 rw [qXi,c2]
 refine ⟨fun h=>by rw [if_neg h1,if_pos h] at hk; exact hk,fun h2=>?_⟩
 rw [qXi,c3]
 refine ⟨fun e=>eight _ h1 h2 ?_,fun h3=>eight _ h1 h2 ?_⟩
 ·rw [qVd,c3,beq_iff_eq]; exact ⟨fun _=>.inl e,fun _=>e⟩
 ·rw [qVd,c4,beq_iff_eq]
  exact ⟨fun e=>.inr e,fun e=>e.resolve_left h3⟩
variable {D:Orc} {E:Dorc} {h h' h0 g:H} {k:Kv} {kp:Kp} {L R:List Res} {B:Bk} {V:BkV} {N:Nat}
theorem xDl {bp:Nat} {tl:List Value} (o:Hp h0 h (bkL bp tl V g B R)) (I:BkI g V B):V.cer.length=B.cert.length∧∀ n,B.cert.getLast?=some n→∃ vp,V.cer=vp++[[.int .i64 n.kind,V.lp,V.li,.int .i64 n.kids]]∧V.lir.length=n.ints.length:=by
 rcases I.ce with ⟨h1,h2,_⟩ | ⟨pre,m,vp,h1,h2,h3,_,_,_,_,h8⟩
 ·rw [h1,h2]
  exact ⟨rfl,fun n hn=>by cases hn⟩
 ·rw [h1,h2]
  refine ⟨by rw [List.length_append,List.length_append,h3.len]; rfl,fun n hn=>?_⟩
  rw [List.getLast?_concat] at hn
  obtain rfl:=Option.some.inj hn
  refine ⟨vp,rfl,?_⟩
  rcases h8 with ⟨e1,e2,_⟩ | ⟨ipre,i,vip,e1,e2,e3,_⟩
  ·rw [e1,e2]; rfl
  ·rw [e1,e2,List.length_append,List.length_append,e3.len]; rfl
def qOd (D:Orc) (f:Nat):Prop:=∀ (bp:Nat) (tl:List Value) (syms:Bool) (wv:Value) (w:List Bs) (B:Bk) (V:BkV) (g:H) (R:List Res) h0 h (k:Kv) kp,Hp h0 h (bkL bp tl V g B R)→BkI g V B→B.cert.length<2 ^ 40→Wr h wv w→w≠[] →
 (∀ (t:Bool) h',Ext h h'→(t=true↔qNd B syms w)→k (.bool t) h')→D f [.agg #[V.sg,V.ru,V.eq,V.pr,V.ce,V.co],.bool syms,wv] h k kp
theorem xMv (c : Cl47 D) (sf : qGi D 96) : qOd D 47 := by
  intro bp tl syms wv w B V g R h0 h k kp o I hcl hw hne hk
  refine c _ _ _ _ _ _ ?_
  unfold F47
  rw [qQc,qVz]
  refine (Hp.nil_ h).new_ fun p h1 hp o1=>?_
  have o1:Hp h h1 (qQp p [V.sg,V.ru,V.eq,V.pr,V.ce,V.co]::[]):=o1
  have e1:=o1.ext
  have hw1:=hw.ext e1
  have hwl:=hw.len
  have hpos:0<w.length:=List.length_pos_iff.mpr hne
  obtain ⟨hcer,hlast⟩:=xDl o I
  have hce:RowK 4 h1 V.ce V.cer:=(o.rowK (i:=6) rfl).ext e1
  have hli:RowK 2 h1 V.li V.lir:=(o.rowK (i:=9) rfl).ext e1
  refine hw1.at_ (i:=0) (by omega) fun ad r0=>⟨_,r0,?_⟩
  refine sf _ h1 _ _ ⟨_,rfl,?_⟩
  rw [qQk]
  have hfl:=xDs (at1 w 0)
  have hfits:qNd B syms w↔(qVn (at1 w 0)≠[120]∧(qVn (at1 w 0)=[99,42]→2≤w.length)∧(qVn (at1 w 0)≠[99,42]→w.length=(qVn (at1 w 0)).length+1) ∧
    (∀ i,(qVn (at1 w 0))[i]?=some 62→at1 w (i+1)=qWe)∧(∀ i,(qVn (at1 w 0))[i]?=some 61→at1 w (i+1)=wIs) ∧
    (at1 w 0=wSym→syms=true)∧(at1 w 0=qVv∨at1 w 0=wSet→B.cert≠[])∧(at1 w 0=qVo→∃ n,B.cert.getLast?=some n∧n.ints≠[])):=Iff.rfl
  generalize hf:qVn (at1 w 0)=f at hfits hfl
  have no:∀ {h':H},Ext h h'→¬ qNd B syms w→k (.bool false) h':=fun e hn=>hk false _ e ⟨fun h=>(by cases h),fun h=>absurd h hn⟩
  have bad:¬ qNd B syms w→j47__3 D k kp (.bool syms) wv (Pt p) (.string (strB f)) (.bool true) h1:=fun hn=>by
    unfold j47__3
    rw [qQc,qQb,qQc,cond_true]
    exact no e1 hn
  have good:f≠[120]→(f=[99,42]→2≤w.length)→(f≠[99,42]→w.length=f.length+1)→j47__3 D k kp (.bool syms) wv (Pt p) (.string (strB f)) (.bool false) h1:=fun f1 f2 f3=>by
    unfold j47__3
    rw [qQc,qQb,qQc,cond_false]
    have hsz:(strB f).size=f.length:=qXp f
    intro J hJ
    have key:∀ m i:Nat,i+m=f.length→(∀ j,j<i→(f[j]?=some 62→at1 w (j+1)=qWe)∧(f[j]?=some 61→at1 w (j+1)=wIs))→J [.bool syms,wv,Pt p,.string (strB f),.int .i64 (i:Int)] h1:=by
      intro m
      induction m with
      | zero =>
        intro i him hin
        refine hJ _ _ _ _ _ _ ?_
        unfold round47_5
        rw [qQc,qQb,qQa,hsz,qQd]
        refine ⟨fun hlt=>by omega,fun _=>?_⟩
        show xs (X.e 0) _ _ _
        rw [xs_e]
        show cond true _ _
        rw [cond_true,nth0,nth1,nth2,qQc]
        have g4:∀ i,f[i]?=some 62→at1 w (i+1)=qWe:=fun j hj=>(hin j (by have:=(List.getElem?_eq_some_iff.mp hj).1; omega)).1 hj
        have g5:∀ i,f[i]?=some 61→at1 w (i+1)=wIs:=fun j hj=>(hin j (by have:=(List.getElem?_eq_some_iff.mp hj).1; omega)).2 hj
        refine ldj (o1.cell (i:=0) rfl) rfl ?_
        rw [hce.len,hcer]
        refine hw1.at_ (i:=0) (by omega) fun ad r0=>⟨_,r0,?_⟩
        have c1:bts (ByteArray.mk #[115,121,109])=wSym:=rfl
        have c2:bts (ByteArray.mk #[111,118,101,114])=qVv:=rfl
        have c3:bts (ByteArray.mk #[115,101,116])=wSet:=rfl
        have c4:bts (ByteArray.mk #[109,111,110,111])=qVo:=rfl
        rw [qXi,qQk,c1]
        refine ⟨fun hs=>hk syms h1 e1 ?_,fun hns=>?_⟩
        · rw [hfits]
          constructor
          · intro ht
            refine ⟨f1,f2,f3,g4,g5,fun _=>ht,fun h=>?_,fun h=>?_⟩
            · rw [hs] at h; exact absurd h (by decide)
            · rw [hs] at h; exact absurd h (by decide)
          · exact fun hx=>hx.2.2.2.2.2.1 hs
        have fin:∀ t:Bool,(t=true↔(at1 w 0=qVv∨at1 w 0=wSet))→j47__15 D k kp (Pt p) (.int .i64 (B.cert.length:Int)) (.string (strB (at1 w 0))) (.bool t) h1:=fun t ht=>by
          unfold j47__15
          rw [qQa,qQb,qQc]
          cases t with
          | true =>
            rw [cond_true]
            have hos:=ht.mp rfl
            refine hk _ h1 e1 ?_
            rw [hfits,decide_eq_true_eq]
            constructor
            · intro hlt
              refine ⟨f1,f2,f3,g4,g5,fun h=>absurd h hns,fun _ e=>by rw [e] at hlt; simp at hlt,fun h=>?_⟩
              rw [h] at hos
              exact absurd hos (by decide)
            · intro hx
              have:=List.length_pos_iff.mpr (hx.2.2.2.2.2.2.1 hos)
              omega
          | false =>
            rw [cond_false,qXi,qQk,c4]
            have hnos:¬ (at1 w 0=qVv∨at1 w 0=wSet):=fun h=>by have:=ht.mpr h; cases this
            refine ⟨fun hm=>?_,fun hnm=>hk true h1 e1 ⟨fun _=>hfits.mpr ⟨f1,f2,f3,g4,g5,fun h=>absurd h hns,fun h=>absurd h hnos,fun h=>absurd h hnm⟩,fun _=>rfl⟩⟩
            rw [qQd]
            refine ⟨fun hlt=>?_,fun hge=>no e1 fun hx=>?_⟩
            · obtain ⟨n,hn⟩:∃ n,B.cert.getLast?=some n:=by
                cases hl:B.cert.getLast? with
                | none=>rw [List.getLast?_eq_none_iff] at hl; rw [hl] at hlt; simp at hlt
                | some n=>exact ⟨n,rfl⟩
              obtain ⟨vp,hv,hil⟩:=hlast n hn
              have hvl:vp.length+1=B.cert.length:=by rw [← hcer,hv,List.length_append]; rfl
              have hvi:V.cer[vp.length]?=some [.int .i64 n.kind,V.lp,V.li,.int .i64 n.kids]:=by rw [hv,List.getElem?_append_right (Nat.le_refl _),Nat.sub_self]; rfl
              refine ldj (o1.cell (i:=0) rfl) rfl ?_
              have hw1:IntKind.i64.wrap ((B.cert.length:Int) - 1)=((vp.length:Nat):Int):=by rw [qQo (by omega) (by omega)]; omega
              rw [hw1]
              refine hce.at_ (by omega) (by omega) fun ad v hvv _ hj=>?_
              rw [Int.toNat_natCast,hvi] at hvv
              obtain rfl:=Option.some.inj hvv
              refine ⟨_,hj 2 _ rfl,?_⟩
              rw [hli.len,hil]
              refine hk _ h1 e1 ?_
              rw [hfits,decide_eq_true_eq]
              constructor
              · intro hlt2
                refine ⟨f1,f2,f3,g4,g5,fun h=>absurd h hns,fun h=>absurd h hnos,fun _=>⟨n,hn,fun e=>by rw [e] at hlt2; simp at hlt2⟩⟩
              · intro hx
                obtain ⟨n',hn',hi'⟩:=hx.2.2.2.2.2.2.2 hm
                rw [hn] at hn'
                obtain rfl:=Option.some.inj hn'
                have:=List.length_pos_iff.mpr hi'
                omega
            · obtain ⟨n,hn,_⟩:=hx.2.2.2.2.2.2.2 hm
              have:=List.mem_of_getLast? hn
              have:=List.length_pos_of_mem this
              omega
        rw [qXi,qQk,c2]
        refine ⟨fun ho=>fin _ ?_,fun hno=>fin _ ?_⟩
        · rw [qVd,qQk,c2,beq_iff_eq]
          exact ⟨fun h=>.inl h,fun _=>ho⟩
        · rw [qVd,qQk,c3,beq_iff_eq]
          exact ⟨fun h=>.inr h,fun h=>h.resolve_left hno⟩
      | succ m ih =>
        intro i him hin
        refine hJ _ _ _ _ _ _ ?_
        unfold round47_5
        rw [qQc,qQb,qQa,hsz,qQd]
        refine ⟨fun _=>?_,fun hge=>by omega⟩
        have hif:i<f.length:=by omega
        have hfi:f[i]?=some f[i]:=List.getElem?_eq_getElem hif
        have e2:IntKind.i64.wrap ((i:Int)+1)=((i+1:Nat):Int):=by rw [qQo (by omega) (by omega)]; omega
        have stp:∀ t:Bool,(t=true→¬ qNd B syms w)→(t=false→(f[i]?=some 62→at1 w (i+1)=qWe)∧(f[i]?=some 61→at1 w (i+1)=wIs))→j47_5_8 D J (fun x34 vs35 h33=>xs x34 (qQl (nth vs35 0) (fun t37=>k (.bool t37) h33)) (fun i36=>cond (Nat.beq i36 0) (
qQl (nth vs35 0) (fun t38=>ptrW (nth vs35 2) (fun ad39=>∃ v40:Value,rd h33 (Addr.add ad39 4)=some v40∧lenW v40 (fun n41=>qQj (nth vs35 1) 0 1 (fun ad42=>∃ s43:ByteArray,rd h33 ad42=some (.string s43)∧cond (s43.toList==(ByteArray.mk #[115,121,109]).toList) (
k (.bool t38) h33) (
cond (s43.toList==(ByteArray.mk #[111,118,101,114]).toList) (
j47__15 D k kp (nth vs35 2) (.int .i64 (n41:Int)) (.string s43) (.bool (s43.toList==(ByteArray.mk #[111,118,101,114]).toList)) h33) (
j47__15 D k kp (nth vs35 2) (.int .i64 (n41:Int)) (.string s43) (.bool (s43.toList==(ByteArray.mk #[115,101,116]).toList)) h33))))))) (False)) (fun c=>kp c h33)) (.bool syms) wv (Pt p) (.string (strB f)) (.int .i64 (i:Int)) (.bool t) h1:=fun t ht1 ht2=>by
          unfold j47_5_8
          rw [qQc,qQb,qQa,qQc]
          cases t with
          | true=>exact no e1 (ht1 rfl)
          | false =>
            rw [cond_false,e2]
            refine ih (i+1) (by omega) fun j hj=>?_
            rcases Nat.lt_succ_iff_lt_or_eq.mp hj with hj | rfl
            · exact hin j hj
            · exact ht2 rfl
        have isf:∀ {x:UInt8},(bts (strB f))[(i:Int).toNat]?=some x→x=f[i]:=fun {x} hx=>by
          rw [qQk,Int.toNat_natCast,hfi] at hx
          exact (Option.some.inj hx).symm
        have ceq:∀ y:UInt8,((f[i].toNat:Int)=(y.toNat:Int))↔f[i]=y:=fun y=>⟨fun h=>UInt8.toNat_inj.mp (by omega),fun h=>by rw [h]⟩
        have hin2:f[i]=62∨f[i]=61→i+1<w.length:=fun h=>by
          have hn:f≠[99,42]:=fun e=>by
            subst e
            rcases (show i=0∨i=1 by simp at hif; omega) with rfl | rfl
            · exact absurd h (by simp)
            · exact absurd h (by simp)
          have:=f3 hn
          omega
        refine qQx (by omega) (by rw [hsz]; omega) fun x hx=>?_
        obtain rfl:=isf hx
        have d1:bts (ByteArray.mk #[45,62])=qWe:=rfl
        have d2:bts (ByteArray.mk #[61])=wIs:=rfl
        rw [qXf]
        refine ⟨fun h62=>?_,fun h62=>?_⟩
        · have h62:f[i]=62:=(ceq 62).mp h62
          rw [e2]
          refine hw1.at_ (hin2 (.inl h62)) fun ad r1=>⟨_,r1,?_⟩
          rw [Bool.not_not,qXi,qQk,d1]
          refine ⟨fun har=>?_,fun har=>stp true (fun _ hx=>har ?_) fun h=>(by cases h)⟩
          · refine qQx (by omega) (by rw [hsz]; omega) fun x hx=>?_
            obtain rfl:=isf hx
            rw [qXf]
            refine ⟨fun h61=>?_,fun h61=>stp false (fun h=>(by cases h)) fun _=>⟨fun _=>har,fun h=>?_⟩⟩
            · have:f[i]=61:=(ceq 61).mp h61
              rw [h62] at this
              exact absurd this (by decide)
            · rw [hfi,h62] at h
              exact absurd (Option.some.inj h) (by decide)
          · exact (hfits.mp hx).2.2.2.1 i (by rw [hfi,h62])
        · have h62:f[i]≠62:=fun h=>h62 ((ceq 62).mpr h)
          refine qQx (by omega) (by rw [hsz]; omega) fun x hx=>?_
          obtain rfl:=isf hx
          rw [qXf]
          refine ⟨fun h61=>?_,fun h61=>stp false (fun h=>(by cases h)) fun _=>⟨fun h=>?_,fun h=>?_⟩⟩
          · have h61:f[i]=61:=(ceq 61).mp h61
            rw [e2]
            refine hw1.at_ (hin2 (.inr h61)) fun ad r1=>⟨_,r1,stp _ (fun ht hx=>?_) fun ht=>⟨fun h=>?_,fun _=>?_⟩⟩
            · rw [qVd,qQk,d2,Bool.not_eq_true',beq_eq_false_iff_ne] at ht
              exact ht ((hfits.mp hx).2.2.2.2.1 i (by rw [hfi,h61]))
            · rw [hfi,h61] at h
              exact absurd (Option.some.inj h) (by decide)
            · rw [qVd,qQk,d2,Bool.not_eq_false',beq_iff_eq] at ht
              exact ht
          · rw [hfi] at h
            exact absurd (Option.some.inj h) h62
          · rw [hfi] at h
            exact absurd ((ceq 61).mpr (Option.some.inj h)) h61
    exact key f.length 0 (by omega) fun j hj=>by omega
  have x1:bts (ByteArray.mk #[120])=[120]:=rfl
  have x2:bts (ByteArray.mk #[99,42])=[99,42]:=rfl
  have tail:f≠[120]→(f=[99,42]→2≤w.length)→cond (!((strB f).toList==(ByteArray.mk #[99,42]).toList)) (
lenW wv (fun n10=>j47__3 D k kp (.bool syms) wv (Pt p) (.string (strB f)) (.bool ((n10:Int) != (IntKind.i64.wrap (((strB f).size:Int)+1)))) h1)) (
j47__3 D k kp (.bool syms) wv (Pt p) (.string (strB f)) (.bool false) h1):=fun f1 f2=>by
    rw [qQn,qXi,qQk,x2]
    refine ⟨fun h=>good f1 f2 fun hn=>absurd h hn,fun h=>?_⟩
    rw [hw1.len_,qXp,qQo (by omega) (by omega)]
    by_cases hl:w.length=f.length+1
    · rw [show ((w.length:Int) != ((f.length:Int)+1))=false by rw [hl]; simp]
      exact good f1 f2 fun _=>hl
    · rw [show ((w.length:Int) != ((f.length:Int)+1))=true from bne_iff_ne.mpr (by omega)]
      exact bad fun hx=>hl ((hfits.mp hx).2.2.1 h)
  rw [qQn,qXi,qQk,x1]
  refine ⟨fun h=>bad fun hx=>(hfits.mp hx).1 h,fun f1=>?_⟩
  rw [qXi,qQk,x2]
  refine ⟨fun h=>?_,fun h=>tail f1 fun e=>absurd e h⟩
  rw [hw1.len_,qQn,qQd]
  refine ⟨fun hlt=>bad fun hx=>?_,fun hge=>tail f1 fun _=>by omega⟩
  have:=(hfits.mp hx).2.1 h
  omega
end Go.Proofs.YtkdneddcocggdaaGreatDoor.Am
namespace Go.Proofs.Sp
open Go Go.Lib Sys
structure Ln where
 names:List Bs
 codes:List Int
 terms:List (List Int)
 nums:List Int
 coef:List Nat
def Ln.nil:Ln:=⟨[],[],[],[],[]⟩
def qYn (sig:Sg) (sym:Bool) (c:UInt8) (w:Bs) (x:Ln):Except Int Ln :=
 if c=110 then (match symI (sig.map (·.1)) w with
  | none=>if sym=true∧qPf w=true then .ok { x with names:=x.names++[w],codes:=x.codes++[-1] } else .error 223
  | some i=>if sym=true then .error 223 else .ok { x with names:=x.names++[w],codes:=x.codes++[(i:Int)] })
 else if c=109 then (match qXw sig w true with
  | none=>.error 223
  | some i=>.ok { x with codes:=x.codes++[i] })
 else if c=107 then (if 0<qYd w then .ok { x with codes:=x.codes++[(qYd w:Int)] } else .error 223)
 else if c=116 then qZo sig w >>= fun t=>.ok { x with terms:=x.terms++[t] }
 else if c=99 then (match qIw w with
  | none=>.error 225
  | some l=>.ok { x with coef:=l })
 else if c=105 then (match numT w (if sym then 8 else most) with
  | none=>.error 225
  | some n=>.ok { x with nums:=x.nums++[(n:Int)] })
 else .ok x
def qXq (f:Bs) (j:Nat):UInt8:=match f[j]? with
 | some c=>if c=42 then 105 else c
 | none=>105
def qVl (sig:Sg) (sym:Bool) (f:Bs):Nat→List Bs→Ln→Except Int Ln
 | _,[],x=>.ok x
 | j,w::ws,x=>qYn sig sym (qXq f j) w x >>= fun y=>qVl sig sym f (j+1) ws y
def putM (B:Bk) (w:Bs) (x:Ln):Bk :=
 if w=wSym then { B with sig:=B.sig++[((x.names[0]?).getD [],(x.nums[0]?).getD 0)] }
 else if w=qJw then { B with rules:=B.rules++[((x.terms[0]?).getD [],(x.terms[1]?).getD [])] }
 else if w=wEq then { B with eqs:=B.eqs++[((x.terms[0]?).getD [],(x.terms[1]?).getD [])] }
 else if w=qVc then { B with prec:=B.prec++[((x.codes[0]?).getD 0,(x.codes[1]?).getD 0)] }
 else if w=qYw then { B with cert:=B.cert++[⟨(x.codes[0]?).getD 0,(x.nums[0]?).getD 0,[],[]⟩] }
 else if w=qVv then (match B.cert.getLast? with
  | some n=>qZm B { n with prec:=n.prec++[((x.codes[0]?).getD 0,(x.codes[1]?).getD 0)] }
  | none=>B)
 else if w=wSet then (match B.cert.getLast? with
  | some n=>qZm B { n with ints:=n.ints++[⟨(x.codes[0]?).getD 0,[]⟩] }
  | none=>B)
 else if w=qVo then (match B.cert.getLast? with
  | some n=>(match n.ints.getLast? with
   | some i=>qZm B { n with ints:=n.ints.dropLast++[{ i with p:=i.p++[⟨x.coef,x.nums⟩] }] }
   | none=>B)
  | none=>B)
 else { B with cmds:=B.cmds++[⟨w,x.terms⟩] }
def qWx (B:Bk):Except Int Bk:=if 64<B.sig.length∨64<B.rules.length∨64<B.eqs.length then .error 226 else .ok B
def qZx (B:Bk) (w:List Bs):Except Int Bk:=qVl B.sig (decide (at1 w 0=wSym)) (qVn (at1 w 0)) 0 w.tail Ln.nil >>= fun x=>qWx (putM B (at1 w 0) x)
theorem xIi {w:List Bs} (h:w.length=4):w=[at1 w 0,at1 w 1,at1 w 2,at1 w 3]:=by
 match w,h with
 | [a,b,c,d],_=>rfl
theorem xDj {w:List Bs} (h:w.length=3):w=[at1 w 0,at1 w 1,at1 w 2]:=by
 match w,h with
 | [a,b,c],_=>rfl
theorem xOi {w:List Bs} (h:w.length=2):w=[at1 w 0,at1 w 1]:=by
 match w,h with
 | [a,b],_=>rfl
theorem list1 {w:List Bs} (h:w.length=1):w=[at1 w 0]:=by
 match w,h with
 | [a],_=>rfl
theorem qDr {sig:Sg} {s:Bool} {w:Bs} {x:Ln}:qYn sig s 116 w x=(qZo sig w >>= fun t=>.ok { x with terms:=x.terms++[t] }):=rfl
theorem xGl {sig:Sg} {s:Bool} {w:Bs} {x:Ln}:qYn sig s 62 w x=.ok x:=rfl
theorem xPb {sig:Sg} {s:Bool} {w:Bs} {x:Ln}:qYn sig s 61 w x=.ok x:=rfl
theorem xXw {sig:Sg} {s:Bool} {w:Bs} {x:Ln}:qYn sig s 109 w x=(opt (qXw sig w true) 223 >>= fun i=>.ok { x with codes:=x.codes++[i] }):=by
 unfold qYn
 rw [if_neg (by decide),if_pos rfl]
 cases qXw sig w true <;> rfl
theorem xFt {sig:Sg} {s:Bool} {w:Bs} {x:Ln}:qYn sig s 107 w x=(must (decide (0<qYd w)) 223 >>= fun _=>.ok { x with codes:=x.codes++[(qYd w:Int)] }):=by
 unfold qYn
 rw [if_neg (by decide),if_neg (by decide),if_pos rfl]
 by_cases h:0<qYd w
 ·rw [if_pos h,decide_eq_true h]; rfl
 ·rw [if_neg h,decide_eq_false h]; rfl
theorem xFu {sig:Sg} {s:Bool} {w:Bs} {x:Ln}:qYn sig s 99 w x=(opt (qIw w) 225 >>= fun l=>.ok { x with coef:=l }):=by
 unfold qYn
 rw [if_neg (by decide),if_neg (by decide),if_neg (by decide),if_neg (by decide),if_pos rfl]
 cases qIw w <;> rfl
theorem xXx {sig:Sg} {s:Bool} {w:Bs} {x:Ln}:qYn sig s 105 w x=(opt (numT w (if s then 8 else most)) 225 >>= fun n=>.ok { x with nums:=x.nums++[(n:Int)] }):=by
 unfold qYn
 rw [if_neg (by decide),if_neg (by decide),if_neg (by decide),if_neg (by decide),if_neg (by decide),if_pos rfl]
 cases numT w (if s then 8 else most) <;> rfl
theorem xJz {sig:Sg} {w:Bs} {x:Ln}:qYn sig false 110 w x=(opt (qXw sig w false) 223 >>= fun i=>.ok { x with names:=x.names++[w],codes:=x.codes++[i] }):=by
 unfold qYn qXw
 rw [if_pos rfl]
 cases symI (sig.map (·.1)) w <;> rfl
theorem xXv {sig:Sg} {w:Bs} {x:Ln}:qYn sig true 110 w x=(must (qPf w && (symI (sig.map (·.1)) w).isNone) 223 >>= fun _=>.ok { x with names:=x.names++[w],codes:=x.codes++[-1] }):=by
 unfold qYn
 rw [if_pos rfl]
 cases symI (sig.map (·.1)) w with
 | none=>cases qPf w <;> rfl
 | some i=>cases qPf w <;> rfl
theorem qZv {α β γ:Type} (x:Except Int α) (f:α→Except Int β) (g:β→Except Int γ):(x >>= f) >>= g=x >>= fun a=>f a >>= g:=by cases x <;> rfl
theorem qXb {α β:Type} (a:α) (f:α→Except Int β):(Except.ok a >>= f)=f a:=rfl
theorem qXj {sig:Sg} {s:Bool} {f:Bs} {j:Nat} {w:Bs} {ws:List Bs} {x:Ln}:qVl sig s f j (w::ws) x=(qYn sig s (qXq f j) w x >>= fun y=>qVl sig s f (j+1) ws y):=rfl
theorem qWd {sig:Sg} {s:Bool} {f:Bs} {j:Nat} {x:Ln}:qVl sig s f j [] x=.ok x:=rfl
structure Bd (B:Bk):Prop where
 s:B.sig.length≤64
 r:B.rules.length≤64
 e:B.eqs.length≤64
theorem xUl {B:Bk} (b:Bd B) (r:Ru):qWx { B with rules:=B.rules++[r] }=(must (decide (B.rules.length+1≤64)) 226 >>= fun _=>.ok { B with rules:=B.rules++[r] }):=by
 have:=b.s; have:=b.r; have:=b.e
 unfold qWx
 simp only [List.length_append,List.length_singleton]
 by_cases h:B.rules.length+1≤64
 ·rw [decide_eq_true h,if_neg (by omega)]; rfl
 ·rw [decide_eq_false h,if_pos (by omega)]; rfl
theorem xIa {B:Bk} (b:Bd B) (r:Ru):qWx { B with eqs:=B.eqs++[r] }=(must (decide (B.eqs.length+1≤64)) 226 >>= fun _=>.ok { B with eqs:=B.eqs++[r] }):=by
 have:=b.s; have:=b.r; have:=b.e
 unfold qWx
 simp only [List.length_append,List.length_singleton]
 by_cases h:B.eqs.length+1≤64
 ·rw [decide_eq_true h,if_neg (by omega)]; rfl
 ·rw [decide_eq_false h,if_pos (by omega)]; rfl
theorem xCo {B:Bk} (b:Bd B) (r:Bs × Int):qWx { B with sig:=B.sig++[r] }=(must (decide (B.sig.length+1≤64)) 226 >>= fun _=>.ok { B with sig:=B.sig++[r] }):=by
 have:=b.s; have:=b.r; have:=b.e
 unfold qWx
 simp only [List.length_append,List.length_singleton]
 by_cases h:B.sig.length+1≤64
 ·rw [decide_eq_true h,if_neg (by omega)]; rfl
 ·rw [decide_eq_false h,if_pos (by omega)]; rfl
theorem qYp {B B':Bk} (b:Bd B) (h1:B'.sig=B.sig) (h2:B'.rules=B.rules) (h3:B'.eqs=B.eqs):qWx B'=.ok B':=by
 have:=b.s; have:=b.r; have:=b.e
 unfold qWx
 rw [h1,h2,h3,if_neg (by omega)]
theorem xWq {B:Bk} (bd:Bd B) {a c:Bs}:qZx B [qJw,a,qWe,c]=qWl B [qJw,a,qWe,c]:=by
 have e1:qZx B [qJw,a,qWe,c]=(qVl B.sig false [116,62,116] 0 [a,qWe,c] Ln.nil >>= fun x=>qWx (putM B qJw x)):=rfl
 have e2:qWl B [qJw,a,qWe,c]=((must true 222 >>= fun _=>qZo B.sig a >>= fun l=>qZo B.sig c >>= fun r=>.ok (l,r)) >>= fun r=>must (decide (B.rules.length+1≤64)) 226 >>= fun _=>.ok { B with rules:=B.rules++[r] }):=rfl
 have l0:qXq [116,62,116] 0=116:=rfl
 have l1:qXq [116,62,116] (0+1)=62:=rfl
 have l2:qXq [116,62,116] (0+1+1)=116:=rfl
 rw [e1,e2,qXj,l0,qDr]
 simp only [qXj,qWd,l1,l2,xGl,qDr,qZv,qXb]
 show _=(Except.ok () >>= _)
 rw [qXb]
 cases qZo B.sig a with
 | error e=>rfl
 | ok l =>
  simp only [qXb]
  cases qZo B.sig c with
  | error e=>rfl
  | ok r =>
   simp only [qXb]
   exact xUl bd (l,r)
theorem xDz {B:Bk} (bd:Bd B) {a c:Bs}:qZx B [wEq,a,wIs,c]=qWl B [wEq,a,wIs,c]:=by
 have e1:qZx B [wEq,a,wIs,c]=(qVl B.sig false [116,61,116] 0 [a,wIs,c] Ln.nil >>= fun x=>qWx (putM B wEq x)):=rfl
 have e2:qWl B [wEq,a,wIs,c]=((must true 222 >>= fun _=>qZo B.sig a >>= fun l=>qZo B.sig c >>= fun r=>.ok (l,r)) >>= fun r=>must (decide (B.eqs.length+1≤64)) 226 >>= fun _=>.ok { B with eqs:=B.eqs++[r] }):=rfl
 have l0:qXq [116,61,116] 0=116:=rfl
 have l1:qXq [116,61,116] (0+1)=61:=rfl
 have l2:qXq [116,61,116] (0+1+1)=116:=rfl
 rw [e1,e2,qXj,l0,qDr]
 simp only [qXj,qWd,l1,l2,xPb,qDr,qZv,qXb]
 show _=(Except.ok () >>= _)
 rw [qXb]
 cases qZo B.sig a with
 | error e=>rfl
 | ok l =>
  simp only [qXb]
  cases qZo B.sig c with
  | error e=>rfl
  | ok r =>
   simp only [qXb]
   exact xIa bd (l,r)
theorem xUa {B:Bk} (bd:Bd B) {a c:Bs}:qZx B [wSym,a,c]=symM B false [wSym,a,c]:=by
 have e1:qZx B [wSym,a,c]=(qVl B.sig true [110,105] 0 [a,c] Ln.nil >>= fun x=>qWx (putM B wSym x)):=rfl
 have e2:symM B false [wSym,a,c]=(must true 222 >>= fun _=>must true 222 >>= fun _=>must (qPf a && (symI (B.sig.map (·.1)) a).isNone) 223 >>= fun _=>opt (numT c 8) 225 >>= fun n=>must (decide (B.sig.length+1≤64)) 226 >>= fun _=>.ok { B with sig:=B.sig++[(a,(n:Int))] }):=rfl
 have l0:qXq [110,105] 0=110:=rfl
 have l1:qXq [110,105] (0+1)=105:=rfl
 rw [e1,e2,qXj,l0,xXv]
 simp only [qXj,qWd,l1,xXx,qZv,qXb]
 show _=(Except.ok () >>= fun _=>Except.ok () >>= _)
 rw [qXb,qXb]
 cases must (qPf a && (symI (B.sig.map (·.1)) a).isNone) 223 with
 | error e=>rfl
 | ok u =>
  simp only [qXb]
  show (opt (numT c 8) 225 >>= _)=_
  cases opt (numT c 8) 225 with
  | error e=>rfl
  | ok n =>
   simp only [qXb]
   exact xCo bd (a,(n:Int))
theorem xXp {B:Bk} (bd:Bd B) {a c:Bs}:qZx B [qVc,a,c]=qWl B [qVc,a,c]:=by
 have e1:qZx B [qVc,a,c]=(qVl B.sig false [110,110] 0 [a,c] Ln.nil >>= fun x=>qWx (putM B qVc x)):=rfl
 have e2:qWl B [qVc,a,c]=(must true 222 >>= fun _=>opt (qXw B.sig a false) 223 >>= fun i=>opt (qXw B.sig c false) 223 >>= fun j=>.ok { B with prec:=B.prec++[(i,j)] }):=rfl
 have l0:qXq [110,110] 0=110:=rfl
 have l1:qXq [110,110] (0+1)=110:=rfl
 rw [e1,e2,qXj,l0,xJz]
 simp only [qXj,qWd,l1,xJz,qZv,qXb]
 show _=(Except.ok () >>= _)
 rw [qXb]
 cases opt (qXw B.sig a false) 223 with
 | error e=>rfl
 | ok i =>
  simp only [qXb]
  cases opt (qXw B.sig c false) 223 with
  | error e=>rfl
  | ok j =>
   simp only [qXb]
   exact qYp bd rfl rfl rfl
theorem xYe {B:Bk} (bd:Bd B) {a c:Bs}:qZx B [qYw,a,c]=qWl B [qYw,a,c]:=by
 have e1:qZx B [qYw,a,c]=(qVl B.sig false [107,105] 0 [a,c] Ln.nil >>= fun x=>qWx (putM B qYw x)):=rfl
 have e2:qWl B [qYw,a,c]=(must true 222 >>= fun _=>must (decide (0<qYd a)) 223 >>= fun _=>opt (numT c most) 225 >>= fun n=>.ok { B with cert:=B.cert++[⟨(qYd a:Nat),(n:Int),[],[]⟩] }):=rfl
 have l0:qXq [107,105] 0=107:=rfl
 have l1:qXq [107,105] (0+1)=105:=rfl
 rw [e1,e2,qXj,l0,xFt]
 simp only [qXj,qWd,l1,xXx,qZv,qXb]
 show _=(Except.ok () >>= _)
 rw [qXb]
 cases must (decide (0<qYd a)) 223 with
 | error e=>rfl
 | ok u =>
  simp only [qXb]
  show (opt (numT c most) 225 >>= _)=_
  cases opt (numT c most) 225 with
  | error e=>rfl
  | ok n =>
   simp only [qXb]
   exact qYp bd rfl rfl rfl
theorem xYa {B:Bk} (bd:Bd B) {n:Nd} (hn:B.cert.getLast?=some n) {a c:Bs}:qZx B [qVv,a,c]=qWl B [qVv,a,c]:=by
 have e1:qZx B [qVv,a,c]=(qVl B.sig false [109,109] 0 [a,c] Ln.nil >>= fun x=>qWx (putM B qVv x)):=rfl
 have e2:qWl B [qVv,a,c]=(must true 222 >>= fun _=>opt B.cert.getLast? 222 >>= fun n=>opt (qXw B.sig a true) 223 >>= fun i=>opt (qXw B.sig c true) 223 >>= fun j=>.ok (qZm B { n with prec:=n.prec++[(i,j)] })):=rfl
 have l0:qXq [109,109] 0=109:=rfl
 have l1:qXq [109,109] (0+1)=109:=rfl
 rw [e1,e2,qXj,l0,xXw]
 simp only [qXj,qWd,l1,xXw,qZv,qXb]
 rw [hn]
 show _=(Except.ok () >>= fun _=>Except.ok n >>= _)
 rw [qXb,qXb]
 cases opt (qXw B.sig a true) 223 with
 | error e=>rfl
 | ok i =>
  simp only [qXb]
  cases opt (qXw B.sig c true) 223 with
  | error e=>rfl
  | ok j =>
   simp only [qXb]
   have hp:putM B qVv { Ln.nil with codes:=Ln.nil.codes++[i]++[j] }=qZm B { n with prec:=n.prec++[(i,j)] }:=by
    unfold putM
    rw [if_neg (by decide),if_neg (by decide),if_neg (by decide),if_neg (by decide),if_neg (by decide),if_pos rfl,hn]
    rfl
   show qWx (putM B qVv { Ln.nil with codes:=Ln.nil.codes++[i]++[j] })=_
   rw [hp]
   exact qYp bd rfl rfl rfl
theorem xUp {B:Bk} (bd:Bd B) {n:Nd} (hn:B.cert.getLast?=some n) {a:Bs}:qZx B [wSet,a]=qWl B [wSet,a]:=by
 have e1:qZx B [wSet,a]=(qVl B.sig false [109] 0 [a] Ln.nil >>= fun x=>qWx (putM B wSet x)):=rfl
 have e2:qWl B [wSet,a]=(must true 222 >>= fun _=>opt B.cert.getLast? 222 >>= fun n=>opt (qXw B.sig a true) 223 >>= fun i=>.ok (qZm B { n with ints:=n.ints++[⟨i,[]⟩] })):=rfl
 have l0:qXq [109] 0=109:=rfl
 rw [e1,e2,qXj,l0,xXw]
 simp only [qWd,qZv,qXb]
 rw [hn]
 show _=(Except.ok () >>= fun _=>Except.ok n >>= _)
 rw [qXb,qXb]
 cases opt (qXw B.sig a true) 223 with
 | error e=>rfl
 | ok i =>
  simp only [qXb]
  have hp:putM B wSet { Ln.nil with codes:=Ln.nil.codes++[i] }=qZm B { n with ints:=n.ints++[⟨i,[]⟩] }:=by
   unfold putM
   rw [if_neg (by decide),if_neg (by decide),if_neg (by decide),if_neg (by decide),if_neg (by decide),if_neg (by decide),if_pos rfl,hn]
   rfl
  show qWx (putM B wSet { Ln.nil with codes:=Ln.nil.codes++[i] })=_
  rw [hp]
  exact qYp bd rfl rfl rfl
theorem qLl {sig:Sg}:∀ (ws:List Bs) (j:Nat) (x:Ln),1≤j→qVl sig false [99,42] j ws x=(opt (qUb most ws) 225 >>= fun es=>.ok { x with nums:=x.nums++es })
 | [],j,x,_=>by
  show Except.ok x=Except.ok { x with nums:=x.nums++[] }
  rw [List.append_nil]
 | w::ws,j,x,hj=>by
  have lj:qXq [99,42] j=105:=by
   unfold qXq
   match j,hj with
   | 1,_=>rfl
   | j+2,_=>rfl
  rw [qXj,lj,xXx]
  show (opt (numT w most) 225 >>= fun n=>Except.ok _) >>= _=_
  unfold qUb
  cases numT w most with
  | none=>rfl
  | some n =>
   show qVl sig false [99,42] (j+1) ws { x with nums:=x.nums++[(n:Int)] }=_
   rw [qLl ws (j+1) _ (by omega)]
   cases qUb most ws with
   | none=>rfl
   | some es =>
    show Except.ok { x with nums:=x.nums++[(n:Int)]++es }=Except.ok { x with nums:=x.nums++((n:Int)::es) }
    rw [List.append_assoc]; rfl
theorem xYi {B:Bk} (bd:Bd B) {n:Nd} (hn:B.cert.getLast?=some n) {i:It} (hi:n.ints.getLast?=some i) {a:Bs} {ws:List Bs}:qZx B (qVo::a::ws)=qWl B (qVo::a::ws):=by
 have e1:qZx B (qVo::a::ws)=(qVl B.sig false [99,42] 0 (a::ws) Ln.nil >>= fun x=>qWx (putM B qVo x)):=rfl
 have e2:qWl B (qVo::a::ws)=(must (decide (1<ws.length+1+1)) 222 >>= fun _=>opt B.cert.getLast? 222 >>= fun n=>opt n.ints.getLast? 222 >>= fun i=>opt (qIw a) 225 >>= fun co=>opt (qUb most ws) 225 >>= fun es=>.ok (qZm B { n with ints:=n.ints.dropLast++[{ i with p:=i.p++[⟨co,es⟩] }] })):=rfl
 have l0:qXq [99,42] 0=99:=rfl
 rw [e1,e2,qXj,l0,xFu,decide_eq_true (by omega),hn]
 show _=(Except.ok () >>= fun _=>Except.ok n >>= fun n=>_)
 rw [qXb,qXb,hi]
 show _=(Except.ok i >>= _)
 rw [qXb]
 simp only [qZv,qXb]
 cases opt (qIw a) 225 with
 | error e=>rfl
 | ok co =>
  simp only [qXb]
  rw [qLl ws (0+1) _ (by omega)]
  cases opt (qUb most ws) 225 with
  | error e=>rfl
  | ok es =>
   simp only [qXb]
   have hp:putM B qVo (Ln.mk [] [] [] ([]++es) co)=qZm B { n with ints:=n.ints.dropLast++[{ i with p:=i.p++[⟨co,es⟩] }] }:=by
    unfold putM
    rw [if_neg (by decide),if_neg (by decide),if_neg (by decide),if_neg (by decide),if_neg (by decide),if_neg (by decide),if_neg (by decide),if_pos rfl,hn]
    simp only [hi]
    rfl
   show qWx (putM B qVo (Ln.mk [] [] [] ([]++es) co))=_
   rw [hp]
   exact qYp bd rfl rfl rfl
theorem xYc {B:Bk} (bd:Bd B) {a:Bs}:qZx B [qZk,a]=qWl B [qZk,a]:=by
 have e1:qZx B [qZk,a]=(qVl B.sig false [116] 0 [a] Ln.nil >>= fun x=>qWx (putM B qZk x)):=rfl
 have e2:qWl B [qZk,a]=(must true 222 >>= fun _=>qZo B.sig a >>= fun l=>.ok { B with cmds:=B.cmds++[⟨qZk,[l]⟩] }):=rfl
 have l0:qXq [116] 0=116:=rfl
 rw [e1,e2,qXj,l0,qDr]
 simp only [qWd,qZv,qXb]
 show _=(Except.ok () >>= _)
 rw [qXb]
 cases qZo B.sig a with
 | error e=>rfl
 | ok l =>
  simp only [qXb]
  exact qYp bd rfl rfl rfl
theorem xQq {B:Bk} (bd:Bd B) {a c:Bs}:qZx B [qVp,a,wIs,c]=qWl B [qVp,a,wIs,c]:=by
 have e1:qZx B [qVp,a,wIs,c]=(qVl B.sig false [116,61,116] 0 [a,wIs,c] Ln.nil >>= fun x=>qWx (putM B qVp x)):=rfl
 have e2:qWl B [qVp,a,wIs,c]=((must true 222 >>= fun _=>qZo B.sig a >>= fun l=>qZo B.sig c >>= fun r=>.ok (l,r)) >>= fun r=>.ok { B with cmds:=B.cmds++[⟨qVp,[r.1,r.2]⟩] }):=rfl
 have l0:qXq [116,61,116] 0=116:=rfl
 have l1:qXq [116,61,116] (0+1)=61:=rfl
 have l2:qXq [116,61,116] (0+1+1)=116:=rfl
 rw [e1,e2,qXj,l0,qDr]
 simp only [qXj,qWd,l1,l2,xPb,qDr,qZv,qXb]
 show _=(Except.ok () >>= _)
 rw [qXb]
 cases qZo B.sig a with
 | error e=>rfl
 | ok l =>
  simp only [qXb]
  cases qZo B.sig c with
  | error e=>rfl
  | ok r =>
   simp only [qXb]
   exact qYp bd rfl rfl rfl
theorem xBa {B:Bk} (bd:Bd B) {c:Bs} (hc:c=qWy∨c=qZa∨c=qAg∨c=qWm∨c=qZb):qZx B [c]=qWl B [c]:=by
 rcases hc with rfl | rfl | rfl | rfl | rfl <;> exact qYp bd rfl rfl rfl
theorem xYq {B:Bk} (bd:Bd B) {past:Bool} {w:List Bs} (hw:w≠[]) (hf:qNd B (!past) w):qJz B past w=qZx B w >>= fun B'=>.ok (B',if at1 w 0=wSym then past else true):=by
 obtain ⟨f1,f2,f3,f4,f5,f6,f7,f8⟩:=hf
 have hpos:0<w.length:=List.length_pos_iff.mpr hw
 by_cases c1:at1 w 0=wSym
 ·have hl:w.length=3:=by have:=f3 (by rw [c1]; decide); rw [c1] at this; exact this
  have hp:past=false:=by have:=f6 c1; simpa using this
  have hw3:=xDj hl
  rw [c1] at hw3
  rw [if_pos c1]
  unfold qJz
  rw [if_pos c1,hp,hw3,xUa bd]
 have hN:qJz B past w=qWl B w >>= fun B'=>.ok (B',true):=by unfold qJz; rw [if_neg c1]
 rw [if_neg c1,hN]
 congr 1
 symm
 by_cases c2:at1 w 0=qJw
 ·have hl:w.length=4:=by have:=f3 (by rw [c2]; decide); rw [c2] at this; exact this
  have h2:at1 w 2=qWe:=f4 1 (by rw [c2]; rfl)
  have hw4:=xIi hl
  rw [c2,h2] at hw4
  rw [hw4]; exact xWq bd
 by_cases c3:at1 w 0=wEq
 ·have hl:w.length=4:=by have:=f3 (by rw [c3]; decide); rw [c3] at this; exact this
  have h2:at1 w 2=wIs:=f5 1 (by rw [c3]; rfl)
  have hw4:=xIi hl
  rw [c3,h2] at hw4
  rw [hw4]; exact xDz bd
 by_cases c4:at1 w 0=qVp
 ·have hl:w.length=4:=by have:=f3 (by rw [c4]; decide); rw [c4] at this; exact this
  have h2:at1 w 2=wIs:=f5 1 (by rw [c4]; rfl)
  have hw4:=xIi hl
  rw [c4,h2] at hw4
  rw [hw4]; exact xQq bd
 by_cases c5:at1 w 0=qVc
 ·have hl:w.length=3:=by have:=f3 (by rw [c5]; decide); rw [c5] at this; exact this
  have hw3:=xDj hl
  rw [c5] at hw3
  rw [hw3]; exact xXp bd
 by_cases c6:at1 w 0=qYw
 ·have hl:w.length=3:=by have:=f3 (by rw [c6]; decide); rw [c6] at this; exact this
  have hw3:=xDj hl
  rw [c6] at hw3
  rw [hw3]; exact xYe bd
 have hlast:B.cert≠[]→∃ n,B.cert.getLast?=some n:=fun h=>by
  cases hl:B.cert.getLast? with
  | none=>rw [List.getLast?_eq_none_iff] at hl; exact absurd hl h
  | some n=>exact ⟨n,rfl⟩
 by_cases c7:at1 w 0=qVv
 ·have hl:w.length=3:=by have:=f3 (by rw [c7]; decide); rw [c7] at this; exact this
  obtain ⟨n,hn⟩:=hlast (f7 (.inl c7))
  have hw3:=xDj hl
  rw [c7] at hw3
  rw [hw3]; exact xYa bd hn
 by_cases c8:at1 w 0=wSet
 ·have hl:w.length=2:=by have:=f3 (by rw [c8]; decide); rw [c8] at this; exact this
  obtain ⟨n,hn⟩:=hlast (f7 (.inr c8))
  have hw3:=xOi hl
  rw [c8] at hw3
  rw [hw3]; exact xUp bd hn
 by_cases c9:at1 w 0=qVo
 ·have hl:2≤w.length:=f2 (by rw [c9]; decide)
  obtain ⟨n,hn,hi⟩:=f8 c9
  obtain ⟨i,hi⟩:∃ i,n.ints.getLast?=some i:=by
   cases hl:n.ints.getLast? with
   | none=>rw [List.getLast?_eq_none_iff] at hl; exact absurd hl hi
   | some i=>exact ⟨i,rfl⟩
  match w,hl,c9 with
  | x::a::ws,_,c9 =>
   have c9:x=qVo:=c9
   subst c9
   exact xYi bd hn hi
 by_cases c10:at1 w 0=qZk
 ·have hl:w.length=2:=by have:=f3 (by rw [c10]; decide); rw [c10] at this; exact this
  have hw3:=xOi hl
  rw [c10] at hw3
  rw [hw3]; exact xYc bd
 by_cases c11:at1 w 0=qWy∨at1 w 0=qZa∨at1 w 0=qAg∨at1 w 0=qWm∨at1 w 0=qZb
 ·have hf:qVn (at1 w 0)=[]:=by rcases c11 with h | h | h | h | h <;> (rw [h]; decide)
  have hl:w.length=1:=by have:=f3 (by rw [hf]; decide); rw [hf] at this; exact this
  have hw3:=list1 hl
  rw [hw3]
  exact xBa bd c11
 ·refine absurd ?_ f1
  unfold qVn
  rw [if_neg c1,if_neg c2,if_neg (fun h=>h.elim c3 c4),if_neg c5,if_neg c6,if_neg c7,if_neg c8,if_neg c9,if_neg c10,if_neg c11]
theorem xYp {B:Bk} {past:Bool} {w:List Bs} (hf:¬ qNd B (!past) w):qJz B past w=.error 222:=by
 have mk:∀ {c:Bs},at1 w 0=c→(qVn c≠[120]→(qVn c=[99,42]→2≤w.length)→(qVn c≠[99,42]→w.length=(qVn c).length+1)→(∀ i,(qVn c)[i]?=some 62→at1 w (i+1)=qWe)→(∀ i,(qVn c)[i]?=some 61→at1 w (i+1)=wIs) →
   (c=wSym→(!past)=true)→(c=qVv∨c=wSet→B.cert≠[])→(c=qVo→∃ n,B.cert.getLast?=some n∧n.ints≠[])→False):=fun {c} hc a1 a2 a3 a4 a5 a6 a7 a8=>by
  subst hc
  exact hf ⟨a1,a2,a3,a4,a5,a6,a7,a8⟩
 have noAt:∀ {f:Bs} {x:UInt8},(∀ i,f[i]?=some x→False)→∀ {y:Bs},∀ i,f[i]?=some x→at1 w (i+1)=y:=fun h _ i hi=>(h i hi).elim
 have cnt:∀ (n:Nat) {α:Type} (f:Unit→Except Int α),w.length≠n→(count w n >>= f)=.error 222:=fun n α f h=>by
  unfold count
  rw [beq_eq_false_iff_ne.mpr h]; rfl
 have two:∀ (a b x:UInt8),a≠x→b≠x→∀ i:Nat,[a,b][i]?=some x→False:=fun a b x h1 h2 i hi=>by
  have:=List.mem_of_getElem? hi
  simp at this
  rcases this with h | h
  ·exact h1 h.symm
  ·exact h2 h.symm
 have one:∀ (a x:UInt8),a≠x→∀ i:Nat,[a][i]?=some x→False:=fun a x h1 i hi=>by
  have:=List.mem_of_getElem? hi
  simp at this
  exact h1 this.symm
 by_cases c1:at1 w 0=wSym
 ·unfold qJz symM
  rw [if_pos c1]
  by_cases hl:w.length=3
  ·cases past with
   | true =>
    have:count w 3=.ok ():=by unfold count; rw [hl]; rfl
    rw [this]; rfl
   | false=>exact (mk c1 (by decide) (fun h=>absurd h (by decide)) (fun _=>by rw [hl]; rfl) (noAt (two 110 105 62 (by decide) (by decide))) (noAt (two 110 105 61 (by decide) (by decide))) (fun _=>rfl) (fun h=>absurd h (by decide)) (fun h=>absurd h (by decide))).elim
  ·rw [qZv,cnt 3 _ hl]
 have hN:qJz B past w=qWl B w >>= fun B'=>.ok (B',true):=by unfold qJz; rw [if_neg c1]
 have goal:qWl B w=.error 222→qJz B past w=.error 222:=fun h=>by rw [hN,h]; rfl
 apply goal
 unfold qWl
 dsimp only
 have three:∀ (a b x y:UInt8),a≠x→b≠x→∀ {z:Bs},(y=x→at1 w 2=z)→∀ i:Nat,[a,y,b][i]?=some x→at1 w (i+1)=z:=fun a b x y h1 h2 {z} h3 i hi=>by
  match i,hi with
  | 0,hi=>exact absurd (by simpa using hi) h1
  | 1,hi=>exact h3 (by simpa using hi)
  | 2,hi=>exact absurd (by simpa using hi) h2
  | i+3,hi=>simp at hi
 have ruleNo:∀ {mid:Bs},¬ (w.length=4∧at1 w 2=mid)→qJx B.sig w mid=.error 222:=fun {mid} h=>by
  unfold qJx
  have:(w.length==4 && at1 w 2==mid)=false:=by
   rw [← Bool.not_eq_true]
   intro hx
   simp only [Bool.and_eq_true,beq_iff_eq] at hx
   exact h hx
  rw [this]; rfl
 by_cases c2:at1 w 0=qJw
 ·rw [if_pos c2,ruleNo fun ⟨hl,hm⟩=>mk c2 (by decide) (fun h=>absurd h (by decide)) (fun _=>by rw [hl]; rfl) (three 116 116 62 62 (by decide) (by decide) fun _=>hm) (three 116 116 61 62 (by decide) (by decide) fun h=>absurd h (by decide)) (fun h=>absurd h (by decide)) (fun h=>absurd h (by decide)) (fun h=>absurd h (by decide))]
  rfl
 rw [if_neg c2]
 by_cases c3:at1 w 0=wEq
 ·rw [if_pos c3,ruleNo fun ⟨hl,hm⟩=>mk c3 (by decide) (fun h=>absurd h (by decide)) (fun _=>by rw [hl]; rfl) (three 116 116 62 61 (by decide) (by decide) fun h=>absurd h (by decide)) (three 116 116 61 61 (by decide) (by decide) fun _=>hm) (fun h=>absurd h (by decide)) (fun h=>absurd h (by decide)) (fun h=>absurd h (by decide))]
  rfl
 rw [if_neg c3]
 by_cases c5:at1 w 0=qVc
 ·rw [if_pos c5]
  exact cnt 3 _ fun hl=>mk c5 (by decide) (fun h=>absurd h (by decide)) (fun _=>by rw [hl]; rfl) (noAt (two 110 110 62 (by decide) (by decide))) (noAt (two 110 110 61 (by decide) (by decide))) (fun h=>absurd h (by decide)) (fun h=>absurd h (by decide)) (fun h=>absurd h (by decide))
 rw [if_neg c5]
 by_cases c6:at1 w 0=qYw
 ·rw [if_pos c6]
  exact cnt 3 _ fun hl=>mk c6 (by decide) (fun h=>absurd h (by decide)) (fun _=>by rw [hl]; rfl) (noAt (two 107 105 62 (by decide) (by decide))) (noAt (two 107 105 61 (by decide) (by decide))) (fun h=>absurd h (by decide)) (fun h=>absurd h (by decide)) (fun h=>absurd h (by decide))
 rw [if_neg c6]
 have noCert:B.cert=[]→∀ {α:Type} (f:Nd→Except Int α),(qAj B >>= f)=.error 222:=fun h α f=>by
  unfold qAj
  rw [h]; rfl
 by_cases c7:at1 w 0=qVv
 ·rw [if_pos c7]
  by_cases hl:w.length=3
  ·have hok:count w 3=.ok ():=by unfold count; rw [hl]; rfl
   rw [hok,qXb]
   refine noCert (Classical.byContradiction fun hc=>mk c7 (by decide) (fun h=>absurd h (by decide)) (fun _=>by rw [hl]; rfl) (noAt (two 109 109 62 (by decide) (by decide))) (noAt (two 109 109 61 (by decide) (by decide))) (fun h=>absurd h (by decide)) (fun _=>hc) (fun h=>absurd h (by decide))) _
  ·exact cnt 3 _ hl
 rw [if_neg c7]
 by_cases c8:at1 w 0=wSet
 ·rw [if_pos c8]
  by_cases hl:w.length=2
  ·have hok:count w 2=.ok ():=by unfold count; rw [hl]; rfl
   rw [hok,qXb]
   refine noCert (Classical.byContradiction fun hc=>mk c8 (by decide) (fun h=>absurd h (by decide)) (fun _=>by rw [hl]; rfl) (noAt (one 109 62 (by decide))) (noAt (one 109 61 (by decide))) (fun h=>absurd h (by decide)) (fun _=>hc) (fun h=>absurd h (by decide))) _
  ·exact cnt 2 _ hl
 rw [if_neg c8]
 by_cases c9:at1 w 0=qVo
 ·rw [if_pos c9]
  by_cases hl:1<w.length
  ·rw [decide_eq_true hl]
   show (Except.ok () >>= _)=_
   rw [qXb]
   unfold qAj
   cases hn:B.cert.getLast? with
   | none=>rfl
   | some n =>
    show (Except.ok n >>= _)=_
    rw [qXb]
    cases hi:n.ints.getLast? with
    | none=>rfl
    | some i=>exact (mk c9 (by decide) (fun _=>by omega) (fun h=>absurd rfl h) (noAt (two 99 42 62 (by decide) (by decide))) (noAt (two 99 42 61 (by decide) (by decide))) (fun h=>absurd h (by decide)) (fun h=>absurd h (by decide)) (fun _=>⟨n,hn,fun e=>by rw [e] at hi; cases hi⟩)).elim
  ·rw [decide_eq_false hl]; rfl
 rw [if_neg c9]
 by_cases c11:at1 w 0=qWy∨at1 w 0=qZa∨at1 w 0=qAg∨at1 w 0=qWm∨at1 w 0=qZb
 ·rw [if_pos c11]
  have hf0:qVn (at1 w 0)=[]:=by rcases c11 with h | h | h | h | h <;> (rw [h]; decide)
  have hno:∀ c:Bs,(c=wSym∨c=qVv∨c=wSet∨c=qVo)→at1 w 0≠c:=fun c hc e=>by
   rw [e] at c11
   rcases hc with rfl | rfl | rfl | rfl <;> revert c11 <;> decide
  exact cnt 1 _ fun hl=>mk rfl (by rw [hf0]; decide) (fun h=>by rw [hf0] at h; cases h) (fun _=>by rw [hf0,hl]; rfl) (fun i hi=>by rw [hf0] at hi; simp at hi) (fun i hi=>by rw [hf0] at hi; simp at hi) (fun h=>absurd h (hno _ (.inl rfl))) (fun h=>h.elim (fun h=>absurd h (hno _ (.inr (.inl rfl)))) fun h=>absurd h (hno _ (.inr (.inr (.inl rfl))))) (fun h=>absurd h (hno _ (.inr (.inr (.inr rfl)))))
 rw [if_neg c11]
 by_cases c10:at1 w 0=qZk
 ·rw [if_pos c10]
  exact cnt 2 _ fun hl=>mk c10 (by decide) (fun h=>absurd h (by decide)) (fun _=>by rw [hl]; rfl) (noAt (one 116 62 (by decide))) (noAt (one 116 61 (by decide))) (fun h=>absurd h (by decide)) (fun h=>absurd h (by decide)) (fun h=>absurd h (by decide))
 rw [if_neg c10]
 by_cases c4:at1 w 0=qVp
 ·rw [if_pos c4,ruleNo fun ⟨hl,hm⟩=>mk c4 (by decide) (fun h=>absurd h (by decide)) (fun _=>by rw [hl]; rfl) (three 116 116 62 61 (by decide) (by decide) fun h=>absurd h (by decide)) (three 116 116 61 61 (by decide) (by decide) fun _=>hm) (fun h=>absurd h (by decide)) (fun h=>absurd h (by decide)) (fun h=>absurd h (by decide))]
  rfl
 rw [if_neg c4]
end Go.Proofs.Sp
namespace Go.Proofs.YtkdneddcocggdaaGreatDoor.Am
open Go Go.Proofs Go.RowKit Go.Lib Sys Sp
set_option maxRecDepth 100000
variable {D:Orc} {E:Dorc} {h h' h0 g g':H} {k:Kv} {kp:Kp} {L R:List Res} {B:Bk} {V:BkV} {N:Nat}
theorem xUn:∀ (l pre:List Sy),(∀ x∈l,qPf (bts x.1)=true∧0≤x.2∧x.2≤8)→(∀ (a b:List Sy) x,pre++l=a++x::b→pre.length≤a.length→∀ y∈a,bts y.1≠bts x.1)→sigL pre l=0
 | [],pre,_,_=>rfl
 | x::l,pre,h1,h2=>by
  unfold sigL
  have hx:=h1 x (.head _)
  have hn:qZn x.1=true:=by
   unfold qZn
   have:qVt x.1=true:=by rw [← qYh x.1]; exact hx.1
   rw [this]; rfl
  have hs:qYc pre x=0:=by
   unfold qYc
   rw [if_neg (by rw [hn]; decide),if_neg (by omega),if_neg]
   intro hh
   obtain ⟨y,hy,he⟩:=List.any_eq_true.mp hh
   rw [qVd] at he
   exact h2 pre l x rfl (Nat.le_refl _) y hy (eq_of_beq he)
  rw [if_pos hs]
  refine xUn l (pre++[x]) (fun y hy=>h1 y (.tail _ hy)) fun a b y hab hl=>h2 a b y (by rw [← hab,List.append_assoc]; rfl) ?_
  rw [List.length_append] at hl
  omega
theorem xNu {sig:Sg} (h:SgOk sig):qZu (toSy sig)=0:=by
 unfold qZu
 rw [qXr,if_neg (by have:=h.len; omega)]
 refine xUn _ [] (fun x hx=>?_) fun a b x hab _ y hy he=>?_
 ·obtain ⟨z,hz,rfl⟩:=List.mem_map.mp hx
  rw [qQk]
  exact ⟨h.nm z hz,h.ar z hz⟩
 ·rw [List.nil_append] at hab
  obtain ⟨i,hi⟩:=List.getElem?_of_mem hy
  have hil:=(List.getElem?_eq_some_iff.mp hi).1
  have e1:(toSy sig)[i]?=some y:=by rw [hab,List.getElem?_append_left hil]; exact hi
  have e2:(toSy sig)[a.length]?=some x:=by rw [hab,List.getElem?_append_right (Nat.le_refl _),Nat.sub_self]; rfl
  have pick:∀ (j:Nat) (z:Sy),(toSy sig)[j]?=some z→symI (sig.map (·.1)) (bts z.1)=some j:=fun j z hz=>by
   unfold toSy at hz
   rw [List.getElem?_map] at hz
   obtain ⟨u,hu,rfl⟩:=Option.map_eq_some_iff.mp hz
   rw [qQk]
   exact h.own j u hu
  have p1:=pick i y e1
  have p2:=pick a.length x e2
  rw [he,p2] at p1
  have:=Option.some.inj p1
  omega
theorem xZk {sig:Sg} {s:Bs} {e:Int} (h:qZo sig s=.error e):e≠0:=by
 unfold qZo at h
 split at h
 ·rename_i e' he
  obtain rfl:=Except.error.inj h
  exact qBf _ _ _ he
 ·split at h
  ·cases h
  ·obtain rfl:=Except.error.inj h; decide
structure LnV where
 nm:Value
 cd:Value
 tm:Value
 nu:Value
 cf:Value
 tmr:List Value
def lkL (q:Nat) (X:LnV) (x:Ln) (L:List Res):List Res:=qQp q [X.nm,X.cd,X.tm,X.nu,X.cf]::bufR X.nm (wsV x.names)::bufR X.cd (Z x.codes)::bufR X.tm X.tmr::bufR X.nu (Z x.nums)::L
structure LnI (m:Nat) (g:H) (X:LnV) (x:Ln):Prop where
 tm:Rel2 (Oz g) X.tmr x.terms
 cd:∀ c∈x.codes,inI c
 nu:∀ c∈x.nums,inI c
 cf:Nr g X.cf x.coef
 l1:x.names.length≤m
 l2:x.codes.length≤m
 l3:x.terms.length≤m
 l4:x.nums.length≤m
theorem LnI.ext {m:Nat} {X:LnV} {x:Ln} (I:LnI m g X x) (e:Ext g g'):LnI m g' X x:=⟨I.tm.mono fun _ _ o=>o.ext e,I.cd,I.nu,I.cf.ext e,I.l1,I.l2,I.l3,I.l4⟩
theorem LnI.up {m:Nat} {X:LnV} {x:Ln} (I:LnI m g X x):LnI (m+1) g X x:=⟨I.tm,I.cd,I.nu,I.cf,Nat.le_succ_of_le I.l1,Nat.le_succ_of_le I.l2,Nat.le_succ_of_le I.l3,Nat.le_succ_of_le I.l4⟩
theorem Hp.grow {q i j:Nat} {l vs:List Value} {s v z:Value} (o:Hp h0 h (qQp q l::L)) (hL:L[i]?=some (bufR s vs)) (hj:l[j]?=some s) (hv:one v=true) {bytes:Nat} (hb:bytes≤64) (hl:vs.length<2 ^ 40) {O U T:Prop} (hO:O) (hU:U) (hT:T) {K:H→Prop}
  (hK:∀ s' h',Hp h0 h' (qQp q (l.set j s')::L.set i (bufR s' (vs++[v])))→K h') :
  qQe (Pt q)=true∧ptrW (Pt q) (fun ad18=>∃ v19:Value,rd h (Addr.add ad18 j)=some v19∧O∧U∧qQy h 1 [v] (fun s20 h21=>qXg s20 (fun n22=>srcW h21 1 s20 (n22) (fun w23=>apW h21 1 bytes [z] v19 (n22) w23 (fun s24 h25=>qQe (Pt q)=true∧ptrW (Pt q) (fun ad26=>one s24=true∧T∧∃ h27,wr1 h25 (Addr.add ad26 j) s24=some h27∧K h27)))))):=by
 refine ⟨rfl,ldj (o.cell (i:=0) rfl) hj ?_⟩
 refine o.push (i:=i+1) (s:=s) (vs:=vs) (v:=v) (by simpa using hL) hb hl hv hO hU fun s' h' o'=>⟨rfl,?_⟩
 have o':Hp h0 h' (qQp q l::L.set i (bufR s' (vs++[v]))):=o'
 have hil:=(List.getElem?_eq_some_iff.mp hL).1
 have hrow:Row h' s' (vs++[v]):=o'.row (i:=i+1) (by simp [hil])
 exact o'.stj (i:=0) (j:=j) rfl (List.getElem?_eq_some_iff.mp hj).1 (qXn hrow) hT fun h2 o2=>hK s' h2 o2
theorem qLn {q bp:Nat} {X:LnV} {x:Ln} {tl:List Value} (o:Hp h0 h (lkL q X x (bkL bp tl V g B R))):Hp h0 h R:=o.sub (List.drop_sublist 16 (lkL q X x (bkL bp tl V g B R)))
def qGd (D:Orc) (f:Nat) (T:H→Prop):Prop:=∀ (N m q bp:Nat) (X:LnV) (x:Ln) (tl:List Value) (V:BkV) (g:H) (B:Bk) (R:List Res) (c:UInt8) (w first:ByteArray) h0 h (k:Kv) kp,m<2 ^ 30→w.size≤65536→validD (bts w)=true→T h0→SgOk B.sig→Sm N B→LnI m g X x →
 Hp h0 h (lkL q X x (bkL bp tl V g B R)) →
 Out (qYn B.sig (decide (bts first=wSym)) c (bts w) x) (fun y=>∀ X' g' h',Ext g g'→LnI (m+1) g' X' y→Hp h0 h' (lkL q X' y (bkL bp tl V g' B R))→k (.int .i64 0) h') (fun e=>∀ h',Hp h0 h' R→k (.int .i64 e) h') →
 D f [.agg #[V.sg,V.ru,V.eq,V.pr,V.ce,V.co],.string w,.int .u8 (c.toNat:Int),.string first,Pt q] h k kp
theorem xIl:∀ i:_root_.Fin 6,0<i.val→qYd (at1 kinds i.val)=i.val:=by decide
theorem xEk {w:Bs} (h:∀ i:Nat,1≤i→i<6→w≠at1 kinds i):qYd w=0:=by
 by_cases h0:w=[]
 ·subst h0; decide
 unfold qYd
 rw [if_neg]
 intro hm
 obtain ⟨i,hi⟩:=List.getElem?_of_mem hm
 have hil:i<6:=(List.getElem?_eq_some_iff.mp hi).1
 have ha:at1 kinds i=w:=by unfold at1; rw [hi]; rfl
 rcases Nat.eq_zero_or_pos i with hz | hp
 ·rw [hz] at ha; exact h0 ha.symm
 ·exact h i hp hil ha.symm
theorem xLp (c97:Cl97 D) (ss:qUz D 79) (sn:qYm D 61 Tbl) (ck:Cl107 D) (st:qYu D 13 Tbl)
  (sp:qUi D 128) (su:qGg D 77):qGd D 97 Tbl:=by
 intro N m q bp X x tl V g B R c w first h0 h k kp hm hw hval ht sg s I o hk
 refine c97 _ _ _ _ _ _ _ _ ?_
 unfold F97
 rw [qQb,qQa,qQb,qVz]
 refine o.new_ fun p h1 hp o1=>?_
 have o1:Hp h0 h1 (qQp p [V.sg,V.ru,V.eq,V.pr,V.ce,V.co]::lkL q X x (bkL bp tl V g B R)):=o1
 have hsr:∀ {h:H},Hp h0 h (qQp p [V.sg,V.ru,V.eq,V.pr,V.ce,V.co]::lkL q X x (bkL bp tl V g B R))→Sr h V.sg (toSy B.sig):=fun o=>s.sr (o.rowK (i:=8) rfl)
 have hnm:nmOf (toSy B.sig)=B.sig.map (·.1):=by unfold nmOf; rw [qWk]
 have hs64:=s.sig
 have cc:∀ n:UInt8,((c.toNat:Int)=(n.toNat:Int))→c=n:=fun n e=>UInt8.toNat_inj.mp (by omega)
 have cn:∀ n:UInt8,((c.toNat:Int)≠(n.toNat:Int))→c≠n:=fun n e e2=>e (by rw [e2])
 have c3:bts (ByteArray.mk #[115,121,109])=wSym:=rfl
 have five:∀ (b:Bool) (i:Int) h3,Hp h0 h3 (lkL q X x (bkL bp tl V g B R))→(b=true→∀ h',Hp h0 h' R→k (.int .i64 223) h') →
   (b=false→inI i∧∀ X' g' h',Ext g g'→LnI (m+1) g' X' { x with names:=x.names++[bts w],codes:=x.codes++[i] }→Hp h0 h' (lkL q X' { x with names:=x.names++[bts w],codes:=x.codes++[i] } (bkL bp tl V g' B R))→k (.int .i64 0) h') →
   j97__5 D k kp (.string w) (Pt q) (.int .i64 i) (.bool b) h3:=fun b i h3 o3 hb1 hb2=>by
  unfold j97__5
  rw [qQb,qQa,qQc]
  cases b with
  | true=>rw [cond_true]; exact hb1 rfl _ (qLn o3)
  | false =>
   rw [cond_false]
   obtain ⟨ii,hb2⟩:=hb2 rfl
   refine Hp.grow o3 (i:=0) (j:=0) rfl rfl rfl (by decide) (by unfold wsV; rw [List.length_map]; have:=I.l1; omega) rfl (by decide) rfl fun s1 h4 o4=>?_
   refine Hp.grow o4 (i:=1) (j:=1) rfl rfl rfl (by decide) (by rw [Zl]; have:=I.l2; omega) rfl (by decide) rfl fun s2 h5 o5=>?_
   unfold j97__44
   refine hb2 ⟨s1,s2,X.tm,X.nu,X.cf,X.tmr⟩ g h5 (Ext.refl g) ⟨I.tm,fun y hy=>?_,I.nu,I.cf,?_,?_,Nat.le_succ_of_le I.l3,Nat.le_succ_of_le I.l4⟩ ?_
   ·rcases List.mem_append.mp hy with hy | hy
    ·exact I.cd y hy
    ·rw [List.mem_singleton.mp hy]; exact ii
   ·show (x.names++[bts w]).length≤m+1
    rw [List.length_append]; exact Nat.succ_le_succ I.l1
   ·show (x.codes++[i]).length≤m+1
    rw [List.length_append]; exact Nat.succ_le_succ I.l2
   ·unfold lkL
    rw [qTc,qYh,← qSy]
    exact o5
 have fourteen:∀ (i:Int) h3,Hp h0 h3 (lkL q X x (bkL bp tl V g B R))→(i<0→∀ h',Hp h0 h' R→k (.int .i64 223) h') →
   (0≤i→inI i∧∀ X' g' h',Ext g g'→LnI (m+1) g' X' { x with codes:=x.codes++[i] }→Hp h0 h' (lkL q X' { x with codes:=x.codes++[i] } (bkL bp tl V g' B R))→k (.int .i64 0) h') →
   j97__14 D k kp (Pt q) (.int .i64 i) h3:=fun i h3 o3 hb1 hb2=>by
  unfold j97__14
  rw [qQa,qQd]
  refine ⟨fun hneg=>hb1 hneg _ (qLn o3),fun hpos=>?_⟩
  obtain ⟨ii,hb2⟩:=hb2 (by omega)
  refine Hp.grow o3 (i:=1) (j:=1) rfl rfl rfl (by decide) (by rw [Zl]; have:=I.l2; omega) rfl (by decide) rfl fun s2 h5 o5=>?_
  unfold j97__44
  refine hb2 ⟨X.nm,s2,X.tm,X.nu,X.cf,X.tmr⟩ g h5 (Ext.refl g) ⟨I.tm,fun y hy=>?_,I.nu,I.cf,Nat.le_succ_of_le I.l1,?_,Nat.le_succ_of_le I.l3,Nat.le_succ_of_le I.l4⟩ ?_
  ·rcases List.mem_append.mp hy with hy | hy
   ·exact I.cd y hy
   ·rw [List.mem_singleton.mp hy]; exact ii
  ·show (x.codes++[i]).length≤m+1
   rw [List.length_append]; exact Nat.succ_le_succ I.l2
  ·unfold lkL
   rw [← qSy]
   exact o5
 rw [qXf]
 refine ⟨fun he=>?_,fun hne=>?_⟩
 ·obtain rfl:=cc 110 he
  refine ldj (o1.cell (i:=0) rfl) rfl ?_
  refine ss V.sg (toSy B.sig) w _ _ _ (hsr o1) fun h2 e2=>⟨_,rfl,?_⟩
  have o2:=o1.later e2
  rw [hnm,qXi,c3]
  refine ⟨fun hf=>?_,fun hf=>?_⟩
  ·rw [decide_eq_true hf,xXv,qQm,qZe] at hk
   refine sn w _ _ _ (by omega) (qQw _ _ o2.ext ht) fun h3 e3=>⟨_,rfl,?_⟩
   have o3:=o2.later e3
   have hno:qPf (bts w)=qVt w:=by show qVt (strB (bts w))=_; rw [qYh]
   have hself:∀ b:Bool,b=!(first.toList==(ByteArray.mk #[115,121,109]).toList)→b=false:=fun b hb=>by
    rw [hb,qVd,hf,c3]; simp
   rw [Bool.not_not,qVy]
   refine ⟨fun hi=>?_,fun hi=>five true _ _ o3.tail (fun _=>hk.2 (by rw [hno,hi]; rfl)) (fun h=>by cases h)⟩
   cases hs2:symI (B.sig.map (·.1)) (bts w) with
   | some i =>
    rw [hs2] at hk
    have hg:(decide (symV (some i)≥0))=true:=by rw [decide_eq_true_eq]; unfold symV; dsimp only; omega
    rw [hg]
    show j97__5 D k kp _ _ _ _ h3
    exact five true _ _ o3.tail (fun _=>hk.2 (by rw [Option.isNone_some,Bool.and_false])) (fun h=>by cases h)
   | none =>
    rw [hs2] at hk
    have hg:(decide (symV none≥0))=false:=by rw [decide_eq_false_iff_not]; unfold symV; dsimp only; omega
    rw [hg]
    show cond (!(first.toList==(ByteArray.mk #[115,121,109]).toList)) _ _
    rw [hself _ rfl,cond_false]
    refine five false _ _ o3.tail (fun h=>by cases h) fun _=>⟨by unfold symV inI; dsimp only; omega,hk.1 (by rw [hno,hi]; rfl)⟩
  ·rw [decide_eq_false hf,xJz,qQm] at hk
   have hself:(!(first.toList==(ByteArray.mk #[115,121,109]).toList))=true:=by
    rw [qVd,c3,beq_eq_false_iff_ne.mpr hf]; rfl
   rw [hself,cond_true]
   cases hs2:symI (B.sig.map (·.1)) (bts w) with
   | some i =>
    have hkn:qXw B.sig (bts w) false=some (i:Int):=by unfold qXw; rw [hs2]
    rw [hkn] at hk
    have hil:=qOo hs2
    rw [List.length_map] at hil
    refine five _ _ _ o2.tail (fun h=>?_) fun _=>⟨by unfold symV inI; dsimp only; omega,hk⟩
    have:=of_decide_eq_true h
    unfold symV at this; dsimp only at this; omega
   | none =>
    have hkn:qXw B.sig (bts w) false=none:=by unfold qXw; rw [hs2]; rfl
    rw [hkn] at hk
    refine five _ _ _ o2.tail (fun _=>hk) fun h=>?_
    have:=of_decide_eq_false h
    unfold symV at this; dsimp only at this; omega
 rw [qXf]
 refine ⟨fun he=>?_,fun hne2=>?_⟩
 ·obtain rfl:=cc 109 he
  rw [xXw,qQm] at hk
  refine ldj (o1.cell (i:=0) rfl) rfl ?_
  refine ss V.sg (toSy B.sig) w _ _ _ (hsr o1) fun h2 e2=>⟨_,rfl,?_⟩
  have o2:=o1.later e2
  have hbl:(bts w).length=w.size:=rfl
  rw [hnm]
  have plain:(symI (B.sig.map (·.1)) (bts w)≠none∨(bts w).getLast?≠some 35)→j97__11 D k kp (.string w) (Pt q) (Pt p) (.int .i64 (symV (symI (B.sig.map (·.1)) (bts w)))) (.bool false) h2:=fun hor=>by
   unfold j97__11
   rw [qQb,qQa,qQc,cond_false]
   cases hs2:symI (B.sig.map (·.1)) (bts w) with
   | some i =>
    have hkn:qXw B.sig (bts w) true=some (i:Int):=by unfold qXw; rw [hs2]
    rw [hkn] at hk
    have hil:=qOo hs2
    rw [List.length_map] at hil
    refine fourteen _ _ o2.tail (fun h=>?_) fun _=>⟨by unfold symV inI; dsimp only; omega,hk⟩
    unfold symV at h; dsimp only at h; omega
   | none =>
    have hl:=hor.resolve_left (fun h=>h hs2)
    have hkn:qXw B.sig (bts w) true=none:=by
     unfold qXw
     rw [hs2]
     dsimp only
     rw [beq_eq_false_iff_ne.mpr hl]; rfl
    rw [hkn] at hk
    refine fourteen _ _ o2.tail (fun _=>hk) fun h=>?_
    unfold symV at h; dsimp only at h; omega
  rw [qQd]
  refine ⟨fun hneg=>?_,fun hpos=>plain (.inl fun hs2=>hpos (by rw [hs2]; show (-1:Int)<0; omega))⟩
  have hs2:symI (B.sig.map (·.1)) (bts w)=none:=by
   cases hs2:symI (B.sig.map (·.1)) (bts w) with
   | none=>rfl
   | some i=>rw [hs2] at hneg; unfold symV at hneg; dsimp only at hneg; omega
  rw [qQd]
  refine ⟨fun hpos=>?_,fun hz=>plain (.inr fun hl=>?_)⟩
  ·rw [qQo (by omega) (by omega)]
   refine qQx (by omega) (by omega) fun b hb=>?_
   have hlast:(bts w).getLast?=some b:=by
    rw [List.getLast?_eq_getElem?,← hb]
    congr 1
    omega
   by_cases hb35:b=35
   ·rw [show ((b.toNat:Int)==35)=true by rw [hb35]; rfl]
    unfold j97__11
    rw [qQb,qQa,qQc,cond_true]
    refine ldj (o2.cell (i:=0) rfl) rfl ?_
    rw [qQo (by omega) (by omega)]
    refine qZy (by omega) (by omega) fun t ht2=>?_
    have htd:bts t=(bts w).dropLast:=by
     rw [ht2,List.dropLast_eq_take]
     congr 1
     omega
    refine ss V.sg (toSy B.sig) t _ _ _ (hsr o2) fun h3 e3=>⟨_,rfl,?_⟩
    have o3:=o2.later e3
    rw [hnm,htd,qQd]
    have hkn:qXw B.sig (bts w) true=(symI (B.sig.map (·.1)) (bts w).dropLast).map (fun c=>((c+B.sig.length:Nat):Int)):=by
     unfold qXw
     rw [hs2,hlast,hb35]
     rfl
    cases hs3:symI (B.sig.map (·.1)) (bts w).dropLast with
    | none =>
     rw [hkn,hs3] at hk
     refine ⟨fun hh=>by unfold symV at hh; dsimp only at hh; omega,fun _=>fourteen _ _ o3.tail (fun _=>hk) fun h=>?_⟩
     unfold symV at h; dsimp only at h; omega
    | some i =>
     rw [hkn,hs3] at hk
     have hil:=qOo hs3
     rw [List.length_map] at hil
     refine ⟨fun _=>?_,fun hh=>by unfold symV at hh; dsimp only at hh; omega⟩
     refine ldj (o3.cell (i:=0) rfl) rfl ?_
     rw [(hsr o3).row.len,qQt,qXr]
     unfold symV
     dsimp only
     rw [qQo (by omega) (by omega),show (i:Int)+(B.sig.length:Int)=((i+B.sig.length:Nat):Int) by omega]
     exact fourteen _ _ o3.tail (fun h=>by omega) fun _=>⟨by unfold inI; omega,hk⟩
   ·rw [show ((b.toNat:Int)==35)=false by
     rw [beq_eq_false_iff_ne]
     intro e
     exact hb35 (UInt8.toNat_inj.mp (by show b.toNat=35; omega))]
    exact plain (.inr (by rw [hlast]; exact fun e=>hb35 (Option.some.inj e)))
  ·have:bts w≠[]:=fun e=>by rw [e] at hl; cases hl
   have:=List.length_pos_iff.mpr this
   omega
 rw [qXf]
 refine ⟨fun he=>?_,fun hne3=>?_⟩
 ·obtain rfl:=cc 107 he
  rw [xFt,qQm,qZe] at hk
  refine ck _ _ _ ?_
  unfold F107
  refine ⟨rfl,by decide,rfl,by decide,rfl,by decide,rfl,by decide,rfl,by decide,rfl,by decide,?_⟩
  refine o1.newSlN (ws:=wsV kinds) rfl fun sv h2 o2=>⟨_,rfl,?_⟩
  have rk:Row h2 sv (wsV kinds):=o2.row (i:=0) rfl
  have o2:Hp h0 h2 (lkL q X x (bkL bp tl V g B R)):=o2.tail.tail
  intro J hJ
  have key:∀ d i:Nat,i+d=6→1≤i→(∀ j,1≤j→j<i→bts w≠at1 kinds j)→J [.string w,Pt q,sv,.int .i64 (i:Int)] h2:=by
   intro d
   induction d with
   | zero =>
    intro i hi h1i hn
    refine hJ _ _ _ _ _ ?_
    unfold round97_20
    rw [qQb,qQa,rk.len,qQd]
    refine ⟨fun hlt=>by
     have:(wsV kinds).length=6:=rfl
     omega,fun _=>?_⟩
    show xs (Am.X.e 1) _ _ _
    rw [xs_e]
    show cond true _ _
    rw [cond_true]
    refine hk.2 (decide_eq_false ?_) _ (qLn o2)
    rw [xEk fun j hj1 hj2=>hn j hj1 (by omega)]
    omega
   | succ d ih =>
    intro i hi h1i hn
    refine hJ _ _ _ _ _ ?_
    unfold round97_20
    rw [qQb,qQa,rk.len,qQd]
    have h6:(wsV kinds).length=6:=rfl
    refine ⟨fun _=>?_,fun hge=>by omega⟩
    have hi6:i<6:=by omega
    have hvi:(wsV kinds)[i]?=some (.string (strB (at1 kinds i))):=by
     have hx:i<kinds.length:=hi6
     unfold wsV at1
     rw [List.getElem?_map,List.getElem?_eq_getElem hx]; rfl
    refine qVq rk hvi fun ad r1=>⟨_,r1,?_⟩
    rw [qVd,qQk]
    have hka:=xIl ⟨i,hi6⟩ (by show 0<i; omega)
    cases heq:(at1 kinds i==bts w) with
    | true =>
     have heq:=eq_of_beq heq
     rw [cond_true]
     have hka:qYd (bts w)=i:=by rw [← heq]; exact hka
     rw [hka] at hk
     refine Hp.grow o2 (i:=1) (j:=1) rfl rfl rfl (by decide) (by rw [Zl]; have:=I.l2; omega) rfl (by decide) rfl fun s2 h5 o5=>?_
     show xs Am.X.r _ _ _
     rw [xs_r,nth0,qQa]
     refine hk.1 (decide_eq_true (by omega)) ⟨X.nm,s2,X.tm,X.nu,X.cf,X.tmr⟩ g h5 (Ext.refl g) ⟨I.tm,fun y hy=>?_,I.nu,I.cf,Nat.le_succ_of_le I.l1,?_,Nat.le_succ_of_le I.l3,Nat.le_succ_of_le I.l4⟩ ?_
     ·rcases List.mem_append.mp hy with hy | hy
      ·exact I.cd y hy
      ·rw [List.mem_singleton.mp hy]; unfold inI; omega
     ·show (x.codes++[(i:Int)]).length≤m+1
      rw [List.length_append]; exact Nat.succ_le_succ I.l2
     ·unfold lkL
      rw [← qSy]
      exact o5
    | false =>
     have heq:=ne_of_beq_false heq
     rw [cond_false,qQo (by omega) (by omega),show (i:Int)+1=((i+1:Nat):Int) by omega]
     refine ih (i+1) (by omega) (by omega) fun j hj1 hj2=>?_
     by_cases hji:j=i
     ·rw [hji]; exact fun e=>heq e.symm
     ·exact hn j hj1 (by omega)
  exact key 5 1 rfl (Nat.le_refl _) fun j hj1 hj2=>by omega
 rw [qXf]
 refine ⟨fun he=>?_,fun hne4=>?_⟩
 ·obtain rfl:=cc 116 he
  rw [qDr,qQm] at hk
  refine ldj (o1.cell (i:=0) rfl) rfl ?_
  have htr:qMc (toSy B.sig) (bts w)=qZo B.sig (bts w):=by
   unfold qMc
   rw [if_neg (by rw [xNu sg]; simp),if_neg (by show ¬ 65536<w.size; omega),if_neg (by rw [hval]; simp),qWk]
  refine st (toSy B.sig) V.sg w h1 _ _ (by omega) (hsr o1) (qQw _ _ o1.ext ht) ?_
  rw [htr]
  cases hq:qZo B.sig (bts w) with
  | error e =>
   rw [hq] at hk
   intro h2 e2
   refine ⟨_,_,rfl,?_⟩
   rw [qZd]
   exact ⟨fun _=>hk h2 (qLn (o1.later e2).tail),fun h0=>absurd h0 (xZk hq)⟩
  | ok l =>
   rw [hq] at hk
   intro v h2 e2 b2
   refine ⟨_,_,rfl,?_⟩
   rw [show ((0:Int) != 0)=false from rfl,cond_false]
   obtain ⟨g',eg,bz,o2⟩:=o1.frz_buf (j:=7) rfl e2 b2
   have o2:Hp h0 h2 (lkL q X x (bkL bp tl V g' B R)):=o2.tail
   have hq':=hq
   rw [← qWk B.sig] at hq'
   have oz:=qRl bz hq' (by show w.size<_; omega) (by rw [qXr]; exact hs64)
   have I2:=I.ext eg
   have htl:=I.tm.len
   refine Hp.grow o2 (i:=2) (j:=2) rfl rfl (qXn bz.row) (by decide) (by have:=I.l3; omega) (qXn bz.row) (by decide) rfl fun s2 h5 o5=>?_
   unfold j97__44
   refine hk ⟨X.nm,X.cd,s2,X.nu,X.cf,X.tmr++[v]⟩ g' h5 eg ⟨I2.tm.push oz,I.cd,I.nu,I2.cf,Nat.le_succ_of_le I.l1,Nat.le_succ_of_le I.l2,?_,Nat.le_succ_of_le I.l4⟩ o5
   show (x.terms++[l]).length≤m+1
   rw [List.length_append]; exact Nat.succ_le_succ I.l3
 rw [qXf]
 refine ⟨fun he=>?_,fun hne5=>?_⟩
 ·obtain rfl:=cc 99 he
  rw [xFu,qQm] at hk
  refine sp w h1 _ _ (by omega) fun a h2 nb=>⟨_,_,rfl,?_⟩
  have hco:=qSp (bts w)
  obtain ⟨g',eg,bz,o2⟩:=o1.frz_buf (j:=7) rfl nb.ext nb.buf
  have o2:Hp h0 h2 (lkL q X x (bkL bp tl V g' B R)):=o2.tail
  rw [qZd]
  refine ⟨fun hz=>?_,fun hz=>⟨rfl,?_⟩⟩
  ·rw [if_neg hz] at hco
   rw [hco] at hk
   exact hk h2 (qLn o2)
  ·rw [if_pos hz] at hco
   rw [hco] at hk
   refine o2.stj (i:=0) (j:=4) rfl (by simp) (qXn bz.row) rfl fun h5 o5=>?_
   unfold j97__44
   have I2:=I.ext eg
   exact hk ⟨X.nm,X.cd,X.tm,X.nu,a,X.tmr⟩ g' h5 eg ⟨I2.tm,I.cd,I.nu,⟨bz.row,nb.ok,nb.small⟩,Nat.le_succ_of_le I.l1,Nat.le_succ_of_le I.l2,Nat.le_succ_of_le I.l3,Nat.le_succ_of_le I.l4⟩ o5
 have o1:Hp h0 h1 (lkL q X x (bkL bp tl V g B R)):=o1.tail
 rw [qXf]
 refine ⟨fun he=>?_,fun hne6=>?_⟩
 ·obtain rfl:=cc 105 he
  rw [xXx,qQm] at hk
  have fort:∀ top:Nat,top<10 ^ 18→(if decide (bts first=wSym)=true then 8 else most)=top→j97__40 D k kp (.string w) (Pt q) (.int .i64 (top:Int)) h1:=fun top h18 htop=>by
   unfold j97__40
   rw [qQb,qQa]
   have hk:Out (opt (numT (bts w) (if decide (bts first=wSym)=true then 8 else most)) 225) _ _:=hk
   rw [htop] at hk
   refine su w top h1 _ _ (by omega) h18 (fun n hn=>⟨_,_,rfl,?_⟩) fun hn y=>⟨_,_,rfl,?_⟩
   ·rw [hn] at hk
    rw [Bool.not_true,cond_false]
    have hn2:=(qWf hn).2
    refine Hp.grow o1 (i:=3) (j:=3) rfl rfl rfl (by decide) (by rw [Zl]; have:=I.l4; omega) rfl (by decide) rfl fun s2 h5 o5=>?_
    unfold j97__44
    refine hk ⟨X.nm,X.cd,X.tm,s2,X.cf,X.tmr⟩ g h5 (Ext.refl g) ⟨I.tm,I.cd,fun y hy=>?_,I.cf,Nat.le_succ_of_le I.l1,Nat.le_succ_of_le I.l2,Nat.le_succ_of_le I.l3,?_⟩ ?_
    ·rcases List.mem_append.mp hy with hy | hy
     ·exact I.nu y hy
     ·rw [List.mem_singleton.mp hy]; unfold inI; omega
    ·show (x.nums++[(n:Int)]).length≤m+1
     rw [List.length_append]; exact Nat.succ_le_succ I.l4
    ·unfold lkL
     rw [← qSy]
     exact o5
   ·rw [hn] at hk
    rw [Bool.not_false,cond_true]
    exact hk h1 (qLn o1)
  rw [qXi,c3]
  exact ⟨fun hf=>fort 8 (by decide) (by rw [decide_eq_true hf]; rfl),fun hf=>fort 2147483647 (by decide) (by rw [decide_eq_false hf]; rfl)⟩
 ·unfold j97__44
  have hok:qYn B.sig (decide (bts first=wSym)) c (bts w) x=.ok x:=by
   unfold qYn
   rw [if_neg (cn 110 hne),if_neg (cn 109 hne2),if_neg (cn 107 hne3),if_neg (cn 116 hne4),if_neg (cn 99 hne5),if_neg (cn 105 hne6)]
  rw [hok] at hk
  exact hk X g h1 (Ext.refl g) I.up o1
end Go.Proofs.YtkdneddcocggdaaGreatDoor.Am
namespace Go.Proofs.Sp
open Go Go.Lib Sys
def isN (c:UInt8):Bool:=c==110
def isC (c:UInt8):Bool:=c==110 || c==109 || c==107
def isT (c:UInt8):Bool:=c==116
def isI (c:UInt8):Bool:=c==105
def cntF (p:UInt8→Bool) (f:Bs):Nat→Nat→Nat
 | _,0=>0
 | j,n+1=>(if p (qXq f j) then 1 else 0)+cntF p f (j+1) n
theorem xPa {sig:Sg} {s:Bool} {c:UInt8} {w:Bs} {x y:Ln} (h:qYn sig s c w x=.ok y) :
  y.names.length=x.names.length+(if isN c then 1 else 0)∧y.codes.length=x.codes.length+(if isC c then 1 else 0)∧y.terms.length=x.terms.length+(if isT c then 1 else 0)∧y.nums.length=x.nums.length+(if isI c then 1 else 0):=by
 unfold qYn at h
 by_cases c1:c=110
 ·subst c1
  rw [if_pos rfl] at h
  split at h
  ·split at h
   ·cases h; simp [isN,isC,isT,isI]
   ·cases h
  ·split at h
   ·cases h
   ·cases h; simp [isN,isC,isT,isI]
 rw [if_neg c1] at h
 by_cases c2:c=109
 ·subst c2
  rw [if_pos rfl] at h
  split at h
  ·cases h
  ·cases h; simp [isN,isC,isT,isI]
 rw [if_neg c2] at h
 by_cases c3:c=107
 ·subst c3
  rw [if_pos rfl] at h
  split at h
  ·cases h; simp [isN,isC,isT,isI]
  ·cases h
 rw [if_neg c3] at h
 by_cases c4:c=116
 ·subst c4
  rw [if_pos rfl] at h
  obtain ⟨t,_,h⟩:=qQg.mp h
  cases h; simp [isN,isC,isT,isI]
 rw [if_neg c4] at h
 by_cases c5:c=99
 ·subst c5
  rw [if_pos rfl] at h
  split at h
  ·cases h
  ·cases h; simp [isN,isC,isT,isI]
 rw [if_neg c5] at h
 by_cases c6:c=105
 ·subst c6
  rw [if_pos rfl] at h
  split at h
  ·cases h
  ·cases h; simp [isN,isC,isT,isI]
 rw [if_neg c6] at h
 cases h
 simp [isN,isC,isT,isI,c1,c2,c3,c4,c6]
theorem qIy {sig:Sg} {s:Bool} {f:Bs}:∀ {ws:List Bs} {j:Nat} {x y:Ln},qVl sig s f j ws x=.ok y →
  y.names.length=x.names.length+cntF isN f j ws.length∧y.codes.length=x.codes.length+cntF isC f j ws.length∧y.terms.length=x.terms.length+cntF isT f j ws.length∧y.nums.length=x.nums.length+cntF isI f j ws.length
 | [],j,x,y,h=>by
  cases h
  exact ⟨rfl,rfl,rfl,rfl⟩
 | w::ws,j,x,y,h=>by
  rw [qXj] at h
  obtain ⟨z,hz,h⟩:=qQg.mp h
  obtain ⟨a1,a2,a3,a4⟩:=xPa hz
  obtain ⟨b1,b2,b3,b4⟩:=qIy h
  simp only [List.length_cons,cntF]
  refine ⟨by omega,by omega,by omega,by omega⟩
end Go.Proofs.Sp
namespace Go.Proofs.YtkdneddcocggdaaGreatDoor.Am
open Go Go.Proofs Go.RowKit Go.Lib Sys Sp
set_option maxRecDepth 100000
variable {D:Orc} {E:Dorc} {h h' h0 g g':H} {k:Kv} {kp:Kp} {L R:List Res} {B:Bk} {V:BkV} {N bp:Nat} {w:List Bs} {wv:Value}
theorem xXy {sig:Sg} {s:Bool} {c:UInt8} {w:Bs} {x:Ln} {e:Int} (h:qYn sig s c w x=.error e):e≠0:=by
 unfold qYn at h
 repeat' split at h
 all_goals first
  | (cases h; done)
  | (cases h; decide)
  | skip
 rename_i hr
 cases hq:qZo sig w with
 | error e' =>
  rw [hq] at h
  cases h
  exact xZk hq
 | ok t=>rw [hq] at h; cases h
abbrev tkL (bp:Nat) (V:BkV) (g:H) (B:Bk) (wv:Value) (w:List Bs) (R:List Res):List Res:=bkL bp [] V g B (bufR wv (wS w)::R)
theorem xVu (sw:qGd D 97 Tbl) (d:Wd w) (hval:∀ x∈w,validD x=true) (hw0:w≠[]) (ht:Tbl h0) (sg:SgOk B.sig) (s:Sm N B) {q:Nat} {f:Bs} {F:Ln→Except Int Bk} {ok:Bk→Prop} {bad:Int→Prop} {X0:LnV} {K:Kl}
  (hK1:∀ X x g' h',Ext g g'→LnI w.length g' X x→qVl B.sig (decide (at1 w 0=wSym)) f 0 w.tail Ln.nil=.ok x→Hp h0 h' (lkL q X x (tkL bp V g' B wv w R))→Out (F x) ok bad→K (.e 0) [Pt bp,wv,Pt q] h')
  (hK2:∀ e h',e≠0→bad e→Hp h0 h' R→K .r [.int .i64 e] h') (I:LnI 0 g X0 Ln.nil) (o:Hp h0 h (lkL q X0 Ln.nil (tkL bp V g B wv w R))) (hk:Out (qVl B.sig (decide (at1 w 0=wSym)) f 0 w.tail Ln.nil >>= F) ok bad) :
  loop48_4 D [Pt bp,wv,.string (strB f),Pt q,.int .i64 1] h K:=by
 intro J hJ
 have hpos:0<w.length:=List.length_pos_iff.mpr hw0
 have hwl:=d.len
 have hsz:(strB f).size=f.length:=qXp f
 have key:∀ m i:Nat,i+m=w.length→1≤i→∀ (X:LnV) (x:Ln) (g1 h1:H),Ext g g1→LnI (i - 1) g1 X x→Hp h0 h1 (lkL q X x (tkL bp V g1 B wv w R))→qVl B.sig (decide (at1 w 0=wSym)) f 0 w.tail Ln.nil=qVl B.sig (decide (at1 w 0=wSym)) f (i - 1) (w.drop i) x →
   J [Pt bp,wv,.string (strB f),Pt q,.int .i64 (i:Int)] h1:=by
  intro m
  induction m with
  | zero =>
   intro i him h1i X x g1 h1 eg I o heq
   have hwr:=d.wr (o.row (i:=16) rfl)
   refine hJ _ _ _ _ _ _ ?_
   unfold round48_4
   rw [qQb,qQa,hwr.len_,qQd]
   refine ⟨fun hlt=>by omega,fun _=>?_⟩
   rw [List.drop_eq_nil_of_le (by omega),qWd] at heq
   rw [heq] at hk
   refine hK1 X x g1 h1 eg ⟨I.tm,I.cd,I.nu,I.cf,?_,?_,?_,?_⟩ heq o hk
   ·have:=I.l1; omega
   ·have:=I.l2; omega
   ·have:=I.l3; omega
   ·have:=I.l4; omega
  | succ m ih =>
   intro i him h1i X x g1 h1 eg I o heq
   have hwr:=d.wr (o.row (i:=16) rfl)
   refine hJ _ _ _ _ _ _ ?_
   unfold round48_4
   rw [qQb,qQa,hwr.len_,qQd]
   refine ⟨fun _=>?_,fun hge=>by omega⟩
   have hil:i<w.length:=by omega
   have hati:at1 w i=w[i]:=by unfold at1; rw [List.getElem?_eq_getElem hil]; rfl
   rw [List.drop_eq_getElem_cons hil,qXj] at heq
   have e1:i - 1+1=i+1 - 1:=by omega
   rw [e1] at heq
   have hwi:IntKind.i64.wrap ((i:Int) - 1)=((i - 1:Nat):Int):=by rw [qQo (by omega) (by omega)]; omega
   have nine:j48_4_9 D J K (Pt bp) wv (.string (strB f)) (Pt q) (.int .i64 (i:Int)) (.int .u8 ((qXq f (i - 1)).toNat:Int)) h1:=by
    unfold j48_4_9
    rw [qQb,qQa,qQa]
    refine ⟨rfl,?_⟩
    rw [qQf]
    refine ⟨_,_,_,_,_,_,rdn (o.cell (i:=5) rfl) (by simp),?_⟩
    refine hwr.at_ (i:=i) hil fun ad1 r1=>⟨_,r1,?_⟩
    refine hwr.at_ (i:=0) hpos fun ad2 r2=>⟨_,r2,?_⟩
    refine sw N (i - 1) q bp X x [] V g1 B (bufR wv (wS w)::R) (qXq f (i - 1)) _ _ h0 h1 _ _ (by omega) (by rw [qXp,hati]; exact d.each _ (List.getElem_mem hil)) (by rw [qQk,hati]; exact hval _ (List.getElem_mem hil)) ht sg s I o ?_
    rw [qQk,qQk,hati]
    cases hq:qYn B.sig (decide (at1 w 0=wSym)) (qXq f (i - 1)) w[i] x with
    | error e =>
     rw [hq] at heq
     rw [heq] at hk
     intro h2 o2
     refine ⟨_,rfl,?_⟩
     rw [qZd]
     exact ⟨fun h0=>hK2 e h2 h0 hk o2.tail,fun h0=>absurd h0 (xXy hq)⟩
    | ok y =>
     rw [hq] at heq
     intro X' g' h2 eg' I' o2
     refine ⟨_,rfl,?_⟩
     rw [show ((0:Int) != 0)=false from rfl,cond_false,qQo (by omega) (by omega),show (i:Int)+1=((i+1:Nat):Int) by omega]
     refine ih (i+1) (by omega) (by omega) X' y g' h2 (eg.trans eg') ?_ o2 heq
     rw [← e1]; exact I'
   rw [hwi,qQd]
   refine ⟨fun hlt=>?_,fun hge=>?_⟩
   ·have hlt:i - 1<f.length:=by omega
    refine qQx (by omega) (by omega) fun b hb=>?_
    rw [Int.toNat_natCast,qQk] at hb
    have hlet:qXq f (i - 1)=if b=42 then 105 else b:=by unfold qXq; rw [hb]
    unfold j48_4_8
    rw [qQb,qQa,qQa,qQc,qZd]
    refine ⟨fun hne=>?_,fun he=>?_⟩
    ·have hb42:b≠42:=fun e=>hne (by rw [e]; rfl)
     rw [hwi]
     refine qQx (by omega) (by omega) fun b' hb'=>?_
     rw [Int.toNat_natCast,qQk,hb] at hb'
     obtain rfl:=Option.some.inj hb'
     rw [if_neg hb42] at hlet
     rw [hlet] at nine
     exact nine
    ·have hb42:b=42:=UInt8.toNat_inj.mp (by show b.toNat=42; omega)
     rw [if_pos hb42] at hlet
     rw [hlet] at nine
     exact nine
   ·have hlet:qXq f (i - 1)=105:=by
     unfold qXq
     rw [List.getElem?_eq_none (by omega)]
    unfold j48_4_8
    rw [qQb,qQa,qQa,qQc,cond_false]
    rw [hlet] at nine
    exact nine
 refine key (w.length - 1) 1 (by omega) (Nat.le_refl _) X0 Ln.nil g h (Ext.refl g) I o ?_
 rw [List.drop_one]
def TkOk (h0:H) (bp:Nat) (wv:Value) (w:List Bs) (R:List Res) (k:Kv) (x:Bk):Prop:=∀ V' g' h',BkI g' V' x→Hp h0 h' (tkL bp V' g' x wv w R)→k (.int .i64 0) h'
def xLk (h0:H) (R:List Res) (k:Kv) (e:Int):Prop:=∀ h',Hp h0 h' R→k (.int .i64 e) h'
theorem xLn (o:Hp h0 h (tkL bp V g B wv w R)):Hp h0 h R:=o.sub (List.drop_sublist 12 (tkL bp V g B wv w R))
theorem qJe (I:BkI g V B) (o:Hp h0 h (tkL bp V g B wv w R)) (hk:Out (qWx B) (TkOk h0 bp wv w R k) (xLk h0 R k)):j48__32 D k kp (Pt bp) h:=by
 have many:(64<B.sig.length∨64<B.rules.length∨64<B.eqs.length)→j48__33 D k kp (.bool true) h:=fun hm=>by
  unfold j48__33
  rw [qQc,cond_true]
  unfold qWx at hk
  rw [if_pos hm] at hk
  exact hk h (xLn o)
 unfold j48__32
 refine ⟨rfl,ldj (o.cell (i:=0) rfl) rfl ?_⟩
 rw [(o.rowK (i:=2) rfl).len,qQt,qXr,qQn,qQd]
 refine ⟨fun hgt=>many (.inl (by omega)),fun h1=>⟨rfl,ldj (o.cell (i:=0) rfl) rfl ?_⟩⟩
 rw [(o.rowK (i:=3) rfl).len,I.ru.len,qQn,qQd]
 refine ⟨fun hgt=>many (.inr (.inl (by omega))),fun h2=>⟨rfl,ldj (o.cell (i:=0) rfl) rfl ?_⟩⟩
 rw [(o.rowK (i:=4) rfl).len,I.eq.len]
 by_cases h3:64<B.eqs.length
 ·rw [decide_eq_true (by omega)]
  exact many (.inr (.inr h3))
 ·rw [decide_eq_false (by omega)]
  unfold j48__33
  rw [qQc,cond_false]
  unfold qWx at hk
  rw [if_neg (by omega)] at hk
  exact hk V g h I o
variable {D:Orc} {E:Dorc} {h h' h0 g g':H} {k:Kv} {kp:Kp} {L R:List Res} {B:Bk} {V:BkV} {N bp:Nat} {w:List Bs} {wv:Value}
def qIh (D:Orc) (f:Nat) (T:H→Prop):Prop:=∀ (N bp:Nat) (syms:Bool) (V:BkV) (g:H) (B:Bk) (wv:Value) (w:List Bs) (R:List Res) h0 h (k:Kv) kp,N<2 ^ 30→w≠[]→Wd w→(∀ x∈w,validD x=true)→T h0→SgOk B.sig→Sm N B→BkI g V B→qNd B syms w→Hp h0 h (tkL bp V g B wv w R) →
 Out (qZx B w) (TkOk h0 bp wv w R k) (xLk h0 R k)→D f [Pt bp,wv] h k kp
theorem qRo {α:Type} {l:List α} (h:l.length=1):∃ a,l=[a]:=List.length_eq_one_iff.mp h
theorem qIz {α:Type} {l:List α} (h:l.length=2):∃ a b,l=[a,b]:=by
 match l,h with
 | [a,b],_=>exact ⟨a,b,rfl⟩
theorem qMw (I:BkI g V B) (hc:B.cert≠[]):∃ pre n vp,B.cert=pre++[n]∧V.cer=vp++[[.int .i64 n.kind,V.lp,V.li,.int .i64 n.kids]]∧Rel2 (NdR g) vp pre∧inI n.kind∧inI n.kids∧V.lpr=n.prec.map qAi∧(∀ x∈n.prec,inP x)∧LastI g V.lm V.lir V.lmr n.ints∧V.cer.length - 1=vp.length:=by
 rcases I.ce with ⟨h1,_⟩ | ⟨pre,n,vp,h1,h2,h3,h4,h5,h6,h7,h8⟩
 ·exact absurd h1 hc
 ·exact ⟨pre,n,vp,h1,h2,h3,h4,h5,h6,h7,h8,by rw [h2]; simp⟩
theorem xYu {ce:Value} {rows vp:List (List Value)} {x:List Value} (r:RowK 4 h ce rows) (hv:rows=vp++[x]) {m:Nat} {v:Value} (hm:x[m]?=some v):rd h (Addr.add (atK ce 4 (rows.length - 1)) m)=some v:=by
 have hlt:rows.length - 1<rows.length:=by rw [hv]; simp
 refine qHa r hlt ?_
 have:rows[rows.length - 1]'hlt=x:=by
  have:rows[rows.length - 1]?=some x:=by rw [hv]; simp
  rw [List.getElem?_eq_getElem hlt] at this
  exact Option.some.inj this
 rw [this]; exact hm
theorem qMf {rows vp:List (List Value)} {x:List Value} (hv:rows=vp++[x]) (hlt:rows.length - 1<rows.length) (m:Nat) (v:Value):rows.set (rows.length - 1) ((rows[rows.length - 1]'hlt).set m v)=vp++[x.set m v]:=by
 subst hv
 simp
theorem xMu (c:Cl48 D) (sf:qGi D 96) (sw:qGd D 97 Tbl):qIh D 48 Tbl:=by
 intro N bp syms V g B wv w R h0 h k kp hN hw0 d hval ht sg s I hf o hk
 have hpos:0<w.length:=List.length_pos_iff.mpr hw0
 refine c _ _ _ _ _ ?_
 unfold F48
 have hwr:=d.wr (o.row (i:=11) rfl)
 refine hwr.at_ (i:=0) hpos fun ad r0=>⟨_,r0,?_⟩
 refine sf _ h _ _ ⟨_,rfl,?_⟩
 rw [qQk]
 refine ((((o.add_nil (a:=none)).add_nil (a:=none)).add_nil (a:=none)).add_nil (a:=none)).new_ fun q h1 hq o1=>?_
 have o1:Hp h0 h1 (lkL q ⟨.slice none 0 0,.slice none 0 0,.slice none 0 0,.slice none 0 0,.slice none 0 0,[]⟩ Ln.nil (tkL bp V g B wv w R)):=o1
 obtain ⟨f1,f2,f3,f4,f5,f6,f7,f8⟩:=hf
 refine xVu sw d hval hw0 ht sg s (F:=fun x=>qWx (putM B (at1 w 0) x)) (ok:=TkOk h0 bp wv w R k) (bad:=xLk h0 R k) (fun X x g1 h2 eg J hx o2 hk=>?_) (fun e h2 he hb o2=>?_)
  ⟨.nil_,(fun c hc=>by cases hc),(fun c hc=>by cases hc),⟨Row.nil_,(fun x hx=>by cases hx),by decide⟩,Nat.le_refl _,Nat.le_refl _,Nat.le_refl _,Nat.le_refl _⟩ o1 hk
 ·show xs (Am.X.e 0) _ _ _
  rw [xs_e]
  show cond true _ _
  rw [cond_true,nth0,nth1,nth2]
  have I1:=I.ext eg
  have rnm:=o2.row (i:=1) rfl
  have rcd:=o2.row (i:=2) rfl
  have rtm:=o2.row (i:=3) rfl
  have rnu:=o2.row (i:=4) rfl
  have hqc:=o2.cell (i:=0) rfl
  have hbc:=o2.cell (i:=5) rfl
  have ob:Hp h0 h2 (tkL bp V g1 B wv w R):=o2.tail.tail.tail.tail.tail
  have hwr:=d.wr (ob.row (i:=11) rfl)
  have rce:RowK 4 h2 V.ce V.cer:=ob.rowK (i:=6) rfl
  have hcl:=I1.ce.len
  have hcN:=s.cert
  obtain ⟨n1,n2,n3,n4⟩:=qIy hx
  have hwt:w.tail.length=w.length - 1:=List.length_tail
  rw [hwt] at n1 n2 n3 n4
  have num:∀ {f:Bs},qVn (at1 w 0)=f→f≠[120]→f≠[99,42]→w.length - 1=f.length:=fun {f} hf _ h2=>by
   have:=f3 (by rw [hf]; exact h2)
   rw [hf] at this
   omega
  refine ⟨rfl,ldj hbc rfl ?_⟩
  rw [rce.len,hcl]
  refine hwr.at_ (i:=0) hpos fun ad r0=>⟨_,r0,?_⟩
  have c1:bts (ByteArray.mk #[115,121,109])=wSym:=rfl
  have c2:bts (ByteArray.mk #[114,117,108,101])=qJw:=rfl
  have c3:bts (ByteArray.mk #[101,113])=wEq:=rfl
  have c4:bts (ByteArray.mk #[97,98,111,118,101])=qVc:=rfl
  have c5:bts (ByteArray.mk #[110,111,100,101])=qYw:=rfl
  have c6:bts (ByteArray.mk #[111,118,101,114])=qVv:=rfl
  have c7:bts (ByteArray.mk #[115,101,116])=wSet:=rfl
  have c8:bts (ByteArray.mk #[109,111,110,111])=qVo:=rfl
  unfold putM at hk
  rw [qXi,qQk,c1]
  refine ⟨fun hc=>?_,fun hc=>?_⟩
  ·rw [if_pos hc] at hk
   have hl:=num (f:=[110,105]) (by rw [hc]; rfl) (by decide) (by decide)
   have hform:qVn (at1 w 0)=[110,105]:=by rw [hc]; rfl
   rw [hform,hl] at n1 n4
   obtain ⟨a,ha⟩:=qRo (l:=x.names) n1
   obtain ⟨n,hn⟩:=qRo (l:=x.nums) n4
   rw [ha,hn] at hk
   rw [ha] at rnm
   rw [hn] at rnu
   refine ⟨rfl,ldj hbc rfl ⟨rfl,ldj hqc rfl ?_⟩⟩
   refine qVq (i:=0) rnm rfl fun ad r1=>⟨_,r1,rfl,ldj hqc rfl ?_⟩
   refine qVq (i:=0) rnu rfl fun ad r1=>⟨_,r1,rfl,by decide,rfl,by decide,rfl,by decide,?_⟩
   have hs64:=s.sig
   refine ob.pushK (i:=2) rfl rfl rfl (by decide) (by rw [qQt,qXr]; omega) rfl fun s' h5 o5=>⟨rfl,?_⟩
   have o5:Hp h0 h5 (qQp bp [V.sg,V.ru,V.eq,V.pr,V.ce,V.co]::frzR g1::bufK 2 s' (qWq (toSy B.sig)++[[.string (strB a),.int .i64 n]])::(tkL bp V g1 B wv w R).drop 3):=o5
   refine o5.stj (i:=0) (j:=0) rfl (by simp) (qQu (o5.rowK (i:=2) rfl).isSl) rfl fun h6 o6=>?_
   have o6:Hp h0 h6 (tkL bp { V with sg:=s' } g1 { B with sig:=B.sig++[(a,n)] } wv w R):=by
    unfold tkL bkL
    rw [qOm]
    exact o6
   exact qJe (V:={ V with sg:=s' }) (B:={ B with sig:=B.sig++[(a,n)] }) ⟨I1.ru,I1.eq,I1.pr,I1.ce,I1.co⟩ o6 hk
  rw [if_neg hc] at hk
  rw [qXi,qQk,c2]
  refine ⟨fun hc=>?_,fun hc=>?_⟩
  ·rw [if_pos hc] at hk
   have hl:=num (f:=[116,62,116]) (by rw [hc]; rfl) (by decide) (by decide)
   have hform:qVn (at1 w 0)=[116,62,116]:=by rw [hc]; rfl
   rw [hform,hl] at n3
   obtain ⟨t1,t2,ha⟩:=qIz (l:=x.terms) n3
   have jt:=J.tm
   rw [ha] at hk jt
   obtain ⟨v1,v2,hv⟩:=qIz (l:=X.tmr) jt.len
   rw [hv] at jt rtm
   have z1:=jt.at_ 0 v1 t1 rfl rfl
   have z2:=jt.at_ 1 v2 t2 rfl rfl
   refine ⟨rfl,ldj hbc rfl ⟨rfl,ldj hqc rfl ?_⟩⟩
   refine qVq (i:=0) rtm rfl fun ad r1=>⟨_,r1,rfl,ldj hqc rfl ?_⟩
   refine qVq (i:=1) rtm rfl fun ad r1=>⟨_,r1,qXn z1.buf.row,by decide,qXn z2.buf.row,by decide,rfl,by decide,?_⟩
   have hr64:=s.rules
   have hrl:=I1.ru.len
   refine ob.pushK (i:=3) rfl rfl rfl (by decide) (by omega) (qAl (qXn z1.buf.row) (qXn z2.buf.row)) fun s' h5 o5=>⟨rfl,?_⟩
   refine o5.stj (i:=0) (j:=1) rfl (by simp) (qQu (o5.rowK (i:=3) rfl).isSl) rfl fun h6 o6=>?_
   have o6:Hp h0 h6 (tkL bp { V with ru:=s',rur:=V.rur++[[v1,v2]] } g1 { B with rules:=B.rules++[(t1,t2)] } wv w R):=o6
   exact qJe (V:={ V with ru:=s',rur:=V.rur++[[v1,v2]] }) (B:={ B with rules:=B.rules++[(t1,t2)] }) ⟨I1.ru.push ⟨v1,v2,rfl,z1,z2⟩,I1.eq,I1.pr,I1.ce,I1.co⟩ o6 hk
  rw [if_neg hc] at hk
  rw [qXi,qQk,c3]
  refine ⟨fun hc=>?_,fun hc=>?_⟩
  ·rw [if_pos hc] at hk
   have hl:=num (f:=[116,61,116]) (by rw [hc]; rfl) (by decide) (by decide)
   have hform:qVn (at1 w 0)=[116,61,116]:=by rw [hc]; rfl
   rw [hform,hl] at n3
   obtain ⟨t1,t2,ha⟩:=qIz (l:=x.terms) n3
   have jt:=J.tm
   rw [ha] at hk jt
   obtain ⟨v1,v2,hv⟩:=qIz (l:=X.tmr) jt.len
   rw [hv] at jt rtm
   have z1:=jt.at_ 0 v1 t1 rfl rfl
   have z2:=jt.at_ 1 v2 t2 rfl rfl
   refine ⟨rfl,ldj hbc rfl ⟨rfl,ldj hqc rfl ?_⟩⟩
   refine qVq (i:=0) rtm rfl fun ad r1=>⟨_,r1,rfl,ldj hqc rfl ?_⟩
   refine qVq (i:=1) rtm rfl fun ad r1=>⟨_,r1,qXn z1.buf.row,by decide,qXn z2.buf.row,by decide,rfl,by decide,?_⟩
   have hr64:=s.eqs
   have hrl:=I1.eq.len
   refine ob.pushK (i:=4) rfl rfl rfl (by decide) (by omega) (qAl (qXn z1.buf.row) (qXn z2.buf.row)) fun s' h5 o5=>⟨rfl,?_⟩
   refine o5.stj (i:=0) (j:=2) rfl (by simp) (qQu (o5.rowK (i:=4) rfl).isSl) rfl fun h6 o6=>?_
   have o6:Hp h0 h6 (tkL bp { V with eq:=s',eqr:=V.eqr++[[v1,v2]] } g1 { B with eqs:=B.eqs++[(t1,t2)] } wv w R):=o6
   exact qJe (V:={ V with eq:=s',eqr:=V.eqr++[[v1,v2]] }) (B:={ B with eqs:=B.eqs++[(t1,t2)] }) ⟨I1.ru,I1.eq.push ⟨v1,v2,rfl,z1,z2⟩,I1.pr,I1.ce,I1.co⟩ o6 hk
  rw [if_neg hc] at hk
  rw [qXi,qQk,c4]
  refine ⟨fun hc=>?_,fun hc=>?_⟩
  ·rw [if_pos hc] at hk
   have hl:=num (f:=[110,110]) (by rw [hc]; rfl) (by decide) (by decide)
   have hform:qVn (at1 w 0)=[110,110]:=by rw [hc]; rfl
   rw [hform,hl] at n2
   obtain ⟨a,b,ha⟩:=qIz (l:=x.codes) n2
   have jc:=J.cd
   rw [ha] at hk rcd jc
   refine ⟨rfl,ldj hbc rfl ⟨rfl,ldj hqc rfl ?_⟩⟩
   refine qVq (i:=0) rcd rfl fun ad r1=>⟨_,r1,rfl,ldj hqc rfl ?_⟩
   refine qVq (i:=1) rcd rfl fun ad r1=>⟨_,r1,rfl,by decide,rfl,by decide,rfl,by decide,?_⟩
   have hpr:=s.prec
   refine ob.pushK (i:=5) rfl rfl rfl (by decide) (by rw [List.length_map]; omega) rfl fun s' h5 o5=>⟨rfl,?_⟩
   refine o5.stj (i:=0) (j:=3) rfl (by simp) (qQu (o5.rowK (i:=5) rfl).isSl) rfl fun h6 o6=>?_
   have o6:Hp h0 h6 (tkL bp { V with pr:=s' } g1 { B with prec:=B.prec++[(a,b)] } wv w R):=by
    unfold tkL bkL
    rw [qEl]
    exact o6
   exact qJe (V:={ V with pr:=s' }) (B:={ B with prec:=B.prec++[(a,b)] }) ⟨I1.ru,I1.eq,fun y hy=>by
    rcases List.mem_append.mp hy with hy | hy
    ·exact I1.pr y hy
    ·rw [List.mem_singleton.mp hy]; exact ⟨jc a (by simp),jc b (by simp)⟩,I1.ce,I1.co⟩ o6 hk
  rw [if_neg hc] at hk
  rw [qXi,qQk,c5]
  refine ⟨fun hc=>?_,fun hc=>?_⟩
  ·rw [if_pos hc] at hk
   have hl:=num (f:=[107,105]) (by rw [hc]; rfl) (by decide) (by decide)
   have hform:qVn (at1 w 0)=[107,105]:=by rw [hc]; rfl
   rw [hform,hl] at n2 n4
   obtain ⟨a,ha⟩:=qRo (l:=x.codes) n2
   obtain ⟨n,hn⟩:=qRo (l:=x.nums) n4
   have jc:=J.cd
   have jn:=J.nu
   rw [ha,hn] at hk
   rw [ha] at rcd jc
   rw [hn] at rnu jn
   refine ⟨rfl,ldj hbc rfl ⟨rfl,ldj hqc rfl ?_⟩⟩
   refine qVq (i:=0) rcd rfl fun ad r1=>⟨_,r1,rfl,ldj hqc rfl ?_⟩
   refine qVq (i:=0) rnu rfl fun ad r1=>⟨_,r1,rfl,by decide,rfl,by decide,rfl,by decide,?_⟩
   obtain ⟨g2,eg2,o5,hnd⟩:=xQz ob I1 s (by omega)
   have hlen:=hnd.len
   refine o5.pushK (i:=6) rfl rfl rfl (by decide) (by show V.cer.length<_; omega) rfl fun s' h5 o6=>⟨rfl,?_⟩
   refine o6.stj (i:=0) (j:=4) rfl (by simp) (qQu (o6.rowK (i:=6) rfl).isSl) rfl fun h6 o7=>?_
   have I2:=I1.ext eg2
   exact qJe (V:={ V with ce:=s',cer:=V.cer++[[.int .i64 a,.slice none 0 0,.slice none 0 0,.int .i64 n]],lm:=.slice none 0 0,lmr:=[],li:=.slice none 0 0,lir:=[],lp:=.slice none 0 0,lpr:=[] })
    (B:={ B with cert:=B.cert++[⟨a,n,[],[]⟩] }) (g:=g2) ⟨I2.ru,I2.eq,I2.pr,.inr ⟨B.cert,_,V.cer,rfl,rfl,hnd,jc a (by simp),jn n (by simp),rfl,(fun x hx=>by cases hx),.inl ⟨rfl,rfl,rfl⟩⟩,I2.co⟩ o7 hk
  rw [if_neg hc] at hk
  have hwrap:∀ {m:Nat},m=V.cer.length→0<m→m<2 ^ 40→IntKind.i64.wrap ((m:Int) - 1)=((V.cer.length - 1:Nat):Int):=fun {m} hm h0 h1=>by rw [qQo (by omega) (by omega)]; omega
  rw [qXi,qQk,c6]
  refine ⟨fun hc=>?_,fun hc=>?_⟩
  ·rw [if_pos hc] at hk
   have hl:=num (f:=[109,109]) (by rw [hc]; rfl) (by decide) (by decide)
   have hform:qVn (at1 w 0)=[109,109]:=by rw [hc]; rfl
   rw [hform,hl] at n2
   obtain ⟨a,b,ha⟩:=qIz (l:=x.codes) n2
   have jc:=J.cd
   rw [ha] at hk rcd jc
   obtain ⟨pre,n,vp,e1,e2,e3,e4,e5,e6,e7,e8,e9⟩:=qMw I1 (f7 (.inl hc))
   have hlast:B.cert.getLast?=some n:=by rw [e1]; simp
   rw [hlast] at hk
   dsimp only at hk
   rw [qJl e1] at hk
   have hcp:0<V.cer.length:=by rw [e2]; simp
   have hlt:V.cer.length - 1<V.cer.length:=by omega
   have hw1:=hwrap (m:=B.cert.length) hcl.symm (by omega) (by omega)
   refine ⟨rfl,ldj hbc rfl ⟨rfl,ldj hbc rfl ?_⟩⟩
   rw [hw1]
   refine qWp rce hlt ⟨V.lp,xYu rce e2 rfl,rfl,ldj hqc rfl ?_⟩
   refine qVq (i:=0) rcd rfl fun ad r1=>⟨_,r1,rfl,ldj hqc rfl ?_⟩
   refine qVq (i:=1) rcd rfl fun ad r1=>⟨_,r1,rfl,by decide,rfl,by decide,rfl,by decide,?_⟩
   have hpr:=(s.nd n (by rw [e1]; simp)).1
   refine ob.pushK (i:=8) rfl rfl rfl (by decide) (by rw [e6,List.length_map]; omega) rfl fun s' h5 o5=>?_
   have o5:Hp h0 h5 (tkL bp { V with lp:=s',lpr:=V.lpr++[[.int .i64 a,.int .i64 b]] } g1 B wv w R):=o5
   refine ⟨qVr (o5.cell (i:=0) rfl) rfl,qWp (o5.rowK (i:=6) rfl) hlt ?_⟩
   have hsl:one s'=true:=qQu (o5.rowK (i:=8) rfl).isSl
   obtain ⟨h6,hw6,o6⟩:=o5.wr_atK (i:=6) (j:=V.cer.length - 1) (m:=1) (v:=s') rfl hlt (by decide)
   refine ⟨hsl,rfl,h6,hw6,?_⟩
   rw [qMf e2] at o6
   exact qJe (V:={ V with lp:=s',lpr:=V.lpr++[[.int .i64 a,.int .i64 b]],cer:=vp++[[.int .i64 n.kind,s',V.li,.int .i64 n.kids]] }) (B:={ B with cert:=pre++[{ n with prec:=n.prec++[(a,b)] }] }) (g:=g1)
    ⟨I1.ru,I1.eq,I1.pr,.inr ⟨pre,_,vp,rfl,rfl,e3,e4,e5,by show V.lpr++_=_; rw [e6,qEl],(fun y hy=>by
     rcases List.mem_append.mp hy with hy | hy
     ·exact e7 y hy
     ·rw [List.mem_singleton.mp hy]; exact ⟨jc a (by simp),jc b (by simp)⟩),e8⟩,I1.co⟩ o6 hk
  rw [if_neg hc] at hk
  rw [qXi,qQk,c7]
  refine ⟨fun hc=>?_,fun hc=>?_⟩
  ·rw [if_pos hc] at hk
   have hl:=num (f:=[109]) (by rw [hc]; rfl) (by decide) (by decide)
   have hform:qVn (at1 w 0)=[109]:=by rw [hc]; rfl
   rw [hform,hl] at n2
   obtain ⟨a,ha⟩:=qRo (l:=x.codes) n2
   have jc:=J.cd
   rw [ha] at hk rcd jc
   obtain ⟨pre,n,vp,e1,e2,e3,e4,e5,e6,e7,e8,e9⟩:=qMw I1 (f7 (.inr hc))
   have hlast:B.cert.getLast?=some n:=by rw [e1]; simp
   rw [hlast] at hk
   dsimp only at hk
   rw [qJl e1] at hk
   have hcp:0<V.cer.length:=by rw [e2]; simp
   have hlt:V.cer.length - 1<V.cer.length:=by omega
   have hw1:=hwrap (m:=B.cert.length) hcl.symm (by omega) (by omega)
   refine ⟨rfl,ldj hbc rfl ⟨rfl,ldj hbc rfl ?_⟩⟩
   rw [hw1]
   refine qWp rce hlt ⟨V.li,xYu rce e2 rfl,rfl,ldj hqc rfl ?_⟩
   refine qVq (i:=0) rcd rfl fun ad r1=>⟨_,r1,rfl,by decide,rfl,by decide,?_⟩
   obtain ⟨g2,eg2,o3,hit⟩:=xXa ob I1 s (by omega)
   have hit:=hit n (by rw [e1]; simp)
   have hil:=(s.nd n (by rw [e1]; simp)).2.1
   have hirl:=hit.len
   refine o3.pushK (i:=9) rfl rfl rfl (by decide) (by show V.lir.length<_; omega) rfl fun s' h5 o5=>?_
   have o5:Hp h0 h5 (tkL bp { V with li:=s',lir:=V.lir++[[.int .i64 a,.slice none 0 0]],lm:=.slice none 0 0,lmr:=[] } g2 B wv w R):=o5
   refine ⟨qVr (o5.cell (i:=0) rfl) rfl,qWp (o5.rowK (i:=6) rfl) hlt ?_⟩
   have hsl:one s'=true:=qQu (o5.rowK (i:=9) rfl).isSl
   obtain ⟨h6,hw6,o6⟩:=o5.wr_atK (i:=6) (j:=V.cer.length - 1) (m:=2) (v:=s') rfl hlt (by decide)
   refine ⟨hsl,rfl,h6,hw6,?_⟩
   rw [qMf e2] at o6
   have I2:=I1.ext eg2
   exact qJe (V:={ V with li:=s',lir:=V.lir++[[.int .i64 a,.slice none 0 0]],lm:=.slice none 0 0,lmr:=[],cer:=vp++[[.int .i64 n.kind,V.lp,s',.int .i64 n.kids]] }) (B:={ B with cert:=pre++[{ n with ints:=n.ints++[⟨a,[]⟩] }] }) (g:=g2)
    ⟨I2.ru,I2.eq,I2.pr,.inr ⟨pre,_,vp,rfl,rfl,e3.mono fun _ _=>NdR.ext eg2,e4,e5,e6,e7,.inr ⟨n.ints,⟨a,[]⟩,V.lir,rfl,rfl,hit,jc a (by simp),.nil_⟩⟩,I2.co⟩ o6 hk
  rw [if_neg hc] at hk
  rw [qXi,qQk,c8]
  refine ⟨fun hc=>?_,fun hc=>?_⟩
  ·rw [if_pos hc] at hk
   obtain ⟨n0,hn0,hi0⟩:=f8 hc
   have hcne:B.cert≠[]:=fun e=>by rw [e] at hn0; cases hn0
   obtain ⟨pre,n,vp,e1,e2,e3,e4,e5,e6,e7,e8,e9⟩:=qMw I1 hcne
   have hlast:B.cert.getLast?=some n:=by rw [e1]; simp
   obtain rfl:n=n0:=by rw [hlast] at hn0; exact Option.some.inj hn0
   rcases e8 with ⟨i1,_⟩ | ⟨ipre,it,vip,i1,i2,i3,i4,i5⟩
   ·exact absurd i1 hi0
   have hilast:n.ints.getLast?=some it:=by rw [i1]; simp
   have hdl:n.ints.dropLast=ipre:=by rw [i1,List.dropLast_concat]
   rw [hlast] at hk
   dsimp only at hk
   rw [hilast] at hk
   dsimp only at hk
   rw [qJl e1,hdl] at hk
   have hcp:0<V.cer.length:=by rw [e2]; simp
   have hlt:V.cer.length - 1<V.cer.length:=by omega
   have hw1:=hwrap (m:=B.cert.length) hcl.symm (by omega) (by omega)
   have rli:RowK 2 h2 V.li V.lir:=ob.rowK (i:=9) rfl
   have hsm:=s.nd n (by rw [e1]; simp)
   have hirl:V.lir.length=n.ints.length:=by rw [i1,i2,List.length_append,List.length_append,i3.len]; rfl
   have hip:0<V.lir.length:=by rw [i2]; simp
   have hlt2:V.lir.length - 1<V.lir.length:=by omega
   have hw2:IntKind.i64.wrap ((V.lir.length:Int) - 1)=((V.lir.length - 1:Nat):Int):=by have:=hsm.2.1; rw [qQo (by omega) (by omega)]; omega
   refine ⟨rfl,ldj hbc rfl ?_⟩
   rw [hw1]
   refine qWp rce hlt ⟨V.li,xYu rce e2 rfl,?_⟩
   rw [rli.len]
   refine ⟨rfl,ldj hbc rfl ?_⟩
   refine qWp rce hlt ⟨V.li,xYu rce e2 rfl,rfl,ldj hbc rfl ?_⟩
   refine qWp rce hlt ⟨V.li,xYu rce e2 rfl,?_⟩
   rw [hw2]
   have hxl:V.lir[V.lir.length - 1]'hlt2=[.int .i64 it.sym,V.lm]:=by
    have:V.lir[V.lir.length - 1]?=some [.int .i64 it.sym,V.lm]:=by rw [i2]; simp
    rw [List.getElem?_eq_getElem hlt2] at this
    exact Option.some.inj this
   refine qWp rli hlt2 ⟨V.lm,qHa rli hlt2 (by rw [hxl]; rfl),rfl,ldj hqc rfl ⟨rfl,ldj hqc rfl ?_⟩⟩
   have hcf:one X.cf=true:=qXn J.cf.row
   refine ⟨hcf,by decide,qXn rnu,by decide,rfl,by decide,?_⟩
   obtain ⟨g2,eg2,ok2,o3⟩:=o2.freezeAt (i:=4) (j:=6) rfl rfl (by decide)
   have o3:Hp h0 h2 (tkL bp V g2 B wv w R):=o3.tail.tail.tail.tail.tail
   have hml:=i5.len
   have hpl:=hsm.2.2 it (by rw [i1]; simp)
   refine o3.pushK (i:=10) rfl rfl rfl (by decide) (by omega) (qAl hcf (qXn rnu)) fun s' h5 o5=>?_
   have o5:Hp h0 h5 (tkL bp { V with lm:=s',lmr:=V.lmr++[[X.cf,X.nu]] } g2 B wv w R):=o5
   have rce5:RowK 4 h5 V.ce V.cer:=o5.rowK (i:=6) rfl
   refine ⟨xYu rce5 e2 rfl,qVr (o5.cell (i:=0) rfl) rfl,qWp (o5.rowK (i:=9) rfl) hlt2 ?_⟩
   have hsl:one s'=true:=qQu (o5.rowK (i:=10) rfl).isSl
   obtain ⟨h6,hw6,o6⟩:=o5.wr_atK (i:=9) (j:=V.lir.length - 1) (m:=1) (v:=s') rfl hlt2 (by decide)
   refine ⟨hsl,rfl,h6,hw6,?_⟩
   rw [qMf i2] at o6
   have I2:=I1.ext eg2
   have hnl:x.nums.length<2 ^ 40:=by have:=J.l4; have:=d.len; omega
   exact qJe (V:={ V with lm:=s',lmr:=V.lmr++[[X.cf,X.nu]],lir:=vip++[[.int .i64 it.sym,s']] }) (B:={ B with cert:=pre++[{ n with ints:=ipre++[{ it with p:=it.p++[⟨x.coef,x.nums⟩] }] }] }) (g:=g2)
    ⟨I2.ru,I2.eq,I2.pr,.inr ⟨pre,_,vp,rfl,e2,e3.mono fun _ _=>NdR.ext eg2,e4,e5,e6,e7,
     .inr ⟨ipre,{ it with p:=it.p++[⟨x.coef,x.nums⟩] },vip,rfl,rfl,i3.mono fun _ _=>ItR.ext eg2,i4,(i5.mono fun _ _=>MoR.ext eg2).push ⟨X.cf,X.nu,rfl,J.cf.ext eg2,⟨Buf.row ok2,hnl,J.nu⟩⟩⟩⟩,I2.co⟩ o6 hk
  rw [if_neg hc] at hk
  refine ⟨rfl,ldj hbc rfl ?_⟩
  refine hwr.at_ (i:=0) hpos fun ad r0=>⟨_,r0,rfl,ldj hqc rfl ⟨rfl,by decide,qXn rtm,by decide,rfl,by decide,?_⟩⟩
  obtain ⟨g2,eg2,ok2,o3⟩:=o2.freezeAt (i:=3) (j:=6) rfl rfl (by decide)
  have o3:Hp h0 h2 (tkL bp V g2 B wv w R):=o3.tail.tail.tail.tail.tail
  have I2:=I1.ext eg2
  have hcm:=s.cmds
  have hcol:=I2.co.len
  refine o3.pushK (i:=7) rfl rfl rfl (by decide) (by omega) (qAl rfl (qXn rtm)) fun s' h5 o5=>⟨rfl,?_⟩
  refine o5.stj (i:=0) (j:=5) rfl (by simp) (qQu (o5.rowK (i:=7) rfl).isSl) rfl fun h6 o6=>?_
  have o6:Hp h0 h6 (tkL bp { V with co:=s',cor:=V.cor++[[.string (strB (at1 w 0)),X.tm]] } g2 { B with cmds:=B.cmds++[⟨at1 w 0,x.terms⟩] } wv w R):=o6
  have hwl:=qGk (i:=0) d
  refine qJe (V:={ V with co:=s',cor:=V.cor++[[.string (strB (at1 w 0)),X.tm]] }) (B:={ B with cmds:=B.cmds++[⟨at1 w 0,x.terms⟩] }) (g:=g2)
   ⟨I2.ru,I2.eq,I2.pr,I2.ce,I2.co.push ⟨X.tm,X.tmr,rfl,by show (at1 w 0).length<_; omega,Buf.row ok2,J.tm.mono fun _ _ o=>(o.ext eg2).ir,by show x.terms.length<_; have:=J.l3; have:=d.len; omega⟩⟩ o6 hk
 ·show xs Am.X.r _ _ _
  rw [xs_r,nth0,qQa]
  exact hb h2 o2
end Go.Proofs.YtkdneddcocggdaaGreatDoor.Am
namespace Go.Proofs.Sp
open Go Go.Lib Sys
theorem qSn (x:UInt8):∀ l:Bs,(qVb x l).length=l.count x+1
 | []=>rfl
 | b::l=>by
  have ih:=qSn x l
  unfold qVb
  by_cases hb:b=x
  ·rw [if_pos hb,List.length_cons,ih,hb,List.count_cons_self]
  ·rw [if_neg hb,List.count_cons_of_ne hb]
   cases hc:qVb x l with
   | nil=>rw [hc] at ih; simp at ih
   | cons c cs =>
    rw [hc] at ih
    simpa using ih
theorem qSm {x:UInt8} (hx:x.toNat<128):∀ (n:Nat) (l:Bs),l.length≤n→validD l=true→∀ p∈qVb x l,validD p=true:=by
 intro n
 induction n with
 | zero =>
  intro l hl hv p hp
  have:l=[]:=List.length_eq_zero_iff.mp (by omega)
  subst this
  rw [List.mem_singleton.mp hp]; rfl
 | succ n ih =>
  intro l hl hv p hp
  rcases qCw x l with ⟨_,h2⟩ | ⟨i,_,h2,h3,h4⟩
  ·rw [qBx x _ h2] at hp
   rw [List.mem_singleton.mp hp]; exact hv
  ·rw [h3,xVx hx,Bool.and_eq_true] at hv
   rw [h3,qSo x _ _ h4] at hp
   rcases List.mem_cons.mp hp with hp | hp
   ·rw [hp]; exact hv.1
   ·exact ih _ (by rw [List.length_drop]; omega) hv.2 p hp
theorem qTd {l:Bs} (h:validD l=true):∀ w∈qXd l,validD w=true:=fun w hw=>by
 unfold qXd at hw
 rw [List.mem_filter] at hw
 exact qSm (by decide) _ l (Nat.le_refl _) h w hw.1
theorem xUb {l:List Bs} {s a:Bs}:symI (l++[a]) s=match symI l s with
  | some c=>some c
  | none=>if a=s then some l.length else none:=by
 unfold symI
 rw [List.findIdx?_append]
 cases h:l.findIdx? (·==s) with
 | some c=>rfl
 | none =>
  by_cases ha:a=s
  ·simp [List.findIdx?_cons,ha]
  ·simp [List.findIdx?_cons,ha]
theorem SgOk.push {sig:Sg} (o:SgOk sig) {a:Bs} {n:Int} (h1:qPf a=true) (h2:symI (sig.map (·.1)) a=none) (h3:0≤n∧n≤8) (h4:sig.length+1≤64):SgOk (sig++[(a,n)]):=by
 refine ⟨fun x hx=>?_,fun c x hc=>?_,fun x hx=>?_,by rw [List.length_append]; exact h4⟩
 ·rcases List.mem_append.mp hx with hx | hx
  ·exact o.nm x hx
  ·rw [List.mem_singleton.mp hx]; exact h1
 ·rw [List.map_append]
  show symI (sig.map (·.1)++[a]) x.1=some c
  rw [xUb]
  by_cases hc2:c<sig.length
  ·rw [List.getElem?_append_left hc2] at hc
   rw [o.own c x hc]
  ·rw [List.getElem?_append_right (by omega)] at hc
   have hc0:c - sig.length=0:=by
    have:=(List.getElem?_eq_some_iff.mp hc).1
    simp at this; omega
   rw [hc0] at hc
   obtain rfl:(a,n)=x:=Option.some.inj hc
   rw [h2]
   show (if a=a then some (sig.map (·.1)).length else none)=some c
   rw [if_pos rfl,List.length_map]
   congr 1
   omega
 ·rcases List.mem_append.mp hx with hx | hx
  ·exact o.ar x hx
  ·rw [List.mem_singleton.mp hx]; exact h3
theorem qYj {α β:Type} {x:Option α} {e:Int} {f:α→Except Int β} {b:β} (h:(opt x e >>= f)=.ok b):∃ a,x=some a∧f a=.ok b:=by
 obtain ⟨a,ha,h⟩:=qQg.mp h
 exact ⟨a,qHd.mp ha,h⟩
theorem qJq {β:Type} {x:Bool} {e:Int} {f:Unit→Except Int β} {b:β} (h:(must x e >>= f)=.ok b):x=true∧f ()=.ok b:=by
 obtain ⟨a,ha,h⟩:=qQg.mp h
 exact ⟨qKq.mp ha,h⟩
theorem xEe {B B':Bk} {w:List Bs} (h:qWl B w=.ok B'):B'.sig=B.sig:=by
 unfold qWl at h
 dsimp only at h
 by_cases c0:at1 w 0=qJw
 ·rw [if_pos c0] at h
  obtain ⟨r,_,h⟩:=qQg.mp h
  obtain ⟨_,h⟩:=qJq h
  cases h; rfl
 rw [if_neg c0] at h
 by_cases c1:at1 w 0=wEq
 ·rw [if_pos c1] at h
  obtain ⟨r,_,h⟩:=qQg.mp h
  obtain ⟨_,h⟩:=qJq h
  cases h; rfl
 rw [if_neg c1] at h
 by_cases c2:at1 w 0=qVc
 ·rw [if_pos c2] at h
  obtain ⟨_,_,h⟩:=qQg.mp h
  obtain ⟨_,_,h⟩:=qYj h
  obtain ⟨_,_,h⟩:=qYj h
  cases h; rfl
 rw [if_neg c2] at h
 by_cases c3:at1 w 0=qYw
 ·rw [if_pos c3] at h
  obtain ⟨_,_,h⟩:=qQg.mp h
  obtain ⟨_,h⟩:=qJq h
  obtain ⟨_,_,h⟩:=qYj h
  cases h; rfl
 rw [if_neg c3] at h
 by_cases c4:at1 w 0=qVv
 ·rw [if_pos c4] at h
  obtain ⟨_,_,h⟩:=qQg.mp h
  obtain ⟨_,_,h⟩:=qQg.mp h
  obtain ⟨_,_,h⟩:=qYj h
  obtain ⟨_,_,h⟩:=qYj h
  cases h; rfl
 rw [if_neg c4] at h
 by_cases c5:at1 w 0=wSet
 ·rw [if_pos c5] at h
  obtain ⟨_,_,h⟩:=qQg.mp h
  obtain ⟨_,_,h⟩:=qQg.mp h
  obtain ⟨_,_,h⟩:=qYj h
  cases h; rfl
 rw [if_neg c5] at h
 by_cases c6:at1 w 0=qVo
 ·rw [if_pos c6] at h
  obtain ⟨_,h⟩:=qJq h
  obtain ⟨_,_,h⟩:=qQg.mp h
  obtain ⟨_,_,h⟩:=qYj h
  obtain ⟨_,_,h⟩:=qYj h
  obtain ⟨_,_,h⟩:=qYj h
  cases h; rfl
 rw [if_neg c6] at h
 by_cases c7:at1 w 0=qWy∨at1 w 0=qZa∨at1 w 0=qAg∨at1 w 0=qWm∨at1 w 0=qZb
 ·rw [if_pos c7] at h
  obtain ⟨_,_,h⟩:=qQg.mp h
  cases h; rfl
 rw [if_neg c7] at h
 by_cases c8:at1 w 0=qZk
 ·rw [if_pos c8] at h
  obtain ⟨_,_,h⟩:=qQg.mp h
  obtain ⟨_,_,h⟩:=qQg.mp h
  cases h; rfl
 rw [if_neg c8] at h
 by_cases c9:at1 w 0=qVp
 ·rw [if_pos c9] at h
  obtain ⟨_,_,h⟩:=qQg.mp h
  cases h; rfl
 ·rw [if_neg c9] at h
  cases h
theorem xIb {B B':Bk} {p p':Bool} {w:List Bs} (o:SgOk B.sig) (h:qJz B p w=.ok (B',p')):SgOk B'.sig:=by
 unfold qJz at h
 split at h
 ·obtain ⟨b,hb,h⟩:=qQg.mp h
  cases h
  unfold symM at hb
  obtain ⟨_,_,h⟩:=qQg.mp hb
  obtain ⟨_,h⟩:=qJq h
  obtain ⟨h1,h⟩:=qJq h
  obtain ⟨n,hn,h⟩:=qYj h
  obtain ⟨h2,h⟩:=qJq h
  cases h
  rw [Bool.and_eq_true] at h1
  have:=(qWf hn).2
  exact o.push h1.1 (Option.isNone_iff_eq_none.mp h1.2) ⟨by omega,by omega⟩ (of_decide_eq_true h2)
 ·obtain ⟨b,hb,h⟩:=qQg.mp h
  cases h
  rw [xEe hb]; exact o
end Go.Proofs.Sp
namespace Go.Proofs.YtkdneddcocggdaaGreatDoor.Am
open Go Go.Proofs Go.RowKit Go.Lib Sys Sp
set_option maxRecDepth 100000
variable {D:Orc} {E:Dorc} {h h' h0 g g':H} {k:Kv} {kp:Kp} {L R:List Res} {B:Bk} {V:BkV} {N bp:Nat} {w:List Bs} {wv:Value}
def prL (bp p1:Nat) (V:BkV) (g:H) (B:Bk) (lv:Value) (ls:List Bs):List Res:=bkL bp [] V g B [bufR lv (wsV ls),qQp p1 nilB]
theorem qOh {sig:Sg} {s:Bool} {f:Bs} {e:Int}:∀ {ws:List Bs} {j:Nat} {x:Ln},qVl sig s f j ws x=.error e→e≠0
 | [],j,x,h=>by cases h
 | w::ws,j,x,h=>by
  rw [qXj] at h
  cases hq:qYn sig s (qXq f j) w x with
  | error e' =>
   rw [hq] at h
   cases h
   exact xXy hq
  | ok y =>
   rw [hq] at h
   exact qOh h
theorem xPx {B:Bk} {w:List Bs} {e:Int} (h:qZx B w=.error e):e≠0:=by
 unfold qZx at h
 cases hq:qVl B.sig (decide (at1 w 0=wSym)) (qVn (at1 w 0)) 0 w.tail Ln.nil with
 | error e' =>
  rw [hq] at h
  cases h
  exact qOh hq
 | ok x =>
  rw [hq] at h
  have h:qWx (putM B (at1 w 0) x)=.error e:=h
  unfold qWx at h
  split at h
  ·cases h; decide
  ·cases h
theorem xNm (c:Cl18 D) (sp:qEu D 45) (sw:qDi D 46) (cu:Cl32 D) (sf:qOd D 47) (st:qIh D 48 Tbl) :
  qYg D 18 Tbl:=by
 intro s h k kp hsz ht hk
 refine c _ _ _ _ ?_
 unfold F18
 rw [qQb]
 refine (Hp.nil_ h).new_ fun p1 h1 hp1 o1=>?_
 have o1:Hp h h1 [qQp p1 nilB]:=o1
 have hbl:(bts s).length=s.size:=rfl
 have hcc:=qSn 10 (bts s)
 unfold qPd at hk
 have nilone:nilB.all one=true:=rfl
 have early:∀ (e:Int) h4,Hp h h4 [qQp p1 nilB]→(∀ h',Ext h h'→k (.tuple #[.agg nilB.toArray,.int .i64 0,.int .i64 e]) h') →
   ptrW (Pt p1) (fun ad3=>6=6∧List.all nilB one=true∧∃ h5,Am.wr h4 ad3 nilB=some h5∧ptrW (Pt p1) (fun ad5=>∃ v6:Value,∃ v7:Value,∃ v8:Value,∃ v9:Value,∃ v10:Value,∃ v11:Value,rdN h5 ad5 6=some [v6,v7,v8,v9,v10,v11]∧k (.tuple #[(.agg #[v6,v7,v8,v9,v10,v11]),(.int .i64 0),(.int .i64 e)]) h5)):=fun e h4 o4 hk=>by
  refine o4.st6 (i:=0) (vs:=nilB) rfl rfl nilone rfl fun h5 o5=>?_
  rw [qQf]
  refine ⟨_,_,_,_,_,_,rdn (o5.cell (i:=0) rfl) (by simp [nilB]),?_⟩
  exact hk h5 o5.ext
 rw [qQd]
 refine ⟨fun hgt=>?_,fun hle=>?_⟩
 ·rw [if_pos (.inl (by omega))] at hk
  exact early 220 h1 o1 hk
 refine sp s 10 h1 _ _ (by omega) fun lv h2 e2 b2=>⟨_,rfl,?_⟩
 have o2:Hp h h2 [bufR lv (wsV (qVb 10 (bts s))),qQp p1 nilB]:=o1.add_buf e2 b2
 have hwl:∀ ws:List Bs,(wsV ws).length=ws.length:=fun ws=>by unfold wsV; rw [List.length_map]
 rw [(o2.row (i:=0) rfl).len,hwl,hcc,qQd]
 refine ⟨fun hgt=>?_,fun hle2=>?_⟩
 ·rw [if_pos (.inr (by omega))] at hk
  exact early 220 h2 o2.tail hk
 rw [if_neg (by omega)] at hk
 refine xFx cu (by omega) fun h3 e3=>⟨_,rfl,?_⟩
 have o3:=o2.later e3
 rw [qQn]
 cases hv:validD (bts s) with
 | false =>
  rw [if_pos hv] at hk
  rw [cond_false]
  exact early 221 h3 o3.tail hk
 | true =>
 rw [if_neg (by rw [hv]; simp)] at hk
 rw [cond_true]
 have hlv:∀ l∈qVb 10 (bts s),validD l=true:=qSm (by decide) _ _ (Nat.le_refl _) hv
 have hll:∀ l∈qVb 10 (bts s),l.length≤65536:=fun l hl=>by have:=(qNk 10 (bts s)).2 l hl; omega
 rw [← hcc] at hle2
 generalize qVb 10 (bts s)=ls at hk o3 hlv hll hle2
 refine o3.new_ fun bp h4 hbp o4=>?_
 have I0:BkI noH BkV.nil Bk.nil:=⟨.nil_,.nil_,fun x hx=>(by cases hx),.inl ⟨rfl,rfl,rfl,rfl,rfl⟩,.nil_⟩
 have s0:Sm 0 Bk.nil:=⟨by decide,fun x hx=>(by cases hx),fun x hx=>(by cases hx),by decide,by decide,by decide,by decide,by decide,fun x hx=>(by cases hx)⟩
 have g0:SgOk Bk.nil.sig:=⟨fun x hx=>(by cases hx),fun c x hx=>(by cases hx),fun x hx=>(by cases hx),by decide⟩
 have oA:Hp h h4 (prL bp p1 BkV.nil noH Bk.nil lv ls):=by
  have o10:Hp h h4 (frzR noH::bufK 2 (.slice none 0 0) []::bufK 2 (.slice none 0 0) []::bufK 2 (.slice none 0 0) []::bufK 2 (.slice none 0 0) []::bufK 4 (.slice none 0 0) []::bufK 2 (.slice none 0 0) []::bufK 2 (.slice none 0 0) []::bufK 2 (.slice none 0 0) []::bufK 2 (.slice none 0 0) []::qQp bp nilB::bufR lv (wsV ls)::qQp p1 nilB::[]) :=
   o4.add_nilK.add_nilK.add_nilK.add_nilK.add_nilK.add_nilK.add_nilK.add_nilK.add_nilK.frz0
  exact o10.permI [10,0,1,2,3,4,5,6,7,8,9,11,12] (by simp only [List.length_cons,List.length_nil]; decide)
 intro J hJ
 have key:∀ m i:Nat,i+m=ls.length→∀ (B:Bk) (past:Bool) (V:BkV) (g h1:H),Sm i B→SgOk B.sig→BkI g V B→Hp h h1 (prL bp p1 V g B lv ls) →
   (match qJr B past i (ls.drop i) with
    | .ok y=>∀ bp tl V g N h',N<2 ^ 30→Sm N y.1→BkI g V y.1→Hp h h' (bkL bp tl V g y.1 [])→k (.tuple #[.agg #[V.sg,V.ru,V.eq,V.pr,V.ce,V.co],.int .i64 0,.int .i64 0]) h'
    | .error y=>∀ h',Ext h h'→k (.tuple #[.agg nilB.toArray,.int .i64 (y.1:Int),.int .i64 y.2]) h') →
   J [Pt p1,lv,Pt bp,.bool (!past),.int .i64 (i:Int)] h1:=by
  intro m
  induction m with
  | zero =>
   intro i him B past V g h1 sm sg I o hk
   refine hJ _ _ _ _ _ _ ?_
   unfold round18_11
   rw [qQc,qQa,(o.row (i:=11) rfl).len,hwl,qQd]
   refine ⟨fun hlt=>by omega,fun _=>?_⟩
   show xs (Am.X.e 0) _ _ _
   rw [xs_e]
   show cond true _ _
   rw [cond_true,nth0,nth1]
   rw [List.drop_eq_nil_of_le (by omega)] at hk
   refine ⟨rfl,?_⟩
   rw [qQf]
   refine ⟨_,_,_,_,_,_,rdn (o.cell (i:=0) rfl) (by simp),?_⟩
   have hone:[V.sg,V.ru,V.eq,V.pr,V.ce,V.co].all one=true:=by
    simp only [List.all_cons,List.all_nil,qQu (o.rowK (i:=2) rfl).isSl,qQu (o.rowK (i:=3) rfl).isSl,qQu (o.rowK (i:=4) rfl).isSl,qQu (o.rowK (i:=5) rfl).isSl,qQu (o.rowK (i:=6) rfl).isSl,qQu (o.rowK (i:=7) rfl).isSl]
    rfl
   refine o.st6 (i:=12) (vs:=[V.sg,V.ru,V.eq,V.pr,V.ce,V.co]) rfl rfl hone rfl fun h5 o5=>?_
   rw [qQf]
   refine ⟨_,_,_,_,_,_,rdn (o5.cell (i:=12) rfl) (by simp),?_⟩
   have o6:Hp h h5 (bkL bp [] V g B []):=o5.sub (by
    show List.Sublist (bkL bp [] V g B []) (bkL bp [] V g B []++_)
    exact List.sublist_append_left _ _)
   exact hk bp [] V g i h5 (by omega) sm I o6
  | succ m ih =>
   intro i him B past V g h1 sm sg I o hk
   refine hJ _ _ _ _ _ _ ?_
   unfold round18_11
   rw [qQc,qQa,(o.row (i:=11) rfl).len,hwl,qQd]
   refine ⟨fun _=>?_,fun hge=>by omega⟩
   have hil:i<ls.length:=by omega
   have hvi:(wsV ls)[i]?=some (.string (strB ls[i])):=by
    unfold wsV
    rw [List.getElem?_map,List.getElem?_eq_getElem hil]; rfl
   rw [List.drop_eq_getElem_cons hil] at hk
   unfold qJr at hk
   have hli:=hll _ (List.getElem_mem hil)
   have hvl:=hlv _ (List.getElem_mem hil)
   obtain ⟨w1,w2⟩:=qKl ls[i]
   refine qVq (o.row (i:=11) rfl) hvi fun ad r1=>⟨_,r1,?_⟩
   refine sw _ h1 _ _ (by rw [qXp]; omega) fun wv h2 e2 b2=>⟨_,rfl,?_⟩
   rw [qQk] at b2
   have d:Wd (qXd ls[i]):=⟨by omega,fun x hx=>by have:=(w2 x hx).1; omega⟩
   have hval:=qTd hvl
   generalize qXd ls[i]=w at hk b2 w1 w2 d hval
   have o2:Hp h h2 (tkL bp V g B wv w [bufR lv (wsV ls),qQp p1 nilB]):=(o.add_buf e2 b2).permI [1,2,3,4,5,6,7,8,9,10,11,0,12,13] (by unfold prL bkL; simp only [List.length_cons,List.length_nil]; decide)
   have hwr:Wr h2 wv w:=d.wr (o2.row (i:=11) rfl)
   have back:∀ {h':H} {V:BkV} {g:H} {B:Bk},Hp h h' (tkL bp V g B wv w [bufR lv (wsV ls),qQp p1 nilB])→Hp h h' (prL bp p1 V g B lv ls):=fun o=>o.sub (by
    show List.Sublist (bkL bp [] _ _ _ []++_) (bkL bp [] _ _ _ []++_)
    exact List.Sublist.append_left (List.sublist_cons_self _ _) _)
   have mutedL:∀ (K:Kl) h3,Hp h h3 (prL bp p1 V g B lv ls)→mute w=true→j18_11_12 D J K (Pt p1) lv (Pt bp) (.bool (!past)) (.int .i64 (i:Int)) h3:=fun K h3 o3 hm=>by
    unfold j18_11_12
    rw [qQc,qQa,qQo (by omega) (by omega),show (i:Int)+1=((i+1:Nat):Int) by omega]
    rw [if_pos hm] at hk
    exact ih (i+1) (by omega) B past V g h3 (sm.up (Nat.le_succ i)) sg I o3 hk
   rw [hwr.len_,qQn,qXf]
   refine ⟨fun hz=>?_,fun hnz=>?_⟩
   ·have hw0:w=[]:=List.length_eq_zero_iff.mp (by omega)
    exact mutedL _ h2 (back o2) (by rw [hw0]; rfl)
   have hw0:w≠[]:=fun e=>hnz (by rw [e]; rfl)
   have hpos:0<w.length:=List.length_pos_iff.mpr hw0
   refine hwr.at_ (i:=0) hpos fun ad2 r2=>⟨_,r2,?_⟩
   have hmem:at1 w 0∈w:=by unfold at1; rw [List.getElem?_eq_getElem hpos]; exact List.getElem_mem hpos
   have hne:=(w2 _ hmem).2
   have hp0:0<(at1 w 0).length:=List.length_pos_iff.mpr hne
   refine qQx (by omega) (by rw [qXp]; omega) fun b hb=>?_
   rw [qQk] at hb
   have hb:(at1 w 0)[0]?=some b:=hb
   have hmute:mute w=(some b==some 35):=by
    match w,hw0 with
    | y::ys,_ =>
     have hb:y[0]?=some b:=hb
     show (y.head?==some 35)=_
     rw [List.head?_eq_getElem?,hb]
   rw [qXf]
   refine ⟨fun h35=>mutedL _ h2 (back o2) (by rw [hmute,show b=35 from UInt8.toNat_inj.mp (by show b.toNat=35; omega)]; rfl),fun hn35=>?_⟩
   have hm:mute w=false:=by
    rw [hmute]
    exact beq_eq_false_iff_ne.mpr fun e=>hn35 (by rw [Option.some.inj e]; rfl)
   rw [if_neg (by rw [hm]; simp)] at hk
   refine ⟨rfl,?_⟩
   rw [qQf]
   refine ⟨_,_,_,_,_,_,rdn (o2.cell (i:=0) rfl) (by simp),?_⟩
   have hcN:=sm.cert
   refine sf bp [] (!past) wv w B V g _ h h2 _ _ o2 I (by omega) hwr hw0 fun t h3 e3 hfit=>⟨_,rfl,?_⟩
   have o3:Hp h h3 (tkL bp V g B wv w [bufR lv (wsV ls),qQp p1 nilB]):=o2.later e3
   have errd:∀ (e:Int) h4,Hp h h4 [bufR lv (wsV ls),qQp p1 nilB]→(∀ h',Ext h h'→k (.tuple #[.agg nilB.toArray,.int .i64 ((i+1:Nat):Int),.int .i64 e]) h') →
     ptrW (Pt p1) (fun ad65=>6=6∧List.all nilB one=true∧∃ h66,Am.wr h4 ad65 nilB=some h66∧(fun (x75:Am.X) vs76 h74=>xs x75 (intK .i64 (nth vs76 1) (fun x78=>intK .i64 (nth vs76 2) (fun x79=>ptrW (nth vs76 0) (fun ad80=>∃ v81:Value,∃ v82:Value,∃ v83:Value,∃ v84:Value,∃ v85:Value,∃ v86:Value,rdN h74 ad80 6=some [v81,v82,v83,v84,v85,v86]∧k (.tuple #[(.agg #[v81,v82,v83,v84,v85,v86]),(.int .i64 x78),(.int .i64 x79)]) h74)))) (fun _=>False) (fun _=>False)) Am.X.r [Pt p1,.int .i64 (IntKind.i64.wrap ((i:Int)+1)),.int .i64 e] h66):=fun e h4 o4 hk=>by
    refine o4.st6 (i:=1) (vs:=nilB) rfl rfl nilone rfl fun h5 o5=>?_
    show xs Am.X.r _ _ _
    rw [xs_r,nth0,nth1,nth2,qQo (by omega) (by omega),show (i:Int)+1=((i+1:Nat):Int) by omega,qQa,qQa,qQf]
    refine ⟨_,_,_,_,_,_,rdn (o5.cell (i:=1) rfl) (by simp [nilB]),?_⟩
    exact hk h5 o5.ext
   cases t with
   | false =>
    have hno:¬ qNd B (!past) w:=fun hx=>by have:=hfit.mpr hx; cases this
    rw [xYp hno] at hk
    rw [Bool.not_false,cond_true]
    exact errd 222 h3 (o3.sub (List.drop_sublist 12 (tkL bp V g B wv w [bufR lv (wsV ls),qQp p1 nilB]))) hk
   | true =>
    have hfit:=hfit.mp rfl
    have bd:Bd B:=⟨sm.sig,sm.rules,sm.eqs⟩
    rw [Bool.not_true,cond_false]
    refine (hwr.ext e3).at_ (i:=0) hpos fun ad3 r3=>⟨_,r3,?_⟩
    have hlt:=xYq bd hw0 hfit
    refine st i bp (!past) V g B wv w _ h h3 _ _ (by omega) hw0 d hval ht sg sm I hfit o3 ?_
    cases hq:qZx B w with
    | error e =>
     rw [hlt,hq] at hk
     intro h4 o4
     refine ⟨_,rfl,?_⟩
     rw [qZd]
     exact ⟨fun _=>errd e h4 o4 hk,fun h0=>absurd h0 (xPx hq)⟩
    | ok B' =>
     rw [hq] at hlt
     have hlt:qJz B past w=.ok (B',if at1 w 0=wSym then past else true):=hlt
     rw [hlt] at hk
     intro V' g' h4 I' o4
     refine ⟨_,rfl,?_⟩
     rw [show ((0:Int) != 0)=false from rfl,cond_false]
     unfold j18_11_12
     rw [qQc,qQa,qQo (by omega) (by omega),show (i:Int)+1=((i+1:Nat):Int) by omega]
     have hsy:((strB (at1 w 0)).toList==(ByteArray.mk #[115,121,109]).toList)=!(if at1 w 0=wSym then past else true):=by
      rw [qVd,qQk,show bts (ByteArray.mk #[115,121,109])=wSym from rfl]
      by_cases hs:at1 w 0=wSym
      ·have:=hfit.2.2.2.2.2.1 hs
       rw [if_pos hs,beq_iff_eq.mpr hs,this]
      ·rw [if_neg hs,beq_eq_false_iff_ne.mpr hs]; rfl
     rw [hsy]
     exact ih (i+1) (by omega) B' _ V' g' h4 (xUk sm d hlt) (xIb sg hlt) I' (back o4) hk
 exact key ls.length 0 (by omega) Bk.nil false BkV.nil noH h4 s0 g0 I0 oA (by rw [List.drop_zero]; exact hk)
end Go.Proofs.YtkdneddcocggdaaGreatDoor.Am
