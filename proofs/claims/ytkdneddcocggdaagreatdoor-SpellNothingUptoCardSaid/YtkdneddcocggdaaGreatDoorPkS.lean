/-
  Packed: Terms in rows of codes: plain Lean, no program in sight. Rules that are the same but for their variables: plain Lean, no program in sight. Names: what is right UTF-8 and of letters; plain Lean, no program in sight. Names: what the program's and the document's functions answer. Names: the loops over a text's runes. Names: the document's way. Signatures: function values that tell of a symbol; the first that they tell of. Signatures: what is wrong with one. Signatures: the document's way; what is wrong with one for a system. Signatures for a system: marked names. Rows of codes: what holds of one; the document's scan of a term. Rows that grow in a block of their own; the variables of a row. Maps from numbers; the variables of a row by the program. The program's reader of terms. What is wrong with a row: the program's answer is the document's.
-/
import Derived.Lib.ValidLaws
import Derived.Lib.MapLaws
import Derived.Lib.TrimUEq
import Derived.Test.YtkdneddcocggdaaGreatDoorAmFnsR
import Derived.Test.YtkdneddcocggdaaGreatDoorPkC
set_option linter.unusedVariables false
set_option linter.unusedSimpArgs false
set_option linter.unnecessarySimpa false
namespace Go.Proofs.Sys
abbrev Sg:=List (List UInt8 × Int)
def kids (sig:Sg) (c:Int):Nat:=if c<0 then 0 else (((sig[c.toNat]?).map fun (x:List UInt8 × Int)=>x.2).getD 0).toNat
def badC (n:Nat) (c:Int):Bool:=decide ((n:Int)≤c) || decide (c < -1048576)
def eat (sig:Sg):Nat→List Int→Int × List Int
 | 0,t=>(0,t)
 | _+1,[]=>(31,[])
 | n+1,c::t=>if badC sig.length c then (30,c::t) else eat sig (n+kids sig c) t
def scan (sig:Sg):Nat→List Int→Int
 | 0,[]=>0
 | 0,_::_=>32
 | _+1,[]=>31
 | n+1,c::t=>if badC sig.length c then 30 else scan sig (n+kids sig c) t
theorem qDg (sig:Sg):∀ (t:List Int) (n:Nat),scan sig n t=if (eat sig n t).1=0 then (if (eat sig n t).2=[] then 0 else 32) else (eat sig n t).1
 | [],0=>by simp [scan,eat]
 | [],n+1=>by simp [scan,eat]
 | c::t,0=>by simp [scan,eat]
 | c::t,n+1=>by
  unfold scan eat
  split
  ·simp
  ·exact qDg sig t _
theorem qLx (sig:Sg):∀ (t:List Int) (m n:Nat),eat sig (m+n) t=if (eat sig m t).1=0 then eat sig n (eat sig m t).2 else eat sig m t
 | [],0,n=>by simp [eat]
 | [],m+1,n=>by rw [show m+1+n=(m+n)+1 by omega]; simp [eat]
 | c::t,0,n=>by simp [eat]
 | c::t,m+1,n=>by
  rw [show m+1+n=(m+n)+1 by omega]
  have e1:eat sig (m+n+1) (c::t)=if badC sig.length c then (30,c::t) else eat sig (m+n+kids sig c) t:=by rw [eat]
  have e2:eat sig (m+1) (c::t)=if badC sig.length c then (30,c::t) else eat sig (m+kids sig c) t:=by rw [eat]
  rw [e1,e2]
  split
  ·simp
  ·rw [show m+n+kids sig c=(m+kids sig c)+n by omega]
   exact qLx sig t _ n
theorem qBs (sig:Sg):∀ (t:List Int) (n:Nat),∃ u,t=u++(eat sig n t).2
 | [],0=>⟨[],rfl⟩
 | [],n+1=>⟨[],rfl⟩
 | c::t,0=>⟨[],rfl⟩
 | c::t,n+1=>by
  unfold eat
  split
  ·exact ⟨[],rfl⟩
  ·obtain ⟨u,hu⟩:=qBs sig t (n+kids sig c)
   exact ⟨c::u,by rw [List.cons_append,← hu]⟩
theorem xGm (sig:Sg) (t:List Int) (n:Nat):(eat sig n t).2.length≤t.length:=by
 obtain ⟨u,hu⟩:=qBs sig t n
 have:=congrArg List.length hu
 rw [List.length_append] at this; omega
theorem xUw (sig:Sg):∀ (t:List Int) (n:Nat),(eat sig n t).1=0∨(eat sig n t).1=30∨(eat sig n t).1=31
 | [],0=>.inl rfl
 | [],n+1=>.inr (.inr rfl)
 | c::t,0=>.inl rfl
 | c::t,n+1=>by
  unfold eat
  split
  ·exact .inr (.inl rfl)
  ·exact xUw sig t _
theorem xLl (sig:Sg) {t:List Int} {n:Nat} (h:(eat sig (n+1) t).1=0):(eat sig (n+1) t).2.length<t.length:=by
 cases t with
 | nil=>simp [eat] at h
 | cons c t =>
  unfold eat at h ⊢
  split at h
  ·simp at h
  ·rename_i hb
   rw [if_neg hb]
   have:=xGm sig t (n+kids sig c)
   simp only [List.length_cons]; omega
def qZn (sig:Sg) (t:List Int):Prop:=scan sig 1 t=0
theorem qGf {sig:Sg} {t:List Int} (h:qZn sig t):t≠[]:=by
 rintro rfl; simp [qZn,scan] at h
theorem qHu (sig:Sg):∀ (t:List Int) (n:Nat),scan sig n t=0→∀ c∈t,-1048576≤c∧c<sig.length
 | [],n,_,c,hc=>by simp at hc
 | x::t,0,h,c,hc=>by simp [scan] at h
 | x::t,n+1,h,c,hc=>by
  unfold scan at h
  split at h
  ·simp at h
  ·rename_i hb
   rcases List.mem_cons.mp hc with rfl | hc
   ·simp only [badC,Bool.or_eq_true,decide_eq_true_eq,not_or] at hb
    omega
   ·exact qHu sig t _ h c hc
def xWw:List Int→List Int→List Int
 | out,[]=>out
 | out,c::t=>if c<0∧(-1 - c) ∉ out then xWw (out++[-1 - c]) t else xWw out t
def vars (t:List Int):List Int:=xWw [] t
def xFy:List Int→List Int→List Int
 | met,[]=>met
 | met,c::t=>if c<0∧c ∉ met then xFy (met++[c]) t else xFy met t
def qTj:List Int→List Int→List Int
 | _,[]=>[]
 | met,c::t=>if c<0 then (-1 - (met.idxOf c:Int))::qTj (if c∈met then met else met++[c]) t else c::qTj met t
def canon (t:List Int):List Int:=qTj [] t
def mets (t:List Int):List Int:=xFy [] t
structure Like (x y:List Int):Prop where
 len:x.length=y.length
 sym:∀ (i:Nat) (a b:Int),x[i]?=some a→y[i]?=some b→(0≤a∨0≤b)→a=b
 num:(mets x).length=(mets y).length
 var:∀ (i k:Nat) (a b c d:Int),x[i]?=some a→y[i]?=some b→(mets x)[k]?=some c→(mets y)[k]?=some d→(a=c↔b=d)
end Go.Proofs.Sys
namespace Go.Proofs.Sys
open Go Go.Lib
def letter (r:Nat):Bool:=(97≤r && r≤122) || (65≤r && r≤90) || 128≤r
def more (r:Nat):Bool:=letter r || (48≤r && r≤57) || r==95 || r==39
def qVr (s:ByteArray):Nat→Nat→Bool
 | 0,_=>true
 | n+1,p=>if p<s.size then (if p=0 then letter (Utf8.decode s p).1 else more (Utf8.decode s p).1) && qVr s n (p+(Utf8.decode s p).2) else true
theorem qJj {s:ByteArray} {n p:Nat} (h:s.size≤p):qVr s n p=true:=by
 cases n with
 | zero=>rfl
 | succ n=>unfold qVr; rw [if_neg (by omega)]
theorem qFv {s:ByteArray}:∀ {n m p:Nat},s.size - p≤n→s.size - p≤m→qVr s n p=qVr s m p
 | 0,m,p,h,_=>by rw [qJj (by omega),qJj (by omega)]
 | n+1,0,p,_,h=>by rw [qJj (by omega),qJj (by omega)]
 | n+1,m+1,p,h1,h2=>by
  unfold qVr
  split
  ·have:=width_pos s p
   rw [qFv (n:=n) (m:=m) (by omega) (by omega)]
  ·rfl
def qLg (s:ByteArray) (p:Nat):Bool:=qVr s s.size p
theorem qIc {s:ByteArray} {p:Nat} (h:p<s.size):qLg s p=((if p=0 then letter (Utf8.decode s p).1 else more (Utf8.decode s p).1) && qLg s (p+(Utf8.decode s p).2)):=by
 unfold qLg
 obtain ⟨n,hn⟩:∃ n,s.size=n+1:=⟨s.size - 1,by omega⟩
 have:=width_pos s p
 rw [hn]
 conv=>lhs; unfold qVr
 rw [if_pos h,qFv (n:=n) (m:=n+1) (by omega) (by omega)]
theorem qOe {s:ByteArray} {p:Nat} (h:s.size≤p):qLg s p=true:=qJj h
def built:Nat→List UInt8→List UInt8
 | 0,_=>[]
 | n+1,l=>if l=[] then [] else encodeRune (decodeL l).1++built n (l.drop (decodeL l).2)
def qVs (s:ByteArray):Bool:=s.size != 0 && decide (s.size≤32) && validD s.data.toList && qLg s 0
end Go.Proofs.Sys
namespace Go.Proofs.YtkdneddcocggdaaGreatDoor.Am
open Go Go.Proofs Sys
def qZx (q:Nat→Bool) (D:Orc) (f:Nat):Prop:=∀ (r:Nat) h (k:Kv) kp,k (.bool (q r)) h→D f [.int .i32 (r:Int)] h k kp
theorem qSq {r:Nat} {h:H} {k:Kv} (hk:k (.bool (letter r)) h) :
  cond (decide ((97:Int)≤r)) (cond (!(decide ((r:Int)≤(122:Int)))) (cond (decide ((65:Int)≤r)) (cond (!(decide ((r:Int)≤(90:Int)))) (k (Value.bool (decide ((r:Int)≥(128:Int)))) h) (k (Value.bool true) h)) (k (Value.bool (decide ((r:Int)≥(128:Int)))) h)) (k (Value.bool true) h))
   (cond (decide ((65:Int)≤r)) (cond (!(decide ((r:Int)≤(90:Int)))) (k (Value.bool (decide ((r:Int)≥(128:Int)))) h) (k (Value.bool true) h)) (k (Value.bool (decide ((r:Int)≥(128:Int)))) h)):=by
 have yes:letter r=true→k (.bool true) h:=fun e=>by rw [e] at hk; exact hk
 have rest:letter r=decide ((r:Int)≥128)→k (.bool (decide ((r:Int)≥128))) h:=fun e=>by rw [e] at hk; exact hk
 have e128:decide ((r:Int)≥128)=decide (128≤r):=by rw [decide_eq_decide]; omega
 simp only [qQx,qQd]
 refine ⟨fun h1=>⟨fun h2=>yes ?_,fun h2=>⟨fun h3=>⟨fun h4=>yes ?_,fun h4=>rest ?_⟩,fun h3=>rest ?_⟩⟩,fun h1=>⟨fun h3=>⟨fun h4=>yes ?_,fun h4=>rest ?_⟩,fun h3=>rest ?_⟩⟩
 all_goals
  try rw [e128]
  unfold letter
  rw [Bool.eq_iff_iff]
  simp only [Bool.or_eq_true,Bool.and_eq_true,decide_eq_true_eq,eq_self,iff_true]
  omega
theorem xFm {D:Orc} (c:Cl109 D):qZx letter D 109:=by
 intro r h k kp hk
 refine c _ _ _ _ ?_
 unfold F109
 rw [qQa]
 exact qSq hk
end Go.Proofs.YtkdneddcocggdaaGreatDoor.Am
namespace Go.Proofs.YtkdneddcocggdaaGreatDoor.Am
open Go Go.Proofs Sys Go.Lib
theorem ex0 {a:Value} {l:List Value} {k:Value→Prop}:qZk (.tuple (a::l).toArray) 0 k=k a:=rfl
theorem ex1 {a b:Value} {l:List Value} {k:Value→Prop}:qZk (.tuple (a::b::l).toArray) 1 k=k b:=rfl
theorem ex2 {a b c:Value} {l:List Value} {k:Value→Prop}:qZk (.tuple (a::b::c::l).toArray) 2 k=k c:=rfl
theorem qEx {h:H} {b p:Nat} {s:ByteArray} {k:Value→H→Prop} (hb:h b=some (.sit s p)) (h1:s.size≤p→k (.tuple #[.bool false]) h)
  (h2:p<s.size→k (.tuple #[.bool true,.int .i64 (p:Nat),.int .i32 ((Utf8.decode s p).1:Nat)]) (h.set b (.sit s (p+(Utf8.decode s p).2)))):xKz h ⟨b,0,none⟩ k:=⟨rfl,s,p,hb,h1,h2⟩
theorem qOj {r:Nat} (hl:letter r=false) {Φ:Bool→Prop} (hk:Φ (more r)) :
  cond (decide ((48:Int)≤r)) (cond (!(decide ((r:Int)≤(57:Int)))) (cond (!((r:Int)==(95:Int))) (Φ ((r:Int)==(39:Int))) (Φ true)) (Φ true)) (cond (!((r:Int)==(95:Int))) (Φ ((r:Int)==(39:Int))) (Φ true)):=by
 have hm:more r=(letter r || (48≤r && r≤57) || r==95 || r==39):=rfl
 have yes:more r=true→Φ true:=fun e=>by rw [e] at hk; exact hk
 have e39:((r:Int)==39)=(r==39):=by rw [Bool.eq_iff_iff]; simp only [beq_iff_eq]; omega
 have rest:more r=(r==39)→Φ ((r:Int)==39):=fun e=>by rw [e39,← e]; exact hk
 have e95:((r:Int)==95)=(r==95):=by rw [Bool.eq_iff_iff]; simp only [beq_iff_eq]; omega
 rw [hl] at hm
 simp only [qQx,qQd,e95]
 cases h9:(r==95) with
 | true =>
  rw [h9] at hm
  have:more r=true:=by rw [hm]; simp
  exact ⟨fun _=>⟨fun _=>yes this,fun _=>yes this⟩,fun _=>yes this⟩
 | false =>
  rw [h9] at hm
  refine ⟨fun h1=>⟨fun h2=>yes ?_,fun h2=>rest ?_⟩,fun h1=>rest ?_⟩
  ·rw [hm]; simp; omega
  ·rw [hm]
   have:(decide (48≤r) && decide (r≤57))=false:=by simp; omega
   simp [this]
  ·rw [hm]
   have:(decide (48≤r) && decide (r≤57))=false:=by simp; omega
   simp [this]
theorem xZx {D:Orc} (t:qZx letter D 109) {s:ByteArray} {h0:H} {b:Nat} (h0b:h0 b=none) {K:Kl} {I:List Value→H→Prop} (hI:∀ a0 h,round70_4 D I K a0 h→I [a0] h) :
  ∀ (n p:Nat) (h:H),s.size - p≤n→h b=some (.sit s p)→Ext h0 h→(∀ h',Ext h0 h'→qLg s p=true→K (.e 0) [] h')→(∀ h',Ext h0 h'→qLg s p=false→K .r [.bool false] h') →
   I [.pointer (some ⟨b,0,none⟩)] h:=by
 intro n
 induction n with
 | zero =>
  intro p h hn hb he hK1 hK2
  refine hI _ _ ?_
  unfold round70_4
  rw [qQe]
  refine qEx hb (fun _=>?_) (fun hp=>by omega)
  rw [show (#[Value.bool false]:Array Value)=[Value.bool false].toArray from rfl,ex0,qQc,cond_false]
  exact hK1 _ he (qOe (by omega))
 | succ n ih =>
  intro p h hn hb he hK1 hK2
  refine hI _ _ ?_
  unfold round70_4
  rw [qQe]
  refine qEx hb (fun hp=>?_) (fun hp=>?_)
  ·rw [show (#[Value.bool false]:Array Value)=[Value.bool false].toArray from rfl,ex0,qQc,cond_false]
   exact hK1 _ he (qOe hp)
  ·have hw:=width_pos s p
   have step:=qIc hp
   generalize Utf8.decode s p=rw at step hw ⊢
   obtain ⟨r,wd⟩:=rw
   dsimp only at step hw ⊢
   rw [show (#[Value.bool true,Value.int .i64 ((p:Nat):Int),Value.int .i32 ((r:Nat):Int)]:Array Value)=[Value.bool true,Value.int .i64 ((p:Nat):Int),Value.int .i32 ((r:Nat):Int)].toArray from rfl,ex0,qQc,cond_true,ex1,ex2]
   have he':Ext h0 (h.set b (.sit s (p+wd))):=he.set h0b
   have go:(if p=0 then letter r else more r)=true→I [.pointer (some ⟨b,0,none⟩)] (h.set b (.sit s (p+wd))):=fun hc=>by
    rw [hc,Bool.true_and] at step
    exact ih (p+wd) _ (by omega) qQf he' (fun h' e hk=>hK1 h' e (by rw [step]; exact hk)) (fun h' e hk=>hK2 h' e (by rw [step]; exact hk))
   have stop:(if p=0 then letter r else more r)=false→K .r [.bool false] (h.set b (.sit s (p+wd))):=fun hc=>by
    rw [hc,Bool.false_and] at step
    exact hK2 _ he' step
   refine t _ _ _ _ ⟨_,rfl,?_⟩
   cases hl:letter r with
   | true =>
    rw [cond_true]
    refine go ?_
    split
    ·exact hl
    ·unfold more; rw [hl]; simp
   | false =>
    rw [cond_false]
    simp only [qQa]
    rw [qQd]
    refine ⟨fun hp0=>?_,fun hp0=>?_⟩
    ·have hp1:¬ p=0:=by omega
     rw [if_neg hp1] at go stop
     refine qOj hl (Φ:=fun x=>j70_4_6 D I K _ (.bool x) _) ?_
     unfold j70_4_6
     rw [qQc]
     cases hm:more r with
     | true=>exact go hm
     | false=>exact stop hm
    ·have hp1:p=0:=by omega
     rw [if_pos hp1] at stop
     unfold j70_4_6
     rw [qQc]
     exact stop hl
def qUl (D:Orc) (f:Nat) (T:H→Prop):Prop:=∀ (s:ByteArray) h (k:Kv) kp,s.size<2 ^ 62→T h→k (.bool (validD s.data.toList)) h→D f [.string s] h k kp
def qDx (D:Orc) (f:Nat) (T:H→Prop):Prop:=∀ (s:ByteArray) h (k:Kv) kp,s.size<2 ^ 62→T h→(∀ h',Ext h h'→k (.bool (qVs s)) h')→D f [.string s] h k kp
theorem xUv (s:ByteArray):(s.toList==(ByteArray.mk #[]).toList)=(s.size==0):=by
 rw [Bool.eq_iff_iff,qQw,qQw]
 simp only [beq_iff_eq]
 constructor
 ·intro h; rw [← qQq,h]; rfl
 ·intro h
  exact List.length_eq_zero_iff.mp (by rw [qQq]; exact h)
theorem qIh {s:ByteArray} (h:32<s.size):qVs s=false:=by
 unfold qVs
 have:decide (s.size≤32)=false:=by simp; omega
 rw [this]; simp
theorem xVo {s:ByteArray} (h:s.size=0):qVs s=false:=by
 unfold qVs; rw [h]; simp
theorem xUc {s:ByteArray} (h0:s.size≠0) (h1:s.size≤32):qVs s=(validD s.data.toList && qLg s 0):=by
 unfold qVs
 have a:(s.size != 0)=true:=by simpa using h0
 have b:decide (s.size≤32)=true:=by simpa using h1
 rw [a,b]; simp
theorem xHo {D:Orc} {T:H→Prop} (c:Cl70 D) (t:qZx letter D 109) (v:qUl D 29 T):qDx D 70 T:=by
 intro s h k kp hs hT hk
 refine c _ _ _ _ ?_
 unfold F70
 rw [qQb,xUv]
 have no:qVs s=false→j70__2 D k kp (.string s) (.bool true) h:=fun e=>by
  unfold j70__2
  simp only [qQb,qQc,cond_true]
  have:=hk h (Ext.refl h)
  rw [e] at this; exact this
 cases h0:(s.size==0) with
 | true=>exact no (xVo (by simpa using h0))
 | false =>
  have h0':s.size≠0:=by simpa using h0
  rw [Bool.not_false,cond_true,qQx,qQd]
  refine ⟨fun h1=>no (qIh (by omega)),fun h1=>?_⟩
  have hn:=xUc h0' (by omega)
  refine v _ _ _ _ hs hT ⟨_,rfl,?_⟩
  cases hv:validD s.data.toList with
  | false=>exact no (by rw [hn,hv]; rfl)
  | true =>
   rw [hv,Bool.true_and] at hn
   unfold j70__2
   simp only [qQb,qQc,Bool.not_true,cond_false]
   intro b hb
   intro I hI
   refine xZx t hb hI s.size 0 _ (by omega) qQf (Ext.new hb) (fun h' e hok=>?_) (fun h' e hok=>?_)
   ·rw [xs_e]
    show cond (Nat.beq 0 0) _ _
    have:=hk h' e
    rw [hn,hok] at this
    exact this
   ·rw [xs_r,nth0,qQc]
    have:=hk h' e
    rw [hn,hok] at this
    exact this
def qCn (s:ByteArray):Bool:=decide (0<s.size) && (((s.get! (s.size - 1)).toNat:Int)==35) && qVs (s.extract 0 (s.size - 1))
end Go.Proofs.YtkdneddcocggdaaGreatDoor.Am
namespace Go.Proofs.YtkdneddcocggdaaGreatDoor.Am
open Go Go.Proofs Sys Go.Lib
set_option maxRecDepth 100000
abbrev Sy:=ByteArray × Int
def qXn (x:Sy):List Value:=[.string x.1,.int .i64 x.2]
def qVv (sig:List Sy):List (List Value):=sig.map qXn
theorem qXd (sig:List Sy):(qVv sig).length=sig.length:=by simp [qVv]
theorem qYm {sig:List Sy} {i:Nat} {v:List Value} (h:(qVv sig)[i]?=some v):∃ x,sig[i]?=some x∧v=qXn x:=by
 simp only [qVv,List.getElem?_map,Option.map_eq_some_iff] at h
 obtain ⟨x,hx,rfl⟩:=h
 exact ⟨x,hx,rfl⟩
theorem xZk (sig:List Sy) (n:Nat):(qVv sig).take n=qVv (sig.take n):=by simp [qVv,List.map_take]
theorem qXt {h:H} {b i:Nat} {l:List Value} {v:Value} (hb:h b=some (.cells l)) (hi:l[i]?=some v):rd h (Addr.add ⟨b,0,none⟩ i)=some v:=by
 rw [qZg,Nat.zero_add]
 simp only [rd,hb,qZm,Option.bind_some]
 exact hi
theorem qTz {h:H} {z1 z2 u v:Value} (hu:one u=true) (hv:one v=true) {T:Prop} (hT:T) {K:Value→H→Prop} (hK:∀ b h',h b=none→h' b=some (.cells [u,v])→Ext h h'→K (.pointer (some ⟨b,0,none⟩)) h') :
  newW h [z1,z2] (fun p h9=>ptrW p (fun ad=>T∧List.all [u,v] one=true∧∃ h11,wr h9 ad [u,v]=some h11∧K p h11)):=by
 intro b hb
 rw [qQe]
 refine ⟨hT,by simp [hu,hv],h.set b (.cells [u,v]),?_,hK b _ hb qQf (Ext.new hb)⟩
 simp only [wr,qQf]
 rw [if_pos (by simp)]
 simp [splice,qJf]
theorem exB {φ:Value→Prop}:exR Tryz.prog (qIz Tryz.prog 4) φ=∃ x:Bool,φ (.bool x):=by kernel_rfl
theorem callB {D:Orc} {g:Nat} {caps:Array Value} {args:List Value} {h:H} {k:Kv} {kp:Kp} (hb:qZr Tryz.prog g=true) (hk:D g (args++caps.toList) h (fun v h'=>∃ b:Bool,v=.bool b∧k (.bool b) h') kp) :
  qBz Tryz.prog D 4 (.func (.func g) #[] caps) args h k kp:=by
 unfold qBz
 dsimp only
 unfold qGo
 rw [hb]
 dsimp only
 simp only [exB,List.nil_append]
 exact hk
def FnB (D:Orc) (h:H) (fv:Value) (q:Sy→Bool) (sig:List Sy):Prop:=∀ x∈sig,∀ h' (k:Kv) kp,Ext h h'→(∀ h'',Ext h' h''→k (.bool (q x)) h'')→qBz Tryz.prog D 4 fv [.agg #[.string x.1,.int .i64 x.2]] h' k kp
theorem FnB.of {D:Orc} {h:H} {g:Nat} {caps:Array Value} {q:Sy→Bool} {sig:List Sy} (hb:qZr Tryz.prog g=true) (hg:∀ x∈sig,∀ h' (k:Kv) kp,Ext h h'→(∀ h'',Ext h' h''→k (.bool (q x)) h'')→D g ([.agg #[.string x.1,.int .i64 x.2]]++caps.toList) h' k kp):FnB D h (.func (.func g) #[] caps) q sig:=fun x hx h' k kp e hk =>
 callB hb (hg x hx _ _ _ e fun h'' e'=>⟨_,rfl,hk _ e'⟩)
theorem xBk {D:Orc} {s fv:Value} {sig:List Sy} {q:Sy→Bool} {h0:H} (r:RowK 2 h0 s (qVv sig)) (hs:sig.length<2 ^ 62) (hf:FnB D h0 fv q sig) {K:Kl} {I:List Value→H→Prop}
  (hI:∀ a0 a1 a2 a3 h,round110_2 D I K a0 a1 a2 a3 h→I [a0,a1,a2,a3] h) :
  ∀ (n i:Nat) (h:H),sig.length - i≤n→i≤sig.length→Ext h0 h→(∀ j h',Ext h0 h'→(sig.drop i).any q=true→K .r [.int .i64 ((j:Nat):Int)] h')→(∀ h',Ext h0 h'→(sig.drop i).any q=false→K (.e 0) [] h') →
   I [s,fv,.int .i64 ((sig.length:Nat):Int),.int .i64 ((i:Nat):Int)] h:=by
 intro n
 induction n with
 | zero =>
  intro i h hn hi he hK1 hK2
  refine hI _ _ _ _ _ ?_
  unfold round110_2
  rw [qQa,qQa,qQd]
  refine ⟨fun hlt=>by omega,fun _=>hK2 _ he ?_⟩
  rw [List.drop_eq_nil_of_le (by omega)]; rfl
 | succ n ih =>
  intro i h hn hi he hK1 hK2
  refine hI _ _ _ _ _ ?_
  unfold round110_2
  rw [qQa,qQa,qQd]
  refine ⟨fun hlt=>?_,fun hge=>hK2 _ he ?_⟩
  ·refine (r.ext he).at_ (by omega) (by rw [qXd]; omega) fun ad v hv hrd _=>?_
   rw [Int.toNat_natCast] at hv
   obtain ⟨x,hx,rfl⟩:=qYm hv
   refine ⟨_,_,hrd,?_⟩
   have hd:sig.drop i=x::sig.drop (i+1):=by
    obtain ⟨hlt,rfl⟩:=List.getElem?_eq_some_iff.mp hx
    exact List.drop_eq_getElem_cons hlt
   refine hf x (List.mem_of_getElem? hx) _ _ _ he fun h'' e=>?_
   rw [qQc]
   have he'':=he.trans e
   cases hq:q x with
   | true=>exact hK1 i _ he'' (by rw [hd,List.any_cons,hq]; rfl)
   | false =>
    rw [cond_false,qQr (by omega) (by omega)]
    refine ih (i+1) _ (by omega) (by omega) he'' (fun j h' e' ha=>hK1 j h' e' ?_) (fun h' e' ha=>hK2 h' e' ?_)
    ·rw [hd,List.any_cons,hq,ha]; rfl
    ·rw [hd,List.any_cons,hq,ha]; rfl
  ·rw [List.drop_eq_nil_of_le (by omega)]; rfl
def qHg (D:Orc) (f:Nat):Prop:=∀ s fv (sig:List Sy) (q:Sy→Bool) h (k:Kv) kp,RowK 2 h s (qVv sig)→sig.length<2 ^ 62→FnB D h fv q sig→(∀ h',Ext h h'→k (.bool (sig.any q)) h')→D f [s,fv] h k kp
theorem xHn {D:Orc} (c:Cl71 D) (c77:Cl110 D):qHg D 71:=by
 intro s fv sig q h k kp r hs hf hk
 refine c _ _ _ _ _ ?_
 unfold F71
 refine c77 _ _ _ _ _ ?_
 unfold F110
 rw [r.len,qXd]
 intro I hI
 refine xBk r hs hf hI sig.length 0 h (by omega) (by omega) (Ext.refl h) (fun j h' e ha=>?_) (fun h' e ha=>?_)
 ·rw [xs_r,nth0,qQa]
  refine ⟨_,rfl,?_⟩
  have:=hk h' e
  rw [List.drop_zero] at ha
  rw [ha] at this
  have hd:decide (((j:Nat):Int)≥0)=true:=by simp
  rw [hd]; exact this
 ·rw [xs_e]
  show cond (Nat.beq 0 0) _ _
  refine ⟨_,rfl,?_⟩
  have:=hk h' e
  rw [List.drop_zero] at ha
  rw [ha] at this
  exact this
def qWg (s:ByteArray):Bool:=decide (0<s.size) && (((s.get! (s.size - 1)).toNat:Int)==35)
theorem xCp {D:Orc} (c74:Cl99 D) {s:ByteArray} {h:H} {k:Kv} {kp:Kp} (hs:s.size<2 ^ 62) (hk:k (.bool (qWg s)) h):D 99 [.string s,.string (ByteArray.mk #[35])] h k kp:=by
 refine c74 _ _ _ _ _ ?_
 unfold F99
 rw [qQb,qQb,qQd]
 have h1:((ByteArray.mk #[35]).size:Int)=1:=rfl
 rw [h1]
 refine ⟨fun hge=>?_,fun hlt=>?_⟩
 ·rw [qQr (by omega) (by omega)]
  refine qZb (by omega) (by omega) fun t ht=>?_
  have e1:((s.size:Int) - 1).toNat=s.size - 1:=by omega
  rw [e1] at ht
  have hg:=get!_eq s (s.size - 1) (by omega)
  have hl:s.size - 1<(bts s).length:=by rw [qQq]; omega
  have hx:(bts s)[s.size - 1]=s.get! (s.size - 1):=by rw [List.getElem?_eq_getElem hl] at hg; exact Option.some.inj hg
  have e2:(bts s).drop (s.size - 1)=[s.get! (s.size - 1)]:=by
   rw [List.drop_eq_getElem_cons hl,hx,List.drop_eq_nil_of_le (by rw [qQq]; omega)]
  have:(t.toList==(ByteArray.mk #[35]).toList)=qWg s:=by
   rw [qQw,qQw,ht,e2]
   have e3:bts (ByteArray.mk #[35])=[35]:=rfl
   rw [e3]
   unfold qWg
   have hp:decide (0<s.size)=true:=decide_eq_true (by omega)
   rw [hp,Bool.true_and,Bool.eq_iff_iff]
   simp only [beq_iff_eq,List.cons.injEq,and_true]
   have:((35:UInt8).toNat:Int)=35:=rfl
   rw [← this,Int.natCast_inj,UInt8.toNat_inj]
  rw [this]; exact hk
 ·have:qWg s=false:=by
   unfold qWg
   have hp:decide (0<s.size)=false:=decide_eq_false (by omega)
   rw [hp]; rfl
  rw [this] at hk; exact hk
theorem xCq {D:Orc} (c:Cl53 D) (c74:Cl99 D) {s:ByteArray} {h:H} {k:Kv} {kp:Kp} (hs:s.size<2 ^ 62) (hk:k (.bool (qWg s)) h):D 53 [.string s,.string (ByteArray.mk #[35])] h k kp:=by
 refine c _ _ _ _ _ ?_
 unfold F53
 rw [qQb,qQb]
 exact xCp c74 hs ⟨_,rfl,hk⟩
theorem fn73 {D:Orc} (c:Cl72 D) {h:H} {sig:List Sy} {b:Nat} {n:ByteArray} {a:Value} (hb:h b=some (.cells [.string n,a])):FnB D h (.func (.func 72) #[] #[.pointer (some ⟨b,0,none⟩)]) (fun x=>x.1.toList==n.toList) sig:=by
 refine FnB.of (by kernel_rfl) fun x hx h' k kp e hk=>?_
 refine c _ _ _ _ _ ?_
 unfold F72
 rw [qVq]
 intro b' hb'
 rw [qQe]
 refine ⟨x.1,qXt (i:=0) qQf rfl,?_⟩
 rw [qQe]
 refine ⟨n,qXt (i:=0) (l:=[.string n,a]) ?_ rfl,hk _ (Ext.new hb')⟩
 have hne:b≠b':=fun x=>by rw [← x,e b _ hb] at hb'; cases hb'
 rw [qXg hne]
 exact e b _ hb
def qZt (s:ByteArray):Bool:=qVs s || qCn s
def qPu (pre:List Sy) (x:Sy):Int:=if qZt x.1=false then 34 else if x.2<0∨8<x.2 then 35 else if pre.any (fun y=>y.1.toList==x.1.toList) then 36 else 0
def sigL:List Sy→List Sy→Int
 | _,[]=>0
 | pre,x::r=>if qPu pre x=0 then sigL (pre++[x]) r else qPu pre x
def qVe (sig:List Sy):Int:=if 128<sig.length then 37 else sigL [] sig
structure Sr (h:H) (s:Value) (sig:List Sy):Prop where
 row:RowK 2 h s (qVv sig)
 len:sig.length<2 ^ 40
 names:∀ x∈sig,x.1.size<2 ^ 62
theorem Sr.ext {h h':H} {s:Value} {sig:List Sy} (r:Sr h s sig) (e:Ext h h'):Sr h' s sig:=⟨r.row.ext e,r.len,r.names⟩
def Stays (T:H→Prop):Prop:=∀ h h',Ext h h'→T h→T h'
def qCd (D:Orc) (f:Nat) (T:H→Prop):Prop:=∀ s sig h (k:Kv) kp,Sr h s sig→T h→(∀ h',Ext h h'→k (.int .i64 (qVe sig)) h')→D f [s] h k kp
theorem xQf {α:Type} {l:List α} {i:Nat} {x:α} (h:l[i]?=some x):l=l.take i++x::l.drop (i+1)∧l.take (i+1)=l.take i++[x]∧l.drop i=x::l.drop (i+1):=by
 obtain ⟨hlt,rfl⟩:=List.getElem?_eq_some_iff.mp h
 have h1:l.drop i=l[i]::l.drop (i+1):=List.drop_eq_getElem_cons hlt
 refine ⟨by rw [← h1,List.take_append_drop],by rw [List.take_add_one,h]; rfl,h1⟩
section
variable {D:Orc} {T:H→Prop}
theorem xKj (hT:Stays T) (a54:qHg D 71) (c73:Cl72 D) {s:Value} {sig:List Sy} {h0:H} (r:Sr h0 s sig) {K:Kl} {I:List Value→H→Prop} {i:Nat} {x:Sy} (hx:sig[i]?=some x)
  {b:Nat} {h:H} (he:Ext h0 h) (hb:h b=some (.cells (qXn x))) {bad:Bool} (hbad:bad=!qZt x.1)
  (hgo:∀ h',Ext h0 h'→qPu (sig.take i) x=0→I [s,s,.int .i64 ((sig.length:Nat):Int),.int .i64 (((i+1:Nat)):Int)] h') (hstop:∀ h',Ext h0 h'→qPu (sig.take i) x≠0→K .r [.int .i64 (qPu (sig.take i) x)] h') :
  j27_4_8 D I K s (.int .i64 (i:Int)) (.pointer (some ⟨b,0,none⟩)) s (.int .i64 ((sig.length:Nat):Int)) (.int .i64 (i:Int)) (.bool bad) h:=by
 have hlt:=(List.getElem?_eq_some_iff.mp hx).1
 have hl:=r.len
 unfold j27_4_8
 simp only [qQa,qQc]
 subst hbad
 have r1:rd h (Addr.add ⟨b,0,none⟩ 1)=some (.int .i64 x.2):=qXt (i:=1) hb rfl
 cases hn:qZt x.1 with
 | false =>
  have e:qPu (sig.take i) x=34:=by unfold qPu; rw [if_pos hn]
  have:=hstop h he (by rw [e]; decide)
  rw [e] at this
  exact this
 | true =>
  rw [Bool.not_true,cond_false,qQe]
  have ten:∀ t:Bool,t=decide (x.2<0∨8<x.2)→j27_4_10 D I K s (.int .i64 (i:Int)) (.pointer (some ⟨b,0,none⟩)) s (.int .i64 ((sig.length:Nat):Int)) (.int .i64 (i:Int)) (.bool t) h:=by
   intro t ht
   unfold j27_4_10
   simp only [qQa,qQc]
   by_cases har:x.2<0∨8<x.2
   ·rw [decide_eq_true har] at ht
    subst ht
    have e:qPu (sig.take i) x=35:=by unfold qPu; rw [if_neg (by rw [hn]; simp),if_pos har]
    have:=hstop h he (by rw [e]; decide)
    rw [e] at this
    exact this
   ·rw [decide_eq_false har] at ht
    subst ht
    rw [cond_false]
    have e:qPu (sig.take i) x=if (sig.take i).any (fun y=>y.1.toList==x.1.toList) then 36 else 0:=by unfold qPu; rw [if_neg (by rw [hn]; simp),if_neg har]
    refine (r.ext he).row.cut (i:=0) (j:=i) rfl rfl (by omega) (by rw [qXd]; omega) fun s' rs' _=>?_
    rw [List.drop_zero,xZk] at rs'
    refine a54 _ _ _ _ _ _ _ rs' (by rw [List.length_take]; omega) (fn73 c73 (n:=x.1) (a:=.int .i64 x.2) hb) fun h' e'=>⟨_,rfl,?_⟩
    cases ha:(sig.take i).any (fun y=>y.1.toList==x.1.toList) with
    | true =>
     rw [ha,if_pos rfl] at e
     have:=hstop h' (he.trans e') (by rw [e]; decide)
     rw [e] at this
     exact this
    | false =>
     rw [ha,if_neg (by simp)] at e
     rw [cond_false,qQr (by omega) (by omega)]
     have:=hgo h' (he.trans e') e
     exact this
  refine ⟨x.2,r1,?_⟩
  rw [qQx,qQd]
  refine ⟨fun hneg=>ten true (by rw [decide_eq_true (.inl hneg)]),fun hpos=>?_⟩
  rw [qQe]
  refine ⟨x.2,r1,ten _ ?_⟩
  rw [decide_eq_decide]; omega
theorem xKk (hT:Stays T) (n72:qDx D 70 T) (a54:qHg D 71) (c73:Cl72 D) {s:Value} {sig:List Sy} {h:H} (r:Sr h s sig) (ht:T h) {K:Kl} {I:List Value→H→Prop}
    (hI:∀ a0 a1 a2 a3 h,round27_4 D I K a0 a1 a2 a3 h→I [a0,a1,a2,a3] h) (hK1:∀ h',Ext h h'→sigL [] sig=0→K (.e 0) [] h') (hK2:∀ h',Ext h h'→K .r [.int .i64 (sigL [] sig)] h') :
    ∀ (n i:Nat) (h1:H),sig.length - i≤n→i≤sig.length→Ext h h1→sigL (sig.take i) (sig.drop i)=sigL [] sig→I [s,s,.int .i64 ((sig.length:Nat):Int),.int .i64 ((i:Nat):Int)] h1:=by
  have hl:=r.len
  intro n
  induction n with
  | zero =>
    intro i h1 hn hi he hs
    refine hI _ _ _ _ _ ?_
    unfold round27_4
    rw [qQa,qQa,qQd]
    refine ⟨fun hlt=>by omega,fun _=>?_⟩
    rw [List.drop_eq_nil_of_le (by omega)] at hs
    exact hK1 _ he hs.symm
  | succ n ih =>
    intro i h1 hn hi he hs
    refine hI _ _ _ _ _ ?_
    unfold round27_4
    rw [qQa,qQa,qQd]
    refine ⟨fun hlt=>?_,fun _=>?_⟩
    · refine (r.ext he).row.at_ (by omega) (by rw [qXd]; omega) fun ad v hv hrd _ => ?_
      rw [Int.toNat_natCast] at hv
      obtain ⟨x,hx,rfl⟩:=qYm hv
      obtain ⟨_,htk,hdr⟩:=xQf hx
      rw [hdr] at hs
      have hxs:=r.names x (List.mem_of_getElem? hx)
      refine ⟨x.1,x.2,hrd,?_⟩
      refine qTz rfl rfl (by trivial) fun b h2 hb0 hb e2=>?_
      have he2:=he.trans e2
      rw [qQe]
      refine ⟨x.1,qXt (i:=0) hb rfl,?_⟩
      rw [qQe]
      refine ⟨x.1,qXt (i:=0) hb rfl,?_⟩
      refine n72 _ _ _ _ hxs (hT _ _ he2 ht) fun h3 e3=>⟨_,rfl,?_⟩
      have he3:=he2.trans e3
      have hb3:=e3 _ _ hb
      have fin:∀ (bad:Bool) (h4:H),Ext h h4→h4 b=some (.cells (qXn x))→bad=!qZt x.1 →
          j27_4_8 D I K s (.int .i64 (i:Int)) (.pointer (some ⟨b,0,none⟩)) s (.int .i64 ((sig.length:Nat):Int)) (.int .i64 (i:Int)) (.bool bad) h4:=by
        intro bad h4 he4 hb4 hbad
        refine xKj hT a54 c73 r hx he4 hb4 hbad (fun h' e' h0=>?_) (fun h' e' h0=>?_)
        · refine ih (i+1) h' (by omega) (by omega) e' ?_
          rw [sigL,if_pos h0] at hs
          rw [htk]; exact hs
        · rw [sigL,if_neg h0] at hs
          rw [hs]
          exact hK2 h' e'
      cases hn:qVs x.1 with
      | true =>
        rw [Bool.not_true,cond_false]
        exact fin false h3 he3 hb3 (by unfold qZt; rw [hn]; rfl)
      | false =>
        rw [Bool.not_false,cond_true,qQx,qZf]
        refine ⟨fun hz=>?_,fun hz=>?_⟩
        · refine fin true h3 he3 hb3 ?_
          unfold qZt qCn
          rw [hn,decide_eq_false (by omega)]; rfl
        · rw [qQe]
          refine ⟨x.1,qXt (i:=0) hb3 rfl,?_⟩
          rw [qQr (by omega) (by omega)]
          refine ⟨by omega,by omega,?_⟩
          have e1:((x.1.size:Int) - 1).toNat=x.1.size - 1:=by omega
          rw [e1]
          show cond _ _ _
          have hpos:decide (0<x.1.size)=true:=decide_eq_true (by omega)
          rw [qQx,qZl]
          refine ⟨fun h35=>?_,fun h35=>?_⟩
          · refine fin true h3 he3 hb3 ?_
            unfold qZt qCn
            have:(((x.1.get! (x.1.size - 1)).toNat:Int)==35)=false:=by simpa using h35
            rw [hn,this]; simp
          · rw [qQe]
            refine ⟨x.1,qXt (i:=0) hb3 rfl,?_⟩
            refine ⟨by simp,by show (0:Int)≤(x.1.size:Int) - 1; omega,by show (x.1.size:Int) - 1≤_; omega,?_⟩
            have e2:x.1.extract (Int.toNat (Option.getD none 0)) (Int.toNat (Option.getD (some ((x.1.size:Int) - 1)) x.1.size))=x.1.extract 0 (x.1.size - 1):=by
              show x.1.extract 0 ((x.1.size:Int) - 1).toNat=_
              rw [e1]
            rw [e2]
            have h2:(x.1.extract 0 (x.1.size - 1)).size≤x.1.size:=by
              rw [← qQq,qYg,List.drop_zero,List.length_take,qQq]; omega
            refine n72 _ _ _ _ (by omega) (hT _ _ he3 ht) fun h4 e4=>⟨_,rfl,?_⟩
            refine fin _ h4 (he3.trans e4) (e4 _ _ hb3) ?_
            unfold qZt qCn
            have:(((x.1.get! (x.1.size - 1)).toNat:Int)==35)=true:=by simpa using h35
            rw [hn,this,hpos]; simp
    · rw [List.drop_eq_nil_of_le (by omega)] at hs
      exact hK1 _ he hs.symm
theorem xIh (hT:Stays T) (c:Cl27 D) (n72:qDx D 70 T) (a54:qHg D 71) (c73:Cl72 D):qCd D 27 T:=by
 intro s sig h k kp r ht hk
 refine c _ _ _ _ ?_
 unfold F27
 have hl:=r.len
 rw [r.row.len,qXd,qQd]
 refine ⟨fun hbig=>?_,fun hsmall=>?_⟩
 ·have:=hk h (Ext.refl h)
  unfold qVe at this
  rw [if_pos (by omega)] at this
  exact this
 ·have ec:qVe sig=sigL [] sig:=by unfold qVe; rw [if_neg (by omega)]
  rw [ec] at hk
  rw [r.row.len,qXd]
  intro I hI
  refine xKk hT n72 a54 c73 r ht hI (fun h' e' h0=>?_) (fun h' e'=>?_) sig.length 0 h (by omega) (by omega) (Ext.refl h) (by simp)
  ·rw [xs_e]
   show cond (Nat.beq 0 0) _ _
   have:=hk h' e'
   rw [h0] at this
   exact this
  ·rw [xs_r,nth0,qQa]
   exact hk h' e'
end
variable {D:Orc} {T:H→Prop}
theorem qHt:∀ (sig pre:List Sy),sigL pre sig=0→∀ x∈sig,qZt x.1=true∧0≤x.2∧x.2≤8
 | [],_,_,x,hx=>by simp at hx
 | y::r,pre,h,x,hx=>by
  unfold sigL at h
  by_cases h0:qPu pre y=0
  ·rw [if_pos h0] at h
   rcases List.mem_cons.mp hx with rfl | hx
   ·unfold qPu at h0
    by_cases h1:qZt x.1=false
    ·rw [if_pos h1] at h0; simp at h0
    ·rw [if_neg h1] at h0
     by_cases h2:x.2<0∨8<x.2
     ·rw [if_pos h2] at h0; simp at h0
     ·exact ⟨by simpa using h1,by omega,by omega⟩
   ·exact qHt r _ h x hx
  ·rw [if_neg h0] at h; exact absurd h h0
theorem qCt {sig:List Sy} (h:qVe sig=0):sig.length≤128∧∀ x∈sig,qZt x.1=true∧0≤x.2∧x.2≤8:=by
 unfold qVe at h
 by_cases h1:128<sig.length
 ·rw [if_pos h1] at h; simp at h
 ·rw [if_neg h1] at h
  exact ⟨by omega,qHt sig [] h⟩
variable {D:Orc} {T:H→Prop}
theorem qOm (r:Nat) (h:128≤r):∃ l b,encodeRune (r:Int)=l++[b]∧128≤b.toNat:=by
 have e:∀ n:Nat,n<64→128≤(((128+(n:Int)).toNat.toUInt8:UInt8)).toNat:=fun n hn=>by
  have:(128+(n:Int)).toNat=128+n:=by omega
  rw [this]
  show 128≤(UInt8.ofNat (128+n)).toNat
  rw [UInt8.toNat_ofNat']; omega
 have hm:(r:Int) % 64=((r % 64:Nat):Int):=by omega
 have hlt:r % 64<64:=Nat.mod_lt _ (by decide)
 unfold encodeRune
 by_cases h2:r≤2047
 ·rw [encodeRuneZ_two (by omega) (by omega),hm]
  exact ⟨[_],_,rfl,e _ hlt⟩
 ·by_cases h3:(2048≤r∧r<55296)∨(57343<r∧r≤65535)
  ·rw [encodeRuneZ_three (by omega),hm]
   exact ⟨[_,_],_,rfl,e _ hlt⟩
  ·by_cases h4:65536≤r∧r≤1114111
   ·rw [encodeRuneZ_four (by omega) (by omega),hm]
    exact ⟨[_,_,_],_,rfl,e _ hlt⟩
   ·rw [encodeRuneZ_bad (by omega)]
    exact ⟨[_,_],_,rfl,by decide⟩
theorem qOi (s:ByteArray):∀ (n p:Nat),s.size - p≤n→p<s.size→validD ((bts s).drop p)=true→qLg s p=true→(s.get! (s.size - 1)).toNat≠35
 | 0,p,h,hp,_,_=>by omega
 | n+1,p,h,hp,hv,hok=>by
  have hne:(bts s).drop p≠[]:=by
   intro h0
   have:=congrArg List.length h0
   rw [List.length_drop,qQq] at this
   simp at this; omega
  have hL:decodeL ((bts s).drop p)=Utf8.decode s p:=decodeL_drop s p
  have hle:=decodeL_le _ hne
  have hw:=decodeL_width ((bts s).drop p)
  rw [validD_step _ hne] at hv
  by_cases hb:(decodeL ((bts s).drop p)).1=65533∧(decodeL ((bts s).drop p)).2=1
  ·rw [if_pos hb] at hv; cases hv
  ·rw [if_neg hb] at hv
   have he:=encode_decode _ hne hb
   rw [qIc hp,Bool.and_eq_true] at hok
   rw [hL,List.length_drop,qQq] at hle
   rw [hL] at hv hw he
   rw [List.drop_drop] at hv
   generalize Utf8.decode s p=rw at hv hw he hle hok
   obtain ⟨r,w⟩:=rw
   dsimp only at hv hw he hle hok
   by_cases hend:p+w<s.size
   ·exact qOi s n (p+w) (by omega) hend hv hok.2
   ·have hpw:p+w=s.size:=by omega
    rw [List.take_of_length_le (by rw [List.length_drop,qQq]; omega)] at he
    have hg:=get!_eq s (s.size - 1) (by omega)
    have hl:(bts s).drop p≠[]:=hne
    have hlast:((bts s).drop p).getLast?=some (s.get! (s.size - 1)):=by
     rw [List.getLast?_eq_getElem?,List.getElem?_drop,List.length_drop,qQq,← hg]
     congr 1; omega
    rw [← he] at hlast
    by_cases hr:r<128
    ·rw [encodeRune,encodeRuneZ_one (by omega) (by omega)] at hlast
     simp only [List.map_cons,List.map_nil,List.getLast?_singleton,Option.some.injEq] at hlast
     intro h35
     rw [← hlast] at h35
     have h36:((r:Int).toNat.toUInt8).toNat=r:=by
      show (UInt8.ofNat r).toNat=r
      rw [UInt8.toNat_ofNat']; omega
     rw [h36] at h35
     subst h35
     have:=hok.1
     split at this <;> simp [letter,more] at this
    ·obtain ⟨l,b,hlb,hb128⟩:=qOm r (by omega)
     rw [hlb,List.getLast?_append] at hlast
     simp at hlast
     rw [← hlast]; omega
theorem qLi {s:ByteArray} (h:qVs s=true):qWg s=false:=by
 unfold qVs at h
 simp only [Bool.and_eq_true,bne_iff_ne,ne_eq,decide_eq_true_eq] at h
 obtain ⟨⟨⟨h0,h1⟩,h2⟩,h3⟩:=h
 have:=qOi s s.size 0 (by omega) (by omega) (by rw [List.drop_zero]; exact h2) h3
 unfold qWg
 have e:(((s.get! (s.size - 1)).toNat:Int)==35)=false:=by
  simp only [beq_eq_false_iff_ne,ne_eq]; omega
 rw [e]; simp
theorem xPp {s:ByteArray} (h:qZt s=true):qWg s=qCn s:=by
 unfold qZt at h
 cases hn:qVs s with
 | true =>
  rw [qLi hn]
  unfold qCn
  have:=qLi hn
  unfold qWg at this
  rw [this]; rfl
 | false =>
  rw [hn,Bool.false_or] at h
  rw [h]
  unfold qCn at h
  simp only [Bool.and_eq_true] at h
  unfold qWg
  rw [h.1.1,h.1.2]; rfl
variable {D:Orc} {T:H→Prop}
def Z (l:List Int):List Value:=l.map fun n=>.int .i64 n
theorem qTt (l:List Int):(Z l).length=l.length:=by simp [Z]
theorem Z_get {l:List Int} {i:Nat} {v:Value} (h:(Z l)[i]?=some v):∃ x,l[i]?=some x∧v=.int .i64 x:=by
 simp only [Z,List.getElem?_map,Option.map_eq_some_iff] at h
 obtain ⟨x,hx,rfl⟩:=h
 exact ⟨x,hx,rfl⟩
def inI (x:Int):Prop:=-9223372036854775808≤x∧x≤9223372036854775807
structure Ir (h:H) (s:Value) (l:List Int):Prop where
 row:Row h s (Z l)
 len:l.length<2 ^ 40
 rng:∀ x∈l,inI x
theorem Ir.ext {h h':H} {s:Value} {l:List Int} (r:Ir h s l) (e:Ext h h'):Ir h' s l:=⟨r.row.ext e,r.len,r.rng⟩
theorem Ir.but {h h':H} {s:Value} {l:List Int} (r:Ir h s l) {c:Nat} (ho:Off c s) (e:ExtBut c h h'):Ir h' s l:=⟨r.row.but ho e,r.len,r.rng⟩
theorem Sr.but {h h':H} {s:Value} {sig:List Sy} (r:Sr h s sig) {c:Nat} (ho:Off c s) (e:ExtBut c h h'):Sr h' s sig:=⟨r.row.but ho e,r.len,r.names⟩
theorem Ir.len_ {h:H} {s:Value} {l:List Int} (r:Ir h s l) {k:Nat→Prop}:lenW s k↔k l.length:=by rw [r.row.len,qTt]
theorem Ir.at_ {h:H} {s:Value} {l:List Int} (r:Ir h s l) {n:Int} (h0:0≤n) (h1:n<l.length) {k:Addr→Prop} (hk:∀ a x,l[n.toNat]?=some x→inI x→rd h a=some (.int .i64 x)→k a):qQm s n 1 k :=
 r.row.at_ h0 (by rw [qTt]; exact h1) fun a v hv ha=>by
  obtain ⟨x,hx,rfl⟩:=Z_get hv
  exact hk a x hx (r.rng x (List.mem_of_getElem? hx)) ha
def S2 (sig:List Sy):Sg:=sig.map fun x=>(bts x.1,x.2)
theorem qRj (sig:List Sy):(S2 sig).length=sig.length:=by simp [S2]
theorem xGb {sig:List Sy} {c:Int} {x:Sy} (h0:0≤c) (hx:sig[c.toNat]?=some x):kids (S2 sig) c=x.2.toNat:=by
 unfold kids S2
 rw [if_neg (by omega),List.getElem?_map,hx]; rfl
theorem xBf {sig:List Sy} {c:Int} (h0:c<0):kids (S2 sig) c=0:=by unfold kids; rw [if_pos h0]
def ArOk (sig:List Sy):Prop:=∀ x∈sig,0≤x.2∧x.2≤8
theorem xEk {sig:List Sy} (h:qVe sig=0):ArOk sig:=fun x hx=>((qCt h).2 x hx).2
variable {D:Orc} {T:H→Prop}
theorem Buf.but {h0 h h':H} {s:Value} {vs:List Value} (r:Buf h0 h s vs) {c:Nat} (ho:Blk s≠some c) (e:ExtBut c h h'):Buf h0 h' s vs:=by
 rcases r.pos with ⟨a,h1,h2⟩ | ⟨b,off,cap,l,hc,h1,rfl,h2,h3⟩
 ·exact .inl ⟨⟨a,h1⟩,h2⟩
 ·exact .inr ⟨b,off,cap,l,h1,rfl,e b _ (fun x=>ho (by rw [qXb hc,x])) h2,h3⟩
theorem Buf.blk {h0 h:H} {s:Value} {vs:List Value} (r:Buf h0 h s vs) {d:Nat} (hd:Blk s=some d):h0 d=none:=by
 rcases r.pos with ⟨a,rfl,_⟩ | ⟨b,off,cap,l,hc,h1,rfl,_⟩
 ·rw [qZh] at hd; cases hd
 ·rw [qXb hc] at hd; cases hd; exact h1
theorem Buf.push {h0 h:H} {s:Value} {vs:List Value} (r:Buf h0 h s vs) (e:Ext h0 h) (hs:vs.length<2 ^ 40) {v z:Value} {bytes:Nat} (hb:bytes≤64) (hv:one v=true) {O U:Prop} (hO:O) (hU:U) {K:Value→H→Prop}
  (hK:∀ s' h',Buf h0 h' s' (vs++[v])→Ext h0 h'→K s' h') :
  O∧U∧qQz h 1 [v] (fun s31 h32=>qXi s31 (fun n33=>srcW h32 1 s31 (n33) (fun w34=>apW h32 1 bytes [z] s (n33) w34 (fun s35 h36=>K s35 h36)))):=by
 refine ⟨hO,hU,fun b hb'=>?_⟩
 have hrow:Row (h.set b (.cells [v])) (.slice (some ⟨b,0,none⟩) 1 1) [v]:=Row.cells qQf rfl
 show qXi (.slice (some ⟨b,0,none⟩) 1 1) _
 rw [qVu]
 refine hrow.src (by simp) ?_
 have hbytes:2*(vs.length+[v].length)*bytes≤2 ^ 48:=by
  have h1:vs.length+[v].length≤1099511627776:=by simp; omega
  have h2:2*(vs.length+[v].length)≤2199023255552:=by omega
  calc 2*(vs.length+[v].length)*bytes≤2199023255552*64:=Nat.mul_le_mul h2 hb
   _≤2 ^ 48:=by decide
 refine (r.ext (Ext.new hb')).app (e.trans (Ext.new hb')) rfl (by simp [hv]) hbytes (by simp; omega) fun s' h' r' e'=>?_
 exact hK s' h' r' e'
structure Own (h0 h:H) (s:Value) (vs:List Value):Prop where
 ext:Ext h0 h
 buf:Buf (h.drop s) h s vs
 blk:∀ d,Blk s=some d→h0 d=none
theorem Own.nil_ {h0 h:H} (e:Ext h0 h):Own h0 h (.slice none 0 0) []:=⟨e,.inl ⟨⟨none,rfl⟩,rfl⟩,fun d hd=>by rw [qZh] at hd; cases hd⟩
theorem Own.row {h0 h:H} {s:Value} {vs:List Value} (o:Own h0 h s vs):Row h s vs:=o.buf.row
theorem Own.but {h0 h h':H} {s:Value} {vs:List Value} (o:Own h0 h s vs) {c:Nat} (hc:Blk s≠some c) (e:ExtBut c h h') (he:Ext h0 h'):Own h0 h' s vs:=⟨he,(o.buf.but hc e).self,o.blk⟩
theorem Own.later {h0 h h':H} {s:Value} {vs:List Value} (o:Own h0 h s vs) (e:Ext h h'):Own h0 h' s vs:=⟨o.ext.trans e,(o.buf.ext e).self,o.blk⟩
theorem Own.push {h0 h:H} {s:Value} {vs:List Value} (o:Own h0 h s vs) (hs:vs.length<2 ^ 40) {v z:Value} {bytes:Nat} (hb:bytes≤64) (hv:one v=true) {O U:Prop} (hO:O) (hU:U) {K:Value→H→Prop}
  (hK:∀ s' h',Own h0 h' s' (vs++[v])→(∀ d x,Blk s≠some d→h d=some x→h' d=some x)→(∀ d,Blk s'=some d→Blk s=some d∨h d=none)→K s' h') :
  O∧U∧qQz h 1 [v] (fun s31 h32=>qXi s31 (fun n33=>srcW h32 1 s31 (n33) (fun w34=>apW h32 1 bytes [z] s (n33) w34 (fun s35 h36=>K s35 h36)))):=by
 refine o.buf.push (Ext.drop h s) hs hb hv hO hU fun s' h' r' e'=>?_
 have hkeep:∀ d x,Blk s≠some d→h d=some x→h' d=some x:=fun d x hd hx=>e' d x (by rw [qZo hd]; exact hx)
 have hnew:∀ d,Blk s'=some d→Blk s=some d∨h d=none:=fun d hd=>by
  have:=r'.blk hd
  by_cases hx:Blk s=some d
  ·exact .inl hx
  ·rw [qZo hx] at this; exact .inr this
 refine hK s' h' ⟨fun d x hx=>?_,r'.self,fun d hd=>?_⟩ hkeep hnew
 ·refine hkeep d x (fun hb=>?_) (o.ext d x hx)
  rw [o.blk d hb] at hx; cases hx
 ·rcases hnew d hd with h1 | h1
  ·exact o.blk d h1
  ·exact o.ext.free h1
theorem xGy (l m:List Int):Z l++Z m=Z (l++m):=by simp [Z]
variable {D:Orc} {T:H→Prop}
def xGz (es:List MapEntry) (ks:List Int):Prop:=es.map (·.key)=ks.map (Value.int .i64)
structure VInv (h0 h:H) (b:Nat) (t:Value) (out:List Int):Prop where
 own:Own h0 h t (Z out)
 map:∃ es c,h b=some (.map es c)∧xGz es (out.map fun v=>-1 - v)∧∀ e∈es,∃ x,e.val=.int .i64 x
 nb:Blk t≠some b
 h0b:h0 b=none
variable {D:Orc} {T:H→Prop}
theorem qAq {h:H} {b i:Nat} {l:List Value} {v:Value} (hb:h b=some (.cells l)) (hi:i<l.length):wr1 h (Addr.add ⟨b,0,none⟩ i) v=some (h.set b (.cells (l.set i v))):=by
 rw [qZg,Nat.zero_add]
 simp only [wr1,hb]
 rw [if_pos hi]
theorem qZs {a:Addr}:qQh (.pointer (some a))=true:=rfl
theorem exI {φ:Value→Prop}:exR Tryz.prog (qIz Tryz.prog 3) φ=∃ x:Int,φ (.int .i64 x):=by kernel_rfl
theorem xPm:xPo Tryz.prog 203 "lodestone/term.size"=some 204:=by kernel_rfl
theorem xZz:xPo Tryz.prog 204 "lodestone/term.size"=some 205:=by kernel_rfl
theorem xGu:qZr Tryz.prog 205=true:=by kernel_rfl
theorem xGt:qZr Tryz.prog 204=true:=by kernel_rfl
theorem xJa (c:Cl204 D) {x:Int} {h:H} {k:Kv} {kp:Kp} (hk:k (.int .i64 1) h):invW Tryz.prog D 3 (.iface 203 (.int .i64 x)) "lodestone/term.size" [] h k kp:=by
 unfold invW
 simp only [xPm]
 unfold qGo
 rw [xGt]
 simp only [exI]
 refine c _ _ _ _ ?_
 unfold F204
 rw [qQa]
 exact ⟨_,rfl,hk⟩
theorem xZh (c:Cl205 D) {b:Nat} {a n:Int} {s:Value} {h:H} {k:Kv} {kp:Kp} (hb:h b=some (.cells [.int .i64 a,.int .i64 n,s])) (hk:k (.int .i64 n) h):invW Tryz.prog D 3 (.iface 204 (.pointer (some ⟨b,0,none⟩))) "lodestone/term.size" [] h k kp:=by
 unfold invW
 simp only [xZz]
 unfold qGo
 rw [xGu]
 simp only [exI]
 refine c _ _ _ _ ?_
 unfold F205
 rw [qQe]
 exact ⟨qZs,n,qXt (i:=1) hb rfl,_,rfl,hk⟩
def xLs (h h':H) (v:Value) (n:Nat):Prop:=(∃ x,v=.iface 203 (.int .i64 x)∧n=1) ∨
 ∃ b a s,v=.iface 204 (.pointer (some ⟨b,0,none⟩))∧h b=none∧h' b=some (.cells [.int .i64 a,.int .i64 ((n:Nat):Int),s])
def xCk (b:Nat) (sg tt:Value) (sig:List Sy) (l:List Int) (at_:Nat) (bad:Int) (h:H) (v:Value) (h':H):Prop :=
 ∃ (at':Nat) (bad':Int) (n:Nat),h' b=some (.cells [sg,tt,.int .i64 ((at':Nat):Int),.int .i64 bad'])∧ExtBut b h h'∧xLs h h' v n∧1≤n∧n≤9*(at' - at_)+1∧at_≤at'∧at'≤l.length ∧
  (bad≠0→bad'=bad∧at'=at_)∧(bad=0→bad'=(eat (S2 sig) 1 (l.drop at_)).1∧(bad'=0→l.drop at'=(eat (S2 sig) 1 (l.drop at_)).2))
def qDw (D:Orc) (m:Nat):Prop:=∀ (b:Nat) (sg tt:Value) (sig:List Sy) (l:List Int) (at_:Nat) (bad:Int) (h:H) (k:Kv) kp,l.length - at_≤m→at_≤l.length →
 h b=some (.cells [sg,tt,.int .i64 ((at_:Nat):Int),.int .i64 bad])→Sr h sg sig→ArOk sig→Ir h tt l→Off b sg→Off b tt→(∀ v h',xCk b sg tt sig l at_ bad h v h'→k v h')→D 142 [.pointer (some ⟨b,0,none⟩)] h k kp
def hide (h:H) (b:Nat):H:=fun d=>if d=b then none else h d
theorem qLs {h h':H} {b:Nat} (e:ExtBut b h h'):Ext (hide h b) h':=fun d o hd=>by
 unfold hide at hd
 split at hd
 ·cases hd
 ·rename_i hne; exact e d o hne hd
theorem xUh {h:H} {b d:Nat} (hd:hide h b d=none) (hne:d≠b):h d=none:=by
 unfold hide at hd
 rw [if_neg hne] at hd; exact hd
theorem Row.blk_known {h:H} {s:Value} {vs:List Value} (r:Row h s vs) {d:Nat} (hd:h d=none):Blk s≠some d:=fun hb=>r.known hb hd
theorem xJo (c135:Cl205 D) (c136:Cl204 D) {m:Nat} (ih:qDw D m) {b cb:Nat} {sg tt:Value} {sig:List Sy} {l:List Int} {at_ ar:Nat} {h:H} (hm:l.length - at_≤m+1) (har:ar≤8) (hcb0:h cb=none)
  (r:Sr h sg sig) (ha:ArOk sig) (q:Ir h tt l) (os:Off b sg) (ot:Off b tt) {K:Kl} {I:List Value→H→Prop} (hI:∀ a0 a1 a2 a3 h,round142_16 D I K a0 a1 a2 a3 h→I [a0,a1,a2,a3] h) (hne:b≠cb)
  (hK:∀ (h':H) (at':Nat) (bad':Int) (n:Nat) (s:Value),h' b=some (.cells [sg,tt,.int .i64 ((at':Nat):Int),.int .i64 bad'])→h' cb=some (.cells [.int .i64 (at_:Int),.int .i64 ((n:Nat):Int),s])→ExtBut b h h' →
   1≤n→n≤9*(at' - at_)+1→at_<at'→at'≤l.length→bad'=(eat (S2 sig) ar (l.drop (at_+1))).1→(bad'=0→l.drop at'=(eat (S2 sig) ar (l.drop (at_+1))).2)→K (.e 2) [.pointer (some ⟨cb,0,none⟩)] h') :
  ∀ (d j at':Nat) (bad':Int) (n:Nat) (s:Value) (vs:List Value) (h1:H),ar - j≤d→j≤ar→h1 b=some (.cells [sg,tt,.int .i64 ((at':Nat):Int),.int .i64 bad'])→h1 cb=some (.cells [.int .i64 (at_:Int),.int .i64 ((n:Nat):Int),s]) →
   Own (hide h b) h1 s vs→vs.length=j→Blk s≠some b→Blk s≠some cb→ExtBut b h h1→1≤n→n≤9*(at' - at_ - 1)+j+1→at_<at'→at'≤l.length →
   (bad'=0→eat (S2 sig) (ar - j) (l.drop at')=eat (S2 sig) ar (l.drop (at_+1)))→(bad'≠0→(eat (S2 sig) ar (l.drop (at_+1))).1=bad') →
   I [.pointer (some ⟨b,0,none⟩),.pointer (some ⟨cb,0,none⟩),.int .i64 ((ar:Nat):Int),.int .i64 ((j:Nat):Int)] h1:=by
 have hq:=q.len
 intro d
 induction d with
 | zero =>
  intro j at' bad' n s vs h1 hd hj hb hc o hvs nb ncb he hn1 hn hat hlen h0 hne0
  refine hI _ _ _ _ _ ?_
  unfold round142_16
  rw [qQa,qQa,qQd]
  refine ⟨fun hlt=>by omega,fun _=>?_⟩
  have hj':j=ar:=by omega
  subst hj'
  rw [Nat.sub_self] at h0
  refine hK h1 at' bad' n s hb hc he hn1 (by omega) hat hlen ?_ ?_
  ·by_cases hb0:bad'=0
   ·rw [← h0 hb0]
    have:eat (S2 sig) 0 (l.drop at')=(0,l.drop at'):=by cases l.drop at' <;> rfl
    rw [this,hb0]
   ·exact (hne0 hb0).symm
  ·intro hb0
   rw [← h0 hb0]
   have:eat (S2 sig) 0 (l.drop at')=(0,l.drop at'):=by cases l.drop at' <;> rfl
   rw [this]
 | succ d ihd =>
  intro j at' bad' n s vs h1 hd hj hb hc o hvs nb ncb he hn1 hn hat hlen h0 hne0
  refine hI _ _ _ _ _ ?_
  unfold round142_16
  rw [qQa,qQa,qQd]
  refine ⟨fun hlt=>?_,fun hge=>?_⟩
  ·have hjar:j<ar:=by omega
   refine ih b sg tt sig l at' bad' h1 _ _ (by omega) hlen hb (r.but os he) ha (q.but ot he) os ot fun v h2 hp=>⟨_,rfl,?_⟩
   obtain ⟨at2,bad2,n2,hb2,he2,hsz,hn21,hn2,hat2,hlen2,p1,p2⟩:=hp
   have hc2:=he2 cb _ (Ne.symm hne) hc
   have he12:=he.trans he2
   refine ⟨qZs,?_⟩
   rw [qQe]
   refine ⟨s,qXt (i:=2) hc2 rfl,?_⟩
   have o2:Own (hide h b) h2 s vs:=o.but nb he2 (qLs he12)
   have hvone:one v=true:=by rcases hsz with ⟨x,rfl,_⟩ | ⟨nbk,a,s2,rfl,_⟩ <;> rfl
   refine o2.push (z:=.nilIface) (by omega) (by decide) hvone hvone (by decide) fun s3 h3 o3 hkeep hnew=>?_
   have hb3:=hkeep b _ nb hb2
   have hc3:=hkeep cb _ ncb hc2
   refine ⟨qZs,?_⟩
   rw [qQe]
   have hs3one:one s3=true:=by
    have:=o3.row.isSl
    cases s3 <;> first | exact this.elim | rfl
   refine ⟨hs3one,by trivial,_,qAq hc3 (show 2<3 by decide),?_⟩
   have hset1:([Value.int .i64 (at_:Int),.int .i64 ((n:Nat):Int),s].set 2 s3)=[Value.int .i64 (at_:Int),.int .i64 ((n:Nat):Int),s3]:=rfl
   rw [hset1]
   generalize hh4:h3.set cb (.cells [Value.int .i64 (at_:Int),.int .i64 ((n:Nat):Int),s3])=h4
   have hc4:h4 cb=some (.cells [Value.int .i64 (at_:Int),.int .i64 ((n:Nat):Int),s3]):=by rw [← hh4]; exact qQf
   have hb4:h4 b=some (.cells [sg,tt,.int .i64 ((at2:Nat):Int),.int .i64 bad2]):=by rw [← hh4,qXg hne]; exact hb3
   refine ⟨qZs,?_⟩
   rw [qQe]
   refine ⟨_,qXt (i:=1) hc4 rfl,?_⟩
   have ncb3:Blk s3≠some cb:=fun x=>by
    rcases hnew cb x with h5 | h5
    ·exact ncb h5
    ·rw [hc2] at h5; cases h5
   have nb3:Blk s3≠some b:=fun x=>by
    rcases hnew b x with h5 | h5
    ·exact nb h5
    ·rw [hb2] at h5; cases h5
   have he23:∀ e x,e≠b→e≠cb→h e=some x→h4 e=some x:=fun e x h5 h6 h7=>by
    rw [← hh4,qXg h6]
    refine hkeep e x (fun hbk=>?_) (he12 e x h5 h7)
    have:=o2.blk e hbk
    have:=xUh this h5
    rw [this] at h7; cases h7
   have end_:(rd h4 (Addr.add ⟨cb,0,none⟩ 1)=some (Value.int .i64 ((n:Nat):Int)))∧intK .i64 (.int .i64 ((n2:Nat):Int)) (fun x59=>qQh (.pointer (some ⟨cb,0,none⟩))=true∧ptrW (.pointer (some ⟨cb,0,none⟩)) (fun ad60=>one (Value.int IntKind.i64 (IntKind.wrap IntKind.i64 (((n:Nat):Int)+x59)))=true∧1=1∧∃ h61,wr1 h4 (Addr.add ad60 1) (Value.int IntKind.i64 (IntKind.wrap IntKind.i64 (((n:Nat):Int)+x59)))=some h61∧I [.pointer (some ⟨b,0,none⟩),.pointer (some ⟨cb,0,none⟩),(Value.int IntKind.i64 ((ar:Nat):Int)),(Value.int IntKind.i64 (IntKind.wrap IntKind.i64 (((j:Nat):Int)+(1:Int))))] h61)):=by
    refine ⟨qXt (i:=1) hc4 rfl,?_⟩
    rw [qQa]
    refine ⟨qZs,?_⟩
    rw [qQe]
    refine ⟨rfl,by trivial,_,qAq hc4 (show 1<3 by decide),?_⟩
    have hw:IntKind.wrap .i64 (((n:Nat):Int)+((n2:Nat):Int))=((n+n2:Nat):Int):=by rw [qQr (by omega) (by omega)]; omega
    have hset2:([Value.int .i64 (at_:Int),.int .i64 ((n:Nat):Int),s3].set 1 (.int .i64 ((n+n2:Nat):Int)))=[Value.int .i64 (at_:Int),.int .i64 ((n+n2:Nat):Int),s3]:=rfl
    have hj1:IntKind.wrap .i64 (((j:Nat):Int)+1)=((j+1:Nat):Int):=by rw [qQr (by omega) (by omega)]; omega
    rw [hw,hset2,hj1]
    have hbut4:ExtBut cb h3 (h4.set cb (.cells [Value.int .i64 (at_:Int),.int .i64 ((n+n2:Nat):Int),s3])):=fun e x h5 h6=>by
     rw [qXg h5,← hh4,qXg h5]; exact h6
    have hext5:ExtBut b h (h4.set cb (.cells [Value.int .i64 (at_:Int),.int .i64 ((n+n2:Nat):Int),s3])):=fun e x h5 h6=>by
     have h7:e≠cb:=fun h8=>by rw [h8,hcb0] at h6; cases h6
     rw [qXg h7]; exact he23 e x h5 h7 h6
    have o5:=o3.but ncb3 hbut4 (qLs hext5)
    refine ihd (j+1) at2 bad2 (n+n2) s3 (vs++[v]) _ (by omega) (by omega) (by rw [qXg hne]; exact hb4) qQf o5 (by simp [hvs]) nb3 ncb3 hext5 (by omega) (by omega) (by omega) hlen2 ?_ ?_
    ·intro hb20
     by_cases hb0:bad'=0
     ·obtain ⟨p3,p4⟩:=p2 hb0
      rw [p4 hb20,← h0 hb0,show ar - j=1+(ar - (j+1)) by omega,qLx,if_pos (by rw [← p3]; exact hb20)]
     ·rw [(p1 hb0).1] at hb20; exact absurd hb20 hb0
    ·intro hb20
     by_cases hb0:bad'=0
     ·obtain ⟨p3,p4⟩:=p2 hb0
      rw [← h0 hb0,show ar - j=1+(ar - (j+1)) by omega,qLx,if_neg (by rw [← p3]; exact hb20)]
      exact p3.symm
     ·rw [(p1 hb0).1]; exact hne0 hb0
   rcases hsz with ⟨x,rfl,rfl⟩ | ⟨nbk,a,s2,rfl,hfresh,hnb⟩
   ·exact xJa c136 end_
   ·have hd1:Blk s≠some nbk:=o.row.blk_known hfresh
    have hd2:nbk≠cb:=fun x=>by rw [x,hc] at hfresh; cases hfresh
    have:h4 nbk=some (.cells [.int .i64 a,.int .i64 ((n2:Nat):Int),s2]):=by
     rw [← hh4,qXg hd2]; exact hkeep nbk _ hd1 hnb
    exact xZh c135 this end_
  ·have hj':j=ar:=by omega
   subst hj'
   rw [Nat.sub_self] at h0
   refine hK h1 at' bad' n s hb hc he hn1 (by omega) hat hlen ?_ ?_
   ·by_cases hb0:bad'=0
    ·rw [← h0 hb0]
     have:eat (S2 sig) 0 (l.drop at')=(0,l.drop at'):=by cases l.drop at' <;> rfl
     rw [this,hb0]
    ·exact (hne0 hb0).symm
   ·intro hb0
    rw [← h0 hb0]
    have:eat (S2 sig) 0 (l.drop at')=(0,l.drop at'):=by cases l.drop at' <;> rfl
    rw [this]
variable {D:Orc} {T:H→Prop}
theorem xGl {sig:List Sy} {l:List Int} {i:Nat} {c:Int} (hc:l[i]?=some c):eat (S2 sig) 1 (l.drop i)=if badC sig.length c then (30,l.drop i) else eat (S2 sig) (kids (S2 sig) c) (l.drop (i+1)):=by
 have hd:=(xQf hc).2.2
 rw [hd]
 conv=>lhs; unfold eat
 rw [qRj,Nat.zero_add]
theorem xJp (c:Cl142 D) (c135:Cl205 D) (c136:Cl204 D) (m:Nat) (ih:∀ m',m=m'+1→qDw D m'):qDw D m:=by
 intro b sg tt sig l at_ bad h k kp hm hle hb r ha q os ot hk
 have hq:=q.len
 have hsl:=r.len
 refine c _ _ _ _ ?_
 unfold F142
 rw [qQe]
 refine ⟨qZs,bad,qXt (i:=3) hb rfl,?_⟩
 rw [qZl]
 refine ⟨fun hne=>?_,fun h0=>?_⟩
 ·refine hk _ _ ⟨at_,bad,1,hb,ExtBut.refl b h,.inl ⟨0,rfl,rfl⟩,by omega,by omega,by omega,hle,fun _=>⟨rfl,rfl⟩,fun h0=>absurd h0 hne⟩
 ·subst h0
  refine ⟨qZs,?_⟩
  rw [qQe]
  refine ⟨_,qXt (i:=2) hb rfl,qZs,?_⟩
  rw [qQe]
  refine ⟨tt,qXt (i:=1) hb rfl,?_⟩
  rw [q.len_,qZf]
  refine ⟨fun heq=>?_,fun hlt=>?_⟩
  ·have hal:at_=l.length:=by omega
   refine ⟨qZs,?_⟩
   rw [qQe]
   refine ⟨rfl,by trivial,_,qAq hb (show 3<4 by decide),?_⟩
   have hset:([sg,tt,Value.int .i64 ((at_:Nat):Int),Value.int .i64 0].set 3 (.int .i64 31))=[sg,tt,Value.int .i64 ((at_:Nat):Int),Value.int .i64 31]:=rfl
   rw [hset]
   have he:eat (S2 sig) 1 (l.drop at_)=(31,[]):=by rw [List.drop_eq_nil_of_le (by omega)]; rfl
   refine hk _ _ ⟨at_,31,1,qQf,ExtBut.set,.inl ⟨0,rfl,rfl⟩,by omega,by omega,by omega,hle,fun h=>absurd rfl h,fun _=>?_⟩
   rw [he]; exact ⟨rfl,fun h=>by simp at h⟩
  ·refine ⟨qZs,?_⟩
   rw [qQe]
   refine ⟨tt,qXt (i:=1) hb rfl,qZs,?_⟩
   rw [qQe]
   refine ⟨_,qXt (i:=2) hb rfl,?_⟩
   refine q.at_ (by omega) (by omega) fun ad x hx hxi hrd=>⟨x,hrd,qZs,?_⟩
   rw [Int.toNat_natCast] at hx
   rw [qQe]
   refine ⟨sg,qXt (i:=0) hb rfl,?_⟩
   rw [r.row.len,qXd]
   have he:=xGl (sig:=sig) hx
   have eight:∀ t:Bool,t=badC sig.length x→j142__8 D k kp (.pointer (some ⟨b,0,none⟩)) (.int .i64 x) (.bool t) h:=by
    intro t ht
    unfold j142__8
    simp only [qQa,qQc]
    rw [← ht] at he
    cases t with
    | true =>
     rw [cond_true]
     rw [if_pos rfl] at he
     refine ⟨qZs,?_⟩
     rw [qQe]
     refine ⟨rfl,by trivial,_,qAq hb (show 3<4 by decide),?_⟩
     have hset:([sg,tt,Value.int .i64 ((at_:Nat):Int),Value.int .i64 0].set 3 (.int .i64 30))=[sg,tt,Value.int .i64 ((at_:Nat):Int),Value.int .i64 30]:=rfl
     rw [hset]
     refine hk _ _ ⟨at_,30,1,qQf,ExtBut.set,.inl ⟨0,rfl,rfl⟩,by omega,by omega,by omega,hle,fun h=>absurd rfl h,fun _=>?_⟩
     rw [he]; exact ⟨rfl,fun h=>by simp at h⟩
    | false =>
     rw [cond_false,qQd]
     rw [if_neg (by simp)] at he
     have hxr : -1048576≤x∧x<sig.length:=by
      have ht:=ht.symm
      simp only [badC,Bool.or_eq_false_iff,decide_eq_false_iff_not] at ht
      omega
     have hw1:IntKind.wrap .i64 (((at_:Nat):Int)+1)=((at_+1:Nat):Int):=by rw [qQr (by omega) (by omega)]; omega
     have hset2:([sg,tt,Value.int .i64 ((at_:Nat):Int),Value.int .i64 0].set 2 (.int .i64 ((at_+1:Nat):Int)))=[sg,tt,Value.int .i64 ((at_+1:Nat):Int),Value.int .i64 0]:=rfl
     refine ⟨fun hneg=>?_,fun hpos=>?_⟩
     ·refine ⟨qZs,?_⟩
      rw [qQe]
      refine ⟨_,qXt (i:=2) hb rfl,qZs,?_⟩
      rw [qQe]
      rw [hw1]
      refine ⟨rfl,by trivial,_,qAq hb (show 2<4 by decide),?_⟩
      rw [hset2]
      rw [xBf hneg] at he
      have he0:eat (S2 sig) 0 (l.drop (at_+1))=(0,l.drop (at_+1)):=by cases l.drop (at_+1) <;> rfl
      rw [he0] at he
      refine hk _ _ ⟨at_+1,0,1,qQf,ExtBut.set,.inl ⟨_,rfl,rfl⟩,by omega,by omega,by omega,by omega,fun h=>absurd rfl h,fun _=>?_⟩
      rw [he]; exact ⟨rfl,fun _=>rfl⟩
     ·refine ⟨qZs,?_⟩
      rw [qQe]
      refine ⟨_,qXt (i:=2) hb rfl,rfl,by decide,rfl,by decide,?_⟩
      intro cb hcb
      have hne:b≠cb:=fun x=>by rw [← x,hb] at hcb; cases hcb
      have hb1:(h.set cb (.cells [Value.int .i64 ((at_:Nat):Int),.int .i64 1,.slice none 0 0])) b=some (.cells [sg,tt,.int .i64 ((at_:Nat):Int),.int .i64 0]):=by rw [qXg hne]; exact hb
      refine ⟨qZs,?_⟩
      rw [qQe]
      refine ⟨_,qXt (i:=2) hb1 rfl,qZs,?_⟩
      rw [qQe,hw1]
      refine ⟨rfl,by trivial,_,qAq hb1 (show 2<4 by decide),?_⟩
      rw [hset2]
      generalize hh2:((h.set cb (.cells [Value.int .i64 ((at_:Nat):Int),.int .i64 1,.slice none 0 0])).set b (.cells [sg,tt,Value.int .i64 ((at_+1:Nat):Int),Value.int .i64 0]))=h2
      have hb2:h2 b=some (.cells [sg,tt,Value.int .i64 ((at_+1:Nat):Int),Value.int .i64 0]):=by rw [← hh2]; exact qQf
      have hc2:h2 cb=some (.cells [Value.int .i64 ((at_:Nat):Int),.int .i64 1,.slice none 0 0]):=by rw [← hh2,qXg (Ne.symm hne)]; exact qQf
      have he2:ExtBut b h h2:=fun e o h1 h3=>by
       have h4:e≠cb:=fun h5=>by rw [h5,hcb] at h3; cases h3
       rw [← hh2,qXg h1,qXg h4]; exact h3
      refine ⟨qZs,?_⟩
      rw [qQe]
      refine ⟨sg,qXt (i:=0) hb2 rfl,?_⟩
      refine (r.but os he2).row.at_ (by omega) (by rw [qXd]; omega) fun ad2 v hv _ hj=>?_
      obtain ⟨y,hy,rfl⟩:=qYm hv
      refine ⟨y.2,hj 1 _ rfl,?_⟩
      have hay:=ha y (List.mem_of_getElem? hy)
      have hkid:=xGb (sig:=sig) (by omega) hy
      rw [hkid] at he
      obtain ⟨m',rfl⟩:∃ m',m=m'+1:=⟨m - 1,by omega⟩
      intro I hI
      have e8:(y.2:Int)=((y.2.toNat:Nat):Int):=by omega
      rw [e8]
      refine xJo c135 c136 (ih m' rfl) (at_:=at_) (ar:=y.2.toNat) hm (by omega) hcb r ha q os ot hI hne (fun h' at' bad' n s g1 g2 g3 g4 g5 g6 g7 g8 g9=>?_) y.2.toNat 0 (at_+1) 0 1 (.slice none 0 0) [] h2 (by omega) (by omega) hb2 hc2
       (Own.nil_ (qLs he2)) rfl (by rw [qZh]; simp) (by rw [qZh]; simp) he2 (by omega) (by omega) (by omega) (by omega) (fun _=>by rw [Nat.sub_zero]) (fun h=>absurd rfl h)
      rw [xs_e]
      show cond (Nat.beq 2 2) _ _
      rw [nth0,show Nat.beq 2 2=true from rfl,cond_true]
      refine hk _ _ ⟨at',bad',n,g1,g3,.inr ⟨cb,_,s,rfl,hcb,g2⟩,g4,g5,by omega,g7,fun h=>absurd rfl h,fun _=>?_⟩
      rw [he]
      exact ⟨g8,g9⟩
   rw [qQx,qQd]
   refine ⟨fun hge=>eight true ?_,fun hlt2=>eight _ ?_⟩
   ·simp only [badC,Bool.true_eq,Bool.or_eq_true,decide_eq_true_eq]; omega
   ·have:decide ((sig.length:Int)≤x)=false:=decide_eq_false (by omega)
    unfold badC
    rw [this,Bool.false_or]
theorem qPq (c:Cl142 D) (c135:Cl205 D) (c136:Cl204 D):∀ m,qDw D m:=by
 intro m
 induction m with
 | zero=>exact xJp c c135 c136 0 (fun m h=>by omega)
 | succ m ih =>
  refine xJp c c135 c136 (m+1) fun m' h=>?_
  obtain rfl:m'=m:=by omega
  exact ih
def qHd (D:Orc):Prop:=∀ s t sig l h (k:Kv) kp,Sr h s sig→ArOk sig→Ir h t l→(∀ v h',Ext h h'→k (.tuple #[v,.int .i64 (scan (S2 sig) 1 l)]) h')→D 115 [s,t] h k kp
theorem qQy {s:Value} (h:isSl s):one s=true:=by cases s <;> first | exact h.elim | rfl
theorem xFi (c:Cl115 D) (c90:Cl142 D) (c135:Cl205 D) (c136:Cl204 D):qHd D:=by
 intro s t sig l h k kp r ha q hk
 refine c _ _ _ _ _ ?_
 unfold F115
 have hq:=q.len
 refine ⟨qQy r.row.isSl,by decide,qQy q.row.isSl,by decide,?_⟩
 intro b hb
 have e1:Ext h (h.set b (.cells [s,t,.int .i64 0,.int .i64 0])):=Ext.new hb
 have hb1:(h.set b (.cells [s,t,.int .i64 0,.int .i64 0])) b=some (.cells [s,t,.int .i64 (((0:Nat):Nat):Int),.int .i64 0]):=qQf
 refine qPq c90 c135 c136 l.length b s t sig l 0 0 _ _ _ (by omega) (by omega) hb1 (r.ext e1) ha (q.ext e1) (r.row.off hb) (q.row.off hb) fun v h2 hp=>⟨_,rfl,?_⟩
 obtain ⟨at',bad',n,hb2,he2,_,_,_,_,hle,_,p2⟩:=hp
 obtain ⟨p3,p4⟩:=p2 rfl
 rw [List.drop_zero] at p3 p4
 have hE:Ext h h2:=fun d o hd=>he2 d o (fun x=>by rw [x,hb] at hd; cases hd) (e1 d o hd)
 have hsc:=qDg (S2 sig) l 1
 refine ⟨qZs,?_⟩
 rw [qQe]
 refine ⟨_,qXt (i:=3) hb2 rfl,?_⟩
 have five:∀ (e:Int) h3,Ext h h3→h3 b=some (.cells [s,t,.int .i64 (at':Int),.int .i64 e])→e=scan (S2 sig) 1 l→j115__5 D k kp (.pointer (some ⟨b,0,none⟩)) v h3:=by
  intro e h3 he3 hb3 hs
  unfold j115__5
  rw [qQe]
  refine ⟨qZs,_,qXt (i:=3) hb3 rfl,?_⟩
  rw [hs]
  exact hk v h3 he3
 rw [qZf]
 refine ⟨fun h0=>?_,fun hne=>?_⟩
 ·refine ⟨qZs,?_⟩
  rw [qQe]
  refine ⟨_,qXt (i:=2) hb2 rfl,?_⟩
  rw [(q.ext hE).len_]
  have hdrop:=p4 h0
  rw [h0] at p3 hb2
  rw [if_pos p3.symm] at hsc
  unfold j115__4
  rw [qQc,qQd]
  refine ⟨fun hlt=>?_,fun hge=>?_⟩
  ·refine ⟨qZs,?_⟩
   rw [qQe]
   refine ⟨rfl,by trivial,_,qAq hb2 (show 3<4 by decide),?_⟩
   have hset:([s,t,Value.int .i64 ((at':Nat):Int),Value.int .i64 0].set 3 (.int .i64 32))=[s,t,Value.int .i64 ((at':Nat):Int),Value.int .i64 32]:=rfl
   rw [hset]
   refine five 32 _ (hE.set hb) qQf ?_
   rw [hsc,if_neg]
   rw [← hdrop]
   intro hn
   have:=congrArg List.length hn
   rw [List.length_drop] at this
   simp at this; omega
  ·refine five 0 h2 hE hb2 ?_
   rw [hsc,if_pos]
   rw [← hdrop]
   exact List.drop_eq_nil_of_le (by omega)
 ·unfold j115__4
  rw [qQc,cond_false]
  refine five bad' h2 hE hb2 ?_
  rw [hsc,if_neg (by rw [← p3]; exact hne)]
  exact p3
def qYf (sig:List Sy) (l:List Int):Int:=if qVe sig≠0 then qVe sig else scan (S2 sig) 1 l
def qUp (D:Orc) (f:Nat) (T:H→Prop):Prop:=∀ s t sig l h (k:Kv) kp,Sr h s sig→T h→Ir h t l→(∀ h',Ext h h'→k (.int .i64 (qYf sig l)) h')→D f [s,t] h k kp
theorem xIe (hT:Stays T) (c:Cl34 D) (c83:Cl80 D) (s44:qCd D 27 T) (g:qHd D):qUp D 34 T:=by
 intro s t sig l h k kp r ht q hk
 refine c _ _ _ _ _ ?_
 unfold F34
 refine c83 _ _ _ _ _ ?_
 unfold F80
 refine s44 _ _ _ _ _ r ht fun h1 e1=>⟨_,rfl,?_⟩
 rw [qZl]
 refine ⟨fun hne=>⟨_,_,rfl,?_⟩,fun h0=>?_⟩
 ·have:=hk h1 e1
  unfold qYf at this
  rw [if_pos hne] at this
  exact this
 ·refine g _ _ _ _ _ _ _ (r.ext e1) (xEk h0) (q.ext e1) fun v h2 e2=>⟨_,_,rfl,_,_,rfl,?_⟩
  have:=hk h2 (e1.trans e2)
  unfold qYf at this
  rw [if_neg (by simpa using h0)] at this
  exact this
end Go.Proofs.YtkdneddcocggdaaGreatDoor.Am
