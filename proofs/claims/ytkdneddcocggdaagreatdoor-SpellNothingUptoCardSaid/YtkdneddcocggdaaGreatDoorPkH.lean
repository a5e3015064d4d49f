/-
  Packed: A text's pieces and words, as Go's library cuts them: plain. A text is read as a book. A text is read as a book: Parse. A text is read as a book: Parse as a whole. How long what is written can be. A book is written: the printer's words, terms, names and numbers. Reading a natural: the document's function. Writing a natural: dividing by a small number, digits. Writing a natural: the document's function. Writing a natural: the program's dividing. Writing a natural: nine digits more. Writing a natural: nine digits more, laid behind the others. Writing a natural: the program's function. Writing a natural: the program's function, whole. The document's examples. The document's examples hold. The laws: which limbs are a natural. The laws on sums, texts and readings: what the law's function answers. What is written is read again, and what is read is written again: plain law and the law's function. A book is written: rules, pairs, nodes, commands. A book is written: nodes and their interpretations. A book is written: a node, a command. A book is written: a command. A book is written: Print.
-/
import Derived.Test.YtkdneddcocggdaaGreatDoorPkE
import Derived.Lib.FieldsP
import Derived.Lib.Bytealg
import Derived.Test.YtkdneddcocggdaaGreatDoorPkG
set_option linter.unusedVariables false
set_option linter.unusedSimpArgs false
set_option linter.unnecessarySimpa false
namespace Go.Proofs.Sp
open Go Go.Lib
theorem qBp (c:UInt8):∀ l:Bs,(indexByte l c=-1∧∀ b∈l,b≠c)∨∃ i:Nat,indexByte l c=(i:Int)∧i<l.length∧l=l.take i++c::l.drop (i+1)∧∀ b∈l.take i,b≠c
 | []=>.inl ⟨rfl,fun b hb=>by cases hb⟩
 | b::l=>by
  unfold indexByte
  by_cases hb:b=c
  ·right
   refine ⟨0,by rw [if_pos (beq_iff_eq.mpr hb)]; rfl,by simp,by rw [hb]; rfl,fun x hx=>by cases hx⟩
  ·rw [if_neg (fun h=>hb (eq_of_beq h))]
   rcases qBp c l with ⟨h1,h2⟩ | ⟨i,h1,h2,h3,h4⟩
   ·left
    refine ⟨by rw [h1]; rfl,fun x hx=>?_⟩
    rcases List.mem_cons.mp hx with rfl | hx
    ·exact hb
    ·exact h2 x hx
   ·right
    refine ⟨i+1,?_,by simp; omega,?_,fun x hx=>?_⟩
    ·rw [h1,if_neg (by simp)]; omega
    ·rw [List.take_succ_cons,List.drop_succ_cons,List.cons_append,← h3]
    ·rw [List.take_succ_cons] at hx
     rcases List.mem_cons.mp hx with rfl | hx
     ·exact hb
     ·exact h4 x hx
theorem qMy {a b:Bs} (h:∀ c∈a,c≠32):qQj (a++32::b)=(if a=[] then [] else [a])++qQj b:=by
 unfold qQj
 rw [qCs 32 a b h,List.filter_cons]
 by_cases ha:a=[]
 ·simp [ha]
 ·simp [ha]
theorem xXt {a:Bs} (h:∀ c∈a,c≠32):qQj a=if a=[] then [] else [a]:=by
 unfold qQj
 rw [qKl 32 a h,List.filter_cons]
 by_cases ha:a=[] <;> simp [ha]
theorem xAw (s:ByteArray) {i:Nat} (hi:i<s.size):s.data.toList[i]?=some (s.get! i):=by
 have hi':i<s.data.size:=hi
 rw [Array.getElem?_toList,Array.getElem?_eq_getElem hi']
 cases s with
 | mk d=>simp [ByteArray.get!,getElem!_pos,show i<d.size from hi']
theorem qGi (s:ByteArray) (a b:Nat):(s.extract a b).data.toList=(s.data.toList.take b).drop a:=by
 rw [ByteArray.data_extract,Array.toList_extract]
 simp [List.extract,List.drop_take]
def bl (s:ByteArray):Bs:=s.data.toList
def isBl (r:Nat):Bool:=decide ((r:Int)=32)
theorem qRt (s:ByteArray):∀ (f pos q:Nat) (st:Option Nat) (acc:List (Nat × Nat)),s.size - pos≤f→pos≤s.size→(st=none∧q=pos∨st=some q∧q<pos)→(∀ j,q≤j→j<pos→s.get! j≠32) →
  (closeSpans s (spansFromP isBl s f pos st acc)).map (fun x=>bl (s.extract x.1 x.2))=acc.map (fun x=>bl (s.extract x.1 x.2))++qQj ((bl s).drop q):=by
 have hlen:(bl s).length=s.size:=rfl
 have seg:∀ q pos,q≤pos→pos≤s.size→(bl s).drop q=bl (s.extract q pos)++(bl s).drop pos:=fun q pos h1 h2=>by
  unfold bl
  rw [qGi]
  conv=>lhs; rw [← List.take_append_drop pos s.data.toList]
  rw [List.drop_append_of_le_length (by rw [List.length_take]; have:s.data.toList.length=s.size:=rfl; omega)]
 have segl:∀ q pos,q≤pos→pos≤s.size→(bl (s.extract q pos)).length=pos - q:=fun q pos h1 h2=>by
  unfold bl
  rw [qGi,List.length_drop,List.length_take]
  have:s.data.toList.length=s.size:=rfl
  omega
 have segc:∀ q pos,q≤pos→pos≤s.size→(∀ j,q≤j→j<pos→s.get! j≠32)→∀ c∈bl (s.extract q pos),c≠32:=fun q pos h1 h2 h3 c hc=>by
  obtain ⟨j,hj⟩:=List.getElem?_of_mem hc
  have hjl:=(List.getElem?_eq_some_iff.mp hj).1
  rw [segl q pos h1 h2] at hjl
  unfold bl at hj
  rw [qGi,List.getElem?_drop,List.getElem?_take,if_pos (by omega),xAw s (by omega)] at hj
  rw [← Option.some.inj hj]
  exact h3 (q+j) (by omega) (by omega)
 have fin:∀ (pos q:Nat) (st:Option Nat) (acc:List (Nat × Nat)),¬ pos<s.size→pos≤s.size→(st=none∧q=pos∨st=some q∧q<pos)→(∀ j,q≤j→j<pos→s.get! j≠32) →
   (closeSpans s (acc,st)).map (fun x=>bl (s.extract x.1 x.2))=acc.map (fun x=>bl (s.extract x.1 x.2))++qQj ((bl s).drop q):=fun pos q st acc h1 h2 h3 h4=>by
  obtain rfl:pos=s.size:=by omega
  rcases h3 with ⟨rfl,rfl⟩ | ⟨rfl,h3⟩
  ·rw [List.drop_eq_nil_of_le (by omega)]
   unfold closeSpans
   simp [qQj,qXl]
  ·have e:=seg q s.size (by omega) (Nat.le_refl _)
   rw [List.drop_eq_nil_of_le (show (bl s).length≤s.size by omega),List.append_nil] at e
   rw [e,xXt (segc q s.size (by omega) (Nat.le_refl _) h4),if_neg (fun e=>by
    have:=congrArg List.length e
    rw [segl q s.size (by omega) (Nat.le_refl _)] at this
    simp at this; omega)]
   unfold closeSpans
   simp
 intro f
 induction f with
 | zero =>
  intro pos q st acc h1 h2 h3 h4
  unfold spansFromP
  exact fin pos q st acc (by omega) h2 h3 h4
 | succ f ih =>
  intro pos q st acc h1 h2 h3 h4
  unfold spansFromP
  by_cases hp:pos<s.size
  ·rw [if_pos hp]
   by_cases hb:(s.get! pos).toNat<128
   ·rw [qIl hb]
    dsimp only
    by_cases h32:s.get! pos=32
    ·have hbl:isBl (s.get! pos).toNat=true:=by rw [h32]; rfl
     rw [hbl,if_pos rfl]
     have e:(bl s).drop pos=32::(bl s).drop (pos+1):=by
      have hg:=xAw s hp
      have hl:pos<(bl s).length:=hp
      have hg2:(bl s)[pos]=32:=by
       have:(bl s)[pos]?=some (s.get! pos):=hg
       rw [List.getElem?_eq_getElem hl,h32] at this
       exact Option.some.inj this
      rw [List.drop_eq_getElem_cons hl,hg2]
     rcases h3 with ⟨rfl,rfl⟩ | ⟨rfl,h3⟩
     ·dsimp only
      rw [ih (q+1) (q+1) none acc (by omega) (by omega) (.inl ⟨rfl,rfl⟩) (fun j g1 g2=>by omega),e]
      have:=qMy (a:=[]) (b:=(bl s).drop (q+1)) (by simp)
      rw [List.nil_append] at this
      rw [this]; simp
     ·dsimp only
      rw [ih (pos+1) (pos+1) none _ (by omega) (by omega) (.inl ⟨rfl,rfl⟩) (fun j g1 g2=>by omega),seg q pos (by omega) (by omega),e,qMy (segc q pos (by omega) (by omega) h4),if_neg (fun e=>by
       have:=congrArg List.length e
       rw [segl q pos (by omega) (by omega)] at this
       simp at this; omega)]
      simp
    ·have hbl:isBl (s.get! pos).toNat=false:=by
      unfold isBl
      refine decide_eq_false fun hh=>h32 ?_
      refine UInt8.toNat_inj.mp ?_
      have:(32:UInt8).toNat=32:=rfl
      omega
     rw [hbl,if_neg (by simp)]
     rcases h3 with ⟨rfl,rfl⟩ | ⟨rfl,h3⟩
     ·dsimp only
      refine ih (q+1) q (some q) acc (by omega) (by omega) (.inr ⟨rfl,by omega⟩) fun j g1 g2=>?_
      obtain rfl:j=q:=by omega
      exact h32
     ·dsimp only
      refine ih (pos+1) q (some q) acc (by omega) (by omega) (.inr ⟨rfl,by omega⟩) fun j g1 g2=>?_
      by_cases hj:j<pos
      ·exact h4 j g1 hj
      ·obtain rfl:j=pos:=by omega
       exact h32
   ·obtain ⟨d1,d2,d3⟩:=qGm hb
    have hbl:isBl (Utf8.decode s pos).1=false:=by
     unfold isBl
     exact decide_eq_false fun hh=>by omega
    rw [hbl,if_neg (by simp)]
    have hend:pos+(Utf8.decode s pos).2≤s.size:=by
     by_cases hw:(Utf8.decode s pos).2=1
     ·omega
     ·have:=(d3 ((Utf8.decode s pos).2 - 1) (by omega) (by omega)).1
      omega
    have hby:∀ j,pos≤j→j<pos+(Utf8.decode s pos).2→s.get! j≠32:=fun j g1 g2 e=>by
     have h32:(32:UInt8).toNat=32:=rfl
     by_cases hj:j=pos
     ·subst hj; rw [e] at hb; omega
     ·have:=(d3 (j - pos) (by omega) (by omega)).2
      rw [show pos+(j - pos)=j by omega,e] at this
      omega
    rcases h3 with ⟨rfl,rfl⟩ | ⟨rfl,h3⟩
    ·dsimp only
     exact ih _ q (some q) acc (by omega) hend (.inr ⟨rfl,by omega⟩) hby
    ·dsimp only
     refine ih _ q (some q) acc (by omega) hend (.inr ⟨rfl,by omega⟩) fun j g1 g2=>?_
     by_cases hj:j<pos
     ·exact h4 j g1 hj
     ·exact hby j (by omega) g2
  ·rw [if_neg hp]
   exact fin pos q st acc hp h2 h3 h4
theorem qOs (s:ByteArray):(Lib.goFieldsP isBl s).map bl=qQj (bl s):=by
 unfold Lib.goFieldsP spansOfP
 rw [List.map_map]
 have:=qRt s s.size 0 0 none [] (by omega) (by omega) (.inl ⟨rfl,rfl⟩) (fun j g1 g2=>by omega)
 simp only [List.map_nil,List.nil_append,List.drop_zero] at this
 exact this
theorem xAe (x:UInt8):∀ l:Bs,(qXl x l).length≤l.length+1∧∀ w∈qXl x l,w.length≤l.length
 | []=>by simp [qXl]
 | b::l=>by
  obtain ⟨h1,h2⟩:=xAe x l
  unfold qXl
  split
  ·refine ⟨by simp; omega,fun w hw=>?_⟩
   rcases List.mem_cons.mp hw with rfl | hw
   ·simp
   ·have:=h2 w hw; simp; omega
  ·split
   ·simp
   ·rename_i c cs hc
    rw [hc] at h1 h2
    refine ⟨by simp at h1 ⊢; omega,fun w hw=>?_⟩
    rcases List.mem_cons.mp hw with rfl | hw
    ·have:=h2 c (by simp); simp; omega
    ·have:=h2 w (by simp [hw]); simp; omega
theorem qFa (l:Bs):(qQj l).length≤l.length+1∧∀ w∈qQj l,w.length≤l.length∧w≠[]:=by
 obtain ⟨h1,h2⟩:=xAe 32 l
 refine ⟨Nat.le_trans (List.length_filter_le _ _) h1,fun w hw=>?_⟩
 unfold qQj at hw
 rw [List.mem_filter] at hw
 exact ⟨h2 w hw.1,by simpa using hw.2⟩
def qXo:Bk→Bool→Nat→List Bs→Except (Nat × Int) (Bk × Bool)
 | B,p,_,[]=>.ok (B,p)
 | B,p,n,l::ls=>if mute (qQj l) then qXo B p (n+1) ls else match qCw B p (qQj l) with
  | .ok (B,p)=>qXo B p (n+1) ls
  | .error e=>.error (n+1,e)
end Go.Proofs.Sp
namespace Go.Proofs.YtkdneddcocggdaaGreatDoor.Am
open Go Go.Proofs Go.RowKit Go.Lib Sys Sp
set_option maxRecDepth 100000
variable {D:Orc} {E:Dorc} {h h' h0 g g':H} {k:Kv} {kp:Kp} {L R:List Res} {bp N:Nat} {V:BkV} {B:Bk} {w:List Bs} {wv:Value} {past:Bool}
theorem xKc {sig:Sg} {x:Sy} (h:x∈toSy sig):∃ y∈sig,x=(strB y.1,y.2):=by
 unfold toSy at h
 obtain ⟨y,hy,rfl⟩:=List.mem_map.mp h
 exact ⟨y,hy,rfl⟩
theorem Sm.up {N M:Nat} (s:Sm N B) (h:N≤M):Sm M B :=
 ⟨s.sig,s.ar,s.nm,s.rules,s.eqs,Nat.le_trans s.prec h,Nat.le_trans s.cert h,Nat.le_trans s.cmds h,fun n hn=>⟨Nat.le_trans (s.nd n hn).1 h,Nat.le_trans (s.nd n hn).2.1 h,fun i hi=>Nat.le_trans ((s.nd n hn).2.2 i hi) h⟩⟩
theorem Sm.last {N:Nat} (s:Sm N B) {m n:Nd} (hl:qAg B=.ok n) (hm:m.prec.length≤N+1∧m.ints.length≤N+1∧∀ i∈m.ints,i.p.length≤N+1):Sm (N+1) (qVn B m):=by
 have hc:B.cert≠[]:=by rintro h; unfold qAg at hl; rw [h] at hl; cases hl
 have s':=s.up (Nat.le_succ N)
 refine ⟨s'.sig,s'.ar,s'.nm,s'.rules,s'.eqs,s'.prec,?_,s'.cmds,fun x hx=>?_⟩
 ·show (B.cert.dropLast++[m]).length≤_
  have:=s.cert
  have:=List.length_pos_iff.mpr hc
  simp; omega
 ·have hx:x∈B.cert.dropLast++[m]:=hx
  rcases List.mem_append.mp hx with hx | hx
  ·exact s'.nd x ((List.dropLast_sublist _).subset hx)
  ·rw [List.mem_singleton.mp hx]; exact hm
theorem qLn {n:Nd} (hl:qAg B=.ok n):n∈B.cert:=by
 unfold qAg at hl
 exact List.mem_of_getLast? (qIb.mp hl)
theorem xFq {N:Nat} (s:Sm N B) (d:Wd w) {p p':Bool} {B':Bk} (h:qCw B p w=.ok (B',p')):Sm (N+1) B':=by
 have s':=s.up (Nat.le_succ N)
 unfold qCw at h
 split at h
 ·obtain ⟨B1,h1,h⟩:=Sp.qQg.mp h
  obtain ⟨rfl,_⟩:=Prod.mk.inj (Except.ok.inj h)
  unfold symM at h1
  obtain ⟨_,_,h1⟩:=Sp.qQg.mp h1
  obtain ⟨_,_,h1⟩:=Sp.qQg.mp h1
  obtain ⟨_,_,h1⟩:=Sp.qQg.mp h1
  obtain ⟨n,hn,h1⟩:=Sp.qQg.mp h1
  obtain ⟨_,hm,h1⟩:=Sp.qQg.mp h1
  obtain rfl:=Except.ok.inj h1
  have hn:=(qYa (qIb.mp hn)).2
  have hm:=of_decide_eq_true (qBk.mp hm)
  refine ⟨by simpa using hm,fun x hx=>?_,fun x hx=>?_,s'.rules,s'.eqs,s'.prec,s'.cert,s'.cmds,s'.nd⟩
  ·obtain ⟨y,hy,rfl⟩:=xKc hx
   rcases List.mem_append.mp hy with hy | hy
   ·exact s.ar _ (List.mem_map_of_mem (f:=fun x=>(strB x.1,x.2)) hy)
   ·rw [List.mem_singleton.mp hy]; show 0≤(n:Int)∧(n:Int)≤8; omega
  ·rcases List.mem_append.mp hx with hx | hx
   ·exact s.nm x hx
   ·rw [List.mem_singleton.mp hx]; exact qMx d
 ·obtain ⟨B1,h1,h⟩:=Sp.qQg.mp h
  obtain ⟨rfl,_⟩:=Prod.mk.inj (Except.ok.inj h)
  unfold qSo at h1
  dsimp only at h1
  by_cases hc:at1 w 0=qHh
  ·rw [if_pos hc] at h1
   obtain ⟨r,_,h1⟩:=Sp.qQg.mp h1
   obtain ⟨_,hm,h1⟩:=Sp.qQg.mp h1
   obtain rfl:=Except.ok.inj h1
   exact ⟨s'.sig,s'.ar,s'.nm,by simpa using of_decide_eq_true (qBk.mp hm),s'.eqs,s'.prec,s'.cert,s'.cmds,s'.nd⟩
  rw [if_neg hc] at h1
  by_cases hc:at1 w 0=wEq
  ·rw [if_pos hc] at h1
   obtain ⟨r,_,h1⟩:=Sp.qQg.mp h1
   obtain ⟨_,hm,h1⟩:=Sp.qQg.mp h1
   obtain rfl:=Except.ok.inj h1
   exact ⟨s'.sig,s'.ar,s'.nm,s'.rules,by simpa using of_decide_eq_true (qBk.mp hm),s'.prec,s'.cert,s'.cmds,s'.nd⟩
  rw [if_neg hc] at h1
  by_cases hc:at1 w 0=qYl
  ·rw [if_pos hc] at h1
   obtain ⟨_,_,h1⟩:=Sp.qQg.mp h1
   obtain ⟨_,_,h1⟩:=Sp.qQg.mp h1
   obtain ⟨_,_,h1⟩:=Sp.qQg.mp h1
   obtain rfl:=Except.ok.inj h1
   exact ⟨s'.sig,s'.ar,s'.nm,s'.rules,s'.eqs,by have:=s.prec; simp; omega,s'.cert,s'.cmds,s'.nd⟩
  rw [if_neg hc] at h1
  by_cases hc:at1 w 0=qKx
  ·rw [if_pos hc] at h1
   obtain ⟨_,_,h1⟩:=Sp.qQg.mp h1
   obtain ⟨_,_,h1⟩:=Sp.qQg.mp h1
   obtain ⟨_,_,h1⟩:=Sp.qQg.mp h1
   obtain rfl:=Except.ok.inj h1
   refine ⟨s'.sig,s'.ar,s'.nm,s'.rules,s'.eqs,s'.prec,by have:=s.cert; simp; omega,s'.cmds,fun n hn=>?_⟩
   rcases List.mem_append.mp hn with hn | hn
   ·exact s'.nd n hn
   ·rw [List.mem_singleton.mp hn]
    exact ⟨by simp,by simp,fun i hi=>by cases hi⟩
  rw [if_neg hc] at h1
  by_cases hc:at1 w 0=qKw
  ·rw [if_pos hc] at h1
   obtain ⟨_,_,h1⟩:=Sp.qQg.mp h1
   obtain ⟨n,hl,h1⟩:=Sp.qQg.mp h1
   obtain ⟨_,_,h1⟩:=Sp.qQg.mp h1
   obtain ⟨_,_,h1⟩:=Sp.qQg.mp h1
   obtain rfl:=Except.ok.inj h1
   have hn:=s.nd n (qLn hl)
   exact s.last hl ⟨by simp; omega,by show n.ints.length≤_; omega,fun i hi=>by have:=hn.2.2 i hi; omega⟩
  rw [if_neg hc] at h1
  by_cases hc:at1 w 0=wSet
  ·rw [if_pos hc] at h1
   obtain ⟨_,_,h1⟩:=Sp.qQg.mp h1
   obtain ⟨n,hl,h1⟩:=Sp.qQg.mp h1
   obtain ⟨_,_,h1⟩:=Sp.qQg.mp h1
   obtain rfl:=Except.ok.inj h1
   have hn:=s.nd n (qLn hl)
   refine s.last hl ⟨by show n.prec.length≤_; omega,by simp; omega,fun i hi=>?_⟩
   have hi:i∈n.ints++[⟨_,[]⟩]:=hi
   rcases List.mem_append.mp hi with hi | hi
   ·have:=hn.2.2 i hi; omega
   ·rw [List.mem_singleton.mp hi]; simp
  rw [if_neg hc] at h1
  by_cases hc:at1 w 0=qAs
  ·rw [if_pos hc] at h1
   obtain ⟨_,_,h1⟩:=Sp.qQg.mp h1
   obtain ⟨n,hl,h1⟩:=Sp.qQg.mp h1
   obtain ⟨it,hit,h1⟩:=Sp.qQg.mp h1
   obtain ⟨_,_,h1⟩:=Sp.qQg.mp h1
   obtain ⟨_,_,h1⟩:=Sp.qQg.mp h1
   obtain rfl:=Except.ok.inj h1
   have hn:=s.nd n (qLn hl)
   have hit':=List.mem_of_getLast? (qIb.mp hit)
   have hil:=hn.2.2 it hit'
   refine s.last hl ⟨by show n.prec.length≤_; omega,by simp; have:=hn.2.1; omega,fun i hi=>?_⟩
   have hi:i∈n.ints.dropLast++[_]:=hi
   rcases List.mem_append.mp hi with hi | hi
   ·have:=hn.2.2 i ((List.dropLast_sublist _).subset hi); omega
   ·rw [List.mem_singleton.mp hi]; show (it.p++[_]).length≤_; simp; omega
  rw [if_neg hc] at h1
  by_cases hc:at1 w 0=qAi∨at1 w 0=qVb∨at1 w 0=qHi∨at1 w 0=qPs∨at1 w 0=qVc
  ·rw [if_pos hc] at h1
   obtain ⟨_,_,h1⟩:=Sp.qQg.mp h1
   obtain rfl:=Except.ok.inj h1
   exact ⟨s'.sig,s'.ar,s'.nm,s'.rules,s'.eqs,s'.prec,s'.cert,by have:=s.cmds; simp; omega,s'.nd⟩
  rw [if_neg hc] at h1
  by_cases hc:at1 w 0=qVt
  ·rw [if_pos hc] at h1
   obtain ⟨_,_,h1⟩:=Sp.qQg.mp h1
   obtain ⟨_,_,h1⟩:=Sp.qQg.mp h1
   obtain rfl:=Except.ok.inj h1
   exact ⟨s'.sig,s'.ar,s'.nm,s'.rules,s'.eqs,s'.prec,s'.cert,by have:=s.cmds; simp; omega,s'.nd⟩
  rw [if_neg hc] at h1
  by_cases hc:at1 w 0=qEn
  ·rw [if_pos hc] at h1
   obtain ⟨_,_,h1⟩:=Sp.qQg.mp h1
   obtain rfl:=Except.ok.inj h1
   exact ⟨s'.sig,s'.ar,s'.nm,s'.rules,s'.eqs,s'.prec,s'.cert,by have:=s.cmds; simp; omega,s'.nd⟩
  rw [if_neg hc] at h1
  cases h1
theorem ldx0 {b:Nat} {l:List Value} (hb:h b=some (.cells l)) {x:ByteArray} (hj:l[0]?=some (.string x)) {K:ByteArray→Prop} (hK:K x):ptrW (Pt b) fun ad=>∃ x:ByteArray,rd h ad=some (.string x)∧K x:=⟨x,qWl hb hj,hK⟩
def objR (b:Nat) (v:VObj):Res:=⟨fun c=>c=b,fun h=>h b=some v,fun h h' e o=>by rw [e b rfl]; exact o⟩
theorem Hp.obj {i b:Nat} {v:VObj} (o:Hp h0 h L) (hi:L[i]?=some (objR b v)):h b=some v:=o.get hi
theorem Hp.set_obj {i b:Nat} {v:VObj} (o:Hp h0 h L) (hi:L[i]?=some (objR b v)) (v':VObj):Hp h0 (h.set b v') (L.set i (objR b v')) :=
 o.upd hi (fun c _ hc=>qXg hc) qQf fun c hc=>⟨.inl hc,by
  have hc:c=b:=hc
  subst hc; rw [qQf]; simp⟩
theorem Hp.new_obj {b:Nat} (o:Hp h0 h L) (hb:h b=none) (v:VObj):Hp h0 (h.set b v) (objR b v::L) :=
 o.add (Ext.new hb).keeps qQf fun c hc=>by
  have hc:c=b:=hc
  subst hc
  exact ⟨hb,by rw [qQf]; simp⟩
structure Pl where
 l:Nat
 r:Nat
 px:Nat
 pat:Nat
 pe:Nat
 pb:Nat
 p3:Nat
 p5:Nat
 p7:Nat
 bp:Nat
def nilB:List Value:=[.slice none 0 0,.slice none 0 0,.slice none 0 0,.slice none 0 0,.slice none 0 0,.slice none 0 0]
def plL (P:Pl) (q:VObj) (n:Nat) (rest:ByteArray):List Res :=
 [qQn P.px [Pt P.bp],qQn P.pat [.int .i64 (n:Int)],objR P.l q,objR P.r .dfr,qQn P.p3 [.string rest],qQn P.p5 [.string (ByteArray.mk #[10])],qQn P.p7 [.int .i64 0],qQn P.pe [.int .i64 0],qQn P.pb nilB]
noncomputable def envP (P:Pl):Env:=qZu 48 [kR 3,kR 5] [Pt P.pat,Pt P.px] 0
noncomputable def rdy (P:Pl) (f:Nat):VObj:=.lp .ready none (envP P) (rgQ Tryz.f17 f P.r)
noncomputable def bsy (P:Pl) (f:Nat):VObj:=.lp .busy none (envP P) (rgQ Tryz.f17 f P.r)
def qHf (D:Orc):Prop:=qCg D 42 43 (fun r=>decide ((r:Int)=32))
theorem xGd (t:ByteArray):(Lib.goFieldsP (fun r=>decide ((r:Int)=32)) t).map Value.string=wS (qQj (bts t)):=by
 have h1:(Lib.goFieldsP isBl t).map bts=qQj (bts t):=qOs t
 unfold wS
 rw [← h1,List.map_map]
 apply List.map_congr_left
 intro x _
 show Value.string x=Value.string (strB (bts x))
 rw [qUs]
theorem xEh {x:Res} {tl:List Value}:(bkL bp tl V g B (x::R)).Perm (x::bkL bp tl V g B R):=List.perm_middle (l₁:=bkL bp tl V g B []) (a:=x) (l₂:=R)
theorem xEi {x:Res} {tl:List Value} (o:Hp h0 h (bkL bp tl V g B (x::R))):Hp h0 h (bkL bp tl V g B R):=(o.perm xEh.symm).tail
theorem xZm (rn:Rn17 D) (sl:qPl D 44 Tbl) (sf:qHf D) {P:Pl} {f n N:Nat} (hf:fnOk Tryz.prog f=true) (hn:n<2 ^ 30) (hN:N<2 ^ 30) (hbp:P.bp=bp) (ht:Tbl h0) (s:Sm N B) (I:BkI g V B) {rest t:ByteArray} (hts:t.size≤65536)
  (o:Hp h0 h (bkL bp [.bool past] V g B (plL P (rdy P f) n rest)))
  (hk1:mute (qQj (bts t))=true→∀ h',Hp h0 h' (bkL bp [.bool past] V g B (plL P (rdy P f) (n+1) rest))→k (.bool true) h')
  (hk2:mute (qQj (bts t))=false→Out (qCw B past (qQj (bts t))) (fun x=>∀ V' g' h',BkI g' V' x.1→Hp h0 h' (bkL bp [.bool x.2] V' g' x.1 (plL P (rdy P f) (n+1) rest))→k (.bool true) h') (fun e=>∀ h',Hp h0 h' (plL P (bsy P f) (n+1) rest)→kp (chain e) h')) :
  D (Tryz.prog.funcs.size+P.l) [.string t] h k kp:=by
 refine rn P.l f P.r (Pt P.pat) (Pt P.px) (.string t) h k kp hf (o.obj (i:=13) rfl) ?_
 unfold xIw
 refine ⟨o.obj (i:=13) rfl,?_⟩
 have o1:Hp h0 (h.set P.l (bsy P f)) (bkL bp [.bool past] V g B (plL P (bsy P f) n rest)):=o.set_obj (i:=13) rfl (bsy P f)
 refine ldI (o1.cell (i:=12) rfl) rfl ?_
 rw [qQr (by omega) (by omega),show (n:Int)+1=((n+1:Nat):Int) by omega]
 refine o1.st0 (i:=12) rfl (by simp) rfl rfl fun h2 o2=>?_
 have o2:Hp h0 h2 (bkL bp [.bool past] V g B (plL P (bsy P f) (n+1) rest)):=o2
 refine sf t h2 _ _ (by omega) fun wv h3 e3 hb=>⟨wv,rfl,?_⟩
 rw [xGd] at hb
 have o3:Hp h0 h3 (bufR wv (wS (qQj (bts t)))::bkL bp [.bool past] V g B (plL P (bsy P f) (n+1) rest)):=o2.add_buf e3 hb
 have o3:Hp h0 h3 (lnL bp past V g B wv (qQj (bts t)) (plL P (bsy P f) (n+1) rest)):=o3.perm xEh
 obtain ⟨w1,w2⟩:=qFa (bts t)
 have htl:(bts t).length=t.size:=rfl
 have d:Wd (qQj (bts t)):=⟨by omega,fun x hx=>by have:=(w2 x hx).1; omega⟩
 have hrow:Row h3 wv (wS (qQj (bts t))):=o3.row (i:=11) rfl
 rw [hrow.len]
 have hwl:(wS (qQj (bts t))).length=(qQj (bts t)).length:=by unfold wS; rw [List.length_map]
 rw [hwl]
 have muted:mute (qQj (bts t))=true→j17_r_12 D P.l (rgQ Tryz.f17 f P.r) (envP P) k kp (Pt P.px) wv (.bool false) h3:=fun hm=>by
  unfold j17_r_12
  rw [qQc,cond_false]
  have o4:=xEi o3
  refine ⟨o4.obj (i:=13) rfl,hk1 hm _ ?_⟩
  exact o4.set_obj (i:=13) rfl (rdy P f)
 rw [qQd]
 refine ⟨fun hpos=>?_,fun hz=>muted (by
  rw [List.length_eq_zero_iff.mp (show (qQj (bts t)).length=0 by omega)]; rfl)⟩
 have hne:qQj (bts t)≠[]:=by
  intro e; rw [e] at hpos; simp at hpos
 refine (d.wr hrow).at_ (i:=0) (by omega) fun ad hr=>⟨_,hr,?_⟩
 obtain ⟨x,xs',hx⟩:=List.exists_cons_of_ne_nil hne
 have hx0:at1 (qQj (bts t)) 0=x:=by unfold at1; rw [hx]; rfl
 have hxne:=(w2 x (by rw [hx]; simp)).2
 obtain ⟨b,xr,hxb⟩:=List.exists_cons_of_ne_nil hxne
 have hmute:mute (qQj (bts t))=(b==35):=by
  rw [hx,hxb]
  unfold mute
  show (some b==some 35)=(b==35)
  rfl
 rw [hx0]
 refine qXk (by omega) (by rw [qXv,hxb]; simp) fun b' hb'=>?_
 rw [qQv,hxb] at hb'
 obtain rfl:b=b':=by simpa using hb'
 by_cases h35:b=35
 ·have:((b.toNat:Int) != 35)=false:=by rw [h35]; rfl
  rw [this]
  exact muted (by rw [hmute,h35]; rfl)
 ·have:((b.toNat:Int) != 35)=true:=by
   rw [bne_iff_ne]
   intro e
   refine h35 (UInt8.toNat_inj.mp ?_)
   have:(35:UInt8).toNat=35:=rfl
   omega
  rw [this]
  have hmf:mute (qQj (bts t))=false:=by rw [hmute]; exact beq_eq_false_iff_ne.mpr h35
  unfold j17_r_12
  rw [qQc,cond_true]
  refine ld0 (o3.cell (i:=12) rfl) rfl ?_
  rw [hbp]
  refine sl N bp past V g B wv _ _ h0 h3 _ _ hN hne d ht s I o3 ?_
  refine qXa (fun x _ hok=>?_) (fun _ h=>h) (hk2 hmf)
  intro V' g' h4 I' o4
  have o5:=xEi o4
  refine ⟨rfl,o5.obj (i:=13) rfl,hok V' g' _ I' ?_⟩
  exact o5.set_obj (i:=13) rfl (rdy P f)
variable {D:Orc} {E:Dorc} {h h' h0 g g':H} {k:Kv} {kp:Kp} {L R:List Res} {bp N:Nat} {V:BkV} {B:Bk} {w:List Bs} {wv:Value} {past:Bool}
def FinP (P:Pl) (f:Nat) (h0:H) (k0:H→Prop) (kp0:Int→H→Prop) (x:Except (Nat × Int) (Bk × Bool)):Prop:=match x with
 | .ok y=>∀ V' g' N' h' rest' n',N'<2 ^ 30→Sm N' y.1→BkI g' V' y.1→Hp h0 h' (bkL P.bp [.bool y.2] V' g' y.1 (plL P (rdy P f) n' rest'))→k0 h'
 | .error y=>∀ h' q' rest',Hp h0 h' (plL P q' y.1 rest')→kp0 y.2 h'
def ylV (P:Pl):Value:=.func (.yield P.l) #[] #[]
theorem qHn (rn:Rn17 D) (sl:qPl D 44 Tbl) (sf:qHf D) {P:Pl} {f n N:Nat} (hf:fnOk Tryz.prog f=true) (hn:n<2 ^ 20) (hN:N<2 ^ 20) (ht:Tbl h0) (s:Sm N B) (I:BkI g V B) {rest t:ByteArray} (hts:t.size≤65536)
  (o:Hp h0 h (bkL P.bp [.bool past] V g B (plL P (rdy P f) n rest))) {k0:H→Prop} {kp0:Int→H→Prop} {ls:List Bs} (hk:FinP P f h0 k0 kp0 (qXo B past n (bts t::ls)))
  (hgo:∀ B' past' V' g' h',Sm (N+1) B'→BkI g' V' B'→Hp h0 h' (bkL P.bp [.bool past'] V' g' B' (plL P (rdy P f) (n+1) rest))→FinP P f h0 k0 kp0 (qXo B' past' (n+1) ls)→k (.bool true) h') (hbad:∀ e h',kp0 e h'→kp (chain e) h') :
  qBz Tryz.prog D 4 (ylV P) [.string t] h k kp:=by
 show D (Tryz.prog.funcs.size+P.l) [.string t] h k kp
 unfold qXo at hk
 obtain ⟨w1,w2⟩:=qFa (bts t)
 have htl:(bts t).length=t.size:=rfl
 have d:Wd (qQj (bts t)):=⟨by omega,fun x hx=>by have:=(w2 x hx).1; omega⟩
 refine xZm rn sl sf hf (by omega) (by omega) rfl ht s I hts o (fun hm h' o'=>?_) fun hm=>?_
 ·rw [if_pos hm] at hk
  exact hgo B past V g h' (s.up (Nat.le_succ N)) I o' hk
 ·rw [if_neg (by rw [hm]; simp)] at hk
  cases hl:qCw B past (qQj (bts t)) with
  | error e =>
   rw [hl] at hk
   exact fun h' o'=>hbad e h' (hk h' _ _ o')
  | ok x =>
   obtain ⟨B',p'⟩:=x
   rw [hl] at hk
   exact fun V' g' h' I' o'=>hgo B' p' V' g' h' (xFq s d hl) I' o' hk
theorem xZe (rn:Rn17 D) (sl:qPl D 44 Tbl) (sf:qHf D) (si:qJs D 86) {P:Pl} {f n N:Nat} (hf:fnOk Tryz.prog f=true) (ht:Tbl h0) (s:Sm N B) (I:BkI g V B) {rest:ByteArray} (hrs:rest.size≤65536) (hn:n+rest.size<2 ^ 20) (hN:N+rest.size<2 ^ 20)
  (o:Hp h0 h (bkL P.bp [.bool past] V g B (plL P (rdy P f) n rest))) {k0:H→Prop} {kp0:Int→H→Prop} (hk:FinP P f h0 k0 kp0 (qXo B past n (qXl 10 (bts rest)))) {K:Kl}
  (hKe:∀ B' past' V' g' h' N' n' (r':ByteArray),Sm N' B'→BkI g' V' B'→r'.size≤65536→n'<2 ^ 20→N'<2 ^ 20→Hp h0 h' (bkL P.bp [.bool past'] V' g' B' (plL P (rdy P f) n' r'))→FinP P f h0 k0 kp0 (qXo B' past' n' [bts r'])→K (.e 2) [ylV P,Pt P.p3] h')
  (hKp:∀ e h',kp0 e h'→K (.p (chain e)) [] h'):loop120_5 D [ylV P,Pt P.p5,Pt P.p3,Pt P.p7] h K:=by
 intro J hJ
 have key:∀ m:Nat,∀ (rest:ByteArray) (n N:Nat) (B:Bk) (past:Bool) (V:BkV) (g h:H),rest.size≤m→rest.size≤65536→n+rest.size<2 ^ 20→N+rest.size<2 ^ 20→Sm N B→BkI g V B→Hp h0 h (bkL P.bp [.bool past] V g B (plL P (rdy P f) n rest)) →
   FinP P f h0 k0 kp0 (qXo B past n (qXl 10 (bts rest)))→J [ylV P,Pt P.p5,Pt P.p3,Pt P.p7] h:=by
  intro m
  induction m with
  | zero =>
   intro rest n N B past V g h hm hrs hn hN s I o hk
   refine hJ _ _ _ _ _ ?_
   unfold round120_5
   refine ldx0 (o.cell (i:=15) rfl) rfl ?_
   refine ldx0 (o.cell (i:=16) rfl) rfl ?_
   refine si rest 10 h _ _ ⟨_,rfl,?_⟩
   have hnil:bts rest=[]:=List.length_eq_zero_iff.mp (by rw [qQq]; omega)
   rw [hnil]
   show cond true _ _
   rw [cond_true]
   refine hKe B past V g h N n rest s I hrs (by omega) (by omega) o ?_
   rw [hnil] at hk ⊢
   exact hk
  | succ m ih =>
   intro rest n N B past V g h hm hrs hn hN s I o hk
   refine hJ _ _ _ _ _ ?_
   unfold round120_5
   refine ldx0 (o.cell (i:=15) rfl) rfl ?_
   refine ldx0 (o.cell (i:=16) rfl) rfl ?_
   refine si rest 10 h _ _ ⟨_,rfl,?_⟩
   rcases qBp 10 (bts rest) with ⟨h1,h2⟩ | ⟨i,h1,h2,h3,h4⟩
   ·rw [h1]
    show cond true _ _
    rw [cond_true]
    refine hKe B past V g h N n rest s I hrs (by omega) (by omega) o ?_
    rw [qKl 10 _ h2] at hk
    exact hk
   ·rw [h1,decide_eq_false (by omega),cond_false]
    have hrl:(bts rest).length=rest.size:=rfl
    refine ldx0 (o.cell (i:=15) rfl) rfl ?_
    refine ldI (o.cell (i:=17) rfl) rfl ?_
    rw [qQr (by omega) (by omega),Int.add_zero]
    refine qVh (by omega) (by omega) fun t htt=>?_
    rw [Int.toNat_natCast] at htt
    have htl:t.size=i:=by
     have:=congrArg List.length htt
     rw [qQq,List.length_take] at this; omega
    have hcut:qXl 10 (bts rest)=bts t::qXl 10 ((bts rest).drop (i+1)):=by
     conv=>lhs; rw [h3]
     rw [qCs 10 _ _ h4,htt]
    rw [hcut] at hk
    refine qHn rn sl sf hf (by omega) (by omega) ht s I (by omega) o hk (fun B' past' V' g' h' s' I' o' hk'=>?_) hKp
    rw [qQc,Bool.not_true,cond_false]
    refine ldx0 (o'.cell (i:=15) rfl) rfl ?_
    refine ldx0 (o'.cell (i:=16) rfl) rfl ?_
    have e1:((i:Int)+((ByteArray.mk #[10]).size:Int))=((i+1:Nat):Int):=by
     show (i:Int)+((1:Nat):Int)=_
     omega
    rw [e1,qQr (by omega) (by omega)]
    refine qZb (by omega) (by omega) fun u hu=>?_
    rw [Int.toNat_natCast] at hu
    have hul:u.size+i+1=rest.size:=by
     have:=congrArg List.length hu
     rw [qQq,List.length_drop] at this; omega
    refine o'.st0 (i:=15) rfl (by simp) rfl rfl fun h2 o2=>?_
    have o2:Hp h0 h2 (bkL P.bp [.bool past'] V' g' B' (plL P (rdy P f) (n+1) u)):=o2
    refine ih u (n+1) (N+1) B' past' V' g' h2 (by omega) (by omega) (by omega) (by omega) s' I' o2 ?_
    rw [hu]; exact hk'
 exact key rest.size rest n N B past V g h (Nat.le_refl _) hrs hn hN s I o hk
theorem xYw (c:Cl120 D) (rn:Rn17 D) (sl:qPl D 44 Tbl) (sf:qHf D) (si:qJs D 86) {P:Pl} {f n N:Nat} (hf:fnOk Tryz.prog f=true) (ht:Tbl h0) (s:Sm N B) (I:BkI g V B) {rest:ByteArray} (hrs:rest.size≤65536) (hn:n+rest.size<2 ^ 20) (hN:N+rest.size<2 ^ 20)
  (o:Hp h0 h (bkL P.bp [.bool past] V g B (plL P (rdy P f) n rest))) (hk:FinP P f h0 (fun h=>k (.tuple #[]) h) (fun e h=>kp (chain e) h) (qXo B past n (qXl 10 (bts rest)))):D 120 [ylV P,Pt P.p5,Pt P.p3,Pt P.p7] h k kp:=by
 refine c _ _ _ _ _ _ _ ?_
 unfold F120
 refine ldx0 (o.cell (i:=16) rfl) rfl ?_
 rw [show (((ByteArray.mk #[10]).size:Int)==0)=false from rfl,cond_false]
 refine xZe rn sl sf si hf ht s I hrs hn hN o hk (fun B' past' V' g' h' N' n' r' s' I' hr' hn' hN' o' hk'=>?_) fun e h' hp=>hp
 rw [xs_e]
 show cond true _ _
 rw [cond_true,nth0,nth1]
 refine ldx0 (o'.cell (i:=15) rfl) rfl ?_
 refine qHn rn sl sf hf hn' hN' ht s' I' (by omega) o' hk' (fun B2 p2 V2 g2 h2 s2 I2 o2 hk2=>?_) fun e h' hp=>hp
 exact hk2 V2 g2 (N'+1) h2 r' (n'+1) (by omega) s2 I2 o2
variable {D:Orc} {E:Dorc} {h h' h0 g g':H} {k:Kv} {kp:Kp} {L R:List Res} {bp N:Nat} {V:BkV} {B:Bk} {w:List Bs} {wv:Value} {past:Bool}
def qWe (t:Bs):Except (Nat × Int) (Bk × Bool) :=
 if 65536<t.length∨4096≤t.count 10 then .error (0,220)
 else if validD t=false then .error (0,221)
 else qXo Bk.nil false 0 (qXl 10 t)
def BkV.nil:BkV:=⟨.slice none 0 0,.slice none 0 0,.slice none 0 0,.slice none 0 0,.slice none 0 0,.slice none 0 0,.slice none 0 0,.slice none 0 0,.slice none 0 0,[],[],[],[],[],[],[]⟩
theorem rdn {b n:Nat} {l:List Value} (hb:h b=some (.cells l)) (hn:n≤l.length):rdN h ⟨b,0,none⟩ n=some (l.take n):=by
 simp only [rdN,hb,qZm,Option.bind_some]
 rw [if_pos (by simpa using hn)]
 simp
theorem xIx (fn:Func) (f r:Nat):(⟨f,(rgQ fn 0 0).params,(rgQ fn 0 0).assign,(rgQ fn 0 0).body,r⟩:LoopQ)=rgQ fn f r:=by
 unfold rgQ
 split <;> rfl
theorem Hp.st6 {i b:Nat} {l vs:List Value} (o:Hp h0 h L) (hi:L[i]?=some (qQn b l)) (hl:l.length=vs.length) (hv:vs.all one=true) {T:Prop} (hT:T) {K:H→Prop} (hK:∀ h',Hp h0 h' (L.set i (qQn b vs))→K h') :
  ptrW (Pt b) fun ad=>T∧vs.all one=true∧∃ h',Am.wr h ad vs=some h'∧K h':=by
 refine ⟨hT,hv,h.set b (.cells vs),?_,hK _ (o.set_cell hi vs)⟩
 have hb:=o.cell hi
 unfold Am.wr
 simp only [hb]
 have e:splice l 0 vs=vs:=by
  unfold splice
  rw [Nat.zero_add,← hl]
  simp
 rw [if_pos (by show 0+vs.length≤l.length; omega)]
 show some (h.set b (.cells (splice l 0 vs)))=_
 rw [e]
theorem Hp.permI (o:Hp h0 h L) (is:List Nat) (hp:is.Perm (List.range L.length)):Hp h0 h (is.map fun i=>L.getD i noR):=by
 refine o.perm ?_
 have e:(List.range L.length).map (fun i=>L.getD i noR)=L:=by
  apply List.ext_getElem (by simp)
  intro i h1 h2
  simp at h1 ⊢
  rw [List.getElem?_eq_getElem h2]; rfl
 have:=hp.map fun i=>L.getD i noR
 rw [e] at this
 exact this
theorem Hp.frz0 (o:Hp h0 h L):Hp h0 h (frzR noH::L):=o.add (fun _ _=>rfl) (qLh h) fun b hb=>absurd rfl hb
theorem xLf {fin:H→Prop} {finp:List PanicEntry→H→Prop} (hk:fin h):qQu Tryz.prog E fin finp [] .returning h:=hk
def clo2 (g a b:Nat):Deferred:=Deferred.mk (Target.fn (Fn.func g) #[Pt a,Pt b]) (#[]++[].toArray)
def qJt (E:Dorc) (g:Nat):Prop:=(∀ a b h (k:FrameMode→H→Prop) kp,h a=some (.cells [.int .i64 0])→k .returning h→E g [Pt a,Pt b] .returning h k kp) ∧
 ∀ a b e h0 h L (k:FrameMode→H→Prop) kp,Hp h0 h (qQn a [.int .i64 0]::qQn b nilB::L)→(∀ h',Hp h0 h' (qQn a [.int .i64 e]::qQn b nilB::L)→k (.panicking [PanicEntry.mk (.iface 112 (.agg #[.int .i64 e])) true false]) h') →
  E g [Pt a,Pt b] (.panicking (chain e)) h k kp
theorem xIb (c:Cl40 D E) (cc:Cl26 D):qJt E 40:=by
 refine ⟨fun a b h k kp ha hk=>c _ _ _ _ _ _ ?_,fun a b e h0 h L k kp o hk=>c _ _ _ _ _ _ ?_⟩
 ·unfold F40
  refine qBw cc ⟨rfl,?_⟩
  rw [qQe]
  exact ⟨0,qWl ha rfl,hk⟩
 ·unfold F40
  refine qEi cc (o.cell (i:=0) rfl) fun h' h1 h2=>⟨rfl,?_⟩
  have o1:Hp h0 h' (qQn a [.int .i64 e]::qQn b nilB::L):=by
   have:=o.upd (i:=0) (r':=qQn a [.int .i64 e]) rfl (h':=h') (fun d hd hn=>h2 d (fun e=>hn e) hd) h1 (fun d hd=>⟨.inl hd,by
    have hd:d=a:=hd
    rw [hd,h1]; simp⟩)
   exact this
  rw [qQe]
  refine ⟨e,qWl h1 rfl,?_⟩
  rw [qZl]
  refine ⟨fun _=>?_,fun _=>hk h' o1⟩
  exact o1.st6 (i:=1) (vs:=nilB) rfl rfl rfl rfl fun h3 o3=>hk h3 o3
theorem xVl {fin:H→Prop} {finp:List PanicEntry→H→Prop} {a b r:Nat} {e:Int} (ct:qJt E 40) (hb:qZr Tryz.prog 40=true)
  (o:Hp h0 h (qQn a [.int .i64 0]::qQn b nilB::objR r .dfr::L)) (hk:∀ h',Hp h0 h' (qQn a [.int .i64 e]::qQn b nilB::objR r .old::L)→fin h') :
  qQu Tryz.prog E fin finp [mark r,clo2 40 a b] (.panicking (chain e)) h:=by
 refine ⟨o.obj (i:=2) rfl,hb,?_⟩
 have o1:Hp h0 (h.set r .old) (qQn a [.int .i64 0]::qQn b nilB::objR r .old::L):=o.set_obj (i:=2) rfl .old
 exact ct.2 a b e h0 _ _ _ _ o1 fun h' o'=>hk h' o'
theorem xPx {fin:H→Prop} {finp:List PanicEntry→H→Prop} {a b r:Nat} {l:List Value} (ct:qJt E 40) (hb:qZr Tryz.prog 40=true)
  (o:Hp h0 h (qQn a [.int .i64 0]::qQn b l::objR r .dfr::L)) (hk:∀ h',Hp h0 h' (qQn a [.int .i64 0]::qQn b l::objR r .old::L)→fin h') :
  qQu Tryz.prog E fin finp [mark r,clo2 40 a b] .returning h:=by
 refine ⟨o.obj (i:=2) rfl,hb,?_⟩
 have o1:Hp h0 (h.set r .old) (qQn a [.int .i64 0]::qQn b l::objR r .old::L):=o.set_obj (i:=2) rfl .old
 exact ct.1 a b _ _ _ (o1.cell (i:=0) rfl) (hk _ o1)
theorem xYv (c1:Cl41 D) (c2:Cl87 D) {s:ByteArray} (o:Hp h0 h L)
  (hk:∀ p3 p5 p7 h',Hp h0 h' (qQn p7 [.int .i64 0]::qQn p5 [.string (ByteArray.mk #[10])]::qQn p3 [.string s]::L)→k (.func (.func 120) #[] #[Pt p5,Pt p3,Pt p7]) h') :
  D 41 [.string s,.string (ByteArray.mk #[10])] h k kp:=by
 refine c1 _ _ _ _ _ ?_
 unfold F41
 refine c2 _ _ _ _ _ _ ?_
 unfold F87
 refine ⟨rfl,o.new_ fun p3 h3 hp3 o3=>⟨rfl,o3.new_ fun p5 h5 hp5 o5=>⟨rfl,o5.new_ fun p7 h7 hp7 o7=>?_⟩⟩⟩
 exact ⟨_,rfl,hk _ _ _ _ o7⟩
def qJr (D:Orc) (f:Nat) (T:H→Prop):Prop:=∀ (s:ByteArray) h (k:Kv) kp,s.size<2 ^ 40→T h→(match qWe (bts s) with
  | .ok y=>∀ bp tl V g N h',N<2 ^ 30→Sm N y.1→BkI g V y.1→Hp h h' (bkL bp tl V g y.1 [])→k (.tuple #[.agg #[V.sg,V.ru,V.eq,V.pr,V.ce,V.co],.int .i64 0,.int .i64 0]) h'
  | .error y=>∀ h',Ext h h'→k (.tuple #[.agg nilB.toArray,.int .i64 (y.1:Int),.int .i64 y.2]) h')→D f [.string s] h k kp
theorem xIn (c:Cl17 D E) (c1:Cl41 D) (c2:Cl87 D) (c3:Cl120 D) (rn:Rn17 D) (sl:qPl D 44 Tbl) (sf:qHf D) (si:qJs D 86)
  (sc:qKt D 39) (sv:qUl D 29 Tbl) (ct:qJt E 40):qJr D 17 Tbl:=by
 intro s h k kp hsz ht hk
 refine c _ _ _ _ ?_
 unfold F17
 rw [qQb]
 refine (Hp.nil_ h).new_ fun pb h1 hb1 o1=>o1.new_ fun pat h2 hb2 o2=>o2.new_ fun pe h3 hb3 o3=>?_
 have o3:Hp h h3 (qQn pe [.int .i64 0]::qQn pat [.int .i64 0]::qQn pb nilB::[]):=o3
 have hbl:(bts s).length=s.size:=rfl
 have early:∀ (e:Int) h4,Hp h h4 (qQn pe [.int .i64 0]::qQn pat [.int .i64 0]::qQn pb nilB::[])→(∀ h',Ext h h'→k (.tuple #[.agg nilB.toArray,.int .i64 0,.int .i64 e]) h') →
   (ptrW (Pt pb) (fun ad139=>6=6∧List.all nilB one=true∧∃ h140,Am.wr h4 ad139 nilB=some h140∧ptrW (Pt pat) (fun ad152=>one (.int .i64 0)=true∧1=1∧∃ h153,wr1 h140 ad152 (.int .i64 0)=some h153∧ptrW (Pt pe) (fun ad165=>one (.int .i64 e)=true∧1=1∧∃ h166,wr1 h153 ad165 (.int .i64 e)=some h166∧qQu Tryz.prog E (fun h=>ptrW (Pt pb) (fun ad167=>∃ v168:Value,∃ v169:Value,∃ v170:Value,∃ v171:Value,∃ v172:Value,∃ v173:Value,rdN h ad167 6=some [v168,v169,v170,v171,v172,v173]∧ptrW (Pt pat) (fun ad174=>∃ x175:Int,rd h ad174=some (.int .i64 x175)∧ptrW (Pt pe) (fun ad176=>∃ x177:Int,rd h ad176=some (.int .i64 x177)∧k (.tuple #[(.agg #[v168,v169,v170,v171,v172,v173]),(.int .i64 x175),(.int .i64 x177)]) h)))) kp [] FrameMode.returning h166)))):=fun e h4 o4 hk=>by
  refine o4.st6 (i:=2) (vs:=nilB) rfl rfl rfl rfl fun h5 o5=>?_
  refine o5.st0 (i:=1) rfl (by simp) rfl rfl fun h6 o6=>?_
  refine o6.st0 (i:=0) rfl (by simp) rfl rfl fun h7 o7=>?_
  have o7:Hp h h7 (qQn pe [.int .i64 e]::qQn pat [.int .i64 0]::qQn pb nilB::[]):=o7
  refine xLf ?_
  rw [qQe]
  refine ⟨_,_,_,_,_,_,rdn (o7.cell (i:=2) rfl) (by simp [nilB]),?_⟩
  refine ldI (o7.cell (i:=1) rfl) rfl ?_
  exact ldI (o7.cell (i:=0) rfl) rfl (hk h7 o7.ext)
 have big:∀ h4,Hp h h4 (qQn pe [.int .i64 0]::qQn pat [.int .i64 0]::qQn pb nilB::[])→(65536<(bts s).length∨4096≤(bts s).count 10)→j17__2 D E [] k kp (.string s) (Pt pb) (Pt pat) (Pt pe) (.bool true) h4:=fun h4 o4 hc=>by
  unfold j17__2
  rw [qQb,qQc,cond_true]
  unfold qWe at hk
  rw [if_pos hc] at hk
  exact early 220 h4 o4 hk
 rw [qQx,qQd]
 refine ⟨fun hgt=>big h3 o3 (.inl (by omega)),fun hle=>?_⟩
 refine sc s 10 h3 _ _ ⟨_,rfl,?_⟩
 by_cases hct:4096≤(bts s).count 10
 ·rw [decide_eq_true (by omega)]
  exact big h3 o3 (.inr hct)
 rw [decide_eq_false (by omega)]
 unfold j17__2
 rw [qQb,qQc,cond_false]
 refine sv s h3 _ _ (by omega) (qQt _ _ o3.ext ht) ⟨_,rfl,?_⟩
 unfold qWe at hk
 rw [if_neg (by omega)] at hk
 have hvd:validD s.data.toList=validD (bts s):=rfl
 rw [qQx,hvd]
 cases hv:validD (bts s) with
 | false =>
  rw [if_pos hv] at hk
  rw [cond_false]
  exact early 221 h3 o3 hk
 | true =>
 rw [if_neg (by rw [hv]; simp)] at hk
 rw [cond_true]
 refine o3.new_ fun bp h4 hb4 o4=>o4.new_ fun px h5 hb5 o5=>?_
 refine o5.st0 (i:=0) rfl (by simp) rfl rfl fun h6 o6=>?_
 refine xYv c1 c2 o6 fun p3 p5 p7 h7 o7=>⟨_,rfl,?_⟩
 refine ⟨by kernel_rfl,fun f hf r hr l hl=>?_⟩
 let P:Pl:=⟨l,r,px,pat,pe,pb,p3,p5,p7,bp⟩
 have o8:=o7.new_obj hr .dfr
 have o9:=o8.new_obj hl (rdy P f)
 have hq:((h7.set r .dfr).set l (.lp .ready none (envP P) ⟨f,(rgQ Tryz.f17 0 0).params,(rgQ Tryz.f17 0 0).assign,(rgQ Tryz.f17 0 0).body,r⟩))=(h7.set r .dfr).set l (rdy P f):=by rw [xIx]; rfl
 show D _ _ ((h7.set r .dfr).set l (.lp .ready none (envP P) ⟨f,(rgQ Tryz.f17 0 0).params,(rgQ Tryz.f17 0 0).assign,(rgQ Tryz.f17 0 0).body,r⟩)) _ _
 rw [hq]
 have hbody:qZr Tryz.prog 40=true:=by kernel_rfl
 have I0:BkI noH BkV.nil Bk.nil:=⟨.nil_,.nil_,fun x hx=>(by cases hx),.inl ⟨rfl,rfl,rfl,rfl,rfl⟩,.nil_⟩
 have s0:Sm 0 Bk.nil:=⟨by decide,fun x hx=>(by cases hx),fun x hx=>(by cases hx),by decide,by decide,by decide,by decide,by decide,fun x hx=>(by cases hx)⟩
 have oA:Hp h ((h7.set r .dfr).set l (rdy P f)) (bkL P.bp [.bool false] BkV.nil noH Bk.nil (plL P (rdy P f) 0 s)):=by
  have o10:Hp h ((h7.set r .dfr).set l (rdy P f)) (frzR noH::bufK 2 (.slice none 0 0) []::bufK 2 (.slice none 0 0) []::bufK 2 (.slice none 0 0) []::bufK 2 (.slice none 0 0) []::bufK 4 (.slice none 0 0) []::bufK 2 (.slice none 0 0) []::bufK 2 (.slice none 0 0) []::bufK 2 (.slice none 0 0) []::bufK 2 (.slice none 0 0) []::objR l (rdy P f)::objR r .dfr::qQn p7 [.int .i64 0]::qQn p5 [.string (ByteArray.mk #[10])]::qQn p3 [.string s]::qQn px [Pt bp]::qQn bp (nilB++[.bool false])::qQn pe [.int .i64 0]::qQn pat [.int .i64 0]::qQn pb nilB::[]) :=
   o9.add_nilK.add_nilK.add_nilK.add_nilK.add_nilK.add_nilK.add_nilK.add_nilK.add_nilK.frz0
  exact o10.permI [16,0,1,2,3,4,5,6,7,8,9,15,18,10,11,14,13,12,17,19] (by simp only [List.length_cons,List.length_nil]; decide)
 refine xYw c3 rn sl sf si (P:=P) (n:=0) (rest:=s) hf ht s0 I0 (by omega) (by omega) (by omega) oA ?_
 unfold FinP
 cases hp:qXo Bk.nil false 0 (qXl 10 (bts s)) with
 | error y =>
  rw [hp] at hk
  intro h8 q' rest' o10
  refine ⟨o10.obj (i:=3) rfl,?_⟩
  have o11:Hp h h8 (qQn pe [.int .i64 0]::qQn pb nilB::objR r .dfr::qQn pat [.int .i64 (y.1:Int)]::[]):=(o10.permI [7,8,3,1,0,2,4,5,6] (by unfold plL; simp only [List.length_cons,List.length_nil]; decide)).sub (by
   show List.Sublist _ (qQn pe [.int .i64 0]::qQn pb nilB::objR r .dfr::qQn pat [.int .i64 (y.1:Int)]::_)
   exact (((List.nil_sublist _).cons_cons _).cons_cons _).cons_cons _ |>.cons_cons _)
  refine xVl ct hbody o11 fun h9 o12=>?_
  rw [qQe]
  refine ⟨_,_,_,_,_,_,rdn (o12.cell (i:=1) rfl) (by simp [nilB]),?_⟩
  refine ldI (o12.cell (i:=3) rfl) rfl ?_
  exact ldI (o12.cell (i:=0) rfl) rfl (hk h9 o12.ext)
 | ok y =>
  rw [hp] at hk
  intro V' g' N' h8 rest' n' hN' s' I' o10
  refine ⟨o10.obj (i:=14) rfl,o10.obj (i:=13) rfl,?_⟩
  have hone:[V'.sg,V'.ru,V'.eq,V'.pr,V'.ce,V'.co].all one=true:=by
   simp only [List.all_cons,List.all_nil,qQy (o10.rowK (i:=2) rfl).isSl,qQy (o10.rowK (i:=3) rfl).isSl,qQy (o10.rowK (i:=4) rfl).isSl,qQy (o10.rowK (i:=5) rfl).isSl,qQy (o10.rowK (i:=6) rfl).isSl,qQy (o10.rowK (i:=7) rfl).isSl]
   rfl
  have o11:Hp h (h8.set l .old) (bkL bp [.bool y.2] V' g' y.1 (plL P .old n' rest')):=o10.set_obj (i:=13) rfl .old
  refine ld0 (o11.cell (i:=11) rfl) rfl ⟨rfl,?_⟩
  show ptrW (Pt bp) _
  rw [qQe]
  refine ⟨_,_,_,_,_,_,rdn (o11.cell (i:=0) rfl) (by simp),?_⟩
  refine o11.st6 (i:=19) (vs:=[V'.sg,V'.ru,V'.eq,V'.pr,V'.ce,V'.co]) rfl rfl hone rfl fun h12 o12=>?_
  refine o12.st0 (i:=12) rfl (by simp) rfl rfl fun h13 o13=>?_
  refine o13.st0 (i:=18) rfl (by simp) rfl rfl fun h14 o14=>?_
  have o14:Hp h h14 (bkL bp [.bool y.2] V' g' y.1 [qQn px [Pt bp],qQn pat [.int .i64 0],objR l .old,objR r .dfr,qQn p3 [.string rest'],qQn p5 [.string (ByteArray.mk #[10])],qQn p7 [.int .i64 0],qQn pe [.int .i64 0],qQn pb [V'.sg,V'.ru,V'.eq,V'.pr,V'.ce,V'.co]]):=o14
  have o15:Hp h h14 (qQn pe [.int .i64 0]::qQn pb [V'.sg,V'.ru,V'.eq,V'.pr,V'.ce,V'.co]::objR r .dfr::qQn pat [.int .i64 0]::bkL bp [.bool y.2] V' g' y.1 []):=(o14.permI [18,19,14,12,0,1,2,3,4,5,6,7,8,9,10,11,13,15,16,17] (by unfold bkL; simp only [List.length_cons,List.length_nil]; decide)).sub (by
   show List.Sublist _ (qQn pe [.int .i64 0]::qQn pb [V'.sg,V'.ru,V'.eq,V'.pr,V'.ce,V'.co]::objR r .dfr::qQn pat [.int .i64 0]::(bkL bp [.bool y.2] V' g' y.1 []++_))
   exact ((((List.sublist_append_left _ _).cons_cons _).cons_cons _).cons_cons _).cons_cons _)
  refine xPx ct hbody o15 fun h16 o16=>?_
  rw [qQe]
  refine ⟨_,_,_,_,_,_,rdn (o16.cell (i:=1) rfl) (by simp),?_⟩
  refine ldI (o16.cell (i:=3) rfl) rfl ?_
  exact ldI (o16.cell (i:=0) rfl) rfl (hk bp _ V' g' N' h16 hN' s' I' o16.tail.tail.tail.tail)
end Go.Proofs.YtkdneddcocggdaaGreatDoor.Am
namespace Go.Proofs.Sp
open Go Go.Lib Sys
theorem xXn:∀ (ss:List Bs),(qMe ss).length=(ss.map fun s=>s.length+1).sum+1
 | []=>rfl
 | s::ss=>by
  unfold qMe
  simp only [List.length_cons,List.length_append,xXn ss,List.map_cons,List.sum_cons]
  omega
theorem xCf (ss:List Bs):(qDa ss).length≤(ss.map fun s=>s.length+1).sum+1:=by
 cases ss with
 | nil=>simp [qDa]
 | cons s ss =>
  unfold qDa
  simp only [List.length_cons,List.length_append,xXn ss,List.map_cons,List.sum_cons]
  omega
theorem xQc {f:Bs→Nat} {g:List Int→Nat}:∀ (ss:List Bs) (us:List (List Int)),ss.length=us.length→(∀ (j:Nat) u s,us[j]?=some u→ss[j]?=some s→f s≤g u)→(ss.map f).sum≤(us.map g).sum
 | [],[],_,_=>by simp
 | s::ss,u::us,hl,h=>by
  have h0:=h 0 u s rfl rfl
  have:=xQc ss us (by simpa using hl) fun j u s h1 h2=>h (j+1) u s h1 h2
  simp only [List.map_cons,List.sum_cons]; omega
theorem xYs:∀ us:List (List Int),(us.map fun u=>50*u.length).sum=50*us.flatten.length
 | []=>rfl
 | u::us=>by
  simp only [List.map_cons,List.sum_cons,xYs us,List.flatten_cons,List.length_append]; omega
theorem xLe:∀ (k n:Nat),n<10 ^ (k+1)→(decDigits n).length≤k+1
 | 0,n,h=>by
  rw [decDigits,dif_pos (by simpa using h)]
  simp
 | k+1,n,h=>by
  rw [decDigits]
  split
  ·simp
  ·have:=xLe k (n / 10) (by rw [Nat.pow_succ] at h; omega)
   simp; omega
theorem qBt {n:Nat} (h:n<2 ^ 64):(decDigits n).length≤20:=xLe 19 n (by
 have:(10:Nat) ^ 20=100000000000000000000:=by decide
 omega)
theorem qRk {sig:Sg} (hn:∀ x∈sig,x.1.length≤33) {u:List Int} {s:Bs} (w:Wt sig u s):s.length+1≤50*u.length:=by
 induction w with
 | var h =>
  have:=qBt (n:=_) (Nat.lt_trans h (by decide))
  simp; omega
 | @app c nm a us ss h1 h2 h3 _ ih =>
  have hnm:=hn _ (List.mem_of_getElem? h1)
  have h4:=xCf ss
  have h5:=xQc (f:=fun s=>s.length+1) (g:=fun u=>50*u.length) ss us h3 fun j u s a b=>ih j u s a b
  rw [xYs] at h5
  simp only [List.length_append,List.length_cons] at *
  omega
def cst {α:Type} (C:α→Nat) (l:List α):Nat:=(l.map C).sum
theorem qWa {α:Type} {C:α→Nat} {x:α} {l:List α}:cst C (x::l)=C x+cst C l:=by simp [cst]
theorem qVw {α:Type} {C:α→Nat} {l m:List α}:cst C (l++m)=cst C l+cst C m:=by simp [cst]
theorem xAg {α:Type} {C:α→Nat} {x:α} {l:List α} (h:x∈l):C x≤cst C l:=by
 induction l with
 | nil=>cases h
 | cons y l ih =>
  rw [qWa]
  rcases List.mem_cons.mp h with rfl | h
  ·omega
  ·have:=ih h; omega
theorem qVf {α:Type} {f:α→Except Int Bs} {C:α→Nat}:∀ {l:List α} {s:Bs},(∀ x∈l,∀ s,f x=.ok s→s.length≤C x)→allM f l=.ok s→s.length≤cst C l
 | [],s,_,h=>by
  obtain rfl:=Except.ok.inj h
  simp [cst]
 | x::l,s,hf,h=>by
  unfold allM at h
  obtain ⟨a,h1,h⟩:=qQg.mp h
  obtain ⟨b,h2,h⟩:=qQg.mp h
  obtain rfl:=Except.ok.inj h
  have:=hf x (by simp) a h1
  have:=qVf (fun x hx=>hf x (by simp [hx])) h2
  rw [qWa,List.length_append]; omega
theorem qZe (ws:List Bs):(qYi ws).length≤(ws.map fun w=>w.length+1).sum+1:=by
 have key:∀ ws:List Bs,([32].intercalate ws).length≤(ws.map fun w=>w.length+1).sum:=fun ws=>by
  induction ws with
  | nil=>simp [List.intercalate]
  | cons w ws ih =>
   cases ws with
   | nil=>simp [List.intercalate]
   | cons x ws =>
    have:[32].intercalate (w::x::ws)=w++([32]++[32].intercalate (x::ws)):=by simp [List.intercalate]
    rw [this]
    simp only [List.length_append,List.map_cons,List.sum_cons,List.length_singleton] at *
    omega
 have:=key ws
 unfold qYi
 rw [List.length_append,List.length_singleton]; omega
theorem qIx {α:Type} {f:α→Except Int Bs} {c:Nat}:∀ {l:List α} {ss:List Bs},(∀ x∈l,∀ s,f x=.ok s→s.length≤c)→rowM f l=.ok ss→ss.length=l.length∧∀ s∈ss,s.length≤c
 | [],ss,_,h=>by
  obtain rfl:=Except.ok.inj h
  simp
 | x::l,ss,hf,h=>by
  unfold rowM at h
  obtain ⟨a,h1,h⟩:=qQg.mp h
  obtain ⟨b,h2,h⟩:=qQg.mp h
  obtain rfl:=Except.ok.inj h
  obtain ⟨i1,i2⟩:=qIx (fun x hx=>hf x (by simp [hx])) h2
  refine ⟨by simp [i1],fun s hs=>?_⟩
  rcases List.mem_cons.mp hs with rfl | hs
  ·exact hf x (by simp) _ h1
  ·exact i2 s hs
theorem qDk {n:Int} {s:Bs} (h:numM n=.ok s):s.length≤20:=by
 unfold numM at h
 obtain ⟨_,hm,h⟩:=qQg.mp h
 obtain rfl:=Except.ok.inj h
 have hm:=qBk.mp hm
 simp only [Bool.and_eq_true,decide_eq_true_eq] at hm
 have:(most:Int)=2147483647:=rfl
 exact qBt (by omega)
theorem xQd {c:Nat}:∀ {ss:List Bs},(∀ s∈ss,s.length≤c)→(ss.map fun w=>w.length+1).sum≤(c+1)*ss.length
 | [],_=>by simp
 | s::ss,h=>by
  have h1:=h s (by simp)
  have h2:=xQd fun x hx=>h x (List.mem_cons_of_mem _ hx)
  simp only [List.map_cons,List.sum_cons,List.length_cons,Nat.mul_add] at *
  omega
def ruC (r:Ru):Nat:=50*r.1.length+50*r.2.length+20
def prC (_:Int × Int):Nat:=100
def moC (m:Mo):Nat:=30*m.exps.length+700
def itC (i:It):Nat:=100+cst moC i.p
def ndC (n:Nd):Nat:=100+cst prC n.prec+cst itC n.ints
def cmC (c:Cm):Nat:=50*c.terms.flatten.length+4*c.terms.length+20
def syC (_:Bs × Int):Nat:=70
def bkC (B:Bk):Nat:=cst syC B.sig+cst ruC B.rules+cst ruC B.eqs+cst prC B.prec+cst ndC B.cert+cst cmC B.cmds
end Go.Proofs.Sp
namespace Go.Proofs.YtkdneddcocggdaaGreatDoor.Am
open Go Go.Proofs Go.RowKit Go.Lib Sys Sp
set_option maxRecDepth 100000
variable {D:Orc} {E:Dorc} {h h' h0:H} {k:Kv} {kp:Kp} {L R:List Res} {b:Nat} {sg:Value} {l:Bs}
def Pst (h0:H) (b:Nat) (sg:Value) (R:List Res) (l:Bs) (h:H):Prop:=∃ p buf,Head b p∧Hp h0 h (bdL b 98 p buf [sg] l R)
theorem xIz:BldT 98 ([sg].length+2):=by unfold BldT; kernel_rfl
theorem Pst.ext (o:Pst h0 b sg R l h):Ext h0 h:=by
 obtain ⟨p,buf,hp,o⟩:=o; exact o.ext
theorem Pst.later (o:Pst h0 b sg R l h) (e:Ext h h'):Pst h0 b sg R l h':=by
 obtain ⟨p,buf,hp,o⟩:=o; exact ⟨p,buf,hp,o.later e⟩
theorem Pst.sub {R':List Res} (o:Pst h0 b sg R l h) (s:R'.Sublist R):Pst h0 b sg R' l h:=by
 obtain ⟨p,buf,hp,o⟩:=o; exact ⟨p,buf,hp,o.sub ((s.cons_cons _).cons_cons _)⟩
theorem Pst.tail {x:Res} (o:Pst h0 b sg (x::R) l h):Pst h0 b sg R l h:=o.sub (List.sublist_cons_self x R)
theorem Pst.get {i:Nat} {r:Res} (o:Pst h0 b sg R l h) (hi:R[i]?=some r):r.ok h:=by
 obtain ⟨p,buf,hp,o⟩:=o; exact o.get (i:=i+2) hi
theorem Pst.cell {i c:Nat} {x:List Value} (o:Pst h0 b sg R l h) (hi:R[i]?=some (qQn c x)):h c=some (.cells x):=o.get hi
theorem Pst.row {i:Nat} {s:Value} {x:List Value} (o:Pst h0 b sg R l h) (hi:R[i]?=some (bufR s x)):Row h s x:=(o.get hi:Buf noH h s x).row
theorem Pst.sgAt (o:Pst h0 b sg R l h):rd h (Addr.add ⟨b,0,none⟩ 2)=some sg:=by
 obtain ⟨p,buf,hp,o⟩:=o; exact rdb (o.brow (i:=0) rfl) rfl
theorem Pst.up {h2:H} {vs:List Res} (o:Pst h0 b sg R l h) (e:∀ {L},Hp h0 h L→Hp h0 h2 (vs++L)):Pst h0 b sg (vs++R) l h2:=by
 obtain ⟨p,buf,hp,o⟩:=o
 refine ⟨p,buf,hp,(e o).perm ?_⟩
 unfold bdL
 have:(vs++qAh b 98 [p,buf,sg]::bytR buf l::R).Perm (([qAh b 98 [p,buf,sg],bytR buf l]++vs)++R):=by
  rw [show vs++qAh b 98 [p,buf,sg]::bytR buf l::R=(vs++[qAh b 98 [p,buf,sg],bytR buf l])++R by simp]
  exact List.perm_append_comm.append_right R
 exact this.symm
theorem Pst.new_ {vs:List Value} (o:Pst h0 b sg R l h) {K:Value→H→Prop} (hK:∀ c h',Pst h0 b sg (qQn c vs::R) l h'→K (Pt c) h'):newW h vs K:=fun c hc=>hK c _ (o.up (vs:=[qQn c vs]) fun o=>o.newc hc vs)
theorem Pst.newSl {n:Nat} {ws:List Value} (o:Pst h0 b sg R l h) (hn:ws.length=n) {K:Value→H→Prop} (hK:∀ s h',Pst h0 b sg (bufR s ws::R) l h'→K s h'):qQz h n ws K:=by
 intro c hc
 refine hK _ _ (o.up (vs:=[bufR _ ws]) fun o=>?_)
 exact (o.newc hc ws).cell_buf (i:=0) rfl hn
theorem Pst.copy {z vs:List Value} (o:Pst h0 b sg R l h) (hz:z.length=vs.length) (h1:vs.all one=true) {T:Prop} (hT:T) {K:Value→H→Prop} (hK:∀ c h',Pst h0 b sg (qQn c vs::R) l h'→K (Pt c) h') :
  newW h z fun p h1=>ptrW p fun ad=>T∧vs.all one=true∧∃ h2,Am.wr h1 ad vs=some h2∧K p h2:=by
 refine o.new_ fun c h2 o2=>?_
 obtain ⟨p,buf,hp,o2⟩:=o2
 have:=o2.st6 (i:=2) (vs:=vs) rfl hz h1 hT fun h3 o3=>hK c h3 ⟨p,buf,hp,o3⟩
 exact this
def wsV (w:List Bs):List Value:=w.map fun x=>Value.string (strB x)
def qGu (D:Orc) (f:Nat):Prop:=∀ (w:List Bs) (v:Value) (l:Bs) (b:Nat) (sg:Value) (R:List Res) h0 h (k:Kv) kp,Pst h0 b sg R l h→Row h v (wsV w)→w.length<2 ^ 38→l.length+(qYi w).length<2 ^ 39 →
 (∀ h',Pst h0 b sg R (l++qYi w) h'→k (.tuple #[]) h')→D f [Pt b,v] h k kp
theorem xHu (c:Cl54 D) (sj:qMs D 100) (ws:xXs D 81):qGu D 54:=by
 intro w v l b sg R h0 h k kp o hr hw hl hk
 refine c _ _ _ _ _ ?_
 unfold F54
 have hll:(qYi w).length=([32].intercalate w).length+1:=by unfold qYi; simp
 have e1:(w.map strB).map bts=w:=by rw [List.map_map]; simp [Function.comp_def,qQv]
 refine ⟨rfl,sj v (w.map strB) (ByteArray.mk #[32]) h _ _ (by rw [List.map_map]; exact hr) (by rw [List.length_map]; omega) (by
  rw [e1]
  show ([32].intercalate w).length≤_
  omega) ⟨_,rfl,?_⟩⟩
 rw [e1]
 obtain ⟨p,buf,hp,o⟩:=o
 have hj:bts (strB ((bts (ByteArray.mk #[32])).intercalate w))=[32].intercalate w:=qQv _
 have hjs:(strB ((bts (ByteArray.mk #[32])).intercalate w)).size=([32].intercalate w).length:=by rw [← qQq,hj]
 refine ws b _ p buf [sg] l _ R h0 h _ _ xIz hp (by rw [hjs]; omega) o fun h1 buf1 o1=>⟨_,_,rfl,?_⟩
 rw [hj] at o1
 refine ⟨rfl,?_⟩
 refine ws b _ (Pt b) buf1 [sg] _ (ByteArray.mk #[10]) R h0 h1 _ _ xIz (qUb b) (by rw [List.length_append]; show _+1<_; omega) o1 fun h2 buf2 o2=>⟨_,_,rfl,?_⟩
 refine hk h2 ⟨Pt b,buf2,qUb b,?_⟩
 have:l++qYi w=l++[32].intercalate w++bts (ByteArray.mk #[10]):=by unfold qYi; rw [List.append_assoc]; rfl
 rw [this]; exact o2
def qMn (D:Orc) (f:Nat) (T:H→Prop):Prop:=∀ (b:Nat) (x:Int) h (k:Kv) kp,inI x→T h→Out (numM x) (fun s=>s.length≤20→k (.string (strB s)) h) (fun e=>kp (chain e) h)→D f [Pt b,.int .i64 x] h k kp
theorem xHt (c:Cl55 D) (cm:Cl28 D) (si:qDy D 82 Tbl):qMn D 55 Tbl:=by
 intro b x h k kp hx ht hk
 refine c _ _ _ _ _ ?_
 unfold F55
 unfold numM at hk
 rw [qQk,qXx] at hk
 rw [qQa,qQd]
 refine ⟨fun h0=>qQl cm (fun hle=>⟨rfl,?_⟩) fun hgt=>?_,fun h0=>qQl cm (fun hh=>by cases hh) fun _=>?_⟩
 ·have hle:=of_decide_eq_true hle
  have hmost:(most:Int)=2147483647:=rfl
  have hk:=hk.1 (by rw [hmost]; simp; omega)
  unfold j55__2
  rw [qQa]
  have hxn:x=((x.toNat:Nat):Int):=by omega
  rw [hxn]
  refine si x.toNat _ _ _ (by omega) ht ⟨_,rfl,?_⟩
  exact hk (qBt (by omega))
 ·have hgt:=of_decide_eq_false hgt
  have hmost:(most:Int)=2147483647:=rfl
  exact hk.2 (by rw [hmost]; simp; omega)
 ·exact hk.2 (by simp; omega)
def qHa (D:Orc) (f:Nat):Prop:=∀ (b:Nat) (x:Int) (marked:Bool) (sig:List Sy) (sg:Value) (R:List Res) (l:Bs) h0 h (k:Kv) kp,inI x→Sr h0 sg sig→sig.length≤64→(∀ y∈sig,y.1.size≤33)→Pst h0 b sg R l h→Out (qLj (S2 sig) x marked) (fun s=>s.length≤34→k (.string (strB s)) h) (fun e=>kp (chain e) h)→D f [Pt b,.int .i64 x,.bool marked] h k kp
theorem xHr (c:Cl57 D) (cm:Cl28 D):qHa D 57:=by
 intro b x marked sig sg R l h0 h k kp hx hs h64 h33 o hk
 refine c _ _ _ _ _ _ ?_
 unfold F57
 rw [qQa,qQc]
 have hsg:=o.sgAt
 have hs':=hs.ext o.ext
 refine ⟨rfl,sg,hsg,?_⟩
 rw [hs'.row.len,qXd]
 unfold qLj at hk
 rw [qQk,qXx,qRj] at hk
 have fin:(decide (0≤x) && (decide (x<(sig.length:Int)) || marked && decide (x<2*(sig.length:Int))))=true→j57__3 D k kp (Pt b) (.int .i64 x) (.int .i64 (sig.length:Int)) h:=fun hok=>by
  have hk:=hk.1 hok
  simp only [Bool.and_eq_true,Bool.or_eq_true,decide_eq_true_eq] at hok
  unfold j57__3
  rw [qQa,qQa,qQd]
  have at_:∀ j:Nat,j<sig.length→∃ y,sig[j]?=some y∧(S2 sig)[j]?=some (bts y.1,y.2)∧y.1.size≤33∧∀ {K:Addr→Prop},(∀ ad,rd h (Addr.add ad 0)=some (.string y.1)→K ad)→qQm sg (j:Int) 2 K:=fun j hj=>by
   refine ⟨sig[j],List.getElem?_eq_getElem hj,?_,h33 _ (List.getElem_mem hj),fun {K} hK=>?_⟩
   ·unfold S2; rw [List.getElem?_map,List.getElem?_eq_getElem hj]; rfl
   ·refine hs'.row.at_ (by omega) (by rw [qXd]; omega) fun ad v hv _ hj2=>?_
    obtain ⟨z,hz,rfl⟩:=qYm hv
    rw [Int.toNat_natCast,List.getElem?_eq_getElem hj] at hz
    obtain rfl:=Option.some.inj hz
    exact hK ad (hj2 0 _ rfl)
  refine ⟨fun hlt=>?_,fun hge=>?_⟩
  ·rw [if_pos hlt] at hk
   obtain ⟨y,_,hy,hyl,hat⟩:=at_ x.toNat (by omega)
   have hxn:x=((x.toNat:Nat):Int):=by omega
   refine ⟨rfl,sg,hsg,?_⟩
   rw [hxn]
   refine hat fun ad hrd=>⟨_,hrd,?_⟩
   rw [hy] at hk
   have hk:(bts y.1).length≤34→k (.string (strB (bts y.1))) h:=hk
   rw [qUs] at hk
   exact hk (by rw [qQq]; omega)
  ·rw [if_neg hge] at hk
   obtain ⟨y,_,hy,hyl,hat⟩:=at_ (x - (sig.length:Int)).toNat (by omega)
   have hxn:x - (sig.length:Int)=(((x - (sig.length:Int)).toNat:Nat):Int):=by omega
   refine ⟨rfl,sg,hsg,?_⟩
   rw [qQr (by omega) (by omega),hxn]
   refine hat fun ad hrd=>⟨_,hrd,by show y.1.size+1≤_; omega,?_⟩
   rw [hy] at hk
   have hk:(bts y.1++[35]).length≤34→k (.string (strB (bts y.1++[35]))) h:=hk
   have e:y.1++ByteArray.mk #[35]=strB (bts y.1++[35]):=by
    rw [← qUs (y.1++ByteArray.mk #[35]),qIn]; rfl
   rw [e]
   exact hk (by rw [List.length_append,qQq]; show y.1.size+1≤34; omega)
 have bad:(decide (0≤x) && (decide (x<(sig.length:Int)) || marked && decide (x<2*(sig.length:Int))))=false→kp (chain 223) h:=hk.2
 rw [qQd]
 refine ⟨fun h0=>?_,fun h0=>qQl cm (fun hh=>by cases hh) fun _=>bad (by simp; omega)⟩
 rw [qQx,qQd]
 refine ⟨fun hlt=>qQl cm (fun _=>⟨rfl,fin (by simp; omega)⟩) fun hh=>(by cases hh),fun hge=>?_⟩
 cases marked with
 | true =>
  rw [cond_true,qQr (by omega) (by omega)]
  refine qQl cm (fun hh=>⟨rfl,fin ?_⟩) fun hh=>bad ?_
  ·have:=of_decide_eq_true hh
   simp; omega
  ·have:=of_decide_eq_false hh
   simp; omega
 | false =>
  rw [cond_false]
  exact qQl cm (fun hh=>by cases hh) fun _=>bad (by simp; omega)
def xEo (D:Orc) (f:Nat) (T:H→Prop):Prop:=∀ (b:Nat) (tv:Value) (u:List Int) (sig:List Sy) (sg:Value) (R:List Res) (l:Bs) h0 h (k:Kv) kp,qVe sig=0→Sr h0 sg sig→(∀ y∈sig,y.1.size≤33)→T h0→Ir h tv u→u.length<2 ^ 32→Pst h0 b sg R l h →
 Out (qJv (S2 sig) u) (fun s=>∀ h',s.length+1≤50*u.length→Ext h h'→k (.string (strB s)) h') (fun e=>∀ h',Ext h h'→kp (chain e) h')→D f [Pt b,tv] h k kp
theorem xFo (c:Cl101 D) (cm:Cl28 D) (ck:qUp D 34 Tbl) (wr:∀ n,xXr D 35 Tbl n) (sb:qPk D 37):xEo D 101 Tbl:=by
 intro b tv u sig sg R l h0 h k kp hc hs h33 ht hi hu o hk
 refine c _ _ _ _ _ ?_
 unfold F101
 have hct:qYf sig u=scan (S2 sig) 1 u:=by
  unfold qYf
  rw [if_neg (by rw [hc]; simp)]
 refine ⟨rfl,sg,o.sgAt,?_⟩
 refine ck _ _ _ _ _ _ _ (hs.ext o.ext) (qQt _ _ o.ext ht) hi fun h1 e1=>⟨_,rfl,?_⟩
 rw [hct]
 unfold qJv at hk
 refine qQl cm (fun hz=>⟨rfl,?_⟩) fun hnz=>?_
 ·have hz:scan (S2 sig) 1 u=0:=by simpa using hz
  rw [if_neg (by rw [hz]; simp)] at hk
  have w:=qRh (sig:=S2 sig) (u:=u) hz
  have hlen:=qRk (fun x hx=>by
   unfold S2 at hx
   obtain ⟨y,hy,rfl⟩:=List.mem_map.mp hx
   show (bts y.1).length≤33
   rw [qQq]; exact h33 y hy) w
  have o1:=o.later e1
  refine qSl (by kernel_rfl) (Hp.nil_ h1) fun c2 h2 hb o2=>?_
  refine ⟨rfl,sg,(o1.later o2.ext).sgAt,?_⟩
  have hi1:Ir h1 tv (u++[]):=by rw [List.append_nil]; exact hi.ext e1
  refine wr _ sig sg tv u [] _ c2 69 _ _ [] [] [] h1 h2 _ _ w (Nat.le_refl _) (xEk hc) (hs.ext o1.ext) (qQt _ _ o1.ext ht) hi1 (by unfold BldT; kernel_rfl) (.inl rfl) (by simp; omega) o2 fun h3 buf tv3 o3 _=>⟨_,rfl,?_⟩
  rw [List.nil_append] at o3
  refine xEg sb o3 (by omega) fun h4 o4=>⟨_,rfl,?_⟩
  exact hk h4 hlen (e1.trans o4.ext)
 ·have hnz:scan (S2 sig) 1 u≠0:=by simpa using hnz
  rw [if_pos hnz] at hk
  exact hk h1 e1
end Go.Proofs.YtkdneddcocggdaaGreatDoor.Am
namespace Go.Proofs.YtkdneddcocggdaaGreatDoor.Am
open Go Go.Proofs Nats
theorem xEz {l:List Nat} {i:Nat} (h:i<l.length):val (l.drop i)=dig l i+B*val (l.drop (i+1)):=by
 rw [List.drop_eq_getElem_cons h,val,qOx (List.getElem?_eq_getElem h)]
theorem xXe {l:List Nat} {i x:Nat} (h:i<l.length):(l.set i x).drop i=x::l.drop (i+1):=by
 rw [List.drop_eq_getElem_cons (by simpa using h)]
 simp [List.drop_set]
theorem xBu {q r t x m w:Nat} (h:w=m*q+r) (ht:t=r*B+x):x+B*w=m*(t / m+B*q)+t % m:=by
 subst h ht
 have h1:=Nat.div_add_mod (r*B+x) m
 have e1:B*(m*q+r)=m*(B*q)+r*B:=by rw [Nat.mul_add,Nat.mul_left_comm,Nat.mul_comm B r]
 rw [e1,Nat.mul_add]
 omega
theorem xUx {r x m:Nat} (hr:r<m) (hx:x<B):(r*B+x) / m<B:=by
 rw [Nat.div_lt_iff_lt_mul (by omega)]
 have h1:(r+1)*B≤m*B:=Nat.mul_le_mul_right _ hr
 rw [Nat.add_mul,Nat.one_mul] at h1
 rw [Nat.mul_comm B m]
 omega
def rdig (w:Nat):List UInt8:=if h:w=0 then [] else rdig (w / 10)++[UInt8.ofNat (48+w % 10)]
termination_by w
decreasing_by exact Nat.div_lt_self (Nat.pos_of_ne_zero h) (by decide)
theorem qWc:rdig 0=[]:=by rw [rdig]; simp
theorem qUu {w:Nat} (h:w≠0):rdig w=rdig (w / 10)++[UInt8.ofNat (48+w % 10)]:=by rw [rdig]; simp [h]
def txt (v:Nat):List UInt8:=if v=0 then [48] else rdig v
theorem shl32 {r:Nat} (h:r<2 ^ 32):IntKind.wrap .u64 ((r:Int)*2 ^ (min (Int.toNat (32:Int)) (IntKind.bits .u64)))=((r*4294967296:Nat):Int):=by
 have e:(2:Int) ^ (min (Int.toNat (32:Int)) (IntKind.bits .u64))=4294967296:=by decide
 rw [e,qWy (by omega) (by omega)]
 omega
theorem xQk:∀ (n w:Nat),w<10 ^ n→(rdig w).length≤n
 | 0,w,h=>by
  have:w=0:=by simpa using h
  subst this; rw [qWc]; simp
 | n+1,w,h=>by
  by_cases h0:w=0
  ·subst h0; rw [qWc]; simp
  ·rw [qUu h0,List.length_append]
   have:=xQk n (w / 10) (by rw [Nat.pow_succ] at h; omega)
   simp; omega
theorem xQa {n k:Nat} (hn:n=640) (hk:k=64):B ^ k≤10 ^ n:=by
 have h:n=10*k:=by omega
 rw [h,Nat.pow_mul]
 exact Nat.pow_le_pow_left (by decide) k
theorem xGx {v:Nat} (h:v<B ^ 64):(rdig v).length≤640:=by
 obtain ⟨n,hn⟩:∃ n,n=640:=⟨_,rfl⟩
 rw [← hn]
 exact xQk n v (Nat.lt_of_lt_of_le h (xQa hn rfl))
def qMk (D:Orc) (f:Nat):Prop:=∀ a l h (k:Kv) kp,Nr h a l →
 (right l→∀ t h',Ext h h'→bts t=txt (val l)→k (.tuple #[.string t,.int .i64 0]) h') →
 (¬ right l→k (.tuple #[.string (ByteArray.mk #[]),.int .i64 10]) h)→D f [a] h k kp
theorem xLb {r x:Nat} (hr:r<2 ^ 30) (hx:x<2 ^ 32) :
  IntKind.wrap .u64 ((BitVec.ofInt (IntKind.bits .u64) (IntKind.wrap .u64 ((r:Int)*2 ^ (min (Int.toNat (32:Int)) (IntKind.bits .u64)))) ||| BitVec.ofInt (IntKind.bits .u64) (IntKind.wrap .u64 (x:Int))).toNat:Int)=((r*4294967296+x:Nat):Int):=by
 rw [shl32 (by omega),qWy (n:=(x:Int)) (by omega) (by omega)]
 have e:(BitVec.ofInt (IntKind.bits .u64) ((r*4294967296:Nat):Int) ||| BitVec.ofInt (IntKind.bits .u64) (x:Int)).toNat=r*4294967296+x:=by
  rw [BitVec.ofInt_natCast,BitVec.ofInt_natCast,BitVec.toNat_or,BitVec.toNat_ofNat,BitVec.toNat_ofNat]
  have e64:(2:Nat) ^ (IntKind.bits .u64)=18446744073709551616:=by decide
  rw [e64,Nat.mod_eq_of_lt (by omega),Nat.mod_eq_of_lt (by omega)]
  have:=Nat.two_pow_add_eq_or_of_lt (i:=32) (b:=x) hx r
  rw [Nat.mul_comm r]
  exact this.symm
 rw [e,qWy (by omega) (by omega)]
theorem xXz {D:Orc} {h0:H} {ds a:Value} {l:List Nat} (hl:l.length≤64) {K:Kl}
  (hK:∀ h2 o r,Nb h0 h2 a o→Ext h0 h2→o.length=l.length→r<1000000000→val l=1000000000*val o+r→K (.e 2) [ds,a,.int .u64 (r:Int)] h2)
  {h1:H} (nb:Nb h0 h1 a l) :
  loop102_10 D [ds,a,.int .u64 (0:Int),.int .i64 ((l.length:Int) - 1)] h1 K:=by
 intro I hI
 have hB:B=4294967296:=rfl
 have key:∀ n:Nat,∀ (o:List Nat) (r:Nat) (h2:H),n≤l.length→o.length=l.length→Nb h0 h2 a o→r<1000000000→(∀ j,j<n→o[j]?=l[j]?) →
   val (l.drop n)=1000000000*val (o.drop n)+r→I [ds,a,.int .u64 (r:Int),.int .i64 ((n:Int) - 1)] h2:=by
  intro n
  induction n with
  | zero =>
   intro o r h2 hn ho nb hr hj hv
   refine hI _ _ _ _ _ ?_
   unfold round102_10
   simp only [qQa,qQb]
   rw [qQd]
   refine ⟨fun x=>absurd x (by omega),fun _=>?_⟩
   exact hK _ _ _ nb nb.ext ho hr hv
  | succ n ih =>
   intro o r h2 hn ho nb hr hj hv
   refine hI _ _ _ _ _ ?_
   unfold round102_10
   simp only [qQa,qQb]
   rw [qQd,show ((n+1:Nat):Int) - 1=(n:Int) by omega]
   refine ⟨fun _=>⟨by decide,?_⟩,fun x=>absurd (show (n:Int)≥0 by omega) x⟩
   refine nb.nr.at_ (by omega) (by omega) fun p x hx hxB ha=>⟨_,ha,?_⟩
   rw [Int.toNat_natCast] at hx
   have hlt:(r*4294967296+x) / 1000000000<4294967296:=xUx hr hxB
   have hxB':x<4294967296:=hxB
   rw [xLb (by omega) (by omega)]
   have e3:IntKind.wrap .u32 (IntKind.wrap .u64 (Int.tdiv ((r*4294967296+x:Nat):Int) (1000000000:Int)))=(((r*4294967296+x) / 1000000000:Nat):Int):=by
    rw [Int.tdiv_eq_ediv_of_nonneg (by omega),qWy (by omega) (by omega),xCn (by omega) (by omega)]
    omega
   have e4:Int.tmod ((r*4294967296+x:Nat):Int) (1000000000:Int)=(((r*4294967296+x) % 1000000000:Nat):Int):=by
    rw [Int.tmod_eq_emod_of_nonneg (by omega)]
    omega
   refine ⟨by decide,?_⟩
   rw [e3,e4]
   refine nb.put (by trivial) (by trivial) (x:=(r*4294967296+x) / 1000000000) n rfl (by omega) rfl (xUx hr hxB) (fun h3 nb3=>?_)
   refine ⟨by decide,?_⟩
   rw [qQr (by omega) (by omega)]
   refine ih (o.set n ((r*4294967296+x) / 1000000000)) ((r*4294967296+x) % 1000000000) h3 (by omega) (by simpa using ho) nb3 (Nat.mod_lt _ (by decide)) (fun j hjn=>by
    rw [List.getElem?_set,if_neg (by omega)]; exact hj j (by omega)) ?_
   have hlx:l[n]?=some x:=by rw [← hj n (by omega)]; exact hx
   rw [xEz (by omega),qOx hlx,xXe (by omega),val]
   exact xBu hv rfl
 exact key l.length l 0 h1 (Nat.le_refl _) rfl nb (by decide) (fun _ _=>rfl) (by simp [val])
def lsb:List UInt8→Nat
 | []=>0
 | x::l=>(x.toNat - 48)+10*lsb l
theorem xPt:∀ (l m:List UInt8),lsb (l++m)=lsb l+10 ^ l.length*lsb m
 | [],m=>by simp [lsb]
 | x::l,m=>by
  rw [List.cons_append,lsb,xPt l m,lsb,List.length_cons,Nat.pow_succ,Nat.mul_add,← Nat.mul_assoc,Nat.mul_comm 10 (10 ^ l.length)]
  omega
theorem xBc (l:List UInt8) (d:Nat) (hd:d<10):lsb (l++[UInt8.ofNat (48+d)])=lsb l+10 ^ l.length*d:=by
 rw [xPt]
 have:(UInt8.ofNat (48+d)).toNat=48+d:=by simp; omega
 simp only [lsb,this,Nat.mul_zero,Nat.add_zero]
 congr 2; omega
theorem xBg {d:Nat} (hd:d<10):qXu (UInt8.ofNat (48+d))=true:=by
 have:(UInt8.ofNat (48+d)).toNat=48+d:=by simp; omega
 simp only [qXu,this,Bool.and_eq_true,decide_eq_true_eq]; omega
theorem qHq:∀ (l:List UInt8),l.all qXu=true→l.reverse.dropWhile (·==48)=rdig (lsb l)
 | [],_=>by rw [lsb,qWc]; rfl
 | x::l,h=>by
  simp only [List.all_cons,Bool.and_eq_true] at h
  obtain ⟨hx,hl⟩:=h
  have ih:=qHq l hl
  simp only [qXu,Bool.and_eq_true,decide_eq_true_eq] at hx
  rw [List.reverse_cons,lsb]
  have hx2:UInt8.ofNat (48+(x.toNat - 48))=x:=by
   apply UInt8.toNat_inj.mp
   simp; omega
  by_cases h0:lsb l=0
  ·rw [h0,qWc] at ih
   have hz:l.reverse.all (·==48)=true:=by
    rw [List.all_eq_true]
    intro y hy
    have key:∀ m:List UInt8,m.dropWhile (·==48)=[]→∀ y∈m,(y==48)=true:=by
     intro m
     induction m with
     | nil=>intro _ y hy; simp at hy
     | cons z m ih =>
      intro hm y hy
      rw [List.dropWhile_cons] at hm
      by_cases hz:(z==48)=true
      ·rw [if_pos hz] at hm
       rcases List.mem_cons.mp hy with rfl | hy
       ·exact hz
       ·exact ih hm y hy
      ·rw [if_neg hz] at hm; cases hm
    exact key _ ih y hy
   rw [h0,List.dropWhile_append,ih]
   simp only [List.isEmpty_nil,if_true]
   by_cases hx0:x=48
   ·subst hx0
    have:((48:UInt8).toNat - 48+10*0)=0:=rfl
    rw [this,qWc]; rfl
   ·have hne:x.toNat - 48+10*0≠0:=by
     intro h1
     apply hx0
     apply UInt8.toNat_inj.mp
     have:(48:UInt8).toNat=48:=rfl
     omega
    rw [qUu hne]
    have e1:(x.toNat - 48+10*0) / 10=0:=by omega
    have e2:(x.toNat - 48+10*0) % 10=x.toNat - 48:=by omega
    rw [e1,e2,qWc,hx2]
    simp [hx0]
  ·have hne:x.toNat - 48+10*lsb l≠0:=by omega
   rw [qUu hne]
   have e1:(x.toNat - 48+10*lsb l) / 10=lsb l:=by omega
   have e2:(x.toNat - 48+10*lsb l) % 10=x.toNat - 48:=by omega
   rw [e1,e2,hx2,List.dropWhile_append,ih]
   have:(rdig (lsb l)).isEmpty=false:=by
    rw [qUu h0]; simp
   rw [this]; rfl
structure Two (g h:H) (ds:Value) (dl:List UInt8) (a:Value) (l:List Nat):Prop where
 y:Yb g h ds dl
 n:Nb g h a l
 s1:Sep ds a
 s2:Sep a ds
theorem Two.push {g h:H} {ds a:Value} {dl:List UInt8} {l:List Nat} (w:Two g h ds dl a l) (hs:dl.length≤2 ^ 20) {c:UInt8} {v:Value} (hv:v=.int .u8 (c.toNat:Int)) {T O:Prop} (hT:T) (hO:O) {K:Value→H→Prop}
  (hK:∀ s h',Two g h' s (dl++[c]) a l→K s h') :
  O∧T∧qQz h 1 [v] (fun s31 h32=>qXi s31 (fun n33=>srcW h32 1 s31 (n33) (fun w34=>apX false 5 h32 1 [(Value.int IntKind.u8 (0:Int))] ds (n33) w34 (fun s35 h36=>K s35 h36)))):=by
 subst hv
 refine ⟨hO,hT,?_⟩
 intro b hb
 have hrow:Row (h.set b (.cells (U8 [c]))) (.slice (some ⟨b,0,none⟩) 1 1) (U8 [c]):=Row.cells qQf rfl
 rw [qVu]
 refine hrow.src (n:=1) (Nat.le_refl 1) ?_
 have e0:(U8 [c]).take 1=U8 [c]:=rfl
 rw [e0]
 have e1:Ext (h.drop ds) (h.set b (.cells (U8 [c]))):=(Ext.drop h ds).trans (Ext.new hb)
 have hb1:Buf (h.drop ds) (h.set b (.cells (U8 [c]))) ds (U8 dl):=w.y.buf.self.ext (Ext.new hb)
 have hg:Ext g (h.drop ds):=w.y.ext.drop_of w.y.buf
 have ha:Buf g (h.drop ds) a (U l):=w.n.buf.drop w.s1
 refine hb1.apX (.inl rfl) (hb1.app (ws:=U8 [c]) e1 rfl rfl (by rw [qXz]; simp [U8]; omega) (by rw [qXz]; simp [U8]; omega) fun s' h2 hb2 he2=>hK _ _ ?_)
 have hsep:=hb2.sep ha.row
 refine ⟨⟨hg.trans he2,?_,by simp; omega⟩,⟨hg.trans he2,ha.ext he2,w.n.ok,w.n.small⟩,hsep.1,hsep.2⟩
 have:=hb2.mono hg
 rw [xXq] at this
 exact this
theorem chunk {D:Orc} {g:H} {ds a:Value} {dl:List UInt8} {l:List Nat} {r:Nat} (hr:r<1000000000) (hs:dl.length+9≤2 ^ 20) (hd:dl.all qXu=true) {K:Kl}
  (hK:∀ h2 ds' dl',Two g h2 ds' dl' a l→dl'.length=dl.length+9→dl'.all qXu=true→lsb dl'=lsb dl+10 ^ dl.length*r→K (.e 4) [ds',a] h2)
  {h1:H} (w:Two g h1 ds dl a l) :
  loop102_16 D [ds,a,.int .u64 (r:Int),.int .i64 (0:Int)] h1 K:=by
 intro I hI
 have key:∀ e i:Nat,∀ (ds':Value) (dl':List UInt8) (x:Nat) (h2:H),i+e=9→dl'.length=dl.length+i→dl'.all qXu=true→Two g h2 ds' dl' a l→x<10 ^ e →
   lsb dl'+10 ^ dl'.length*x=lsb dl+10 ^ dl.length*r→I [ds',a,.int .u64 (x:Int),.int .i64 (i:Int)] h2:=by
  intro e
  induction e with
  | zero =>
   intro i ds' dl' x h2 hi hl hd' w hx hv
   refine hI _ _ _ _ _ ?_
   unfold round102_16
   simp only [qQa]
   rw [qQd]
   refine ⟨fun x=>absurd x (by omega),fun _=>?_⟩
   have hx0:x=0:=by simpa using hx
   subst hx0
   exact hK h2 ds' dl' w (by omega) hd' (by simpa using hv)
  | succ e ih =>
   intro i ds' dl' x h2 hi hl hd' w hx hv
   have hx9:x<1000000000:=Nat.lt_of_lt_of_le hx (by
    have:(10:Nat) ^ (e+1)≤10 ^ 9:=Nat.pow_le_pow_right (by decide) (by omega)
    exact this)
   refine hI _ _ _ _ _ ?_
   unfold round102_16
   simp only [qQa]
   rw [qQd]
   refine ⟨fun _=>⟨by decide,?_⟩,fun h=>absurd (show (i:Int)<9 by omega) h⟩
   have e1:IntKind.wrap .u8 (IntKind.wrap .u64 ((48:Int)+Int.tmod (x:Int) (10:Int)))=(((UInt8.ofNat (48+x % 10)).toNat:Nat):Int):=by
    rw [Int.tmod_eq_emod_of_nonneg (by omega),qWy (by omega) (by omega),IntWalk.u8_in _ (by omega)]
    have:(UInt8.ofNat (48+x % 10)).toNat=48+x % 10:=by simp; omega
    rw [this]; omega
   rw [e1]
   refine w.push (by omega) (c:=UInt8.ofNat (48+x % 10)) rfl (by trivial) (by trivial) fun s' h3 w3=>?_
   refine ⟨by decide,?_⟩
   have e2:IntKind.wrap .u64 (Int.tdiv (x:Int) (10:Int))=((x / 10:Nat):Int):=by
    rw [Int.tdiv_eq_ediv_of_nonneg (by omega),qWy (by omega) (by omega)]
    omega
   rw [e2,qQr (by omega) (by omega),show (i:Int)+1=((i+1:Nat):Int) by omega]
   refine ih (i+1) s' _ (x / 10) h3 (by omega) (by simp; omega) ?_ w3 (by rw [Nat.pow_succ] at hx; omega) ?_
   ·rw [List.all_append,hd',Bool.true_and,List.all_cons,xBg (Nat.mod_lt x (show 0<10 by decide)),List.all_nil]; rfl
   ·rw [xBc _ _ (Nat.mod_lt x (by decide)),List.length_append,List.length_singleton,Nat.pow_succ,← hv,Nat.add_assoc,Nat.mul_assoc,← Nat.mul_add]
    congr 2
    omega
 exact key 9 0 ds dl r h1 (by omega) rfl hd w hr rfl
theorem Two.cut {g h:H} {ds a:Value} {dl:List UInt8} {l:List Nat} (w:Two g h ds dl a l):Two g h ds dl (qJm a (limbs (val l)).length) (limbs (val l)):=by
 refine ⟨w.y,w.n.trim,?_,?_⟩
 ·have:=w.s1; unfold Sep at this ⊢; rw [xEw]; exact this
 ·have:=w.s2; unfold Sep at this ⊢; rw [xEw]; exact this
theorem xYk {D:Orc} (t29:qDv D 131) {g:H} {v:Nat} (hv:v<B ^ 64) {K:Kl}
  (hK:∀ h2 ds dl,Yb g h2 ds dl→dl.all qXu=true→lsb dl=v→K (.e 0) [ds] h2) :
  ∀ (w:Nat) (ds a:Value) (dl:List UInt8) (h1:H),Two g h1 ds dl a (limbs w)→dl.all qXu=true→lsb dl+10 ^ dl.length*w=v→∀ (I:List Value→H→Prop),(∀ a0 a1 h,round102_6 D I K a0 a1 h→I [a0,a1] h)→I [ds,a] h1:=by
 intro w
 induction w using Nat.strongRecOn with
 | _ w ih =>
  intro ds a dl h1 tw hd hvw I hI
  refine hI _ _ _ ?_
  unfold round102_6
  rw [tw.n.len,qQd]
  refine ⟨fun h2=>?_,fun h2=>?_⟩
  ·have hw0:w≠0:=by
    rintro rfl
    rw [qVj] at h2
    exact absurd h2 (by decide)
   have hwv:w≤v:=by
    have:1*w≤10 ^ dl.length*w:=Nat.mul_le_mul_right _ (Nat.pow_pos (by decide))
    omega
   have h64:(limbs w).length≤64:=by
    cases hn:(limbs w).length with
    | zero=>omega
    | succ n =>
     have:=qGb hn
     have h3:B ^ n<B ^ 64:=by omega
     have:=(Nat.pow_lt_pow_iff_right (by decide)).mp h3
     omega
   have hdl:dl.length<640:=by
    obtain ⟨n6,hn6⟩:∃ n,n=640:=⟨_,rfl⟩
    rw [← hn6]
    have h4:10 ^ dl.length*1≤10 ^ dl.length*w:=Nat.mul_le_mul_left _ (by omega)
    have h5:B ^ 64≤10 ^ n6:=xQa hn6 rfl
    have h6:10 ^ dl.length<10 ^ n6:=by omega
    exact (Nat.pow_lt_pow_iff_right (by decide)).mp h6
   rw [tw.n.len,qQr (by omega) (by omega)]
   have hg:Ext g (h1.drop a):=tw.n.ext.drop_of tw.n.buf
   refine xXz (h0:=h1.drop a) h64 (fun h3 o r nb3 he3 ho hr hvo=>?_) ⟨Ext.drop h1 a,tw.n.buf.self,tw.n.ok,tw.n.small⟩
   rw [qWx] at hvo
   have tw3:Two g h3 ds dl a o:=⟨⟨hg.trans he3,(tw.y.buf.drop tw.s2).ext he3,tw.y.small⟩,⟨hg.trans he3,nb3.buf.mono hg,nb3.ok,nb3.small⟩,tw.s1,tw.s2⟩
   simp only [xs_e,nth0,nth1,nth2,nth3,qQa,Nat.beq_refl,cond_true]
   refine chunk hr (by omega) hd (fun h4 ds' dl' tw4 hl' hd' hv'=>?_) tw3
   simp only [xs_e,nth0,nth1,nth2,nth3,qQa,Nat.beq_refl,cond_true]
   refine t29 _ _ _ _ _ tw4.n.nr ⟨_,rfl,?_⟩
   have tw5:=tw4.cut
   have hvo9:val o=w / 1000000000:=by omega
   rw [hvo9] at tw5 ⊢
   refine ih (w / 1000000000) (Nat.div_lt_self (by omega) (by decide)) _ _ _ _ tw5 hd' ?_ I hI
   have hr9:r=w % 1000000000:=by omega
   have e9:(10:Nat) ^ (dl.length+9)=10 ^ dl.length*1000000000:=by rw [Nat.pow_add]
   rw [hv',hl',e9,← hvw,hr9,Nat.add_assoc,Nat.mul_assoc,← Nat.mul_add,Nat.mod_add_div]
  ·have hw0:w=0:=by
    have:(limbs w)=[]:=List.length_eq_zero_iff.mp (by omega)
    have h3:=qWx w
    rw [this] at h3
    exact h3.symm
   subst hw0
   exact hK _ _ _ tw.y hd (by simpa using hvw)
theorem xFr (s:Value):Sep (.slice none 0 0) s:=by
 unfold Sep
 cases hb:Blk s with
 | none=>exact .inl rfl
 | some b=>exact .inr (by simp [Blk])
theorem xFn {D:Orc} (c:Cl102 D) (g:qJq D 130) (t29:qDv D 131) (t35:qEl D 132) (t36:qPj D 112):qMk D 102:=by
 intro a l h k kp r hk1 hk2
 refine c _ _ _ _ ?_
 unfold F102
 refine g _ _ _ _ _ r ⟨_,rfl,?_⟩
 rw [qQx,qQd]
 refine ⟨fun hr=>?_,fun hr=>hk2 hr⟩
 have hk:=hk1 hr
 have h64:=hr.1
 have hv:val l<B ^ 64:=Nat.lt_of_lt_of_le (xWz r.ok) (Nat.pow_le_pow_right (by decide) h64)
 rw [r.len]
 refine xPs l.length rfl (by omega) fun s h1 nb=>?_
 have r1:=r.ext nb.ext
 rw [r1.row.slen,qEk,nb.nr.row.slen,qEk,List.length_replicate]
 refine r1.row.src (by rw [qEk]; omega) ?_
 rw [Nat.min_self,xXp,List.take_length]
 refine nb.buf.copy nb.ext (U_all l) (by simp [qEk]) (qEk l).symm fun h2 hb he=>?_
 have nb2:Nb h h2 s (limbs (val l)):=by
  refine ⟨he,?_,qLe _,by rw [← hr.2]; exact r.small⟩
  rw [← hr.2]
  rw [xLp,qEk,List.drop_replicate,Nat.sub_self,xLq] at hb
  simpa using hb
 have tw:Two h h2 (.slice none 0 0) [] s (limbs (val l)):=⟨⟨he,.inl ⟨⟨none,rfl⟩,rfl⟩,by decide⟩,nb2,xFr s,.inl rfl⟩
 intro I hI
 refine xYk t29 hv (fun h3 ds dl y hd hdl=>?_) (val l) (.slice none 0 0) s [] h2 tw rfl (by simp [lsb]) I hI
 simp only [xs_e,nth0,Nat.beq_refl,cond_true]
 refine t35 _ _ _ _ _ _ y fun h4 y4=>⟨rfl,?_⟩
 refine qGq y4.buf.row fun t ht=>?_
 have hts:t.size<2 ^ 62:=by rw [← qQq,ht]; have:=y4.small; omega
 refine t36 _ _ _ _ hts fun u hu=>⟨u,rfl,?_⟩
 rw [ht,qHq dl hd,hdl] at hu
 unfold j102__24
 rw [qQb,qQb,qYv]
 refine ⟨fun h0=>?_,fun h0=>?_⟩
 ·refine hk _ h4 y4.ext ?_
  have:val l=0:=by
   by_cases hz:val l=0
   ·exact hz
   ·rw [h0,qUu hz] at hu
    simp at hu
  unfold txt
  rw [if_pos this]; rfl
 ·refine hk u h4 y4.ext ?_
  unfold txt
  rw [if_neg]
  ·exact hu
  ·intro hz
   rw [hz,qWc] at hu
   exact h0 hu
theorem ok1 {x:Nat} (hx:x<B):Ok [x]:=fun y hy=>by simp only [List.mem_singleton] at hy; omega
theorem ok2 {x y:Nat} (hx:x<B) (hy:y<B):Ok [x,y]:=fun z hz=>by
 simp only [List.mem_cons,List.not_mem_nil,or_false] at hz
 rcases hz with rfl | rfl
 ·exact hx
 ·exact hy
theorem Nb.later {h0 h h':H} {s:Value} {l:List Nat} (r:Nb h0 h s l) (e:Ext h h'):Nb h0 h' s l:=⟨r.ext.trans e,r.buf.ext e,r.ok,r.small⟩
theorem Nr.drop {h:H} {s t:Value} {l:List Nat} (r:Nr h s l) (hs:Sep t s):Nr (h.drop t) s l:=⟨r.row.drop hs,r.ok,r.small⟩
theorem Nr.pre {h:H} {s:Value} {l m:List Nat} (r:Nr h s (l++m)):Nr h (qJm s l.length) l:=by
 have h1:=r.row.cut (n:=l.length) (by rw [qEk]; simp)
 rw [xXp,List.take_left] at h1
 exact ⟨h1,fun x hx=>r.ok x (by simp [hx]),by have:=r.small; simp at this; omega⟩
theorem Nb.sep {h0 h:H} {s t:Value} {l m:List Nat} (r:Nb h0 h s l) (q:Nr h0 t m):Sep s t∧Sep t s:=r.buf.sep q.row
theorem Nb.own {h0 h:H} {s:Value} {l:List Nat} (r:Nb h0 h s l):Nb (h.drop s) h s l:=⟨Ext.drop h s,r.buf.self,r.ok,r.small⟩
theorem xWy {l:List Nat} (h:right l):val l<B ^ 64:=by
 rw [h.2]
 have h1:=xWz (qLe (val l))
 have h2:B ^ (limbs (val l)).length≤B ^ 64:=Nat.pow_le_pow_right (by decide) (by rw [← h.2]; exact h.1)
 exact Nat.lt_of_lt_of_le h1 h2
theorem qNc {l:List Nat} (h:right l):(txt (val l)).length≤640:=by
 unfold txt
 split
 ·simp
 ·exact xGx (xWy h)
end Go.Proofs.YtkdneddcocggdaaGreatDoor.Am
namespace Go.Proofs.YtkdneddcocggdaaGreatDoor.Am
open Go Go.Proofs Go.RowKit Go.Lib Sys Sp
set_option maxRecDepth 100000
variable {D:Orc} {E:Dorc} {h h' h0:H} {k:Kv} {kp:Kp} {L R:List Res} {b:Nat} {sg:Value} {l:Bs}
theorem xFu {α:Type} {f:α→Except Int Bs} {x:α} {l:List α} {ok:Bs→Prop} {bad:Int→Prop}:Out (allM f (x::l)) ok bad↔Out (f x) (fun s=>Out (allM f l) (fun t=>ok (s++t)) bad) bad:=by
 show Out (f x >>= fun a=>allM f l >>= fun b=>.ok (a++b)) ok bad↔_
 rw [qQk]
 cases f x with
 | error e=>rfl
 | ok a =>
  show Out (allM f l >>= fun b=>.ok (a++b)) ok bad↔Out (allM f l) _ bad
  rw [qQk]
  rfl
def Rest {α:Type} (f:α→Except Int Bs) (h0:H) (b:Nat) (sg:Value) (R:List Res) (ok:Bs→H→Prop) (bad:Int→H→Prop) (A:Bs) (l:List α):Prop :=
 Out (allM f l) (fun t=>∀ h',Pst h0 b sg R (A++t) h'→ok (A++t) h') (fun e=>∀ h',Ext h0 h'→bad e h')
theorem qYn {α:Type} {f:α→Except Int Bs} {ok:Bs→H→Prop} {bad:Int→H→Prop} {A:Bs} (r:Rest f h0 b sg R ok bad A []) (o:Pst h0 b sg R A h):ok A h:=by
 have:=r h (by rw [List.append_nil]; exact o)
 rw [List.append_nil] at this; exact this
theorem qWb {α:Type} {f:α→Except Int Bs} {ok:Bs→H→Prop} {bad:Int→H→Prop} {A:Bs} {x:α} {l:List α}:Rest f h0 b sg R ok bad A (x::l)↔Out (f x) (fun s=>Rest f h0 b sg R ok bad (A++s) l) (fun e=>∀ h',Ext h0 h'→bad e h'):=by
 unfold Rest
 rw [xFu]
 simp only [List.append_assoc]
structure PSig (h0:H) (sg:Value) (sig:List Sy):Prop where
 chk:qVe sig=0
 sr:Sr h0 sg sig
 n64:sig.length≤64
 n33:∀ y∈sig,y.1.size≤33
 tb:Tbl h0
structure SpecsP (D:Orc):Prop where
 words:qGu D 54
 num:qMn D 55 Tbl
 name:qHa D 57
 term:xEo D 101 Tbl
 must:Cl28 D
def RuI (h:H) (c:List Value) (r:Ru):Prop:=∃ v w,c=[v,w]∧Ir h v r.1∧Ir h w r.2
structure RuS (h:H) (v:Value) (rules:List Ru) (vs:List (List Value)):Prop where
 row:RowK 2 h v vs
 rel:Rel2 (RuI h) vs rules
 len:rules.length<2 ^ 30
 sz:cst ruC rules<2 ^ 36
theorem RuI.ext {c:List Value} {r:Ru} (i:RuI h c r) (e:Ext h h'):RuI h' c r:=by
 obtain ⟨v,w,h1,h2,h3⟩:=i
 exact ⟨v,w,h1,h2.ext e,h3.ext e⟩
theorem line4 {a b c d:Bs}:wsV [a,b,c,d]=[.string (strB a),.string (strB b),.string (strB c),.string (strB d)]:=rfl
theorem xZl (s:SpecsP D) {sig:List Sy} (ps:PSig h0 sg sig) {rv:Value} {vs:List (List Value)} {rules:List Ru} (rs:RuS h0 rv rules vs) {first mid:ByteArray} (hf:first.size≤5) (hm:mid.size≤2) {K:Kl} {A:Bs} (o:Pst h0 b sg R A h) (hA:A.length+cst ruC rules<2 ^ 38)
  (hk:Rest (qIw (S2 sig) (bts first) (bts mid)) h0 b sg R (fun _ h'=>K (.e 0) [rv] h') (fun e h'=>K (.p (chain e)) [] h') A rules) :
  loop56_1 D [Pt b,rv,.string first,.string mid,rv,.int .i64 (rules.length:Int),.int .i64 0] h K:=by
 intro I hI
 have key:∀ m i:Nat,i+m=rules.length→∀ (A:Bs) (h:H),Pst h0 b sg R A h→A.length+cst ruC (rules.drop i)<2 ^ 38→Rest (qIw (S2 sig) (bts first) (bts mid)) h0 b sg R (fun _ h'=>K (.e 0) [rv] h') (fun e h'=>K (.p (chain e)) [] h') A (rules.drop i) →
   I [Pt b,rv,.string first,.string mid,rv,.int .i64 (rules.length:Int),.int .i64 (i:Int)] h:=by
  intro m
  induction m with
  | zero =>
   intro i him A h o hA hk
   refine hI _ _ _ _ _ _ _ _ ?_
   unfold round56_1
   rw [qQb,qQb,qQa,qQa,qQd]
   refine ⟨fun hlt=>by omega,fun _=>?_⟩
   rw [List.drop_eq_nil_of_le (by omega)] at hk
   exact qYn hk o
  | succ m ih =>
   intro i him A h o hA hk
   refine hI _ _ _ _ _ _ _ _ ?_
   unfold round56_1
   rw [qQb,qQb,qQa,qQa,qQd]
   refine ⟨fun _=>?_,fun hge=>by omega⟩
   have hir:i<rules.length:=by omega
   have hiv:i<vs.length:=by rw [rs.rel.len]; exact hir
   have hd:rules.drop i=rules[i]::rules.drop (i+1):=List.drop_eq_getElem_cons hir
   rw [hd,qWa] at hA
   rw [hd,qWb] at hk
   obtain ⟨v,w,hv,iv,iw⟩:=rs.rel.at_ i vs[i] rules[i] (List.getElem?_eq_getElem hiv) (List.getElem?_eq_getElem hir)
   have hrow:=rs.row.ext o.ext
   have hul:rules[i].1.length<2 ^ 32∧rules[i].2.length<2 ^ 32:=by
    have h1:50*rules[i].1.length+50*rules[i].2.length+20≤cst ruC rules:=xAg (C:=ruC) (List.getElem_mem hir)
    have:=rs.sz
    omega
   refine hrow.at_ (by omega) (by omega) fun ad v' hv' hrd _=>?_
   rw [Int.toNat_natCast,List.getElem?_eq_getElem hiv,hv] at hv'
   obtain rfl:=Option.some.inj hv'
   refine ⟨v,w,hrd,?_⟩
   refine o.copy (z:=[.slice none 0 0,.slice none 0 0]) (vs:=[v,w]) rfl (by simp [qQy iv.row.isSl,qQy iw.row.isSl]) rfl fun c h1 o1=>?_
   refine ldj (o1.cell (i:=0) rfl) rfl (ldj (o1.cell (i:=0) rfl) rfl ?_)
   unfold qIw at hk
   rw [qQk] at hk
   refine s.term b v rules[i].1 sig sg _ A h0 h1 _ _ ps.chk ps.sr ps.n33 ps.tb (iv.ext o1.ext) hul.1 o1 (qXa (fun s1 hs1 hk=>?_) (fun e hk h' e'=>hk h' (o1.ext.trans e')) hk)
   intro h2 hl1 e2
   have o2:=o1.later e2
   refine ⟨_,rfl,qVi (o2.cell (i:=0) rfl) rfl,?_⟩
   rw [qQk] at hk
   refine s.term b w rules[i].2 sig sg _ A h0 h2 _ _ ps.chk ps.sr ps.n33 ps.tb (iw.ext o2.ext) hul.2 o2 (qXa (fun s2 hs2 hk=>?_) (fun e hk h' e'=>hk h' (o2.ext.trans e')) hk)
   intro h3 hl2 e3
   have o3:=o2.later e3
   refine ⟨_,rfl,rfl,by decide,rfl,by decide,rfl,by decide,rfl,by decide,?_⟩
   refine o3.newSl (n:=4) (ws:=[.string first,.string (strB s1),.string mid,.string (strB s2)]) rfl fun sv h4 o4=>?_
   rw [qAk] at hk
   have hls:=qZe [bts first,s1,bts mid,s2]
   simp only [List.map_cons,List.map_nil,List.sum_cons,List.sum_nil,qQq] at hls
   have hul2:(qYi [bts first,s1,bts mid,s2]).length≤ruC rules[i]:=by unfold ruC; omega
   refine s.words [bts first,s1,bts mid,s2] sv A b sg _ h0 h4 _ _ o4 (by
    rw [line4,qUs,qUs]; exact o4.row (i:=0) rfl) (by simp) (by omega) fun h5 o5=>⟨rfl,?_⟩
   rw [qQr (by omega) (by have:=rs.len; omega)]
   have e2:(i:Int)+1=((i+1:Nat):Int):=by omega
   rw [e2]
   exact ih (i+1) (by omega) _ h5 o5.tail.tail (by rw [List.length_append]; omega) hk
 exact key rules.length 0 (by omega) A h o (by rw [List.drop_zero]; exact hA) (by rw [List.drop_zero]; exact hk)
def qCf (D:Orc) (f:Nat):Prop:=∀ (b:Nat) (sig:List Sy) (sg rv:Value) (vs:List (List Value)) (rules:List Ru) (first mid:ByteArray) (R:List Res) (A:Bs) h0 h (k:Kv) kp,PSig h0 sg sig→RuS h0 rv rules vs→first.size≤5→mid.size≤2→Pst h0 b sg R A h→A.length+cst ruC rules<2 ^ 38 →
 Out (qCk (S2 sig) (bts first) (bts mid) rules) (fun s=>s.length≤cst ruC rules→∀ h',Pst h0 b sg R (A++s) h'→k (.tuple #[]) h') (fun e=>∀ h',Ext h0 h'→kp (chain e) h')→D f [Pt b,rv,.string first,.string mid] h k kp
theorem xJh {sig:Sg} (hn:∀ x∈sig,x.1.length≤33) {first mid s:Bs} {r:Ru} (hf:first.length≤5) (hm:mid.length≤2) (h:qIw sig first mid r=.ok s):s.length≤ruC r:=by
 unfold qIw at h
 obtain ⟨a,h1,h⟩:=Sp.qQg.mp h
 obtain ⟨c,h2,h⟩:=Sp.qQg.mp h
 obtain rfl:=Except.ok.inj h
 have hls:=qZe [first,a,mid,c]
 simp only [List.map_cons,List.map_nil,List.sum_cons,List.sum_nil] at hls
 have ha:∀ {u:List Int} {t:Bs},qJv sig u=.ok t→t.length+1≤50*u.length:=fun {u t} h=>by
  unfold qJv at h
  split at h
  ·cases h
  ·rename_i hz
   obtain rfl:=Except.ok.inj h
   have hz:scan sig 1 u=0:=by simpa using hz
   exact qRk hn (qRh hz)
 have:=ha h1
 have:=ha h2
 unfold ruC; omega
theorem xHs (c:Cl56 D) (s:SpecsP D):qCf D 56:=by
 intro b sig sg rv vs rules first mid R A h0 h k kp ps rs hf hm o hA hk
 refine c _ _ _ _ _ _ _ ?_
 unfold F56
 have hlen:∀ {h':H} {K:Nat→Prop},Ext h0 h'→K rules.length→lenW rv K:=fun e hK=>by
  rw [(rs.row.ext e).len,rs.rel.len]; exact hK
 rw [qQb,qQb]
 refine hlen o.ext ?_
 unfold qCk at hk
 rw [qQk] at hk
 refine xZl s ps rs hf hm o hA ?_
 refine qXa (fun t ht hk h1 o1=>?_) (fun e hk h' e'=>?_) hk
 ·show xs (X.e 0) (k (.tuple #[]) h1) _ _
  rw [xs_e]
  show cond true _ _
  rw [cond_true,nth0]
  refine hlen o1.ext ?_
  rw [qQk,qXx] at hk
  refine qQl s.must (fun hle=>⟨rfl,?_⟩) fun hgt=>?_
  ·have hle:=of_decide_eq_true hle
   have hk:=hk.1 (by simp; omega)
   refine hk (qVf (fun r hr t ht=>xJh (fun x hx=>?_) hf hm ht) ht) h1 o1
   unfold S2 at hx
   obtain ⟨y,hy,rfl⟩:=List.mem_map.mp hx
   show (bts y.1).length≤33
   rw [qQq]; exact ps.n33 y hy
  ·have hgt:=of_decide_eq_false hgt
   exact hk.2 (by simp; omega) h1 o1.ext
 ·show kp (chain e) h'
  exact hk h' e'
theorem qKy (v:Nat):txt v=decDigits v:=by
 unfold txt
 by_cases h0:v=0
 ·rw [if_pos h0,h0,decDigits,dif_pos (by omega)]; rfl
 ·rw [if_neg h0]
  induction v using Nat.strongRecOn with
  | ind v ih =>
   rw [qUu h0,decDigits]
   split
   ·rename_i hlt
    have:v / 10=0:=by omega
    rw [this,qWc,Nat.mod_eq_of_lt hlt]; rfl
   ·rename_i hge
    rw [ih (v / 10) (by omega) (by omega)]
theorem xZu (s:SpecsP D) {sig:List Sy} (ps:PSig h0 sg sig) {pv p1:Value} {prec:List (Int × Int)} (hr:RowK 2 h0 pv (prec.map qAf)) (hin:∀ x∈prec,inP x) (hlen:prec.length<2 ^ 40) {K:Kl} {A:Bs} (o:Pst h0 b sg R A h) (hA:A.length+cst prC prec<2 ^ 38)
  (hk:Rest (qFs (S2 sig) qKw true) h0 b sg R (fun _ h'=>K (.e 0) [Pt b,p1] h') (fun e h'=>K (.p (chain e)) [] h') A prec) :
  loop58_5 D [Pt b,p1,pv,.int .i64 (prec.length:Int),.int .i64 0] h K:=by
 intro I hI
 have key:∀ m i:Nat,i+m=prec.length→∀ (A:Bs) (h:H),Pst h0 b sg R A h→A.length+cst prC (prec.drop i)<2 ^ 38→Rest (qFs (S2 sig) qKw true) h0 b sg R (fun _ h'=>K (.e 0) [Pt b,p1] h') (fun e h'=>K (.p (chain e)) [] h') A (prec.drop i) →
   I [Pt b,p1,pv,.int .i64 (prec.length:Int),.int .i64 (i:Int)] h:=by
  intro m
  induction m with
  | zero =>
   intro i him A h o hA hk
   refine hI _ _ _ _ _ _ ?_
   unfold round58_5
   rw [qQa,qQa,qQd]
   refine ⟨fun hlt=>by omega,fun _=>?_⟩
   rw [List.drop_eq_nil_of_le (by omega)] at hk
   exact qYn hk o
  | succ m ih =>
   intro i him A h o hA hk
   refine hI _ _ _ _ _ _ ?_
   unfold round58_5
   rw [qQa,qQa,qQd]
   refine ⟨fun _=>?_,fun hge=>by omega⟩
   have hir:i<prec.length:=by omega
   have hd:prec.drop i=prec[i]::prec.drop (i+1):=List.drop_eq_getElem_cons hir
   rw [hd,qWa] at hA
   rw [hd,qWb] at hk
   refine (hr.ext o.ext).at_ (by omega) (by rw [List.length_map]; omega) fun ad v hv hrd _=>?_
   rw [Int.toNat_natCast,List.getElem?_map,List.getElem?_eq_getElem hir] at hv
   obtain rfl:=Option.some.inj hv
   obtain ⟨hx,hy⟩:=hin _ (List.getElem_mem hir)
   generalize prec[i]=xy at hk hx hy hrd
   obtain ⟨x,y⟩:=xy
   refine ⟨x,y,hrd,?_⟩
   refine o.copy (z:=[.int .i64 0,.int .i64 0]) (vs:=[.int .i64 x,.int .i64 y]) rfl rfl rfl fun c h1 o1=>?_
   refine ⟨by decide,by decide,x,qVi (j:=0) (o1.cell (i:=0) rfl) rfl,by decide,by decide,y,qVi (j:=1) (o1.cell (i:=0) rfl) rfl,?_⟩
   unfold qFs at hk
   rw [qQk] at hk
   refine s.name b x true sig sg _ A h0 h1 _ _ hx ps.sr ps.n64 ps.n33 o1 (qXa (fun s1 hs1 hk hl1=>?_) (fun e hk=>hk h1 o1.ext) hk)
   refine ⟨_,rfl,qVi (j:=1) (o1.cell (i:=0) rfl) rfl,?_⟩
   rw [qQk] at hk
   refine s.name b y true sig sg _ A h0 h1 _ _ hy ps.sr ps.n64 ps.n33 o1 (qXa (fun s2 hs2 hk hl2=>?_) (fun e hk=>hk h1 o1.ext) hk)
   refine ⟨_,rfl,rfl,by decide,rfl,by decide,rfl,by decide,?_⟩
   refine o1.newSl (n:=3) (ws:=wsV [qKw,s1,s2]) rfl fun sv h4 o4=>?_
   rw [qAk] at hk
   have hls:=qZe [qKw,s1,s2]
   simp only [List.map_cons,List.map_nil,List.sum_cons,List.sum_nil] at hls
   have hwl:qKw.length=4:=rfl
   have hpc:prC (x,y)=100:=rfl
   have hpa:prC prec[i]=100:=rfl
   refine s.words [qKw,s1,s2] sv A b sg _ h0 h4 _ _ o4 (o4.row (i:=0) rfl) (by simp) (by omega) fun h5 o5=>⟨rfl,?_⟩
   rw [qQr (by omega) (by omega)]
   have e2:(i:Int)+1=((i+1:Nat):Int):=by omega
   rw [e2]
   exact ih (i+1) (by omega) _ h5 o5.tail.tail (by rw [List.length_append]; omega) hk
 exact key prec.length 0 (by omega) A h o (by rw [List.drop_zero]; exact hA) (by rw [List.drop_zero]; exact hk)
variable {D:Orc} {E:Dorc} {h h' h0:H} {k:Kv} {kp:Kp} {L R:List Res} {b:Nat} {sg:Value} {l:Bs}
theorem xJy {α:Type} {f:α→Except Int Bs} {x:α} {l:List α} {ok:List Bs→Prop} {bad:Int→Prop}:Out (rowM f (x::l)) ok bad↔Out (f x) (fun s=>Out (rowM f l) (fun t=>ok (s::t)) bad) bad:=by
 show Out (f x >>= fun a=>rowM f l >>= fun b=>.ok (a::b)) ok bad↔_
 rw [qQk]
 cases f x with
 | error e=>rfl
 | ok a =>
  show Out (rowM f l >>= fun b=>.ok (a::b)) ok bad↔Out (rowM f l) _ bad
  rw [qQk]
  rfl
theorem xDd (v:List Bs) (s:Bs):wsV (v++[s])=wsV v++[.string (strB s)]:=by unfold wsV; rw [List.map_append]; rfl
theorem Pst.push {s z:Value} {ws:List Bs} {t:Bs} (o:Pst h0 b sg (bufR s (wsV ws)::R) l h) (hl:ws.length<2 ^ 39) {O U:Prop} (hO:O) (hU:U) {K:Value→H→Prop}
  (hK:∀ s' h',Pst h0 b sg (bufR s' (wsV (ws++[t]))::R) l h'→K s' h') :
  O∧U∧Am.qQz h 1 [.string (strB t)] (fun s31 h32=>qXi s31 (fun n33=>srcW h32 1 s31 (n33) (fun w34=>apW h32 1 16 [z] s (n33) w34 (fun s35 h36=>K s35 h36)))):=by
 obtain ⟨p,buf,hp,o⟩:=o
 refine o.push (i:=2) (s:=s) (vs:=wsV ws) (v:=.string (strB t)) rfl (bytes:=16) (by decide) (by unfold wsV; rw [List.length_map]; omega) rfl hO hU fun s' h' o'=>hK s' h' ⟨p,buf,hp,?_⟩
 rw [xDd]
 exact o'
theorem xUo (s:SpecsP D) {sig:List Sy} (ps:PSig h0 sg sig) {ev c d sv:Value} {x1 x2 x3 x4:Int} {exps:List Int} {ws:List Bs} (hr:Ir h0 ev exps) {K:Kl} {A:Bs} (o:Pst h0 b sg (bufR sv (wsV ws)::R) A h) (hws:ws.length+exps.length<2 ^ 39)
  (hk:Out (rowM numM exps) (fun es=>∀ s' h',Pst h0 b sg (bufR s' (wsV (ws++es))::R) A h'→K (.e 6) [Pt b,s',c,.int .i64 x1,.int .i64 x2,d,.int .i64 x3,.int .i64 x4] h') (fun e=>∀ h',Ext h0 h'→K (.p (chain e)) [] h')) :
  loop58_20 D [Pt b,sv,c,.int .i64 x1,.int .i64 x2,d,.int .i64 x3,.int .i64 x4,ev,.int .i64 (exps.length:Int),.int .i64 0] h K:=by
 intro I hI
 have key:∀ m i:Nat,i+m=exps.length→∀ (ws:List Bs) (sv:Value) (h:H),Pst h0 b sg (bufR sv (wsV ws)::R) A h→ws.length+(exps.drop i).length<2 ^ 39→Out (rowM numM (exps.drop i)) (fun es=>∀ s' h',Pst h0 b sg (bufR s' (wsV (ws++es))::R) A h'→K (.e 6) [Pt b,s',c,.int .i64 x1,.int .i64 x2,d,.int .i64 x3,.int .i64 x4] h') (fun e=>∀ h',Ext h0 h'→K (.p (chain e)) [] h') →
   I [Pt b,sv,c,.int .i64 x1,.int .i64 x2,d,.int .i64 x3,.int .i64 x4,ev,.int .i64 (exps.length:Int),.int .i64 (i:Int)] h:=by
  intro m
  induction m with
  | zero =>
   intro i him ws sv h o hA hk
   refine hI _ _ _ _ _ _ _ _ _ _ _ _ ?_
   unfold round58_20
   rw [qQa,qQa,qQa,qQa,qQa,qQa,qQd]
   refine ⟨fun hlt=>by omega,fun _=>?_⟩
   rw [List.drop_eq_nil_of_le (by omega)] at hk
   have hk:∀ s' h',Pst h0 b sg (bufR s' (wsV (ws++[]))::R) A h'→K (.e 6) [Pt b,s',c,.int .i64 x1,.int .i64 x2,d,.int .i64 x3,.int .i64 x4] h':=hk
   rw [List.append_nil] at hk
   exact hk _ _ o
  | succ m ih =>
   intro i him ws sv h o hA hk
   refine hI _ _ _ _ _ _ _ _ _ _ _ _ ?_
   unfold round58_20
   rw [qQa,qQa,qQa,qQa,qQa,qQa,qQd]
   refine ⟨fun _=>?_,fun hge=>by omega⟩
   have hir:i<exps.length:=by omega
   have hd:exps.drop i=exps[i]::exps.drop (i+1):=List.drop_eq_getElem_cons hir
   rw [hd,xJy] at hk
   rw [hd,List.length_cons] at hA
   refine (hr.ext o.ext).at_ (by omega) (by omega) fun ad x hx hxi hrd=>⟨x,hrd,?_⟩
   rw [Int.toNat_natCast,List.getElem?_eq_getElem hir] at hx
   obtain rfl:=Option.some.inj hx
   refine s.num b _ h _ _ hxi (qQt _ _ o.ext ps.tb) (qXa (fun s1 hs1 hk hl1=>?_) (fun e hk=>hk h o.ext) hk)
   refine ⟨_,rfl,?_⟩
   refine o.push (by omega) rfl Nat.zero_lt_one fun s' h2 o2=>?_
   have hlen:=hr.len
   rw [qQr (by omega) (by omega)]
   have e2:(i:Int)+1=((i+1:Nat):Int):=by omega
   rw [e2]
   refine ih (i+1) (by omega) _ s' h2 o2 (by rw [List.length_append,List.length_singleton]; omega) ?_
   simp only [List.append_assoc,List.singleton_append]
   exact hk
 exact key exps.length 0 (by omega) ws sv h o (by rw [List.drop_zero]; exact hws) (by rw [List.drop_zero]; exact hk)
theorem nth5 {a b c d e f:Value} {l:List Value}:nth (a::b::c::d::e::f::l) 5=f:=rfl
theorem nth6 {a b c d e f g:Value} {l:List Value}:nth (a::b::c::d::e::f::g::l) 6=g:=rfl
theorem nth7 {a b c d e f g i:Value} {l:List Value}:nth (a::b::c::d::e::f::g::i::l) 7=i:=rfl
def qMj (D:Orc):Prop:=qMk D 102
theorem xAi (st:qMj D) (s:SpecsP D) {a:Value} {co:List Nat} (hr:Nr h a co) {K:ByteArray→H→Prop} (hk:Out (xAl co) (fun t=>∀ h',t.length≤640→Ext h h'→K (strB t) h') (fun e=>∀ h',Ext h h'→kp (chain e) h')) :
  D 102 [a] h (fun v h2=>∃ t:ByteArray,∃ x:Int,v=.tuple #[.string t,.int .i64 x]∧D 28 [.bool (x==0),.int .i64 225] h2 (fun v h3=>v=.tuple #[]∧K t h3) kp) kp:=by
 have hri:Nats.right co↔(decide (co.length≤64) && decide (co=Nats.limbs (Nats.val co)))=true:=by
  unfold Nats.right; simp
 unfold xAl at hk
 rw [qQk,qXx] at hk
 refine st a co h _ _ hr (fun hri2 t h' e ht=>⟨_,_,rfl,?_⟩) fun hnr=>⟨_,_,rfl,?_⟩
 ·refine qQl s.must (fun _=>⟨rfl,?_⟩) fun hh=>(by cases hh)
  have hk:=hk.1 (hri.mp hri2) h' (by rw [← qKy]; exact qNc hri2) e
  rw [← qKy,← ht,qUs] at hk
  exact hk
 ·refine qQl s.must (fun hh=>(by cases hh)) fun _=>?_
  exact hk.2 (by
   rw [← Bool.not_eq_true]; exact fun hx=>hnr (hri.mpr hx)) h (Ext.refl h)
theorem qEz {m:Mo} {s:Bs} (h:qHl m=.ok s):s.length≤moC m:=by
 unfold qHl at h
 obtain ⟨c,h1,h⟩:=Sp.qQg.mp h
 obtain ⟨es,h2,h⟩:=Sp.qQg.mp h
 obtain rfl:=Except.ok.inj h
 have hc:c.length≤640:=by
  unfold xAl at h1
  obtain ⟨_,hm,h1⟩:=Sp.qQg.mp h1
  obtain rfl:=Except.ok.inj h1
  have hm:=qBk.mp hm
  simp only [Bool.and_eq_true,decide_eq_true_eq] at hm
  rw [← qKy]
  exact qNc hm
 obtain ⟨h3,h4⟩:=qIx (c:=20) (fun x _ s hs=>qDk hs) h2
 have h5:=xQd h4
 have hls:=qZe (qAs::c::es)
 simp only [List.map_cons,List.sum_cons] at hls
 have:qAs.length=4:=rfl
 unfold moC
 omega
theorem xZy (st:qMj D) (s:SpecsP D) {sig:List Sy} (ps:PSig h0 sg sig) {mv c:Value} {x1 x2:Int} {vs:List (List Value)} {p:List Mo} (hr:RowK 2 h0 mv vs) (hrel:Rel2 (MoR h0) vs p) (hlen:p.length<2 ^ 40) {K:Kl} {A:Bs} (o:Pst h0 b sg R A h) (hA:A.length+cst moC p<2 ^ 38)
  (hk:Rest qHl h0 b sg R (fun _ h'=>K (.e 4) [Pt b,c,.int .i64 x1,.int .i64 x2] h') (fun e h'=>K (.p (chain e)) [] h') A p) :
  loop58_14 D [Pt b,c,.int .i64 x1,.int .i64 x2,mv,.int .i64 (p.length:Int),.int .i64 0] h K:=by
 intro I hI
 have key:∀ m i:Nat,i+m=p.length→∀ (A:Bs) (h:H),Pst h0 b sg R A h→A.length+cst moC (p.drop i)<2 ^ 38→Rest qHl h0 b sg R (fun _ h'=>K (.e 4) [Pt b,c,.int .i64 x1,.int .i64 x2] h') (fun e h'=>K (.p (chain e)) [] h') A (p.drop i) →
   I [Pt b,c,.int .i64 x1,.int .i64 x2,mv,.int .i64 (p.length:Int),.int .i64 (i:Int)] h:=by
  intro m
  induction m with
  | zero =>
   intro i him A h o hA hk
   refine hI _ _ _ _ _ _ _ _ ?_
   unfold round58_14
   rw [qQa,qQa,qQa,qQa,qQd]
   refine ⟨fun hlt=>by omega,fun _=>?_⟩
   rw [List.drop_eq_nil_of_le (by omega)] at hk
   exact qYn hk o
  | succ m ih =>
   intro i him A h o hA hk
   refine hI _ _ _ _ _ _ _ _ ?_
   unfold round58_14
   rw [qQa,qQa,qQa,qQa,qQd]
   refine ⟨fun _=>?_,fun hge=>by omega⟩
   have hir:i<p.length:=by omega
   have hiv:i<vs.length:=by rw [hrel.len]; exact hir
   have hd:p.drop i=p[i]::p.drop (i+1):=List.drop_eq_getElem_cons hir
   rw [hd,qWa] at hA
   rw [hd,qWb] at hk
   obtain ⟨v,w,hv,iv,iw⟩:=hrel.at_ i vs[i] p[i] (List.getElem?_eq_getElem hiv) (List.getElem?_eq_getElem hir)
   refine (hr.ext o.ext).at_ (by omega) (by omega) fun ad v' hv' hrd _=>?_
   rw [Int.toNat_natCast,List.getElem?_eq_getElem hiv,hv] at hv'
   obtain rfl:=Option.some.inj hv'
   refine ⟨v,w,hrd,?_⟩
   refine o.copy (z:=[.slice none 0 0,.slice none 0 0]) (vs:=[v,w]) rfl (by simp [qQy iv.row.isSl,qQy iw.row.isSl]) rfl fun q h1 o1=>?_
   refine ldj (o1.cell (i:=0) rfl) rfl ?_
   have hmc:∀ t,qHl p[i]=.ok t→t.length≤moC p[i]:=fun t=>qEz
   have hme:30*p[i].exps.length≤moC p[i]:=by unfold moC; omega
   generalize p[i]=mo at hk hA hmc hme iv iw
   have hmo:qHl mo=(xAl mo.coef >>= fun c=>rowM numM mo.exps >>= fun es=>.ok (qYi (qAs::c::es))):=rfl
   rw [hmo,qQk] at hk
   refine xAi st s (kp:=fun c h=>K (.p c) [] h) (iv.ext o1.ext) (qXa (fun c1 hc1 hk h2 hl1 e2=>?_) (fun e hk h' e'=>hk h' (o1.ext.trans e')) hk)
   have o2:=o1.later e2
   refine ⟨rfl,by decide,rfl,by decide,?_⟩
   refine o2.newSl (n:=2) (ws:=wsV [qAs,c1]) rfl fun sv h3 o3=>?_
   refine ldj (o3.cell (i:=1) rfl) rfl ?_
   have iw3:=iw.ext o3.ext
   rw [iw3.row.len,qTt]
   rw [qQk] at hk
   refine xUo (ws:=[qAs,c1]) s ps iw o3 (by show 2+_<_; omega) (qXa (fun es hes hk s' h4 o4=>?_) (fun e hk h' e'=>hk h' e') hk)
   show xs (X.e 6) (K X.r [] h4) _ _
   rw [xs_e]
   show cond true _ _
   rw [cond_true,nth0,nth1,nth2,nth3,nth4,nth5,nth6,nth7,qQa,qQa,qQa,qQa]
   rw [qAk] at hk
   have hlm:=hmc (qYi (qAs::c1::es)) (by rw [hmo,hc1]; show (rowM numM mo.exps >>= fun es=>.ok (qYi (qAs::c1::es)))=_; rw [hes]; rfl)
   obtain ⟨hes1,_⟩:=qIx (c:=20) (fun x _ s hs=>qDk hs) hes
   refine s.words (qAs::c1::es) s' A b sg _ h0 h4 _ _ o4 (o4.row (i:=0) rfl) (by simp only [List.length_cons]; omega) (by omega) fun h5 o5=>⟨rfl,?_⟩
   rw [qQr (by omega) (by omega)]
   have e2:(i:Int)+1=((i+1:Nat):Int):=by omega
   rw [e2]
   exact ih (i+1) (by omega) _ h5 o5.tail.tail (by rw [List.length_append]; omega) hk
 exact key p.length 0 (by omega) A h o (by rw [List.drop_zero]; exact hA) (by rw [List.drop_zero]; exact hk)
end Go.Proofs.YtkdneddcocggdaaGreatDoor.Am
namespace Go.Proofs.Sp
open Go Go.Lib Sys
theorem qFy {sig:Sg} (hn:∀ x∈sig,x.1.length≤33) {c:Int} {m:Bool} {s:Bs} (h:qLj sig c m=.ok s):s.length≤34:=by
 have key:∀ i:Nat,(((sig[i]?).map (·.1)).getD []).length≤33:=fun i=>by
  cases hx:sig[i]? with
  | none=>simp
  | some x=>exact hn x (List.mem_of_getElem? hx)
 unfold qLj at h
 obtain ⟨_,hm,h⟩:=qQg.mp h
 obtain rfl:=Except.ok.inj h
 split
 ·exact Nat.le_succ_of_le (key _)
 ·rw [List.length_append,List.length_singleton]; exact Nat.succ_le_succ (key _)
theorem xYm {sig:Sg} (hn:∀ x∈sig,x.1.length≤33) {u:List Int} {s:Bs} (h:qJv sig u=.ok s):s.length+1≤50*u.length:=by
 unfold qJv at h
 split at h
 ·cases h
 ·rename_i hz
  obtain rfl:=Except.ok.inj h
  have hz:scan sig 1 u=0:=by simpa using hz
  exact qRk hn (qRh hz)
theorem qFr {sig:Sg} (hn:∀ x∈sig,x.1.length≤33) {w:Bs} (hw:w.length≤5) {m:Bool} {x:Int × Int} {s:Bs} (h:qFs sig w m x=.ok s):s.length≤prC x:=by
 unfold qFs at h
 obtain ⟨a,h1,h⟩:=qQg.mp h
 obtain ⟨c,h2,h⟩:=qQg.mp h
 obtain rfl:=Except.ok.inj h
 have:=qFy hn h1
 have:=qFy hn h2
 have hls:=qZe [w,a,c]
 simp only [List.map_cons,List.map_nil,List.sum_cons,List.sum_nil] at hls
 unfold prC; omega
theorem qYw (x a:Bs):∀ l:List Bs,between x (a::l)=a::l.flatMap fun t=>[x,t]
 | []=>rfl
 | c::l=>by
  show a::x::between x (c::l)=_
  rw [qYw x c l]; rfl
theorem qGr:∀ (ts:List Bs),((ts.flatMap fun t=>[wIs,t]).map fun w=>w.length+1).sum=(ts.map fun w=>w.length+1).sum+2*ts.length
 | []=>rfl
 | t::ts=>by
  have:wIs.length=1:=rfl
  simp only [List.flatMap_cons,List.map_append,List.sum_append,List.map_cons,List.map_nil,List.sum_cons,List.sum_nil,qGr ts,List.length_cons]
  omega
theorem xWk (ts:List Bs):((between wIs ts).map fun w=>w.length+1).sum≤(ts.map fun w=>w.length+1).sum+2*ts.length:=by
 cases ts with
 | nil=>simp [between]
 | cons t ts =>
  rw [qYw]
  simp only [List.map_cons,List.sum_cons,qGr,List.length_cons]
  omega
theorem qFd {sig:Sg} (hn:∀ x∈sig,x.1.length≤33):∀ {us:List (List Int)} {ts:List Bs},rowM (qJv sig) us=.ok ts→ts.length=us.length∧(ts.map fun w=>w.length+1).sum≤50*us.flatten.length
 | [],ts,h=>by
  obtain rfl:=Except.ok.inj h
  simp
 | u::us,ts,h=>by
  unfold rowM at h
  obtain ⟨a,h1,h⟩:=qQg.mp h
  obtain ⟨c,h2,h⟩:=qQg.mp h
  obtain rfl:=Except.ok.inj h
  have h3:=xYm hn h1
  obtain ⟨h4,h5⟩:=qFd hn h2
  simp only [List.map_cons,List.sum_cons,List.length_cons,List.flatten_cons,List.length_append]
  omega
theorem xXj {sig:Sg} (hn:∀ x∈sig,x.1.length≤33) {c:Cm} {s:Bs} (h:cmdW sig c=.ok s):s.length≤cmC c:=by
 unfold cmdW at h
 obtain ⟨n,h0,h⟩:=qQg.mp h
 obtain ⟨_,_,h⟩:=qQg.mp h
 obtain ⟨ts,h2,h⟩:=qQg.mp h
 obtain rfl:=Except.ok.inj h
 have hw:c.word.length≤8:=by
  unfold qRm at h0
  split at h0
  ·rename_i hw
   rcases hw with hw | hw | hw | hw | hw <;> (rw [hw]; decide)
  ·split at h0
   ·rename_i hw; rw [hw]; decide
   ·split at h0
    ·rename_i hw; rw [hw]; decide
    ·cases h0
 obtain ⟨h3,h4⟩:=qFd hn h2
 have h5:=xWk ts
 have hls:=qZe (c.word::between wIs ts)
 simp only [List.map_cons,List.sum_cons] at hls
 unfold cmC
 omega
theorem xQu {sig:Sg} (hn:∀ x∈sig,x.1.length≤33) (hm:∀ m s,qHl m=.ok s→s.length≤moC m) {i:It} {s:Bs} (h:intW sig i=.ok s):s.length≤itC i:=by
 unfold intW at h
 obtain ⟨a,h1,h⟩:=qQg.mp h
 obtain ⟨c,h2,h⟩:=qQg.mp h
 obtain rfl:=Except.ok.inj h
 have:=qFy hn h1
 have:=qVf (C:=moC) (fun m _ s=>hm m s) h2
 have hls:=qZe [wSet,a]
 simp only [List.map_cons,List.map_nil,List.sum_cons,List.sum_nil] at hls
 have:wSet.length=3:=rfl
 rw [List.length_append]
 unfold itC; omega
theorem qUx {k:Int} (h:0<k∧k<6):(at1 kinds k.toNat).length≤8:=by
 have:k=1∨k=2∨k=3∨k=4∨k=5:=by omega
 rcases this with rfl | rfl | rfl | rfl | rfl <;> decide
theorem xPg {sig:Sg} (hn:∀ x∈sig,x.1.length≤33) (hm:∀ m s,qHl m=.ok s→s.length≤moC m) {n:Nd} {s:Bs} (h:qOg sig n=.ok s):s.length≤ndC n:=by
 unfold qOg at h
 obtain ⟨_,h0,h⟩:=qQg.mp h
 obtain ⟨k,h1,h⟩:=qQg.mp h
 obtain ⟨s1,h2,h⟩:=qQg.mp h
 obtain ⟨s2,h3,h⟩:=qQg.mp h
 obtain rfl:=Except.ok.inj h
 have h0:=qBk.mp h0
 simp only [Bool.and_eq_true,decide_eq_true_eq] at h0
 have:=qUx h0
 have:=qDk h1
 have:=qVf (C:=prC) (fun x _ s hs=>qFr hn (by decide) hs) h2
 have:=qVf (C:=itC) (fun x _ s hs=>xQu hn hm hs) h3
 have hls:=qZe [qKx,at1 kinds n.kind.toNat,k]
 simp only [List.map_cons,List.map_nil,List.sum_cons,List.sum_nil] at hls
 have:qKx.length=4:=rfl
 simp only [List.length_append]
 unfold ndC; omega
end Go.Proofs.Sp
namespace Go.Proofs.YtkdneddcocggdaaGreatDoor.Am
open Go Go.Proofs Go.RowKit Go.Lib Sys Sp
set_option maxRecDepth 100000
variable {D:Orc} {E:Dorc} {h h' h0:H} {k:Kv} {kp:Kp} {L R:List Res} {b:Nat} {sg:Value} {l:Bs}
theorem PSig.n33' {sig:List Sy} (ps:PSig h0 sg sig):∀ x∈S2 sig,x.1.length≤33:=fun x hx=>by
 unfold S2 at hx
 obtain ⟨y,hy,rfl⟩:=List.mem_map.mp hx
 show (bts y.1).length≤33
 rw [qQq]; exact ps.n33 y hy
theorem xUf (st:qMj D) (s:SpecsP D) {sig:List Sy} (ps:PSig h0 sg sig) {iv:Value} {vs:List (List Value)} {p:List It} (hr:RowK 2 h0 iv vs) (hrel:Rel2 (ItR h0) vs p) (hlen:p.length<2 ^ 40) {K:Kl} {A:Bs} (o:Pst h0 b sg R A h) (hA:A.length+cst itC p<2 ^ 38)
  (hk:Rest (Sp.intW (S2 sig)) h0 b sg R (fun _ h'=>K (.e 2) [] h') (fun e h'=>K (.p (chain e)) [] h') A p) :
  loop58_10 D [Pt b,iv,.int .i64 (p.length:Int),.int .i64 0] h K:=by
 intro I hI
 have key:∀ m i:Nat,i+m=p.length→∀ (A:Bs) (h:H),Pst h0 b sg R A h→A.length+cst itC (p.drop i)<2 ^ 38→Rest (Sp.intW (S2 sig)) h0 b sg R (fun _ h'=>K (.e 2) [] h') (fun e h'=>K (.p (chain e)) [] h') A (p.drop i) →
   I [Pt b,iv,.int .i64 (p.length:Int),.int .i64 (i:Int)] h:=by
  intro m
  induction m with
  | zero =>
   intro i him A h o hA hk
   refine hI _ _ _ _ _ ?_
   unfold round58_10
   rw [qQa,qQa,qQd]
   refine ⟨fun hlt=>by omega,fun _=>?_⟩
   rw [List.drop_eq_nil_of_le (by omega)] at hk
   exact qYn hk o
  | succ m ih =>
   intro i him A h o hA hk
   refine hI _ _ _ _ _ ?_
   unfold round58_10
   rw [qQa,qQa,qQd]
   refine ⟨fun _=>?_,fun hge=>by omega⟩
   have hir:i<p.length:=by omega
   have hiv:i<vs.length:=by rw [hrel.len]; exact hir
   have hd:p.drop i=p[i]::p.drop (i+1):=List.drop_eq_getElem_cons hir
   rw [hd,qWa] at hA
   rw [hd,qWb] at hk
   obtain ⟨mv,mvs,hv,hsy,hmr,hmrel,hml⟩:=hrel.at_ i vs[i] p[i] (List.getElem?_eq_getElem hiv) (List.getElem?_eq_getElem hir)
   refine (hr.ext o.ext).at_ (by omega) (by omega) fun ad v' hv' hrd _=>?_
   rw [Int.toNat_natCast,List.getElem?_eq_getElem hiv,hv] at hv'
   obtain rfl:=Option.some.inj hv'
   have hic:100+cst moC p[i].p≤itC p[i]:=Nat.le_refl _
   generalize p[i]=it at hk hA hsy hmrel hml hrd hic
   refine ⟨it.sym,mv,hrd,?_⟩
   refine o.copy (z:=[.int .i64 0,.slice none 0 0]) (vs:=[.int .i64 it.sym,mv]) rfl (by simp only [List.all_cons,List.all_nil,qQy hmr.isSl]; rfl) rfl fun q h1 o1=>?_
   refine ldjI (o1.cell (i:=0) rfl) rfl ?_
   have hio:Sp.intW (S2 sig) it=(qLj (S2 sig) it.sym true >>= fun a=>allM qHl it.p >>= fun s=>.ok (qYi [wSet,a]++s)):=rfl
   rw [hio,qQk] at hk
   refine s.name b _ true sig sg _ A h0 h1 _ _ hsy ps.sr ps.n64 ps.n33 o1 (qXa (fun s1 hs1 hk hl1=>?_) (fun e hk=>hk h1 o1.ext) hk)
   refine ⟨_,rfl,rfl,by decide,rfl,by decide,?_⟩
   refine o1.newSl (n:=2) (ws:=wsV [wSet,s1]) rfl fun sv h2 o2=>?_
   have hls:=qZe [wSet,s1]
   simp only [List.map_cons,List.map_nil,List.sum_cons,List.sum_nil] at hls
   have hwl:wSet.length=3:=rfl
   refine s.words [wSet,s1] sv A b sg _ h0 h2 _ _ o2 (o2.row (i:=0) rfl) (by simp) (by omega) fun h3 o3=>⟨rfl,?_⟩
   refine ldj (o3.cell (i:=1) rfl) rfl ?_
   rw [(hmr.ext o3.ext).len,hmrel.len]
   rw [qQk] at hk
   refine xZy st s ps hmr hmrel hml o3 (by rw [List.length_append]; omega) (qXa (fun t ht hk h4 o4=>?_) (fun e hk h' e'=>hk h' e') hk)
   show xs (X.e 4) (K X.r [] h4) _ _
   rw [xs_e]
   show cond true _ _
   rw [cond_true,nth0,nth1,nth2,nth3,qQa,qQa]
   rw [qAk] at hk
   have htl:=qVf (C:=moC) (fun m _ s hs=>qEz hs) ht
   rw [qQr (by omega) (by omega)]
   have e2:(i:Int)+1=((i+1:Nat):Int):=by omega
   rw [e2]
   exact ih (i+1) (by omega) _ h4 o4.tail.tail (by simp only [List.length_append] at hls ⊢; omega) (by rw [List.append_assoc]; exact hk)
 exact key p.length 0 (by omega) A h o (by rw [List.drop_zero]; exact hA) (by rw [List.drop_zero]; exact hk)
def qKs (D:Orc) (f:Nat):Prop:=∀ (b:Nat) (sig:List Sy) (sg:Value) (n:Nd) (c:List Value) (R:List Res) (A:Bs) h0 h (k:Kv) kp,PSig h0 sg sig→NdR h0 c n→Pst h0 b sg R A h→A.length+ndC n<2 ^ 38 →
 Out (qOg (S2 sig) n) (fun s=>s.length≤ndC n→∀ h',Pst h0 b sg R (A++s) h'→k (.tuple #[]) h') (fun e=>∀ h',Ext h0 h'→kp (chain e) h')→D f [Pt b,.agg c.toArray] h k kp
theorem xHq (c:Cl58 D) (st:qMj D) (s:SpecsP D):qKs D 58:=by
 intro b sig sg n cc R A h0 h k kp ps hn o hA hk
 refine c _ _ _ _ _ ?_
 unfold F58
 obtain ⟨pv,iv,vs,rfl,hki,hkk,hpr,hpi,hpl,hir,hirel,hil⟩:=hn
 rw [qVq]
 refine o.new_ fun q h1 o1=>?_
 refine ⟨rfl,by decide,rfl,by decide,rfl,by decide,rfl,by decide,rfl,by decide,rfl,by decide,?_⟩
 refine o1.newSl (n:=6) (ws:=wsV kinds) rfl fun kv h2 o2=>?_
 refine ldjI (o2.cell (i:=1) rfl) rfl ?_
 unfold qOg at hk
 rw [qQk,qXx] at hk
 rw [qQd]
 refine ⟨fun hpos=>?_,fun hneg=>qQl s.must (fun hh=>by cases hh) fun _=>hk.2 (by simp; omega) h2 o2.ext⟩
 refine ldjI (o2.cell (i:=1) rfl) rfl ?_
 have hkrow:Row h2 kv (wsV kinds):=o2.row (i:=0) rfl
 rw [hkrow.len]
 refine qQl s.must (fun hlt=>⟨rfl,?_⟩) fun hge=>hk.2 (by
  have hge:=of_decide_eq_false hge
  have hge:¬ n.kind<((6:Nat):Int):=hge
  simp; omega) h2 o2.ext
 have hlt:=of_decide_eq_true hlt
 have hlt:n.kind<((6:Nat):Int):=hlt
 have hk:=hk.1 (by simp; omega)
 unfold j58__3
 refine ldjI (o2.cell (i:=1) rfl) rfl ?_
 have hkn:n.kind=((n.kind.toNat:Nat):Int):=by omega
 refine hkrow.at_ (by omega) (by show n.kind<((6:Nat):Int); omega) fun ad x hx hrd=>?_
 have hkl:kinds.length=6:=rfl
 have hx:x=.string (strB (at1 kinds n.kind.toNat)):=by
  unfold wsV at hx
  rw [List.getElem?_map,List.getElem?_eq_getElem (by rw [hkl]; omega)] at hx
  rw [← Option.some.inj hx]
  unfold at1
  rw [List.getElem?_eq_getElem (by rw [hkl]; omega)]; rfl
 subst hx
 refine ⟨_,hrd,ldjI (o2.cell (i:=1) rfl) rfl ?_⟩
 rw [qQk] at hk
 refine s.num b _ h2 _ _ hkk (qQt _ _ o2.ext ps.tb) (qXa (fun s1 hs1 hk hl1=>?_) (fun e hk=>hk h2 o2.ext) hk)
 refine ⟨_,rfl,hrd,qVi (o2.cell (i:=1) rfl) rfl,rfl,by decide,rfl,by decide,rfl,by decide,?_⟩
 refine o2.newSl (n:=3) (ws:=wsV [qKx,at1 kinds n.kind.toNat,s1]) rfl fun sv h3 o3=>?_
 have hls:=qZe [qKx,at1 kinds n.kind.toNat,s1]
 simp only [List.map_cons,List.map_nil,List.sum_cons,List.sum_nil] at hls
 have hwl:qKx.length=4:=rfl
 have hks:=Sp.qUx (k:=n.kind) ⟨hpos,by omega⟩
 have hndc:ndC n=100+cst prC n.prec+cst itC n.ints:=rfl
 refine s.words [qKx,at1 kinds n.kind.toNat,s1] sv A b sg _ h0 h3 _ _ o3 (o3.row (i:=0) rfl) (by simp) (by omega) fun h4 o4=>⟨rfl,?_⟩
 refine ldj (o4.cell (i:=2) rfl) rfl ?_
 rw [(hpr.ext o4.ext).len,List.length_map]
 rw [qQk] at hk
 refine xZu s ps hpr hpi hpl o4 (by rw [List.length_append]; omega) (qXa (fun t1 ht1 hk h5 o5=>?_) (fun e hk h' e'=>hk h' e') hk)
 show xs (X.e 0) (k (.tuple #[]) h5) _ _
 rw [xs_e]
 show cond true _ _
 rw [cond_true,nth0,nth1]
 have ht1l:=qVf (C:=prC) (fun x _ s hs=>qFr ps.n33' (by decide) hs) ht1
 refine ldj (o5.cell (i:=2) rfl) rfl ?_
 rw [(hir.ext o5.ext).len,hirel.len]
 rw [qQk] at hk
 refine xUf st s ps hir hirel hil o5 (by simp only [List.length_append] at hls ⊢; omega) (qXa (fun t2 ht2 hk h6 o6=>?_) (fun e hk h' e'=>hk h' e') hk)
 show xs (X.e 2) (k (.tuple #[]) h6) _ _
 rw [xs_e]
 show cond true _ _
 rw [cond_true]
 rw [qAk] at hk
 have ht2l:=qVf (C:=itC) (fun x _ s hs=>xQu ps.n33' (fun m s hs=>qEz hs) hs) ht2
 refine hk (by simp only [List.length_append]; omega) h6 ?_
 have:=o6.tail.tail.tail
 simp only [List.append_assoc] at this ⊢
 exact this
variable {D:Orc} {E:Dorc} {h h' h0:H} {k:Kv} {kp:Kp} {L R:List Res} {b:Nat} {sg:Value} {l:Bs}
def behind (i:Nat) (ts:List Bs):List Bs:=if i=0 then between wIs ts else ts.flatMap fun t=>[wIs,t]
theorem xWl (i:Nat):behind i []=[]:=by
 unfold behind
 split <;> rfl
theorem qGs (i:Nat) (t:Bs) (ts:List Bs):behind i (t::ts)=(if i=0 then [t] else [wIs,t])++behind (i+1) ts:=by
 unfold behind
 rw [if_neg (by omega:¬ i+1=0)]
 by_cases h:i=0
 ·rw [if_pos h,if_pos h,qYw]; rfl
 ·rw [if_neg h,if_neg h,List.flatMap_cons]
theorem xZb (s:SpecsP D) {sig:List Sy} (ps:PSig h0 sg sig) {tv sv:Value} {vs:List Value} {terms:List (List Int)} {acc:List Bs} (hr:Row h0 tv vs) (hrel:Rel2 (fun v l=>Ir h0 v l) vs terms) (hsz:terms.flatten.length<2 ^ 32) {K:Kl} {A:Bs} (o:Pst h0 b sg (bufR sv (wsV acc)::R) A h) (hacc:acc.length+2*terms.length<2 ^ 38)
  (hk:Out (rowM (qJv (S2 sig)) terms) (fun ts=>∀ s' h',Pst h0 b sg (bufR s' (wsV (acc++between wIs ts))::R) A h'→K (.e 1) [Pt b,s'] h') (fun e=>∀ h',Ext h0 h'→K (.p (chain e)) [] h')) :
  loop59_16 D [Pt b,sv,tv,.int .i64 (terms.length:Int),.int .i64 0] h K:=by
 intro I hI
 have key:∀ m i:Nat,i+m=terms.length→∀ (acc:List Bs) (sv:Value) (h:H),Pst h0 b sg (bufR sv (wsV acc)::R) A h→acc.length+2*(terms.drop i).length<2 ^ 38 →
   Out (rowM (qJv (S2 sig)) (terms.drop i)) (fun ts=>∀ s' h',Pst h0 b sg (bufR s' (wsV (acc++behind i ts))::R) A h'→K (.e 1) [Pt b,s'] h') (fun e=>∀ h',Ext h0 h'→K (.p (chain e)) [] h') →
   I [Pt b,sv,tv,.int .i64 (terms.length:Int),.int .i64 (i:Int)] h:=by
  intro m
  induction m with
  | zero =>
   intro i him acc sv h o hA hk
   refine hI _ _ _ _ _ _ ?_
   unfold round59_16
   rw [qQa,qQa,qQd]
   refine ⟨fun hlt=>by omega,fun _=>?_⟩
   rw [List.drop_eq_nil_of_le (by omega)] at hk
   have hk:∀ s' h',Pst h0 b sg (bufR s' (wsV (acc++behind i []))::R) A h'→K (.e 1) [Pt b,s'] h':=hk
   rw [xWl,List.append_nil] at hk
   exact hk _ _ o
  | succ m ih =>
   intro i him acc sv h o hA hk
   refine hI _ _ _ _ _ _ ?_
   unfold round59_16
   rw [qQa,qQa,qQd]
   refine ⟨fun _=>?_,fun hge=>by omega⟩
   have hir:i<terms.length:=by omega
   have hiv:i<vs.length:=by rw [hrel.len]; exact hir
   have hd:terms.drop i=terms[i]::terms.drop (i+1):=List.drop_eq_getElem_cons hir
   rw [hd,xJy] at hk
   rw [hd,List.length_cons] at hA
   have iu:=hrel.at_ i vs[i] terms[i] (List.getElem?_eq_getElem hiv) (List.getElem?_eq_getElem hir)
   have hul:terms[i].length≤terms.flatten.length:=(List.sublist_flatten_of_mem (List.getElem_mem hir)).length_le
   refine (hr.ext o.ext).at_ (by omega) (by omega) fun ad v hv hrd=>⟨v,hrd,?_⟩
   rw [Int.toNat_natCast,List.getElem?_eq_getElem hiv] at hv
   obtain rfl:=Option.some.inj hv
   have step:∀ (acc1:List Bs) (sv1:Value) (h1:H),acc1.length≤acc.length+1→(∀ t ts,acc++behind i (t::ts)=(acc1++[t])++behind (i+1) ts)→Pst h0 b sg (bufR sv1 (wsV acc1)::R) A h1 →
     j59_16_20 D I K (Pt b) sv1 vs[i] tv (.int .i64 (terms.length:Int)) (.int .i64 (i:Int)) h1:=fun acc1 sv1 h1 hl1 heq o1=>by
    unfold j59_16_20
    rw [qQa,qQa]
    refine s.term b vs[i] terms[i] sig sg _ A h0 h1 _ _ ps.chk ps.sr ps.n33 ps.tb (iu.ext o1.ext) (by omega) o1 (qXa (fun s1 hs1 hk=>?_) (fun e hk h' e'=>hk h' (o1.ext.trans e')) hk)
    intro h2 _ e2
    refine ⟨_,rfl,?_⟩
    have o2:=o1.later e2
    refine o2.push (by omega) rfl Nat.zero_lt_one fun s' h3 o3=>?_
    rw [qQr (by omega) (by omega)]
    have e2:(i:Int)+1=((i+1:Nat):Int):=by omega
    rw [e2]
    refine ih (i+1) (by omega) _ s' h3 o3 (by rw [List.length_append,List.length_singleton]; omega) ?_
    refine qXa (fun ts _ hk=>?_) (fun _ hk=>hk) hk
    rw [heq] at hk
    exact hk
   rw [qQd]
   refine ⟨fun hpos=>?_,fun hz=>?_⟩
   ·refine o.push (t:=wIs) (by omega) rfl Nat.zero_lt_one fun s' h3 o3=>?_
    refine step _ s' h3 (by rw [List.length_append]; simp) (fun t ts=>?_) o3
    rw [qGs,if_neg (by omega)]
    simp
   ·refine step acc sv h (by omega) (fun t ts=>?_) o
    rw [qGs,if_pos (by omega)]
    simp
 exact key terms.length 0 (by omega) acc sv h o (by rw [List.drop_zero]; exact hacc) (by
  rw [List.drop_zero]
  refine qXa (fun ts _ hk=>?_) (fun _ hk=>hk) hk
  unfold behind
  rw [if_pos rfl]; exact hk)
theorem xXi {x y:Bs} {A B:Prop}:cond (x==y) A B↔(x=y→A)∧(¬ x=y→B):=by
 by_cases h:x=y
 ·rw [beq_iff_eq.mpr h,cond_true]; simp [h]
 ·rw [beq_eq_false_iff_ne.mpr h,cond_false]; simp [h]
def qDz (D:Orc) (f:Nat):Prop:=∀ (b:Nat) (sig:List Sy) (sg:Value) (m:Cm) (c:List Value) (R:List Res) (A:Bs) h0 h (k:Kv) kp,PSig h0 sg sig→CmR h0 c m→Pst h0 b sg R A h→A.length+cmC m<2 ^ 37 →
 Out (cmdW (S2 sig) m) (fun s=>s.length≤cmC m→∀ h',Pst h0 b sg R (A++s) h'→k (.tuple #[]) h') (fun e=>∀ h',Ext h0 h'→kp (chain e) h')→D f [Pt b,.agg c.toArray] h k kp
theorem xHp (c:Cl59 D) (s:SpecsP D):qDz D 59:=by
 intro b sig sg m cc R A h0 h k kp ps hm o hA hk
 refine c _ _ _ _ _ ?_
 unfold F59
 obtain ⟨tv,vs,rfl,hwl,hr,hrel,htl⟩:=hm
 rw [qVq]
 refine o.new_ fun q h1 o1=>?_
 have o1:Pst h0 b sg (qQn q [.string (strB m.word),tv]::R) A h1:=o1
 have hcm:cmC m=50*m.terms.flatten.length+4*m.terms.length+20:=rfl
 have hsize:∀ {s},cmdW (S2 sig) m=.ok s→s.length≤cmC m:=fun h=>xXj ps.n33' h
 have main:∀ n:Nat,qRm m.word=.ok n→m.word.length≤8→j59__13 D k kp (Pt b) (Pt q) (.int .i64 (n:Int)) h1:=fun n hn hw8=>by
  unfold j59__13
  rw [qQa]
  have hcd:cmdW (S2 sig) m=(must (m.terms.length==n) 224 >>= fun _=>rowM (qJv (S2 sig)) m.terms >>= fun ts=>.ok (qYi (m.word::between wIs ts))):=by
   unfold cmdW
   rw [hn]; rfl
  rw [hcd] at hsize
  rw [hcd,qQk,qXx] at hk
  refine ldj (o1.cell (i:=0) rfl) rfl ?_
  rw [(hr.ext o1.ext).len,hrel.len]
  refine qQl s.must (fun heq=>⟨rfl,?_⟩) fun hne=>?_
  ·have heq:m.terms.length=n:=by
    have:=eq_of_beq heq
    omega
   have hmt:(m.terms.length==n)=true:=by rw [heq]; simp
   have hk:=hk.1 hmt
   refine ldx (o1.cell (i:=0) rfl) rfl ⟨rfl,by decide,?_⟩
   refine o1.newSl (n:=1) (ws:=wsV [m.word]) rfl fun sv h2 o2=>?_
   refine ldj (o2.cell (i:=1) rfl) rfl ?_
   rw [(hr.ext o2.ext).len,hrel.len]
   rw [qQk] at hk
   refine xZb (acc:=[m.word]) s ps hr hrel (by omega) o2 (by show 1+_<_; omega) (qXa (fun ts hts hk s' h3 o3=>?_) (fun e hk h' e'=>hk h' e') hk)
   show xs (X.e 1) (k (.tuple #[]) h3) _ _
   rw [xs_e]
   show cond true _ _
   rw [cond_true,nth0,nth1]
   rw [qAk] at hk
   obtain ⟨h4,h5⟩:=qFd ps.n33' hts
   have hsz:=hsize (s:=qYi (m.word::between wIs ts)) (by rw [hmt,hts]; rfl)
   have hbl:(between wIs ts).length≤2*ts.length:=by
    cases ts with
    | nil=>simp [between]
    | cons t ts =>
     rw [qYw]
     have:∀ ts:List Bs,(ts.flatMap fun t=>[wIs,t]).length=2*ts.length:=fun ts=>by
      induction ts with
      | nil=>rfl
      | cons t ts ih=>rw [List.flatMap_cons,List.length_append,ih]; simp; omega
     rw [List.length_cons,this]; simp; omega
   refine s.words (m.word::between wIs ts) s' A b sg _ h0 h3 _ _ o3 (o3.row (i:=0) rfl) (by simp only [List.length_cons]; omega) (by omega) fun h6 o6=>⟨rfl,?_⟩
   exact hk hsz h6 o6.tail.tail
  ·refine hk.2 ?_ h1 o1.ext
   rw [← Bool.not_eq_true]
   intro hx
   rw [eq_of_beq hx] at hne
   simp at hne
 refine ldx (o1.cell (i:=0) rfl) rfl ?_
 have hw:∀ (x:ByteArray),((strB m.word).toList==x.toList)=(m.word==bts x):=fun x=>by rw [qCi,qQv]
 simp only [hw]
 have b1:bts (ByteArray.mk #[99,104,101,99,107])=qAi:=rfl
 have b2:bts (ByteArray.mk #[99,114,105,116,105,99,97,108])=qVb:=rfl
 have b3:bts (ByteArray.mk #[106,111,105,110])=qHi:=rfl
 have b4:bts (ByteArray.mk #[112,97,105,114,115])=qPs:=rfl
 have b5:bts (ByteArray.mk #[99,111,109,112,108,101,116,101])=qVc:=rfl
 rw [b1,b2,b3,b4,b5]
 have yes:(m.word=qAi∨m.word=qVb∨m.word=qHi∨m.word=qPs∨m.word=qVc)→j59__9 D k kp (Pt b) (Pt q) (.int .i64 0) (.string (strB m.word)) (.bool true) h1:=fun hc=>by
  unfold j59__9
  rw [qQa,qQb,qQc,cond_true]
  refine main 0 (by unfold qRm; rw [if_pos hc]) ?_
  rcases hc with hc | hc | hc | hc | hc <;> (rw [hc]; decide)
 have no:¬ (m.word=qAi∨m.word=qVb∨m.word=qHi∨m.word=qPs∨m.word=qVc)→j59__9 D k kp (Pt b) (Pt q) (.int .i64 0) (.string (strB m.word)) (.bool false) h1:=fun hc=>by
  unfold j59__9
  rw [qQa,qQb,qQc,cond_false,hw,hw]
  have b6:bts (ByteArray.mk #[110,111,114,109,97,108])=qVt:=rfl
  have b7:bts (ByteArray.mk #[101,113,117,97,108])=qEn:=rfl
  rw [b6,b7,xXi]
  refine ⟨fun hn=>?_,fun hn=>?_⟩
  ·exact main 1 (by unfold qRm; rw [if_neg hc,if_pos hn]) (by rw [hn]; decide)
  ·rw [xXi]
   refine ⟨fun he=>?_,fun he=>?_⟩
   ·exact main 2 (by unfold qRm; rw [if_neg hc,if_neg hn,if_pos he]) (by rw [he]; decide)
   ·refine qQl s.must (fun hh=>by cases hh) fun _=>?_
    have hcd:cmdW (S2 sig) m=.error 222:=by
     unfold cmdW qRm
     rw [if_neg hc,if_neg hn,if_neg he]; rfl
    rw [hcd] at hk
    exact hk h1 o1.ext
 by_cases c1:m.word=qAi
 ·rw [beq_iff_eq.mpr c1,cond_true]; exact yes (.inl c1)
 rw [beq_eq_false_iff_ne.mpr c1,cond_false]
 by_cases c2:m.word=qVb
 ·rw [beq_iff_eq.mpr c2,cond_true]; exact yes (.inr (.inl c2))
 rw [beq_eq_false_iff_ne.mpr c2,cond_false]
 by_cases c3:m.word=qHi
 ·rw [beq_iff_eq.mpr c3,cond_true]; exact yes (.inr (.inr (.inl c3)))
 rw [beq_eq_false_iff_ne.mpr c3,cond_false]
 by_cases c4:m.word=qPs
 ·rw [beq_iff_eq.mpr c4,cond_true]; exact yes (.inr (.inr (.inr (.inl c4))))
 rw [beq_eq_false_iff_ne.mpr c4,cond_false]
 by_cases c5:m.word=qVc
 ·rw [beq_iff_eq.mpr c5]; exact yes (.inr (.inr (.inr (.inr c5))))
 rw [beq_eq_false_iff_ne.mpr c5]
 exact no (by
  rintro (h | h | h | h | h)
  ·exact c1 h
  ·exact c2 h
  ·exact c3 h
  ·exact c4 h
  ·exact c5 h)
variable {D:Orc} {E:Dorc} {h h' h0:H} {k:Kv} {kp:Kp} {L R:List Res} {b:Nat} {sg:Value} {l:Bs}
theorem xBa {s:ByteArray} (h:qZt s=true):s.size≤33:=by
 have h1:∀ {t:ByteArray},qVs t=true→t.size≤32:=fun {t} ht=>by
  rcases Nat.lt_or_ge 32 t.size with hlt | hge
  ·rw [qIh hlt] at ht; cases ht
  ·exact hge
 unfold qZt at h
 rcases (Bool.or_eq_true _ _).mp h with h | h
 ·have:=h1 h; omega
 ·unfold qCn at h
  simp only [Bool.and_eq_true,decide_eq_true_eq] at h
  have:=h1 h.2
  rw [ByteArray.size_extract] at this
  omega
structure BkA (h:H) (c:List Value) (B:Bk):Prop where
 sl:∃ sg ru eq pr ce co rus eqs ces cos,c=[sg,ru,eq,pr,ce,co]∧Sr h sg (toSy B.sig)∧RowK 2 h ru rus∧Rel2 (RuI h) rus B.rules∧RowK 2 h eq eqs∧Rel2 (RuI h) eqs B.eqs∧RowK 2 h pr (B.prec.map qAf)∧(∀ x∈B.prec,inP x) ∧
  RowK 4 h ce ces∧Rel2 (NdR h) ces B.cert∧RowK 2 h co cos∧Rel2 (CmR h) cos B.cmds
 n1:B.sig.length<2 ^ 30
 n2:B.rules.length<2 ^ 30
 n3:B.eqs.length<2 ^ 30
 n4:B.prec.length<2 ^ 30
 n5:B.cert.length<2 ^ 30
 n6:B.cmds.length<2 ^ 30
 sz:bkC B<2 ^ 36
theorem xYq (s:SpecsP D) (c:Cl53 D) (c74:Cl99 D) {sig:Sg} {sgv a0 a2:Value} {e0:ByteArray} (ps:PSig h0 sg (toSy sig)) (hsr:Sr h0 sgv (toSy sig)) {K:Kl} {A:Bs} (o:Pst h0 b sg R A h) (hA:A.length+cst syC sig<2 ^ 37)
  (hk:Rest symW h0 b sg R (fun _ h'=>K (.e 0) [a0,.string e0,a2,Pt b] h') (fun e h'=>K (.p (chain e)) [] h') A sig) :
  loop20_8 D [a0,.string e0,a2,Pt b,sgv,.int .i64 (sig.length:Int),.int .i64 0] h K:=by
 intro I hI
 have key:∀ m i:Nat,i+m=sig.length→∀ (A:Bs) (h:H),Pst h0 b sg R A h→A.length+cst syC (sig.drop i)<2 ^ 37→Rest symW h0 b sg R (fun _ h'=>K (.e 0) [a0,.string e0,a2,Pt b] h') (fun e h'=>K (.p (chain e)) [] h') A (sig.drop i) →
   I [a0,.string e0,a2,Pt b,sgv,.int .i64 (sig.length:Int),.int .i64 (i:Int)] h:=by
  intro m
  induction m with
  | zero =>
   intro i him A h o hA hk
   refine hI _ _ _ _ _ _ _ _ ?_
   unfold round20_8
   rw [qQb,qQa,qQa,qQd]
   refine ⟨fun hlt=>by omega,fun _=>?_⟩
   rw [List.drop_eq_nil_of_le (by omega)] at hk
   exact qYn hk o
  | succ m ih =>
   intro i him A h o hA hk
   refine hI _ _ _ _ _ _ _ _ ?_
   unfold round20_8
   rw [qQb,qQa,qQa,qQd]
   refine ⟨fun _=>?_,fun hge=>by omega⟩
   have hir:i<sig.length:=by omega
   have hd:sig.drop i=sig[i]::sig.drop (i+1):=List.drop_eq_getElem_cons hir
   rw [hd,qWa] at hA
   rw [hd,qWb] at hk
   refine (hsr.ext o.ext).row.at_ (by omega) (by rw [qXd,qXq]; omega) fun ad v hv hrd _=>?_
   obtain ⟨z,hz,rfl⟩:=qYm hv
   unfold toSy at hz
   rw [Int.toNat_natCast,List.getElem?_map,List.getElem?_eq_getElem hir] at hz
   obtain rfl:=Option.some.inj hz
   have hmem:(strB sig[i].1,sig[i].2)∈toSy sig:=List.mem_map_of_mem (f:=fun x=>(strB x.1,x.2)) (List.getElem_mem hir)
   have har:=xEk ps.chk _ hmem
   have h33:=ps.n33 _ hmem
   generalize sig[i]=x at hk hrd har h33 hA
   have h33:x.1.length≤33:=by
    have h33:(strB x.1).size≤33:=h33
    rwa [qXv] at h33
   have har:0≤x.2∧x.2≤8:=har
   refine ⟨strB x.1,x.2,hrd,?_⟩
   refine o.copy (z:=[.string (ByteArray.mk #[]),.int .i64 0]) (vs:=[.string (strB x.1),.int .i64 x.2]) rfl rfl rfl fun q h1 o1=>?_
   refine ldx (o1.cell (i:=0) rfl) rfl ?_
   refine xCq c c74 (by rw [qXv]; omega) ⟨_,rfl,?_⟩
   have hls:qWg (strB x.1)=(x.1.getLast?==some 35):=by rw [qOv,qQv]
   rw [hls]
   unfold symW at hk
   rw [qQk,qXx] at hk
   refine qQl s.must (fun hh=>⟨rfl,?_⟩) fun hh=>hk.2 hh h1 o1.ext
   have hk:=hk.1 hh
   refine ldx (o1.cell (i:=0) rfl) rfl (ldjI (o1.cell (i:=0) rfl) rfl ?_)
   rw [qQk] at hk
   refine s.num b _ h1 _ _ (by unfold inI; omega) (qQt _ _ o1.ext ps.tb) (qXa (fun s1 hs1 hk hl1=>?_) (fun e hk=>hk h1 o1.ext) hk)
   refine ⟨_,rfl,qVi (o1.cell (i:=0) rfl) rfl,rfl,by decide,rfl,by decide,rfl,by decide,?_⟩
   refine o1.newSl (n:=3) (ws:=wsV [wSym,x.1,s1]) rfl fun sv h2 o2=>?_
   rw [qAk] at hk
   have hls:=qZe [wSym,x.1,s1]
   simp only [List.map_cons,List.map_nil,List.sum_cons,List.sum_nil] at hls
   have hwl:wSym.length=3:=rfl
   have hsc:syC x=70:=rfl
   refine s.words [wSym,x.1,s1] sv A b sg _ h0 h2 _ _ o2 (o2.row (i:=0) rfl) (by simp) (by omega) fun h5 o5=>⟨rfl,?_⟩
   have hn:=hsr.len
   rw [qXq] at hn
   rw [qQr (by omega) (by omega)]
   have e2:(i:Int)+1=((i+1:Nat):Int):=by omega
   rw [e2]
   exact ih (i+1) (by omega) _ h5 o5.tail.tail (by rw [List.length_append]; omega) hk
 exact key sig.length 0 (by omega) A h o (by rw [List.drop_zero]; exact hA) (by rw [List.drop_zero]; exact hk)
theorem qTs (s:SpecsP D) {sig:List Sy} (ps:PSig h0 sg sig) {pv a0 a2:Value} {e0:ByteArray} {prec:List (Int × Int)} (hr:RowK 2 h0 pv (prec.map qAf)) (hin:∀ x∈prec,inP x) (hlen:prec.length<2 ^ 40) {K:Kl} {A:Bs} (o:Pst h0 b sg R A h) (hA:A.length+cst prC prec<2 ^ 37)
  (hk:Rest (qFs (S2 sig) qYl false) h0 b sg R (fun _ h'=>K (.e 2) [a0,.string e0,a2,Pt b] h') (fun e h'=>K (.p (chain e)) [] h') A prec) :
  loop20_16 D [a0,.string e0,a2,Pt b,pv,.int .i64 (prec.length:Int),.int .i64 0] h K:=by
 intro I hI
 have key:∀ m i:Nat,i+m=prec.length→∀ (A:Bs) (h:H),Pst h0 b sg R A h→A.length+cst prC (prec.drop i)<2 ^ 37→Rest (qFs (S2 sig) qYl false) h0 b sg R (fun _ h'=>K (.e 2) [a0,.string e0,a2,Pt b] h') (fun e h'=>K (.p (chain e)) [] h') A (prec.drop i) →
   I [a0,.string e0,a2,Pt b,pv,.int .i64 (prec.length:Int),.int .i64 (i:Int)] h:=by
  intro m
  induction m with
  | zero =>
   intro i him A h o hA hk
   refine hI _ _ _ _ _ _ _ _ ?_
   unfold round20_16
   rw [qQb,qQa,qQa,qQd]
   refine ⟨fun hlt=>by omega,fun _=>?_⟩
   rw [List.drop_eq_nil_of_le (by omega)] at hk
   exact qYn hk o
  | succ m ih =>
   intro i him A h o hA hk
   refine hI _ _ _ _ _ _ _ _ ?_
   unfold round20_16
   rw [qQb,qQa,qQa,qQd]
   refine ⟨fun _=>?_,fun hge=>by omega⟩
   have hir:i<prec.length:=by omega
   have hd:prec.drop i=prec[i]::prec.drop (i+1):=List.drop_eq_getElem_cons hir
   rw [hd,qWa] at hA
   rw [hd,qWb] at hk
   refine (hr.ext o.ext).at_ (by omega) (by rw [List.length_map]; omega) fun ad v hv hrd _=>?_
   rw [Int.toNat_natCast,List.getElem?_map,List.getElem?_eq_getElem hir] at hv
   obtain rfl:=Option.some.inj hv
   obtain ⟨hx,hy⟩:=hin _ (List.getElem_mem hir)
   have hpa:prC prec[i]=100:=rfl
   generalize prec[i]=xy at hk hx hy hrd
   obtain ⟨x,y⟩:=xy
   refine ⟨x,y,hrd,?_⟩
   refine o.copy (z:=[.int .i64 0,.int .i64 0]) (vs:=[.int .i64 x,.int .i64 y]) rfl rfl rfl fun c h1 o1=>?_
   refine ⟨by decide,by decide,x,qVi (j:=0) (o1.cell (i:=0) rfl) rfl,by decide,by decide,y,qVi (j:=1) (o1.cell (i:=0) rfl) rfl,?_⟩
   unfold qFs at hk
   rw [qQk] at hk
   refine s.name b x false sig sg _ A h0 h1 _ _ hx ps.sr ps.n64 ps.n33 o1 (qXa (fun s1 hs1 hk hl1=>?_) (fun e hk=>hk h1 o1.ext) hk)
   refine ⟨_,rfl,qVi (j:=1) (o1.cell (i:=0) rfl) rfl,?_⟩
   rw [qQk] at hk
   refine s.name b y false sig sg _ A h0 h1 _ _ hy ps.sr ps.n64 ps.n33 o1 (qXa (fun s2 hs2 hk hl2=>?_) (fun e hk=>hk h1 o1.ext) hk)
   refine ⟨_,rfl,rfl,by decide,rfl,by decide,rfl,by decide,?_⟩
   refine o1.newSl (n:=3) (ws:=wsV [qYl,s1,s2]) rfl fun sv h4 o4=>?_
   rw [qAk] at hk
   have hls:=qZe [qYl,s1,s2]
   simp only [List.map_cons,List.map_nil,List.sum_cons,List.sum_nil] at hls
   have hwl:qYl.length=5:=rfl
   refine s.words [qYl,s1,s2] sv A b sg _ h0 h4 _ _ o4 (o4.row (i:=0) rfl) (by simp) (by omega) fun h5 o5=>⟨rfl,?_⟩
   rw [qQr (by omega) (by omega)]
   have e2:(i:Int)+1=((i+1:Nat):Int):=by omega
   rw [e2]
   exact ih (i+1) (by omega) _ h5 o5.tail.tail (by rw [List.length_append]; omega) hk
 exact key prec.length 0 (by omega) A h o (by rw [List.drop_zero]; exact hA) (by rw [List.drop_zero]; exact hk)
theorem xZw (s:SpecsP D) (sn:qKs D 58) {sig:List Sy} (ps:PSig h0 sg sig) {nv a0 a2:Value} {e0:ByteArray} {vs:List (List Value)} {p:List Nd} (hr:RowK 4 h0 nv vs) (hrel:Rel2 (NdR h0) vs p) (hlen:p.length<2 ^ 40) {K:Kl} {A:Bs} (o:Pst h0 b sg R A h) (hA:A.length+cst ndC p<2 ^ 37)
  (hk:Rest (qOg (S2 sig)) h0 b sg R (fun _ h'=>K (.e 4) [a0,.string e0,a2,Pt b] h') (fun e h'=>K (.p (chain e)) [] h') A p) :
  loop20_21 D [a0,.string e0,a2,Pt b,nv,.int .i64 (p.length:Int),.int .i64 0] h K:=by
 intro I hI
 have key:∀ m i:Nat,i+m=p.length→∀ (A:Bs) (h:H),Pst h0 b sg R A h→A.length+cst ndC (p.drop i)<2 ^ 37→Rest (qOg (S2 sig)) h0 b sg R (fun _ h'=>K (.e 4) [a0,.string e0,a2,Pt b] h') (fun e h'=>K (.p (chain e)) [] h') A (p.drop i) →
   I [a0,.string e0,a2,Pt b,nv,.int .i64 (p.length:Int),.int .i64 (i:Int)] h:=by
  intro m
  induction m with
  | zero =>
   intro i him A h o hA hk
   refine hI _ _ _ _ _ _ _ _ ?_
   unfold round20_21
   rw [qQb,qQa,qQa,qQd]
   refine ⟨fun hlt=>by omega,fun _=>?_⟩
   rw [List.drop_eq_nil_of_le (by omega)] at hk
   exact qYn hk o
  | succ m ih =>
   intro i him A h o hA hk
   refine hI _ _ _ _ _ _ _ _ ?_
   unfold round20_21
   rw [qQb,qQa,qQa,qQd]
   refine ⟨fun _=>?_,fun hge=>by omega⟩
   have hir:i<p.length:=by omega
   have hiv:i<vs.length:=by rw [hrel.len]; exact hir
   have hd:p.drop i=p[i]::p.drop (i+1):=List.drop_eq_getElem_cons hir
   rw [hd,qWa] at hA
   rw [hd,qWb] at hk
   have hnd:=hrel.at_ i vs[i] p[i] (List.getElem?_eq_getElem hiv) (List.getElem?_eq_getElem hir)
   obtain ⟨pv,iv,ivs,hv,d1,d2,d3,d4,d5,d6,d7,d8⟩:=hnd
   refine (hr.ext o.ext).at_ (by omega) (by omega) fun ad v' hv' hrd _=>?_
   rw [Int.toNat_natCast,List.getElem?_eq_getElem hiv,hv] at hv'
   obtain rfl:=Option.some.inj hv'
   generalize p[i]=n at hk hA d1 d2 d3 d4 d5 d6 d7 d8 hrd
   refine ⟨n.kind,pv,iv,n.kids,hrd,?_⟩
   refine o.copy (z:=[.int .i64 0,.slice none 0 0,.slice none 0 0,.int .i64 0]) (vs:=[.int .i64 n.kind,pv,iv,.int .i64 n.kids]) rfl (by simp only [List.all_cons,List.all_nil,qQy d3.isSl,qQy d6.isSl]; rfl) rfl fun c h1 o1=>?_
   rw [qQe]
   refine ⟨_,_,_,_,rdn (o1.cell (i:=0) rfl) (by simp),?_⟩
   refine sn b sig sg n [.int .i64 n.kind,pv,iv,.int .i64 n.kids] _ A h0 h1 _ _ ps ⟨pv,iv,ivs,rfl,d1,d2,d3,d4,d5,d6,d7,d8⟩ o1 (by omega) (qXa (fun s1 hs1 hk hl1 h2 o2=>⟨rfl,?_⟩) (fun e hk h' e'=>hk h' e') hk)
   rw [qQr (by omega) (by omega)]
   have e2:(i:Int)+1=((i+1:Nat):Int):=by omega
   rw [e2]
   exact ih (i+1) (by omega) _ h2 o2.tail (by rw [List.length_append]; omega) hk
 exact key p.length 0 (by omega) A h o (by rw [List.drop_zero]; exact hA) (by rw [List.drop_zero]; exact hk)
theorem xAo (s:SpecsP D) (sc:qDz D 59) {sig:List Sy} (ps:PSig h0 sg sig) {cv a1:Value} {e0:ByteArray} {vs:List (List Value)} {p:List Cm} (hr:RowK 2 h0 cv vs) (hrel:Rel2 (CmR h0) vs p) (hlen:p.length<2 ^ 40) {K:Kl} {A:Bs} (o:Pst h0 b sg R A h) (hA:A.length+cst cmC p<2 ^ 37)
  (hk:Rest (cmdW (S2 sig)) h0 b sg R (fun _ h'=>K (.e 6) [.string e0,a1,Pt b] h') (fun e h'=>K (.p (chain e)) [] h') A p) :
  loop20_26 D [.string e0,a1,Pt b,cv,.int .i64 (p.length:Int),.int .i64 0] h K:=by
 intro I hI
 have key:∀ m i:Nat,i+m=p.length→∀ (A:Bs) (h:H),Pst h0 b sg R A h→A.length+cst cmC (p.drop i)<2 ^ 37→Rest (cmdW (S2 sig)) h0 b sg R (fun _ h'=>K (.e 6) [.string e0,a1,Pt b] h') (fun e h'=>K (.p (chain e)) [] h') A (p.drop i) →
   I [.string e0,a1,Pt b,cv,.int .i64 (p.length:Int),.int .i64 (i:Int)] h:=by
  intro m
  induction m with
  | zero =>
   intro i him A h o hA hk
   refine hI _ _ _ _ _ _ _ ?_
   unfold round20_26
   rw [qQb,qQa,qQa,qQd]
   refine ⟨fun hlt=>by omega,fun _=>?_⟩
   rw [List.drop_eq_nil_of_le (by omega)] at hk
   exact qYn hk o
  | succ m ih =>
   intro i him A h o hA hk
   refine hI _ _ _ _ _ _ _ ?_
   unfold round20_26
   rw [qQb,qQa,qQa,qQd]
   refine ⟨fun _=>?_,fun hge=>by omega⟩
   have hir:i<p.length:=by omega
   have hiv:i<vs.length:=by rw [hrel.len]; exact hir
   have hd:p.drop i=p[i]::p.drop (i+1):=List.drop_eq_getElem_cons hir
   rw [hd,qWa] at hA
   rw [hd,qWb] at hk
   have hnd:=hrel.at_ i vs[i] p[i] (List.getElem?_eq_getElem hiv) (List.getElem?_eq_getElem hir)
   obtain ⟨tv,tvs,hv,d1,d2,d3,d4⟩:=hnd
   refine (hr.ext o.ext).at_ (by omega) (by omega) fun ad v' hv' hrd _=>?_
   rw [Int.toNat_natCast,List.getElem?_eq_getElem hiv,hv] at hv'
   obtain rfl:=Option.some.inj hv'
   generalize p[i]=m' at hk hA d1 d2 d3 d4 hrd
   refine ⟨strB m'.word,tv,hrd,?_⟩
   refine o.copy (z:=[.string (ByteArray.mk #[]),.slice none 0 0]) (vs:=[.string (strB m'.word),tv]) rfl (by simp only [List.all_cons,List.all_nil,qQy d2.isSl]; rfl) rfl fun c h1 o1=>?_
   rw [qQe]
   refine ⟨_,_,rdn (o1.cell (i:=0) rfl) (by simp),?_⟩
   refine sc b sig sg m' [.string (strB m'.word),tv] _ A h0 h1 _ _ ps ⟨tv,tvs,rfl,d1,d2,d3,d4⟩ o1 (by omega) (qXa (fun s1 hs1 hk hl1 h2 o2=>⟨rfl,?_⟩) (fun e hk h' e'=>hk h' e') hk)
   rw [qQr (by omega) (by omega)]
   have e2:(i:Int)+1=((i+1:Nat):Int):=by omega
   rw [e2]
   exact ih (i+1) (by omega) _ h2 o2.tail (by rw [List.length_append]; omega) hk
 exact key p.length 0 (by omega) A h o (by rw [List.drop_zero]; exact hA) (by rw [List.drop_zero]; exact hk)
noncomputable def qNx (B:Bk):Except Int Bs:=xJt (qVe (toSy B.sig)) B
def qUo (D:Orc) (f:Nat) (T:H→Prop):Prop:=∀ (c:List Value) (B:Bk) h (k:Kv) kp,BkA h c B→T h →
 Out (qNx B) (fun s=>∀ h',Ext h h'→k (.tuple #[.string (strB s),.int .i64 0]) h') (fun e=>∀ h',Ext h h'→k (.tuple #[.string (ByteArray.mk #[]),.int .i64 e]) h')→D f [.agg c.toArray] h k kp
theorem xKg {x:Bs × Int} {s:Bs} (h33:x.1.length≤33) (h:symW x=.ok s):s.length≤syC x:=by
 unfold symW at h
 obtain ⟨_,_,h⟩:=Sp.qQg.mp h
 obtain ⟨n,h1,h⟩:=Sp.qQg.mp h
 obtain rfl:=Except.ok.inj h
 have:=qDk h1
 have hls:=qZe [wSym,x.1,n]
 simp only [List.map_cons,List.map_nil,List.sum_cons,List.sum_nil] at hls
 have:wSym.length=3:=rfl
 unfold syC; omega
def ByS (h:H) (s:Value) (l:List UInt8):Prop:=(s=.slice none 0 0∧l=[]) ∨
 ∃ g cap cs,s=.slice (some ⟨g,0,none⟩) l.length cap∧ShB h g cs∧cap≠0∧l.length≤cs.length∧cs.take l.length=U8 l∧l≠[]
theorem ByS.loc {s:Value} {l:List UInt8} (r:ByS h s l) (e:∀ b,Blk s=some b→h' b=h b):ByS h' s l:=by
 rcases r with r | ⟨g,cap,cs,rfl,h1,h2,h3⟩
 ·exact .inl r
 ·refine .inr ⟨g,cap,cs,rfl,?_,h2,h3⟩
  have:=e g (qXb h2)
  unfold ShB at h1 ⊢
  rwa [this]
def bysR (s:Value) (l:List UInt8):Res:=⟨fun c=>Blk s=some c,fun h=>ByS h s l,fun h h' e o=>o.loc e⟩
theorem qNd (sb:qPk D 37) {t:TypeId} {p buf:Value} {rest:List Value} (o:Hp h0 h (qAh b t (p::buf::rest)::bysR buf l::L)) (hl:l.length≤2 ^ 40)
  (hk:∀ h',Hp h0 h' (qAh b t (p::buf::rest)::bysR buf l::L)→k (.string (strB l)) h'):D 37 [Pt b] h k kp:=by
 have hb:=o.brow (i:=0) rfl
 rcases (o.get (i:=1) rfl:ByS h buf l) with ⟨rfl,rfl⟩ | ⟨g,cap,cs,rfl,h1,h4,h5,h6,h7⟩
 ·exact (sb b t p rest h k kp).1 hb (hk h o)
 ·refine (sb b t p rest h k kp).2 g cap cs l hb h1 h4 h7 h5 hl h6 ?_
  have o2:Hp h0 (h.set g (.bro 5 cs)) (qAh b t (p::.slice (some ⟨g,0,none⟩) l.length cap::rest)::bysR (.slice (some ⟨g,0,none⟩) l.length cap) l::L) :=
   o.upd (i:=1) (r':=bysR (.slice (some ⟨g,0,none⟩) l.length cap) l) rfl (fun c hc hn=>qXg fun e=>hn (by rw [e]; exact qXb h4)) (.inr ⟨g,cap,cs,rfl,.inr qQf,h4,h5,h6,h7⟩) fun c hc=>⟨.inl hc,by
    have hc:Blk (.slice (some ⟨g,0,none⟩) l.length cap)=some c:=hc
    rw [qXb h4] at hc
    cases hc
    rw [qQf]; simp⟩
  exact hk _ o2
theorem Pst.shared (o:Pst h0 b sg R l h):∃ p buf,Hp h0 h (qAh b 98 [p,buf,sg]::bysR buf l::R):=by
 obtain ⟨p,buf,hp,o⟩:=o
 refine ⟨p,buf,?_⟩
 have:=o.upd (i:=1) (r':=bysR buf l) rfl (h':=h) (fun _ _ _=>rfl) (by
  rcases (o.get (i:=1) rfl:Byt h buf l) with r | ⟨g,cap,cs,rfl,h1,h2,h3,h4,h5,h6⟩
  ·exact .inl r
  ·exact .inr ⟨g,cap,cs,rfl,.inl h1,h4,by omega,h5,h6⟩) fun c hc=>⟨.inl hc,by
   have h1:(bytR buf l).ok h:=o.get (i:=1) rfl
   exact Byt.known h1 hc⟩
 exact this
theorem xVj (cl:Cl36 D) {t:TypeId} {p buf:Value} {rest:List Value} (o:Hp h0 h (qAh b t (p::buf::rest)::bysR buf l::L)) (hk:k (.int .i64 (l.length:Int)) h):D 36 [Pt b] h k kp:=by
 refine cl _ _ _ _ ?_
 unfold F36
 refine ⟨rfl,?_⟩
 rw [qQe]
 refine ⟨buf,rdb (o.brow (i:=0) rfl) rfl,?_⟩
 have hlenW:∀ {K:Nat→Prop},K l.length→lenW buf K:=fun {K} hK=>by
  rcases (o.get (i:=1) rfl:ByS h buf l) with ⟨rfl,h4⟩ | ⟨g,cap,cs,rfl,_⟩
  ·rw [h4] at hK; exact hK
  ·exact hK
 exact hlenW hk
theorem xIl (c:Cl20 D E) (cs:qCd D 27 Tbl) (s:SpecsP D) (sr:qCf D 56) (sn:qKs D 58) (sc:qDz D 59) (c46:Cl53 D) (c74:Cl99 D)
  (cl:Cl36 D) (sb:qPk D 37) (sct:qKt D 39) (ct:qWi E 52):qUo D 20 Tbl:=by
 intro cc B h k kp hb ht hk
 refine c _ _ _ _ ?_
 unfold F20
 rw [qVq]
 obtain ⟨⟨sg,ru,eq,pr,ce,co,rus,eqs,ces,cos,rfl,hsr,hru,hrur,heq,heqr,hpr,hpi,hce,hcer,hco,hcor⟩,n1,n2,n3,n4,n5,n6,hsz⟩:=hb
 refine (Hp.nil_ h).new_ fun p1 h1 hp1 o1=>(Hp.nil_ h1).new_ fun p3 h2 hp3 o2=>?_
 have o1:Hp h h1 (qQn p1 [sg,ru,eq,pr,ce,co]::[]):=o1
 have o2:Hp h1 h2 (qQn p3 [.int .i64 0]::[]):=o2
 have e02:Ext h h2:=o1.ext.trans o2.ext
 have hcb:∀ {h':H},Ext h2 h'→h' p1=some (.cells [sg,ru,eq,pr,ce,co]):=fun e=>(o2.ext.trans e) _ _ (o1.cell (i:=0) rfl)
 have hc3:∀ {h':H},Ext h2 h'→h' p3=some (.cells [.int .i64 0]):=fun e=>e _ _ (o2.cell (i:=0) rfl)
 have hbody:qZr Tryz.prog 52=true:=by kernel_rfl
 have bad:∀ (e:Int) (h3:H),Ext h2 h3→(∀ h',Ext h h'→k (.tuple #[.string (ByteArray.mk #[]),.int .i64 e]) h') →
   qQu Tryz.prog E (fun h=>ptrW (Pt p3) (fun ad26=>∃ x27:Int,rd h ad26=some (.int .i64 x27)∧k (.tuple #[(.string (ByteArray.mk #[])),(.int .i64 x27)]) h)) kp [clo 52 p3] (.panicking (chain e)) h3:=fun e h3 e2 hk =>
  qOl hbody ct (hc3 e2) fun h4 h5 h6=>⟨e,qWl h5 rfl,hk h4 (o1.ext.trans (xQz hp3 o2.ext e2 h6))⟩
 refine ldj (hcb (Ext.refl _)) rfl ?_
 refine cs _ _ _ _ _ (hsr.ext e02) (qQt _ _ e02 ht) fun h3 e3=>⟨_,rfl,?_⟩
 unfold qNx xJt at hk
 rw [qZl]
 refine ⟨fun hne=>?_,fun hc0=>?_⟩
 ·rw [if_pos hne] at hk
  rw [qQe]
  refine ⟨rfl,rfl,h3.set p3 (.cells [.int .i64 (qVe (toSy B.sig))]),?_,?_⟩
  ·simp only [wr1,hc3 e3]; rfl
  ·refine qDn hbody ct ?_
   rw [qQe]
   exact ⟨_,qWl qQf rfl,hk _ (o1.ext.trans ((o2.ext.trans e3).set hp3))⟩
 ·rw [if_neg (by simpa using hc0)] at hk
  refine ldj (hcb e3) rfl ?_
  have hsg3:Sr h3 sg (toSy B.sig):=hsr.ext (e02.trans e3)
  rw [hsg3.row.len,qXd,qXq]
  rw [qQk,qXx] at hk
  refine qQl s.must (fun h64=>⟨rfl,?_⟩) fun h64=>?_
  rotate_left
  ·have h64:=of_decide_eq_false h64
   exact bad 226 h3 e3 (hk.2 (by simp; omega))
  have h64:=of_decide_eq_true h64
  have hk:=hk.1 (by simp; omega)
  refine ldj (hcb e3) rfl ⟨qQy hsg3.row.isSl,by decide,?_⟩
  refine qSl (by kernel_rfl) ((Hp.nil_ h2).later e3) fun b h4 hb4 o4=>?_
  have P4:Pst h2 b sg [] [] h4:=⟨_,_,.inl rfl,o4⟩
  have ps:PSig h2 sg (toSy B.sig):=⟨hc0,hsr.ext e02,by rw [qXq]; omega,fun y hy=>xBa ((qCt hc0).2 y hy).1,qQt _ _ e02 ht⟩
  have hS:S2 (toSy B.sig)=B.sig:=qWq B.sig
  have hn33:=ps.n33'
  rw [hS] at hn33
  have hbk:bkC B=cst syC B.sig+cst ruC B.rules+cst ruC B.eqs+cst prC B.prec+cst ndC B.cert+cst cmC B.cmds:=rfl
  have rux:∀ {vs rules},Rel2 (RuI h) vs rules→Rel2 (RuI h2) vs rules:=fun r=>r.mono fun _ _ i=>i.ext e02
  refine ldj (hcb P4.ext) rfl ?_
  rw [((hsr.ext e02).ext P4.ext).row.len,qXd,qXq]
  rw [qQk] at hk
  refine xYq s c46 c74 ps (hsr.ext e02) P4 (by show 0+_<_; omega) (qXa (fun s1 hs1 hk h5 P5=>?_) (fun e hk h' e'=>?_) hk)
  rotate_left
  ·exact bad e h' e' hk
  have l1:=qVf (C:=syC) (fun x hx t ht=>xKg (hn33 x hx) ht) hs1
  show xs (X.e 0) _ _ _
  rw [xs_e]
  show cond true _ _
  rw [cond_true,nth0,nth1,nth2,nth3,qQb]
  rw [List.nil_append] at P5
  refine ldj (hcb P5.ext) rfl ?_
  rw [qQk] at hk
  refine sr b _ sg ru rus B.rules _ _ [] s1 h2 h5 _ _ ps ⟨hru.ext e02,rux hrur,n2,by omega⟩ (by decide) (by decide) P5 (by omega) ?_
  rw [hS]
  refine qXa (fun s2 hs2 hk l2 h6 P6=>⟨rfl,?_⟩) (fun e hk h' e'=>bad e h' e' hk) hk
  refine ldj (hcb P6.ext) rfl ?_
  rw [qQk] at hk
  refine sr b _ sg eq eqs B.eqs _ _ [] _ h2 h6 _ _ ps ⟨heq.ext e02,rux heqr,n3,by omega⟩ (by decide) (by decide) P6 (by rw [List.length_append]; omega) ?_
  rw [hS]
  refine qXa (fun s3 hs3 hk l3 h7 P7=>⟨rfl,?_⟩) (fun e hk h' e'=>bad e h' e' hk) hk
  refine ldj (hcb P7.ext) rfl ?_
  rw [((hpr.ext e02).ext P7.ext).len,List.length_map]
  rw [qQk] at hk
  refine qTs s ps (hpr.ext e02) hpi (by omega) P7 (by simp only [List.length_append]; omega) ?_
  unfold Rest
  rw [hS]
  refine qXa (fun s4 hs4 hk h8 P8=>?_) (fun e hk h' e'=>bad e h' e' hk) hk
  have l4:=qVf (C:=prC) (fun x hx t ht=>qFr hn33 (by decide) ht) hs4
  show xs (X.e 2) _ _ _
  rw [xs_e]
  show cond true _ _
  rw [cond_true,nth0,nth1,nth2,nth3,qQb]
  refine ldj (hcb P8.ext) rfl ?_
  rw [((hce.ext e02).ext P8.ext).len,hcer.len]
  rw [qQk] at hk
  refine xZw s sn ps (hce.ext e02) (hcer.mono fun _ _ i=>NdR.ext e02 i) (by omega) P8 (by simp only [List.length_append]; omega) ?_
  unfold Rest
  rw [hS]
  refine qXa (fun s5 hs5 hk h9 P9=>?_) (fun e hk h' e'=>bad e h' e' hk) hk
  have l5:=qVf (C:=ndC) (fun x hx t ht=>xPg hn33 (fun m s hs=>qEz hs) ht) hs5
  show xs (X.e 4) _ _ _
  rw [xs_e]
  show cond true _ _
  rw [cond_true,nth0,nth1,nth2,nth3,qQb]
  refine ldj (hcb P9.ext) rfl ?_
  rw [((hco.ext e02).ext P9.ext).len,hcor.len]
  rw [qQk] at hk
  refine xAo s sc ps (hco.ext e02) (hcor.mono fun _ _ i=>CmR.ext e02 i) (by omega) P9 (by simp only [List.length_append]; omega) ?_
  unfold Rest
  rw [hS]
  refine qXa (fun s6 hs6 hk h10 P10=>?_) (fun e hk h' e'=>bad e h' e' hk) hk
  have l6:=qVf (C:=cmC) (fun x hx t ht=>xXj hn33 ht) hs6
  show xs (X.e 6) _ _ _
  rw [xs_e]
  show cond true _ _
  rw [cond_true,nth0,nth1,nth2,qQb]
  obtain ⟨p,buf,P10⟩:=P10.shared
  rw [qQk,qXx] at hk
  generalize hall:s1++s2++s3++s4++s5++s6=text at hk P10
  have htl:text.length<2 ^ 37:=by
   rw [← hall]
   simp only [List.length_append]; omega
  refine ⟨rfl,xVj cl P10 ⟨_,rfl,?_⟩⟩
  have e10:=P10.ext
  rw [qQd]
  refine ⟨fun hle=>?_,fun hgt=>qQl s.must (fun hh=>by cases hh) fun _=>bad 220 h10 e10 (hk.2 (by simp; omega))⟩
  refine ⟨rfl,qNd sb P10 (by omega) fun h11 P11=>⟨_,rfl,?_⟩⟩
  refine sct _ 10 h11 _ _ ⟨_,rfl,?_⟩
  rw [qQv]
  refine qQl s.must (fun hlt=>⟨rfl,?_⟩) fun hge=>bad 220 h11 P11.ext (hk.2 (by
   have hge:=of_decide_eq_false hge
   simp; omega))
  have hlt:=of_decide_eq_true hlt
  have hk:=hk.1 (by simp; omega)
  unfold j20__31
  rw [qQb]
  refine ⟨rfl,qNd sb P11 (by omega) fun h12 P12=>⟨_,rfl,?_⟩⟩
  rw [qQe]
  have e12:=P12.ext
  refine ⟨rfl,rfl,h12.set p3 (.cells [.int .i64 0]),?_,?_⟩
  ·simp only [wr1,hc3 e12]; rfl
  ·refine qDn hbody ct ?_
   rw [qQe]
   exact ⟨_,qWl qQf rfl,hk _ (o1.ext.trans ((o2.ext.trans e12).set hp3))⟩
end Go.Proofs.YtkdneddcocggdaaGreatDoor.Am
