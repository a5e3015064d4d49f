/-
  Packed: The document's way: a text's lines, a line's words. The document's way: what stands in a line behind its word, and whether a line fits. The document's way: whether a line's words fit. A line is taken as the document takes it, word by word: plain. The document's way: a word of a line is read by its letter. The document's way: a line is taken into a book. The document's way: what a line says is put into a book. The document's way: a text is read as a book. What is printed of a book is read as that book: plain. What is read of a text is printed, no longer than the text: plain.
-/
import Derived.Test.YtkdneddcocggdaaGreatDoorPkI
import Derived.Test.YtkdneddcocggdaaGreatDoorPkH
set_option linter.unusedVariables false
set_option linter.unusedSimpArgs false
set_option linter.unnecessarySimpa false
namespace Go.Proofs.YtkdneddcocggdaaGreatDoor.Am
open Go Go.Proofs Go.RowKit Go.Lib Sys Sp
set_option maxRecDepth 100000
variable {D:Orc} {E:Dorc} {h h' h0:H} {k:Kv} {kp:Kp} {L R:List Res}
theorem xPv {s:Value} {vs:List Value} (r:Row h s vs) {i:Nat} {v:Value} (hc:vs[i]?=some v) {K:Addr→Prop} (hK:∀ ad,rd h ad=some v→K ad):qQk s (i:Int) 1 K:=by
 have hi:=(List.getElem?_eq_some_iff.mp hc).1
 refine r.at_ (by omega) (by omega) fun ad v' hc' h1=>?_
 rw [Int.toNat_natCast,hc] at hc'
 obtain rfl:=Option.some.inj hc'
 exact hK ad h1
end Go.Proofs.YtkdneddcocggdaaGreatDoor.Am
namespace Go.Proofs.Sp
open Go Go.Lib Sys
end Go.Proofs.Sp
namespace Go.Proofs.YtkdneddcocggdaaGreatDoor.Am
open Go Go.Proofs Go.RowKit Go.Lib Sys Sp
set_option maxRecDepth 100000
variable {D:Orc} {E:Dorc} {h h' h0 g:H} {k:Kv} {kp:Kp} {L R:List Res} {B:Bk} {V:BkV} {N:Nat}
theorem xZq {x:ByteArray} {y:ByteArray} {A B:Prop}:cond (x.toList==y.toList) A B↔(bts x=bts y→A)∧(bts x≠bts y→B):=by
 rw [qKw]
 by_cases h:bts x=bts y
 ·rw [beq_iff_eq.mpr h,cond_true]; simp [h]
 ·rw [beq_eq_false_iff_ne.mpr h,cond_false]; simp [h]
variable {D:Orc} {E:Dorc} {h h' h0 g:H} {k:Kv} {kp:Kp} {L R:List Res} {B:Bk} {V:BkV} {N:Nat}
end Go.Proofs.YtkdneddcocggdaaGreatDoor.Am
namespace Go.Proofs.Sp
open Go Go.Lib Sys
structure Ln where
 names:List Bs
 codes:List Int
 terms:List (List Int)
 nums:List Int
 coef:List Nat
def Ln.nil:Ln:=⟨[],[],[],[],[]⟩
structure Bd (B:Bk):Prop where
 s:B.sig.length≤64
 r:B.rules.length≤64
 e:B.eqs.length≤64
end Go.Proofs.Sp
namespace Go.Proofs.YtkdneddcocggdaaGreatDoor.Am
open Go Go.Proofs Go.RowKit Go.Lib Sys Sp
set_option maxRecDepth 100000
variable {D:Orc} {E:Dorc} {h h' h0 g g':H} {k:Kv} {kp:Kp} {L R:List Res} {B:Bk} {V:BkV} {N:Nat}
structure LnV where
 nm:Value
 cd:Value
 tm:Value
 nu:Value
 cf:Value
 tmr:List Value
structure LnI (m:Nat) (g:H) (X:LnV) (x:Ln):Prop where
 tm:Rel2 (Oz g) X.tmr x.terms
 cd:∀ c∈x.codes,inI c
 nu:∀ c∈x.nums,inI c
 cf:Nr g X.cf x.coef
 l1:x.names.length≤m
 l2:x.codes.length≤m
 l3:x.terms.length≤m
 l4:x.nums.length≤m
theorem LnI.ext {m:Nat} {X:LnV} {x:Ln} (I:LnI m g X x) (e:Ext g g'):LnI m g' X x:=⟨I.tm.mono fun _ _ o=>o.ext e,I.cd,I.nu,I.cf.ext e,I.l1,I.l2,I.l3,I.l4⟩
theorem LnI.up {m:Nat} {X:LnV} {x:Ln} (I:LnI m g X x):LnI (m+1) g X x:=⟨I.tm,I.cd,I.nu,I.cf,Nat.le_succ_of_le I.l1,Nat.le_succ_of_le I.l2,Nat.le_succ_of_le I.l3,Nat.le_succ_of_le I.l4⟩
theorem Hp.grow {q i j:Nat} {l vs:List Value} {s v z:Value} (o:Hp h0 h (qQj q l::L)) (hL:L[i]?=some (bufR s vs)) (hj:l[j]?=some s) (hv:one v=true) {bytes:Nat} (hb:bytes≤64) (hl:vs.length<2 ^ 40) {O U T:Prop} (hO:O) (hU:U) (hT:T) {K:H→Prop}
  (hK:∀ s' h',Hp h0 h' (qQj q (l.set j s')::L.set i (bufR s' (vs++[v])))→K h') :
  qQe (Pt q)=true∧ptrW (Pt q) (fun ad18=>∃ v19:Value,rd h (Addr.add ad18 j)=some v19∧O∧U∧qQz h 1 [v] (fun s20 h21=>qXf s20 (fun n22=>srcW h21 1 s20 (n22) (fun w23=>apW h21 1 bytes [z] v19 (n22) w23 (fun s24 h25=>qQe (Pt q)=true∧ptrW (Pt q) (fun ad26=>one s24=true∧T∧∃ h27,wr1 h25 (Addr.add ad26 j) s24=some h27∧K h27)))))):=by
 refine ⟨rfl,ldj (o.cell (i:=0) rfl) hj ?_⟩
 refine o.push (i:=i+1) (s:=s) (vs:=vs) (v:=v) (by simpa using hL) hb hl hv hO hU fun s' h' o'=>⟨rfl,?_⟩
 have o':Hp h0 h' (qQj q l::L.set i (bufR s' (vs++[v]))):=o'
 have hil:=(List.getElem?_eq_some_iff.mp hL).1
 have hrow:Row h' s' (vs++[v]):=o'.row (i:=i+1) (by simp [hil])
 exact o'.stj (i:=0) (j:=j) rfl (List.getElem?_eq_some_iff.mp hj).1 (qZd hrow) hT fun h2 o2=>hK s' h2 o2
end Go.Proofs.YtkdneddcocggdaaGreatDoor.Am
namespace Go.Proofs.Sp
open Go Go.Lib Sys
end Go.Proofs.Sp
namespace Go.Proofs.YtkdneddcocggdaaGreatDoor.Am
open Go Go.Proofs Go.RowKit Go.Lib Sys Sp
set_option maxRecDepth 100000
variable {D:Orc} {E:Dorc} {h h' h0 g g':H} {k:Kv} {kp:Kp} {L R:List Res} {B:Bk} {V:BkV} {N bp:Nat} {w:List Bs} {wv:Value}
variable {D:Orc} {E:Dorc} {h h' h0 g g':H} {k:Kv} {kp:Kp} {L R:List Res} {B:Bk} {V:BkV} {N bp:Nat} {w:List Bs} {wv:Value}
end Go.Proofs.YtkdneddcocggdaaGreatDoor.Am
namespace Go.Proofs.Sp
open Go Go.Lib Sys
theorem xPc {l:List Bs} {s a:Bs}:symI (l++[a]) s=match symI l s with
  | some c=>some c
  | none=>if a=s then some l.length else none:=by
 unfold symI
 rw [List.findIdx?_append]
 cases h:l.findIdx? (·==s) with
 | some c=>rfl
 | none =>
  by_cases ha:a=s
  ·simp [List.findIdx?_cons,ha]
  ·simp [List.findIdx?_cons,ha]
theorem SgOk.push {sig:Sg} (o:SgOk sig) {a:Bs} {n:Int} (h1:qWc a=true) (h2:symI (sig.map (·.1)) a=none) (h3:0≤n∧n≤8) (h4:sig.length+1≤64):SgOk (sig++[(a,n)]):=by
 refine ⟨fun x hx=>?_,fun c x hc=>?_,fun x hx=>?_,by rw [List.length_append]; exact h4⟩
 ·rcases List.mem_append.mp hx with hx | hx
  ·exact o.nm x hx
  ·rw [List.mem_singleton.mp hx]; exact h1
 ·rw [List.map_append]
  show symI (sig.map (·.1)++[a]) x.1=some c
  rw [xPc]
  by_cases hc2:c<sig.length
  ·rw [List.getElem?_append_left hc2] at hc
   rw [o.own c x hc]
  ·rw [List.getElem?_append_right (by omega)] at hc
   have hc0:c - sig.length=0:=by
    have:=(List.getElem?_eq_some_iff.mp hc).1
    simp at this; omega
   rw [hc0] at hc
   obtain rfl:(a,n)=x:=Option.some.inj hc
   rw [h2]
   show (if a=a then some (sig.map (·.1)).length else none)=some c
   rw [if_pos rfl,List.length_map]
   congr 1
   omega
 ·rcases List.mem_append.mp hx with hx | hx
  ·exact o.ar x hx
  ·rw [List.mem_singleton.mp hx]; exact h3
end Go.Proofs.Sp
namespace Go.Proofs.YtkdneddcocggdaaGreatDoor.Am
open Go Go.Proofs Go.RowKit Go.Lib Sys Sp
set_option maxRecDepth 100000
variable {D:Orc} {E:Dorc} {h h' h0 g g':H} {k:Kv} {kp:Kp} {L R:List Res} {B:Bk} {V:BkV} {N bp:Nat} {w:List Bs} {wv:Value}
end Go.Proofs.YtkdneddcocggdaaGreatDoor.Am
namespace Go.Proofs.Sp
open Go Go.Lib Sys Nats
structure Sz (s:Bs) (n c:Nat):Prop where
 len:s.length=n
 cnt:s.count 10=c
theorem Sz.app {s t:Bs} {n c m d:Nat} (h:Sz s n c) (g:Sz t m d):Sz (s++t) (n+m) (c+d):=⟨by rw [List.length_append,h.len,g.len],by rw [List.count_append,h.cnt,g.cnt]⟩
structure Pw (B:Bk) (n c:Nat) where
 s1:Bs
 s2:Bs
 s3:Bs
 s4:Bs
 s5:Bs
 s6:Bs
 h1:allM symW B.sig=.ok s1
 h2:allM (qEn B.sig qKs qJg) B.rules=.ok s2
 h3:allM (qEn B.sig wEq wIs) B.eqs=.ok s3
 h4:allM (qWm B.sig qZz false) B.prec=.ok s4
 h5:allM (qPk B.sig) B.cert=.ok s5
 h6:allM (cmdW B.sig) B.cmds=.ok s6
 len:s1.length+s2.length+s3.length+s4.length+s5.length+s6.length=n
 cnt:s1.count 10+s2.count 10+s3.count 10+s4.count 10+s5.count 10+s6.count 10=c
structure Ag (B:Bk) (p:Bool) (n c:Nat):Prop where
 sg:SgOk B.sig
 bare:p=false→B={ Bk.nil with sig:=B.sig }
 rules:B.rules.length≤64
 eqs:B.eqs.length≤64
 pw:Nonempty (Pw B n c)
end Go.Proofs.Sp
