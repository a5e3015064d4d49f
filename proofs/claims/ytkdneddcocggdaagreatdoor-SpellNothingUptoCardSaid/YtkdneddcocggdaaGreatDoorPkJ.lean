/-
  Packed: The laws on terms: what is read, what is shown, and one behind the other. The law: a text is read as the book that it is; what was read may be spoiled, and is read again. The laws: what is read is written and read again; what is written is read. The document's way: bytes of either kind of row; a term is written behind them. The document's way: a printer, and what it writes. The document's way: rules, a node, a command are written. The document's way: a node, a command are written. The document's way: a command, a book is written. The document's way: a book is written. The document's way: Print; the law: every book is written as the document says. The law: lines that say nothing, and more blanks, change nothing. From a function's reading to the given statement: the old memory is read only; what was handed in reads as it did. What every law's end needs: the arguments read behind the call as they did; slices of integers are rows of the handed memory; the world of the witness. Arguments that are handed in: rows of numbers, signatures. Books that are handed in.
-/
import Derived.Test.YtkdneddcocggdaaGreatDoorPkI
import Derived.Test.YtkdneddcocggdaaGreatDoorAmFnsL
import Derived.Test.YtkdneddcocggdaaGreatDoorPkK
import Derived.Test.YtkdneddcocggdaaGreatDoorPkH
import Derived.Test.YtkdneddcocggdaaGreatDoorPkC
import Derived.Test.YtkdneddcocggdaaGreatDoorPkB
import Derived.Carry
import Derived.ChangeSame
import Derived.Below
import Derived.Test.YtkdneddcocggdaaGreatDoorRows
import Derived.Test.YtkdneddcocggdaaGreatDoorCards
import Derived.Test.YtkdneddcocggdaaGreatDoorTie
import Derived.WalkKit
import Derived.ProofKit
import Derived.OpenShut
import Derived.ChangeSlices
import Derived.ChangeMaps5
import Derived.Deep.DeepHandedRow
import Derived.Lib.LaidTab
import Derived.Lib.LaidIn
import Derived.Test.YtkdneddcocggdaaGreatDoorPkS
import Derived.Deep.SlicePairs
import Derived.Lib.SmallJoins
import Derived.Lib.LaidU8
set_option linter.unusedVariables false
set_option linter.unusedSimpArgs false
set_option linter.unnecessarySimpa false
namespace Go.Proofs.YtkdneddcocggdaaGreatDoor.Am
open Go Go.Proofs Go.RowKit Go.Lib Sys Sp
set_option maxRecDepth 100000
variable {D:Orc} {h h' h0:H} {k:Kv} {kp:Kp}
structure SpecsT (D:Orc):Prop where
 shown:qVx D 11 Tbl
 term:qUn D 12 Tbl
 xZd:qUn D 13 Tbl
 show_:qKq D 15 Tbl
 xJb:qKq D 16 Tbl
 row:qWt D 14
 chk:qUp D 22 Tbl
variable {D:Orc} {E:Dorc} {h h' h0 g:H} {k:Kv} {kp:Kp} {L R:List Res} {B:Bk} {V:BkV} {N:Nat}
structure SpecsQ (D:Orc):Prop where
 shown:qVx D 11 Tbl
 parse:qJr D 17 Tbl
 parseR:qJr D 18 Tbl
 same:qJp D 19
theorem new6 {vs ws:List Value} (hl:ws.length=vs.length) (hv:vs.all one=true) {T:Prop} (hT:T) (h6:vs.length=6) {K:Value→H→Prop} (hK:∀ p h',Hp h h' [qQn p vs]→K (Pt p) h') :
  newW h ws (fun p h1=>ptrW p (fun ad=>T∧List.all vs one=true∧∃ h2,Am.wr h1 ad vs=some h2∧K p h2)) :=
 (Hp.nil_ h).new_ fun p h1 hp o1=>o1.st6 (i:=0) rfl hl hv hT fun h2 o2=>hK p h2 o2
variable {D:Orc} {E:Dorc} {h h' h0 g:H} {k:Kv} {kp:Kp} {L R:List Res} {B:Bk} {V:BkV} {N:Nat}
structure SpecsB (D:Orc):Prop where
 shown:qVx D 11 Tbl
 parse:qAe D 17 Tbl
 print:qUo D 20 Tbl
 same:qJp D 19
 lines:qHb D 23
theorem xJw {t:Bs} {y:Nat × Int} (h:qWe t=.error y):y.2≠0∧y.1≤t.count 10+1:=by
 unfold qWe at h
 split at h
 ·cases h; exact ⟨by decide,Nat.zero_le _⟩
 ·split at h
  ·cases h; exact ⟨by decide,Nat.zero_le _⟩
  ·obtain ⟨h1,h2⟩:=qGa h
   rw [qOz] at h2
   exact ⟨h1,by omega⟩
theorem xDa {c:List Value} (b:BkA h c B):∃ sg ru eq pr ce co,c=[sg,ru,eq,pr,ce,co]∧[sg,ru,eq,pr,ce,co].all one=true:=by
 obtain ⟨sg,ru,eq,pr,ce,co,q1,q2,q3,q4,rfl,a1,a2,a3,a4,a5,a6,a7,a8,a9,a10,a11⟩:=b.sl
 refine ⟨sg,ru,eq,pr,ce,co,rfl,?_⟩
 simp only [List.all_cons,List.all_nil,qQy a1.row.isSl,qQy a2.isSl,qQy a4.isSl,qQy a6.isSl,qQy a8.isSl,qQy a10.isSl]
 rfl
variable {D:Orc} {E:Dorc} {h h' h0:H} {k:Kv} {kp:Kp} {L R:List Res} {bv:Value} {l:Bs} {ty:Bool}
def rowB (ty:Bool) (s:Value) (l:Bs):Res:=bif ty then bytR s l else bufR s (U8 l)
end Go.Proofs.YtkdneddcocggdaaGreatDoor.Am
namespace Go.Proofs.Sp
open Go Go.Lib Sys
def plus (s x:Except Int Bs):Except Int Bs:=s >>= fun a=>x >>= fun b=>.ok (a++b)
def failM (bad:Bool) (e:Int):Except Int Bs:=must (!bad) e >>= fun _=>.ok []
def sp32 (x:Except Int Bs):Except Int Bs:=x >>= fun d=>.ok (32::d)
theorem xKs {s:Except Int Bs}:plus s (.ok [])=s:=by
 cases s with
 | error e=>rfl
 | ok a=>show Except.ok (a++[])=_; rw [List.append_nil]
end Go.Proofs.Sp
namespace Go.Proofs.YtkdneddcocggdaaGreatDoor.Am
open Go Go.Proofs Go.RowKit Go.Lib Sys Sp
set_option maxRecDepth 100000
variable {D:Orc} {E:Dorc} {h h' h0:H} {k:Kv} {kp:Kp} {L R:List Res} {bv sg:Value} {l:Bs} {ty:Bool} {p m:Nat} {s:Except Int Bs} {e:Int}
def OKP (ty:Bool) (bv:Value) (l:Bs):Prop:=ty=true∨(ty=false∧NN bv∧l≠[])
def PqS (s:Except Int Bs) (e:Int) (l:Bs):Prop:=match s with
 | .ok a=>e=0∧l=a
 | .error e'=>e=e'∧e'≠0
def pqL (p:Nat) (sg:Value) (ty:Bool) (bv:Value) (l:Bs) (e:Int) (R:List Res):List Res:=qQn p [sg,bv,.int .i64 e]::rowB ty bv l::R
def Pq (h0:H) (p:Nat) (sg:Value) (R:List Res) (m:Nat) (s:Except Int Bs) (h:H):Prop:=∃ ty bv l e,Hp h0 h (pqL p sg ty bv l e R)∧OKP ty bv l∧l.length≤m∧PqS s e l
theorem Pq.ext (o:Pq h0 p sg R m s h):Ext h0 h:=by obtain ⟨_,_,_,_,o,_⟩:=o; exact o.ext
theorem Pq.later (o:Pq h0 p sg R m s h) (e:Ext h h'):Pq h0 p sg R m s h':=by obtain ⟨a,b,c,d,o,q⟩:=o; exact ⟨a,b,c,d,o.later e,q⟩
theorem Pq.more {m':Nat} (o:Pq h0 p sg R m s h) (hm:m≤m'):Pq h0 p sg R m' s h:=by obtain ⟨a,b,c,d,o,q,r,t⟩:=o; exact ⟨a,b,c,d,o,q,Nat.le_trans r hm,t⟩
def xEt (D:Orc) (f:Nat):Prop:=∀ (p:Nat) (sg:Value) (R:List Res) (m:Nat) (s:Except Int Bs) (bad:Bool) (e:Int) h0 h (k:Kv) kp,(bad=true→e≠0)→Pq h0 p sg R m s h→(∀ h',Pq h0 p sg R m (plus s (failM bad e)) h'→k (.tuple #[]) h')→D f [Pt p,.bool bad,.int .i64 e] h k kp
def xEn (D:Orc) (f:Nat):Prop:=∀ (p:Nat) (sg:Value) (R:List Res) (m:Nat) (s:Except Int Bs) (first:Bool) (w:ByteArray) h0 h (k:Kv) kp,m+w.size+1<2 ^ 39→Pq h0 p sg R m s h→(∀ h',Pq h0 p sg R (m+w.size+1) (plus s (.ok ((if first then [] else [32])++bts w))) h'→k (.tuple #[]) h')→D f [Pt p,.bool first,.string w] h k kp
def xCj (D:Orc) (f:Nat):Prop:=∀ (p:Nat) (sg:Value) (R:List Res) (m:Nat) (s:Except Int Bs) h0 h (k:Kv) kp,m+1<2 ^ 39→Pq h0 p sg R m s h→(∀ h',Pq h0 p sg R (m+1) (plus s (.ok [10])) h'→k (.tuple #[]) h')→D f [Pt p] h k kp
def xCi (D:Orc) (f:Nat):Prop:=∀ (p:Nat) (sg:Value) (R:List Res) (m:Nat) (s:Except Int Bs) (x:Int) h0 h (k:Kv) kp,inI x→m+22<2 ^ 39→Pq h0 p sg R m s h→(∀ h',Pq h0 p sg R (m+22) (plus s (sp32 (numM x))) h'→k (.tuple #[]) h')→D f [Pt p,.int .i64 x] h k kp
def xEu (D:Orc) (f:Nat):Prop:=∀ (p:Nat) (sg:Value) (sig:List Sy) (R:List Res) (m:Nat) (s:Except Int Bs) (x:Int) (marked:Bool) h0 h (k:Kv) kp,PSig h0 sg sig→inI x→m+36<2 ^ 39→Pq h0 p sg R m s h→(∀ h',Pq h0 p sg R (m+36) (plus s (sp32 (qLj (S2 sig) x marked))) h'→k (.tuple #[]) h')→D f [Pt p,.int .i64 x,.bool marked] h k kp
def xEp (D:Orc) (f:Nat):Prop:=∀ (p:Nat) (sg:Value) (sig:List Sy) (R:List Res) (m:Nat) (s:Except Int Bs) (tv:Value) (u:List Int) h0 h (k:Kv) kp,PSig h0 sg sig→Ir h0 tv u→u.length<2 ^ 40→m+50*u.length+2<2 ^ 38→Pq h0 p sg R m s h→(∀ h',Pq h0 p sg R (m+50*u.length+1) (plus s (sp32 (qJv (S2 sig) u))) h'→k (.tuple #[]) h')→D f [Pt p,tv] h k kp
end Go.Proofs.YtkdneddcocggdaaGreatDoor.Am
namespace Go.Proofs.Sp
open Go Go.Lib Sys
theorem qJc {α:Type} {f:α→Except Int Bs} {s:Except Int Bs}:plus s (allM f [])=s:=xKs
end Go.Proofs.Sp
namespace Go.Proofs.YtkdneddcocggdaaGreatDoor.Am
open Go Go.Proofs Go.RowKit Go.Lib Sys Sp
set_option maxRecDepth 100000
variable {D:Orc} {E:Dorc} {h h' h0:H} {k:Kv} {kp:Kp} {L R:List Res} {bv sg:Value} {l:Bs} {ty:Bool} {p m:Nat} {s:Except Int Bs} {e:Int}
structure SpecsPr (D:Orc):Prop where
 fail:xEt D 60
 word:xEn D 62
 end_:xCj D 64
 num:xCi D 63
 code:xEu D 66
 term:xEp D 106
theorem Pq.new_ {ws:List Value} (o:Pq h0 p sg R m s h) {K:Value→H→Prop} (hK:∀ b h',Pq h0 p sg (qQn b ws::R) m s h'→K (Pt b) h'):newW h ws K:=by
 obtain ⟨ty,bv,l,e,o,q⟩:=o
 exact o.new_ fun b h' hb o'=>hK b h' ⟨ty,bv,l,e,o'.perm (List.perm_middle (l₁:=[_,_])),q⟩
theorem Pq.cell {b:Nat} {ws:List Value} (o:Pq h0 p sg (qQn b ws::R) m s h):h b=some (.cells ws):=by
 obtain ⟨ty,bv,l,e,o,q⟩:=o
 exact o.cell (i:=2) rfl
end Go.Proofs.YtkdneddcocggdaaGreatDoor.Am
namespace Go.Proofs.Sp
open Go Go.Lib Sys Nats
end Go.Proofs.Sp
namespace Go.Proofs.YtkdneddcocggdaaGreatDoor.Am
open Go Go.Proofs Go.RowKit Go.Lib Sys Sp
set_option maxRecDepth 100000
variable {D:Orc} {E:Dorc} {h h' h0:H} {k:Kv} {kp:Kp} {L R:List Res} {bv sg:Value} {l:Bs} {ty:Bool} {p m:Nat} {s:Except Int Bs} {e:Int}
end Go.Proofs.YtkdneddcocggdaaGreatDoor.Am
namespace Go.Proofs.Sp
open Go Go.Lib Sys Nats
end Go.Proofs.Sp
namespace Go.Proofs.YtkdneddcocggdaaGreatDoor.Am
open Go Go.Proofs Go.RowKit Go.Lib Sys Sp
set_option maxRecDepth 100000
variable {D:Orc} {E:Dorc} {h h' h0:H} {k:Kv} {kp:Kp} {L R:List Res} {bv sg:Value} {l:Bs} {ty:Bool} {p m:Nat} {s:Except Int Bs} {e:Int}
end Go.Proofs.YtkdneddcocggdaaGreatDoor.Am
namespace Go.Proofs.Sp
open Go Go.Lib Sys Nats
end Go.Proofs.Sp
namespace Go.Proofs.YtkdneddcocggdaaGreatDoor.Am
open Go Go.Proofs Go.RowKit Go.Lib Sys Sp
set_option maxRecDepth 100000
variable {D:Orc} {E:Dorc} {h h' h0:H} {k:Kv} {kp:Kp} {L R:List Res} {bv sg:Value} {l:Bs} {ty:Bool} {p m:Nat} {s:Except Int Bs} {e:Int}
variable {D:Orc} {E:Dorc} {h h' h0:H} {k:Kv} {kp:Kp} {L R:List Res} {bv sg:Value} {l:Bs} {ty:Bool} {p m:Nat} {s:Except Int Bs} {e:Int}
def xWq (D:Orc) (f:Nat) (T:H→Prop):Prop:=∀ (c:List Value) (B:Bk) h (k:Kv) kp,BkA h c B→cst (fun x:Cm=>x.word.length) B.cmds<2 ^ 36→T h →
 Out (qNx B) (fun s=>∀ h',Ext h h'→k (.tuple #[.string (strB s),.int .i64 0]) h') (fun e=>∀ h',Ext h h'→k (.tuple #[.string (ByteArray.mk #[]),.int .i64 e]) h')→D f [.agg c.toArray] h k kp
structure SpecsW (D:Orc):Prop where
 shown:qVx D 11 Tbl
 print:qUo D 20 Tbl
 printR:xWq D 21 Tbl
variable {D:Orc} {E:Dorc} {h h' h0 g:H} {k:Kv} {kp:Kp} {L R:List Res} {s:Value} {l:Bs}
def Lng (h0 h:H) (s:Value) (l:Bs):Prop :=
 (∃ b,s=.slice (some ⟨b,0,none⟩) 1 1∧Ext h0 h∧h b=some (.ro [.int .u8 35])∧l=[35])∨(NN s∧Hp h0 h [bufR s (U8 l)])
theorem Lng.ext (o:Lng h0 h s l):Ext h0 h:=by
 rcases o with ⟨b,_,e,_⟩ | ⟨_,o⟩
 ·exact e
 ·exact o.ext
theorem Lng.row (o:Lng h0 h s l):Row h s (U8 l):=by
 rcases o with ⟨b,rfl,e,hb,rfl⟩ | ⟨_,o⟩
 ·exact ⟨some ⟨b,0,none⟩,1,rfl,Nat.le_refl _,.inr ⟨_,rfl,rfl,[.int .u8 35],by rw [hb]; rfl,by simp,rfl⟩⟩
 ·exact o.row (i:=0) rfl
theorem Lng.later (o:Lng h0 h s l) (e:Ext h h'):Lng h0 h' s l:=by
 rcases o with ⟨b,rfl,e0,hb,rfl⟩ | ⟨n,o⟩
 ·exact .inl ⟨b,rfl,e0.trans e,e b _ hb,rfl⟩
 ·exact .inr ⟨n,o.later e⟩
theorem Lng.app (o:Lng h0 h s l) {str:Bool} {e:TypeId} {m:Bs} (hm:m≠[]) (hl:l.length+m.length<2 ^ 39) {K:Value→H→Prop} (hK:∀ s' h',Lng h0 h' s' (l++m)→K s' h'):Am.apX str e h 1 [.int .u8 0] s m.length (U8 m) K:=by
 rcases o with ⟨b,rfl,e0,hb,rfl⟩ | ⟨n,o⟩
 ·have hml:0<m.length:=List.length_pos_iff.mpr hm
  have ht:qMf str e h (.slice (some ⟨b,0,none⟩) 1 1)=false:=by
   unfold qMf
   simp only [hb]
  unfold Am.apX
  rw [ht]
  refine ⟨fun hle=>by omega,fun _=>?_⟩
  have h1:=nextslicecap_le (show 1<1+m.length by omega)
  have hmax:IntKind.i64.max=9223372036854775807:=by decide
  rw [List.length_singleton] at hl
  refine ⟨by omega,by rw [hmax]; omega,[.int .u8 35],?_,fun b' c hb' hc=>?_⟩
  ·show rdR h ⟨b,0,none⟩ 1=_
   simp only [rdR,rdN,hb,qZm,Option.bind_some]
   rfl
  ·have e1:Ext h (h.set b' (.cells ([.int .u8 35]++(U8 m++(List.replicate (c - (1+m.length)) [Value.int .u8 0]).flatten)))):=Ext.new hb'
   have hlen:([Value.int .u8 35]++(U8 m++(List.replicate (c - (1+m.length)) [Value.int .u8 0]).flatten)).length=c:=by
    simp [qXz,qGh]; omega
   have r:Buf noH (h.set b' (.cells ([.int .u8 35]++(U8 m++(List.replicate (c - (1+m.length)) [Value.int .u8 0]).flatten)))) (.slice (some ⟨b',0,none⟩) (1+m.length) c) (U8 (35::m)):=by
    refine .inr ⟨b',0,c,_,rfl,?_,qQf,?_,by rw [hlen]; omega,?_⟩
    ·rw [qXz,List.length_cons,Nat.add_comm]
    ·rw [qXz,List.length_cons]; omega
    ·rw [List.drop_zero,← List.append_assoc]
     exact List.take_left' rfl
   refine hK _ _ (.inr ⟨⟨_,_,_,rfl⟩,?_⟩)
   exact ((Hp.nil_ h).add_buf e1 (r.of_new fun d hd=>by
    rw [qXb (by omega)] at hd
    cases hd; exact hb')).base e0
 ·refine (o.buf (i:=0) rfl).apX (.inr n) ?_
  have hU:m.length=(U8 m).length:=(qXz m).symm
  rw [hU]
  refine o.app (i:=0) (s:=s) (vs:=U8 l) (ws:=U8 m) (bytes:=1) rfl (xDc m) (by decide) (by rw [qXz,qXz]; omega) fun s' h5 o5=>?_
  have o5:Hp h0 h5 [bufR s' (U8 l++U8 m)]:=o5
  rw [xXq] at o5
  exact hK s' h5 (.inr ⟨nn_of (o5.buf (i:=0) rfl) (U8_ne (by simp [hm])),o5⟩)
theorem Lng.bytes (o:Lng h0 h s l) {e:TypeId} {n:Nat} {vs:List Value} (m:Bs) (hvs:vs=U8 m) (hn:m.length=n) (hm:m≠[]) (hl:l.length+n<2 ^ 39) {K:Value→H→Prop} (hK:∀ s' h',Lng h0 h' s' (l++m)→K s' h') :
  qQz h n vs fun s2 h2=>qXi s2 fun n2=>srcW h2 1 s2 n2 fun w=>Am.apX false e h2 1 [.int .u8 0] s n2 w K:=by
 subst hvs hn
 intro b hb
 rw [qVu]
 have hrow:Row (h.set b (.cells (U8 m))) (.slice (some ⟨b,0,none⟩) m.length m.length) (U8 m):=Row.cells qQf (qXz m)
 refine hrow.src (by rw [qXz]; exact Nat.le_refl _) ?_
 rw [List.take_of_length_le (by rw [qXz]; exact Nat.le_refl _)]
 exact (o.later (Ext.new hb)).app hm (by omega) hK
theorem xKi {s:ByteArray} {K:List Value→Prop} (hK:K (U8 (bts s))):srcW h 1 (.string s) s.size K:=by
 show K _
 have:(s.extract 0 s.size).data.toList=bts s:=by
  have:=qYg s 0 s.size
  rw [List.drop_zero,List.take_of_length_le (by rw [qQq]; exact Nat.le_refl _)] at this
  exact this
 rw [this]; exact hK
theorem Lng.str (o:Lng h0 h s l) {e:TypeId} {x:ByteArray} {n:Nat} (hn:x.size=n) (hm:bts x≠[]) (hl:l.length+n<2 ^ 39) {K:Value→H→Prop} (hK:∀ s' h',Lng h0 h' s' (l++bts x)→K s' h') :
  srcW h 1 (.string x) n fun w=>Am.apX true e h 1 [.int .u8 0] s n w K:=by
 subst hn
 refine xKi ?_
 exact o.app (m:=bts x) hm hl hK
def qFx (t:Bs):Bs:=t.filter fun c=>c != 10 && decide (c.toNat<128)
theorem qTk {b c:UInt8}:((b.toNat:Int)=(c.toNat:Int))↔b=c:=⟨fun h=>UInt8.toNat_inj.mp (by omega),fun h=>by rw [h]⟩
theorem xQb {t:Bs} {i:Nat} {b:UInt8} (hb:t[i]?=some b):t.take (i+1)=t.take i++[b]:=by
 rw [List.take_add_one,hb]; rfl
theorem xPf {x y:ByteArray} (hy:y.size<2 ^ 38) (o:Lng h0 h s [35]) {K:Kl} (hK:∀ s' h',Lng h0 h' s' (35::qFx ((bts y).take 65537))→K (.e 0) [.string x,.bool true,s'] h') :
  loop10_6 D [.string x,.string y,.bool true,s,.int .i64 0] h K:=by
 intro I hI
 have hbl:(bts y).length=y.size:=rfl
 have key:∀ m i:Nat,i+m=min y.size 65537→∀ s' h',Lng h0 h' s' (35::qFx ((bts y).take i))→I [.string x,.string y,.bool true,s',.int .i64 (i:Int)] h':=by
  intro m
  induction m with
  | zero =>
   intro i him s' h' o'
   refine hI _ _ _ _ _ _ ?_
   unfold round10_6
   rw [qQb,qQb,qQc,qQa,qQd]
   have done:(bts y).take i=(bts y).take 65537:=by
    by_cases hle:y.size≤65537
    ·rw [List.take_of_length_le (by omega),List.take_of_length_le (by omega)]
    ·rw [show i=65537 by omega]
   rw [done] at o'
   refine ⟨fun hlt=>?_,fun _=>hK s' h' o'⟩
   rw [qQd]
   exact ⟨fun hle=>by omega,fun _=>hK s' h' o'⟩
  | succ m ih =>
   intro i him s' h' o'
   refine hI _ _ _ _ _ _ ?_
   unfold round10_6
   rw [qQb,qQb,qQc,qQa,qQd]
   refine ⟨fun _=>?_,fun hge=>by omega⟩
   rw [qQd]
   refine ⟨fun _=>?_,fun hge=>by omega⟩
   refine qXk (by omega) (by omega) fun b hb=>?_
   rw [Int.toNat_natCast] at hb
   have step:qFx ((bts y).take (i+1))=qFx ((bts y).take i)++(if b≠10∧b.toNat<128 then [b] else []):=by
    rw [xQb hb]
    unfold qFx
    rw [List.filter_append]
    by_cases h1:b≠10∧b.toNat<128
    ·rw [if_pos h1,List.filter_cons_of_pos (by simp [h1.1,h1.2])]; rfl
    ·rw [if_neg h1,List.filter_cons_of_neg (by simpa using h1)]; rfl
   have skip:¬ (b≠10∧b.toNat<128)→∀ t:Bool,t=false→j10_6_9 D I K (.string x) (.string y) (.bool true) s' (.int .i64 (i:Int)) (.bool t) h':=fun hno t ht=>by
    subst ht
    unfold j10_6_9
    rw [qQb,qQb,qQc,qQa,qQc,cond_false]
    unfold j10_6_7
    rw [qQb,qQb,qQc,qQa,qQr (by omega) (by omega),show (i:Int)+1=((i+1:Nat):Int) by omega]
    refine ih (i+1) (by omega) s' h' ?_
    rw [step,if_neg hno,List.append_nil]; exact o'
   rw [qZl]
   have h10:((b.toNat:Int)=10)↔b=10:=qTk (c:=10)
   refine ⟨fun hne=>?_,fun he=>skip (fun hh=>hh.1 (h10.mp he)) _ rfl⟩
   refine qXk (by omega) (by omega) fun b2 hb2=>?_
   rw [Int.toNat_natCast,hb] at hb2
   obtain rfl:=Option.some.inj hb2
   by_cases hlt:b.toNat<128
   ·rw [decide_eq_true (by omega)]
    unfold j10_6_9
    rw [qQb,qQb,qQc,qQa,qQc,cond_true]
    refine qXk (by omega) (by omega) fun b3 hb3=>⟨rfl,by decide,?_⟩
    rw [Int.toNat_natCast,hb] at hb3
    obtain rfl:=Option.some.inj hb3
    refine o'.bytes (n:=1) [b] rfl rfl (by simp) ?_ fun s2 h2 o2=>?_
    ·have:(qFx ((bts y).take i)).length≤((bts y).take i).length:=List.length_filter_le _ _
     rw [List.length_take] at this
     rw [List.length_cons]; omega
    ·unfold j10_6_7
     rw [qQb,qQb,qQc,qQa,qQr (by omega) (by omega),show (i:Int)+1=((i+1:Nat):Int) by omega]
     refine ih (i+1) (by omega) s2 h2 ?_
     rw [step,if_pos ⟨fun e=>hne (h10.mpr e),hlt⟩]
     exact o2
   ·rw [decide_eq_false (by omega)]
    exact skip (fun hh=>hlt hh.2) _ rfl
 exact key (min y.size 65537) 0 (by omega) s h o
theorem xEf (t:Bs):(blow t).length≤3*t.length:=by
 induction t with
 | nil=>exact Nat.le_refl _
 | cons c t ih =>
  show (qYk c++blow t).length≤_
  rw [List.length_append,List.length_cons]
  have:(qYk c).length≤3:=by unfold qYk; split <;> simp
  omega
theorem xEe {x:ByteArray} (hx:x.size<2 ^ 38) (o:Lng h0 h s l) (hl:l.length<2 ^ 38) {K:Kl} (hK:∀ s' h',Lng h0 h' s' (l++blow ((bts x).take 65537))→K (.e 2) [.string x,.bool true,s'] h') :
  loop10_12 D [.string x,.bool true,s,.int .i64 0] h K:=by
 intro I hI
 have hbl:(bts x).length=x.size:=rfl
 have key:∀ m i:Nat,i+m=min x.size 65537→∀ s' h',Lng h0 h' s' (l++blow ((bts x).take i))→I [.string x,.bool true,s',.int .i64 (i:Int)] h':=by
  intro m
  induction m with
  | zero =>
   intro i him s' h' o'
   refine hI _ _ _ _ _ ?_
   unfold round10_12
   rw [qQb,qQc,qQa,qQd]
   have done:(bts x).take i=(bts x).take 65537:=by
    by_cases hle:x.size≤65537
    ·rw [List.take_of_length_le (by omega),List.take_of_length_le (by omega)]
    ·rw [show i=65537 by omega]
   rw [done] at o'
   refine ⟨fun hlt=>?_,fun _=>hK s' h' o'⟩
   rw [qQd]
   exact ⟨fun hle=>by omega,fun _=>hK s' h' o'⟩
  | succ m ih =>
   intro i him s' h' o'
   refine hI _ _ _ _ _ ?_
   unfold round10_12
   rw [qQb,qQc,qQa,qQd]
   refine ⟨fun _=>?_,fun hge=>by omega⟩
   rw [qQd]
   refine ⟨fun _=>?_,fun hge=>by omega⟩
   refine qXk (by omega) (by omega) fun b hb=>?_
   rw [Int.toNat_natCast] at hb
   have step:l++blow ((bts x).take (i+1))=(l++blow ((bts x).take i))++qYk b:=by
    rw [xQb hb,qMd,List.append_assoc]
    show l++(_++(qYk b++[]))=_
    rw [List.append_nil]
   have hlen:(l++blow ((bts x).take i)).length+3<2 ^ 39:=by
    have h1:=xEf ((bts x).take i)
    rw [List.length_take] at h1
    rw [List.length_append]; omega
   have next:∀ s2 h2,Lng h0 h2 s2 ((l++blow ((bts x).take i))++qYk b)→j10_12_13 D I K (.string x) (.bool true) s2 (.int .i64 (i:Int)) h2:=fun s2 h2 o2=>by
    unfold j10_12_13
    rw [qQb,qQc,qQa,qQr (by omega) (by omega),show (i:Int)+1=((i+1:Nat):Int) by omega]
    refine ih (i+1) (by omega) s2 h2 ?_
    rw [step]; exact o2
   have wide:(b=32∨b=10)→j10_12_15 D I K (.string x) (.bool true) s' (.int .i64 (i:Int)) (.bool true) h':=fun hw=>by
    unfold j10_12_15
    rw [qQb,qQc,qQa,qQc,cond_true]
    refine qXk (by omega) (by omega) fun b3 hb3=>⟨rfl,by decide,rfl,by decide,rfl,by decide,?_⟩
    rw [Int.toNat_natCast,hb] at hb3
    obtain rfl:=Option.some.inj hb3
    refine o'.bytes [32,b,32] rfl rfl (by simp) hlen fun s2 h2 o2=>next s2 h2 ?_
    unfold qYk
    rw [if_pos hw]; exact o2
   rw [qQx,qZf]
   have h32:((b.toNat:Int)=32)↔b=32:=qTk (c:=32)
   have h10:((b.toNat:Int)=10)↔b=10:=qTk (c:=10)
   refine ⟨fun he=>wide (.inl (h32.mp he)),fun hne=>?_⟩
   refine qXk (by omega) (by omega) fun b2 hb2=>?_
   rw [Int.toNat_natCast,hb] at hb2
   obtain rfl:=Option.some.inj hb2
   by_cases he:b=10
   ·rw [show ((b.toNat:Int)==10)=true from beq_iff_eq.mpr (h10.mpr he)]
    exact wide (.inr he)
   ·rw [show ((b.toNat:Int)==10)=false from beq_eq_false_iff_ne.mpr fun e=>he (h10.mp e)]
    unfold j10_12_15
    rw [qQb,qQc,qQa,qQc,cond_false]
    refine qXk (by omega) (by omega) fun b3 hb3=>⟨rfl,by decide,?_⟩
    rw [Int.toNat_natCast,hb] at hb3
    obtain rfl:=Option.some.inj hb3
    refine o'.bytes (n:=1) [b] rfl rfl (by simp) (by omega) fun s2 h2 o2=>next s2 h2 ?_
    unfold qYk
    rw [if_neg fun hh=>hh.elim (fun e=>hne (h32.mpr e)) he]; exact o2
 refine key (min x.size 65537) 0 (by omega) s h ?_
 show Lng h0 h s (l++[])
 rw [List.append_nil]; exact o
theorem qSj {N t:Bs} (hN:∀ b∈N,b≠10∧b.toNat<128) (h1:(qPb N t).length≤65536) (h2:(qPb N t).count 10+1≤4096) :
  qWe (qPb N t)=match qWe t with
   | .ok y=>.ok y
   | .error y=>.error (if y.1=0 then 0 else y.1+2,y.2):=by
 have a1:=xQs (N:=N) (t:=t)
 have a2:=qIe (N:=N) (t:=t)
 have a3:=xVe (N:=N) (t:=t) fun b hb=>(hN b hb).2
 have a4:=xVf (N:=N) (t:=t) fun b hb=>(hN b hb).1
 unfold qWe
 rw [if_neg (by omega),if_neg (c:=t.length>65536∨_) (by omega),a3]
 split
 ·rfl
 ·rw [a4]
  unfold xJc
  cases hc:qXo Bk.nil false 0 (qXl 10 t) with
  | ok y=>rfl
  | error y =>
   have:=qFz hc
   show Except.error _=Except.error _
   rw [if_neg (by omega)]
theorem xVm (c:Cl10 D) (s:SpecsB D) {x y:ByteArray} (hx:x.size<2 ^ 38) (hy:y.size<2 ^ 38) (ht:Tbl h) (hk:∀ h',Ext h h'→k (.bool true) h'):D 10 [.string x,.string y] h k kp:=by
 refine c _ _ _ _ _ ?_
 unfold F10
 rw [qQb,qQb]
 refine s.shown h _ _ ht fun h1 e1=>⟨_,rfl,?_⟩
 show cond false _ _
 rw [cond_false]
 have t1:=qQt _ _ e1 ht
 refine ⟨rfl,by decide,fun b hb=>?_⟩
 have hbl:(bts x).length=x.size:=rfl
 have hbly:(bts y).length=y.size:=rfl
 refine ⟨[.int .u8 35],qQf,?_⟩
 have e2:Ext h1 ((h1.set b (.cells [.int .u8 35])).set b (.ro [.int .u8 35])):=fun c u hc=>by
  have hcb:c≠b:=fun e=>by rw [e,hb] at hc; cases hc
  rw [qXg hcb,qXg hcb]; exact hc
 refine xPf hy (h0:=h1) (.inl ⟨b,rfl,e2,qQf,rfl⟩) fun s2 h2 o2=>?_
 have hNl:(qFx ((bts y).take 65537)).length≤65537:=by
  have h1:(qFx ((bts y).take 65537)).length≤((bts y).take 65537).length:=List.length_filter_le _ _
  rw [List.length_take] at h1; omega
 have hN:∀ b∈qFx ((bts y).take 65537),b≠10∧b.toNat<128:=fun b hb=>by
  unfold qFx at hb
  have:=(List.mem_filter.mp hb).2
  simpa using this
 generalize qFx ((bts y).take 65537)=N at o2 hNl hN
 rw [xs_e]
 show cond true _ _
 rw [cond_true,nth0,nth1,nth2,qQb,qQc]
 refine o2.str rfl (by decide) (by rw [List.length_cons]; show _+4<_; omega) fun s3 h3 o3=>?_
 refine xEe hx o3 (by
  rw [List.length_append,List.length_cons]; show _+4<_; omega) fun s4 h4 o4=>?_
 rw [xs_e]
 show cond true _ _
 rw [cond_true,nth0,nth1,nth2,qQb,qQc]
 refine o4.str rfl (by decide) ?_ fun s5 h5 o5=>?_
 ·have h1:=xEf ((bts x).take 65537)
  rw [List.length_take] at h1
  rw [List.length_append,List.length_append,List.length_cons]
  show _+4+_+15<_
  omega
 have w1:bts (ByteArray.mk #[10,32,32,10])=[10,32,32,10]:=rfl
 have w2:bts (ByteArray.mk #[32,32,10,32,35,32,97,110,100,32,115,111,32,111,110])=[32,32,10]++qYj:=rfl
 have eL:35::N++bts (ByteArray.mk #[10,32,32,10])++blow ((bts x).take 65537)++bts (ByteArray.mk #[32,32,10,32,35,32,97,110,100,32,115,111,32,111,110])=qPb N ((bts x).take 65537):=by
  rw [w1,w2]
  unfold qPb
  simp only [List.append_assoc,List.cons_append,List.nil_append]
 rw [eL] at o5
 have e15:=o5.ext
 have leave:k (.bool true) h5:=hk h5 (e1.trans e15)
 have t5:=qQt _ _ e15 t1
 rw [o5.row.len,qXz,qQx,qQd]
 refine ⟨fun _=>?_,fun hle=>?_⟩
 ·unfold j10__19
  rw [qQb,qQc,qQc,cond_true]
  exact leave
 ·have hle:(qPb N ((bts x).take 65537)).length≤65536:=by omega
  have hsm:(bts x).take 65537=bts x:=by
   have:=xQs (N:=N) (t:=(bts x).take 65537)
   rw [List.length_take] at this
   exact List.take_of_length_le (by omega)
  rw [hsm] at o5 hle
  refine qGq o5.row fun z hz=>?_
  have hzs:z.size=(qPb N (bts x)).length:=by rw [← hz]; rfl
  refine s.lines z h5 _ _ (by omega) ⟨_,rfl,?_⟩
  unfold j10__19
  rw [qQb,qQc,qQc,qQd]
  refine ⟨fun _=>leave,fun hcn=>?_⟩
  rw [hz] at hcn
  have law:=qSj hN hle (by omega)
  refine s.parse x h5 _ _ (by omega) t5 ?_
  cases hp:qWe (bts x) with
  | error w =>
   rw [hp] at law
   intro h6 e6
   refine ⟨_,_,_,_,_,_,_,_,rfl,?_⟩
   refine new6 (ws:=nilB) (vs:=nilB) rfl rfl rfl rfl fun p1 h7 o7=>?_
   have e57:=e6.trans o7.ext
   refine qGq (o5.later e57).row fun z2 hz2=>?_
   have hz2s:z2.size=(qPb N (bts x)).length:=by rw [← hz2]; rfl
   refine s.parse z2 h7 _ _ (by omega) (qQt _ _ e57 t5) ?_
   rw [hz2,law]
   intro h8 e8
   refine ⟨_,_,_,_,_,_,_,_,rfl,?_⟩
   refine new6 (ws:=nilB) (vs:=nilB) rfl rfl rfl rfl fun p2 h9 o9=>?_
   rw [cond_true,beq_self_eq_true,cond_true,qQe]
   have e79:=e8.trans o9.ext
   refine ⟨_,_,_,_,_,_,rdn ((o7.later e79).cell (i:=0) rfl) (by simp [nilB]),?_⟩
   rw [qQe]
   refine ⟨_,_,_,_,_,_,rdn (o9.cell (i:=0) rfl) (by simp [nilB]),?_⟩
   refine s.same nilB nilB Bk.nil Bk.nil h9 _ _ (xQq h9) (xQq h9) fun t h10 e10 ht2=>⟨_,rfl,?_⟩
   have done:k (.bool true) h10:=hk h10 (e1.trans (e15.trans (e57.trans (e79.trans e10))))
   obtain ⟨y1,y2⟩:=xJw hp
   have hc:=qIe (N:=N) (t:=bts x)
   rw [ht2.mpr rfl,cond_true,qZf]
   have same2:((w.1:Int)≠0)→cond (decide ((w.1:Int)>0)) (k (.bool ((((if w.1=0 then 0 else w.1+2:Nat)):Int)==(IntKind.i64.wrap ((w.1:Int)+2)))) h10) (k (.bool false) h10):=fun hne=>by
    rw [decide_eq_true (by omega),cond_true,qQr (by omega) (by omega),if_neg (by omega),show (((w.1+2:Nat):Int)==(w.1:Int)+2)=true from beq_iff_eq.mpr (by omega)]
    exact done
   refine ⟨fun h0=>?_,fun hne=>same2 hne⟩
   rw [if_pos (by omega)]
   exact done
  | ok w =>
   rw [hp] at law
   intro c1 h6 e6 hb6
   obtain ⟨sg,ru,eq,pr,ce,co,rfl,hone⟩:=xDa hb6
   refine ⟨_,_,_,_,_,_,_,_,rfl,?_⟩
   refine new6 (ws:=nilB) (vs:=[sg,ru,eq,pr,ce,co]) rfl hone rfl rfl fun p1 h7 o7=>?_
   have e57:=e6.trans o7.ext
   refine qGq (o5.later e57).row fun z2 hz2=>?_
   have hz2s:z2.size=(qPb N (bts x)).length:=by rw [← hz2]; rfl
   refine s.parse z2 h7 _ _ (by omega) (qQt _ _ e57 t5) ?_
   rw [hz2,law]
   intro c2 h8 e8 hb8
   obtain ⟨sg',ru',eq',pr',ce',co',rfl,hone2⟩:=xDa hb8
   refine ⟨_,_,_,_,_,_,_,_,rfl,?_⟩
   refine new6 (ws:=nilB) (vs:=[sg',ru',eq',pr',ce',co']) rfl hone2 rfl rfl fun p2 h9 o9=>?_
   rw [cond_true]
   show cond true _ _
   rw [cond_true,qQe]
   have e79:=e8.trans o9.ext
   refine ⟨_,_,_,_,_,_,rdn ((o7.later e79).cell (i:=0) rfl) (by simp),?_⟩
   rw [qQe]
   refine ⟨_,_,_,_,_,_,rdn (o9.cell (i:=0) rfl) (by simp),?_⟩
   refine s.same [sg,ru,eq,pr,ce,co] [sg',ru',eq',pr',ce',co'] w.1 w.1 h9 _ _ (hb6.ext (o7.ext.trans e79)) (hb8.ext o9.ext) fun t h10 e10 ht2=>⟨_,rfl,?_⟩
   rw [ht2.mpr rfl,cond_true]
   exact hk h10 (e1.trans (e15.trans (e57.trans (e79.trans e10))))
end Go.Proofs.YtkdneddcocggdaaGreatDoor.Am
namespace Go.Proofs.YtkdneddcocggdaaGreatDoor.Am
open Go Go.ChangeShapes Go.RowKit
def handed (W:World):H:=fun b=>match W.heap[b]? with
 | some (.cells l _ _)=>some (.ro l.toList)
 | _=>none
theorem xVr (W:World):Rel (handed W) W:=by
 intro b o hb
 unfold handed at hb
 split at hb
 ·rename_i l t fz hw
  obtain rfl:=Option.some.inj hb
  exact ⟨t,fz,by rw [hw]⟩
 ·cases hb
theorem xUi {W:World} {b:Nat}:handed W b=none∨∃ l,handed W b=some (.ro l):=by
 unfold handed
 split
 ·exact .inr ⟨_,rfl⟩
 ·exact .inl rfl
theorem Frame.below {W W':World} {h':H} (f:Am.Frame (handed W) W h' W'):Below W.heap.size W W' :=
 ⟨f.os,f.tape,f.output,f.size,fun b hb=>f.keep b hb xUi⟩
theorem xWb {P:Program} {f:FuncId} {args:List Value} {W:World} (hf:f<P.funcs.size) (h:CS P f args (handed W) (fun v _=>v=.bool true) (fun _ _=>False)) :
  Calls P f args.toArray W fun e w'=>e=.returned (.bool true)∧Below W.heap.size W w' :=
 xCl hf h (xVr W) (fun v h' w' hv _ fr=>⟨by rw [hv],fr.below⟩) (fun _ _ _ hc=>hc.elim)
end Go.Proofs.YtkdneddcocggdaaGreatDoor.Am
namespace Go.Proofs.YtkdneddcocggdaaGreatDoor.Am
open Go Go.ChangeShapes Go.WideShapes Go.ChangeAt Go.RowKit
variable {P:Program} {H:Type} {enc:TypeId × Value→H} {W W':World}
theorem trodAll_stays (hl:laidOutB P=true) (hb:Below W.heap.size W W'):∀ {ts:List TypeId} {vs:List Value} {ds:List (DataW H)} {ps:List MemPlace},
  ts.all (fun t=>P.readableRec t && decide (t<P.types.size))=true→DataW.TrodAll enc P W 0 (fun _=>true) true ts vs ds ps→(∀ x∈ps,x.block<W.heap.size) →
  DataW.TrodAll enc P W' 0 (fun b=>decide (b<W.heap.size)) true ts vs ds ps
 | [],vs,ds,ps,_,h,_=>by
  obtain ⟨rfl,rfl,rfl⟩:=trodAll_nil h
  exact trodAll_mk0
 | t::ts,vs,ds,ps,ht,h,hlt=>by
  obtain ⟨v,vs',d,ds',p,q,rfl,rfl,rfl,h0,h1⟩:=trodAll_cons h
  simp only [List.all_cons,Bool.and_eq_true,decide_eq_true_eq] at ht
  exact trodAll_cons_mk (Below.trod hl ht.1.1 ht.1.2 h0 hb fun x hx=>hlt x (by simp [hx]))
   (trodAll_stays hl hb (by simpa using ht.2) h1 fun x hx=>hlt x (by simp [hx]))
theorem post_true {f:Func} {s:ChangeSpec} {tb:TypeId} {args:Array Value} {ds gs:List (DataW H)} {before:List MemPlace} (hl:laidOutB P=true)
    (hts:f.params.toList.all (fun t=>P.readableRec t && decide (t<P.types.size))=true) (hres:f.resultTypes.toList=[tb]) (htb:P.underlying tb=some .bool) (hvars:s.vars=[])
    (hW:DataW.Whole enc P f.params.toList s.vars false W args.toList ds gs before) (hfn:s.fn H ds={ results:=[.lit (.bool true)],args:=ds }) (hb:Below W.heap.size W W') :
    s.post enc P f false true false false W args (.bool true) W':=by
  have hW':=hW
  obtain ⟨p,q,hA,hV,rfl,_,_⟩:=hW
  rw [hvars] at hV
  obtain ⟨rfl,rfl⟩:=trodVars_none hV
  have hn:f.resultTypes.size=1:=by rw [← Array.length_toList,hres]; rfl
  have hlt:∀ x∈p,x.block<W.heap.size:=fun x hx=>hW'.lt x (by simp [hx])
  refine ⟨ds,[],p++[],[],p,[],hW',?_,?_,?_,?_,fun h=>by cases h⟩
  · rw [hres,List.append_nil,hfn,hn]
    exact trodAll_cons_mk (shut_bool htb _) trodAll_mk0
  · rw [List.append_nil,hfn]
    exact trodAll_stays hl hb hts hA hlt
  · rw [hvars,List.append_nil,hfn]; rfl
  · exact hb.frame _
mutual
 def flat:DataW Unit→List Value
   | .lit (.int k n)=>[.int k n]
   | .lit (.bool b)=>[.bool b]
   | .agg ps=>flats ps
   | _=>[]
 def flats:List (DataW Unit)→List Value
   | []=>[]
   | d::l=>flat d++flats l
end
def layAll (P:Program) (h:Array Obj):List (String × DataW Unit)→Array Obj
 | []=>h
 | (n,d)::l=>layAll P (match P.globalNamed n with
  | some g=>h.modify g fun
   | .cells _ t frozen=>.cells (flat d).toArray t frozen
   | o=>o
  | none=>h) l
theorem own:ownKnob Tryz.prog.godebug=none:=by kernel_rfl
theorem laidOut:laidOutB Tryz.pinned.checked.prog=true:=by kernel_rfl
end Go.Proofs.YtkdneddcocggdaaGreatDoor.Am
namespace Go.Proofs.YtkdneddcocggdaaGreatDoor.Am
open Go Go.Proofs Sys Go.ChangeShapes Go.WideShapes Go.ChangeAt Go.RowKit Go.Deep Go.Lib
set_option maxRecDepth 100000
variable {P:Program} {H:Type} {enc:TypeId × Value→H} {W W':World}
end Go.Proofs.YtkdneddcocggdaaGreatDoor.Am
namespace Go.Proofs.YtkdneddcocggdaaGreatDoor.Am
open Go Go.Proofs Go.ChangeShapes Go.WideShapes Go.ChangeAt Go.RowKit Go.Deep Go.Lib Sys Sp
set_option maxRecDepth 100000
variable {P:Program} {H:Type} {enc:TypeId × Value→H} {W W':World}
end Go.Proofs.YtkdneddcocggdaaGreatDoor.Am
