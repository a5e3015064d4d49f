/-
  Packed: The laws on terms: what is read, what is shown, and one behind the other. The law: a text is read as the book that it is; what was read may be spoiled, and is read again. The laws: what is read is written and read again; what is written is read. The document's way: bytes of either kind of row; a term is written behind them. The document's way: a printer, and what it writes. The document's way: rules, a node, a command are written. The document's way: a node, a command are written. The document's way: a command, a book is written. The document's way: a book is written. The document's way: Print; the law: every book is written as the document says. From a function's reading to the given statement: the old memory is read only; what was handed in reads as it did. What every law's end needs: the arguments read behind the call as they did; slices of integers are rows of the handed memory; the world of the witness. Arguments that are handed in: rows of numbers, signatures. Books that are handed in.
-/
import Derived.Test.YtkdneddcocggdaaGreatDoorPkI
import Derived.Test.YtkdneddcocggdaaGreatDoorAmFnsL
import Derived.Test.YtkdneddcocggdaaGreatDoorPkK
import Derived.Test.YtkdneddcocggdaaGreatDoorPkH
import Derived.Test.YtkdneddcocggdaaGreatDoorPkC
import Derived.Test.YtkdneddcocggdaaGreatDoorPkB
import Derived.Carry
import Derived.ChangeSame
import Derived.Below
import Derived.Test.YtkdneddcocggdaaGreatDoorRows
import Derived.Test.YtkdneddcocggdaaGreatDoorCards
import Derived.Test.YtkdneddcocggdaaGreatDoorTie
import Derived.WalkKit
import Derived.ProofKit
import Derived.OpenShut
import Derived.ChangeSlices
import Derived.ChangeMaps5
import Derived.Deep.DeepHandedRow
import Derived.Lib.LaidTab
import Derived.Lib.LaidIn
import Derived.Test.YtkdneddcocggdaaGreatDoorPkS
import Derived.Deep.SlicePairs
import Derived.Lib.SmallJoins
import Derived.Lib.LaidU8
set_option linter.unusedVariables false
set_option linter.unusedSimpArgs false
set_option linter.unnecessarySimpa false
namespace Go.Proofs.YtkdneddcocggdaaGreatDoor.Am
open Go Go.Proofs Go.RowKit Go.Lib Sys Sp
set_option maxRecDepth 100000
variable {D:Orc} {h h' h0:H} {k:Kv} {kp:Kp}
structure SpecsT (D:Orc):Prop where
 shown:qWp D 11 Tbl
 term:qAu D 12 Tbl
 xVo:qAu D 13 Tbl
 show_:qBy D 15 Tbl
 xPn:qBy D 16 Tbl
 row:qYs D 14
 chk:qYd D 22 Tbl
variable {D:Orc} {E:Dorc} {h h' h0 g:H} {k:Kv} {kp:Kp} {L R:List Res} {B:Bk} {V:BkV} {N:Nat}
structure SpecsQ (D:Orc):Prop where
 shown:qWp D 11 Tbl
 parse:qPu D 17 Tbl
 parseR:qPu D 18 Tbl
 same:qPt D 19
variable {D:Orc} {E:Dorc} {h h' h0 g:H} {k:Kv} {kp:Kp} {L R:List Res} {B:Bk} {V:BkV} {N:Nat}
structure SpecsB (D:Orc):Prop where
 shown:qWp D 11 Tbl
 parse:qEm D 17 Tbl
 print:qAv D 20 Tbl
 same:qPt D 19
 lines:xBi D 23
theorem xNs {c:List Value} (b:BkA h c B):∃ sg ru eq pr ce co,c=[sg,ru,eq,pr,ce,co]∧[sg,ru,eq,pr,ce,co].all one=true:=by
 obtain ⟨sg,ru,eq,pr,ce,co,q1,q2,q3,q4,rfl,a1,a2,a3,a4,a5,a6,a7,a8,a9,a10,a11⟩:=b.sl
 refine ⟨sg,ru,eq,pr,ce,co,rfl,?_⟩
 simp only [List.all_cons,List.all_nil,qQy a1.row.isSl,qQy a2.isSl,qQy a4.isSl,qQy a6.isSl,qQy a8.isSl,qQy a10.isSl]
 rfl
variable {D:Orc} {E:Dorc} {h h' h0:H} {k:Kv} {kp:Kp} {L R:List Res} {bv:Value} {l:Bs} {ty:Bool}
def rowB (ty:Bool) (s:Value) (l:Bs):Res:=bif ty then bytR s l else bufR s (U8 l)
def OKB (ty:Bool) (s:Value) (l:Bs):Prop:=(ty=true∧l≠[])∨(ty=false∧NN s)
theorem xPf {s:ByteArray} {K:List Value→Prop} (hK:K (U8 (bts s))):srcW h 1 (.string s) s.size K:=by
 show K _
 have:(s.extract 0 s.size).data.toList=bts s:=by
  have:=qVr s 0 s.size
  rw [List.drop_zero,List.take_of_length_le (by rw [qQn]; exact Nat.le_refl _)] at this
  exact this
 rw [this]; exact hK
theorem qAq {c:UInt8} {b:Nat} (o:Hp h0 h (rowB ty bv l::R)) (hl:l.length<2 ^ 39) (hb:h b=none) (hok:OKB ty bv l) {K:Value→H→Prop} (hK:∀ bv' h2,OKB ty bv' (l++[c])→Hp h0 h2 (rowB ty bv' (l++[c])::R)→K bv' h2) :
  qXf (.slice (some ⟨b,0,none⟩) 1 1) fun n=>srcW (h.set b (.cells [.int .u8 (c.toNat:Int)])) 1 (.slice (some ⟨b,0,none⟩) 1 1) n fun w=>Am.apX false 5 (h.set b (.cells [.int .u8 (c.toNat:Int)])) 1 [.int .u8 0] bv n w K:=by
 rcases hok with ⟨rfl,hne⟩ | ⟨rfl,hn⟩
 ·rw [qVp]
  have hrow:Row (h.set b (.cells [.int .u8 (c.toNat:Int)])) (.slice (some ⟨b,0,none⟩) 1 1) (U8 [c]):=Row.cells qQh rfl
  refine hrow.src (by simp [U8]) ?_
  have o:Hp h0 h (bytR bv l::R):=o
  have o1:=o.later (show Ext h (h.set b (.cells [.int .u8 (c.toNat:Int)])) from Ext.new hb)
  refine o1.bapp (j:=0) (m:=[c]) rfl (fun e=>?_) (by rw [List.length_singleton]; omega) fun s' h5 o5=>hK s' h5 (.inl ⟨rfl,by simp⟩) o5
  rcases (o.get (i:=0) rfl:Byt h bv l) with ⟨_,h2⟩ | ⟨g,cap,cs,h1,_⟩
  ·exact absurd h2 hne
  ·rw [h1] at e; cases e
 ·exact xZy o hl hb fun bv' h2 n o2=>hK bv' h2 (.inr ⟨rfl,n⟩) o2
theorem qHt {s:ByteArray} (o:Hp h0 h (rowB ty bv l::R)) (hl:l.length+s.size<2 ^ 39) (hok:OKB ty bv l) (hs:l++bts s≠[]) {K:Value→H→Prop} (hK:∀ bv' h2,OKB ty bv' (l++bts s)→Hp h0 h2 (rowB ty bv' (l++bts s)::R)→K bv' h2) :
  srcW h 1 (.string s) s.size fun w=>Am.apX true 5 h 1 [.int .u8 0] bv s.size w K:=by
 rcases hok with ⟨rfl,hne⟩ | ⟨rfl,hn⟩
 ·have hsz:s.size=(bts s).length:=rfl
  refine xPf ?_
  have o:Hp h0 h (bytR bv l::R):=o
  rw [hsz]
  exact o.bapp (j:=0) (m:=bts s) rfl (fun _=>rfl) (by rw [← hsz]; omega) fun s' h5 o5=>hK s' h5 (.inl ⟨rfl,hs⟩) o5
 ·exact qLn o hl hn hs fun bv' h2 n o2=>hK bv' h2 (.inr ⟨rfl,n⟩) o2
def xQv (D:Orc) (f:Nat) (n:Nat):Prop:=∀ (sig:List Sy) (sg tv:Value) (u r:List Int) (s:Bs) (ty:Bool) (bv:Value) (l:Bs) (R:List Res) h0 h (k:Kv) kp,Wt (S2 sig) u s→u.length≤n→ArOk sig→(∀ y∈sig,bts y.1≠[])→Sr h0 sg sig→Ir h0 tv (u++r) →
 OKB ty bv l→l.length+s.length<2 ^ 38→Hp h0 h (rowB ty bv l::R) →
 (∀ h' bv' tv',OKB ty bv' (l++s)→Hp h0 h' (rowB ty bv' (l++s)::R)→Ir h0 tv' r→k (.tuple #[bv',tv']) h')→D f [sg,tv,bv] h k kp
theorem xVd (c:Cl38 D) (st:qFx D 83):∀ n,xQv D 38 n:=by
 intro n
 induction n with
 | zero =>
  intro sig sg tv u r s ty bv l R h0 h k kp w hn
  exact absurd (List.length_eq_zero_iff.mp (by omega)) (qBm w.term)
 | succ n ih =>
  intro sig sg tv u r s ty bv l R h0 h k kp w hn ha hnm hs hi hnn hl o hk
  refine c _ _ _ _ _ _ ?_
  unfold F38
  cases w with
  | @var m hm =>
   refine (hi.ext o.ext).at_ (by omega) (by simp) fun ad x hx hxi hrd=>⟨x,hrd,?_⟩
   obtain rfl : -1 - (m:Int)=x:=by simpa using hx
   rw [qQc]
   refine ⟨fun _=>⟨rfl,by decide,?_⟩,fun hh=>by omega⟩
   intro b hb
   have e1:Ext h (h.set b (.cells [.int .u8 95])):=Ext.new hb
   refine hi.at_ (by omega) (by simp) fun ad2 x2 hx2 hxi2 hrd2=>⟨x2,xUc (o.ext.trans e1) hrd2,?_⟩
   obtain rfl : -1 - (m:Int)=x2:=by simpa using hx2
   refine Ir.tail1 (c:=-1 - (m:Int)) (l:=r) hi fun s2 hs2=>?_
   have hml:(95::decDigits m).length=(decDigits m).length+1:=rfl
   refine qAq (c:=95) o (by omega) hb hnn fun bv1 h1 hn1 o1=>?_
   refine ⟨xUc o1.ext hrd2,?_⟩
   rw [qQm (by omega) (by omega),show -1 - (-1 - (m:Int))=(m:Int) by omega]
   refine st m h1 _ _ (by omega) fun h2 e2=>⟨_,rfl,?_⟩
   refine qHt (o1.later e2) (by rw [qXi,List.length_append,List.length_singleton]; omega) hn1 (by simp) fun bv3 h3 hn3 o3=>?_
   rw [qQu,List.append_assoc] at o3 hn3
   exact hk h3 bv3 s2 hn3 o3 hs2
  | @app cc nm a us ss hx hul hss hw =>
   refine (hi.ext o.ext).at_ (by omega) (by simp only [List.cons_append,List.length_cons]; omega) fun ad x hx' hxi hrd=>⟨x,hrd,?_⟩
   obtain rfl:(cc:Int)=x:=by simpa using hx'
   rw [qQc]
   refine ⟨fun hh=>by omega,fun _=>?_⟩
   refine (hi.ext o.ext).at_ (by omega) (by simp only [List.cons_append,List.length_cons]; omega) fun ad2 x2 hx2 hxi2 hrd2=>⟨x2,hrd2,?_⟩
   obtain rfl:(cc:Int)=x2:=by simpa using hx2
   unfold S2 at hx
   rw [List.getElem?_map] at hx
   obtain ⟨y,hy,hy2⟩:=Option.map_eq_some_iff.mp hx
   obtain ⟨rfl,rfl⟩:=Prod.mk.inj hy2
   have hcl:=(List.getElem?_eq_some_iff.mp hy).1
   have hay:=ha y (List.mem_of_getElem? hy)
   have hny:=hnm y (List.mem_of_getElem? hy)
   refine (hs.ext o.ext).row.at_ (by omega) (by rw [qQl]; omega) fun ad3 v hv hrd3 _=>?_
   obtain ⟨z,hz,rfl⟩:=qZa hv
   rw [Int.toNat_natCast,hy] at hz
   obtain rfl:=Option.some.inj hz
   refine ⟨y.1,y.2,hrd3,?_⟩
   refine o.new_ fun q h1 hq o1=>?_
   refine o1.st6 (i:=0) (vs:=[.string y.1,.int .i64 y.2]) rfl rfl rfl rfl fun h2 o2=>?_
   have o2:Hp h0 h2 (qQj q [.string y.1,.int .i64 y.2]::rowB ty bv l::R):=o2
   refine ldx (o2.cell (i:=0) rfl) rfl ?_
   have hys:y.1.size=(bts y.1).length:=rfl
   rw [List.length_append] at hl
   have o2':Hp h0 h2 (rowB ty bv l::qQj q [.string y.1,.int .i64 y.2]::R):=o2.perm (List.Perm.swap _ _ _)
   refine qHt o2' (by omega) hnn (by simp [hny]) fun bv3 h3 hn3 o3=>?_
   refine Ir.tail1 (c:=(cc:Int)) (l:=us.flatten++r) hi fun s2 hs2=>?_
   have hul8:us.length≤8:=by omega
   have hlen:y.2=((us.length:Nat):Int):=by omega
   intro I hI
   have key:∀ m i:Nat,i+m=us.length→∀ (A:Bs) (buf' tv':Value) (h':H),OKB ty buf' A→A++(if i=0 then qUw (ss.drop i) else qFc (ss.drop i))=l++(bts y.1++qUw ss)→Ir h0 tv' ((us.drop i).flatten++r)→Hp h0 h' (rowB ty buf' A::qQj q [.string y.1,.int .i64 y.2]::R) →
     I [sg,tv',buf',Pt q,.int .i64 (i:Int)] h':=by
    intro m
    induction m with
    | zero =>
     intro i him A buf' tv' h' hnb hA hit o'
     refine hI _ _ _ _ _ _ ?_
     unfold round38_7
     rw [qQa]
     refine ldjI (o'.cell (i:=1) rfl) rfl ?_
     rw [hlen,qQc]
     refine ⟨fun hlt=>by omega,fun _=>?_⟩
     show xs (X.e 0) _ _ _
     rw [xs_e]
     show cond true _ _
     rw [cond_true,nth0,nth1,nth2]
     refine ldjI (o'.cell (i:=1) rfl) rfl ?_
     rw [hlen,qQc]
     rw [List.drop_eq_nil_of_le (by omega)] at hit hA
     refine ⟨fun hpos=>⟨rfl,by decide,?_⟩,fun hz=>?_⟩
     ·rw [if_neg (by omega)] at hA
      have hAl:=congrArg List.length hA
      simp only [List.length_append,qFc,List.length_singleton] at hAl
      intro b hb
      refine qAq (c:=41) o' (by omega) hb hnb fun bv5 h5 hn5 o5=>?_
      unfold j38__15
      have hA5:A++[41]=l++(bts y.1++qUw ss):=by rw [← hA]; rfl
      rw [hA5] at hn5 o5
      refine hk h5 bv5 tv' hn5 ?_ hit
      exact (o5.perm (List.Perm.swap _ _ _)).tail
     ·rw [if_pos (by omega)] at hA
      unfold j38__15
      have hA5:A=l++(bts y.1++qUw ss):=by rw [← hA]; simp [qUw]
      rw [hA5] at hnb o'
      refine hk h' buf' tv' hnb ?_ hit
      exact (o'.perm (List.Perm.swap _ _ _)).tail
    | succ m ihm =>
     intro i him A buf' tv' h' hnb hA hit o'
     refine hI _ _ _ _ _ _ ?_
     unfold round38_7
     rw [qQa]
     refine ldjI (o'.cell (i:=1) rfl) rfl ?_
     rw [hlen,qQc]
     refine ⟨fun _=>?_,fun hge=>by omega⟩
     have hiu:i<us.length:=by omega
     have his:i<ss.length:=by omega
     have hds:ss.drop i=ss[i]::ss.drop (i+1):=List.drop_eq_getElem_cons his
     have hdu:us.drop i=us[i]::us.drop (i+1):=List.drop_eq_getElem_cons hiu
     have hA2:A++((if i=0 then (40:UInt8) else 44)::(ss[i]++qFc (ss.drop (i+1))))=l++(bts y.1++qUw ss):=by
      rw [← hA,hds]
      by_cases hi0:i=0
      ·rw [if_pos hi0,if_pos hi0]; rfl
      ·rw [if_neg hi0,if_neg hi0]; rfl
     have hAl:=congrArg List.length hA2
     simp only [List.length_append,List.length_cons] at hAl
     rw [hdu,List.flatten_cons,List.append_assoc] at hit
     have hw1:=hw i us[i] ss[i] (List.getElem?_eq_getElem hiu) (List.getElem?_eq_getElem his)
     have hfl:us[i].length≤us.flatten.length:=by
      have:=List.sublist_flatten_of_mem (List.getElem_mem hiu)
      exact this.length_le
     simp only [List.length_cons] at hn
     have step:∀ (mk:UInt8) (bv5:Value) (h5:H),mk=(if i=0 then (40:UInt8) else 44)→OKB ty bv5 (A++[mk])→Hp h0 h5 (rowB ty bv5 (A++[mk])::qQj q [.string y.1,.int .i64 y.2]::R)→j38_7_12 D I (fun x55 vs56 h54=>xs x55 (k (.tuple #[(nth vs56 0),(nth vs56 1)]) h54) (fun i57=>cond (Nat.beq i57 0) (
ptrW (nth vs56 2) (fun ad58=>∃ x59:Int,rd h54 (Addr.add ad58 1)=some (.int .i64 x59)∧cond (decide (x59>0)) (
one (.int .u8 41)=true∧0<1∧qQz h54 1 [(.int .u8 41)] (fun s60 h61=>qXf s60 (fun n62=>srcW h61 1 s60 (n62) (fun w63=>Am.apX false 5 h61 1 [(.int .u8 0)] (nth vs56 1) (n62) w63 (fun s64 h65=>j38__15 D k kp (nth vs56 0) s64 h65))))) (
j38__15 D k kp (nth vs56 0) (nth vs56 1) h54))) (False)) (fun c=>kp c h54)) sg tv' bv5 (Pt q) (.int .i64 (i:Int)) h5:=fun mk bv5 h5 hmk hn5 o5=>by
      unfold j38_7_12
      rw [qQa]
      refine ih sig sg tv' us[i] ((us.drop (i+1)).flatten++r) ss[i] ty bv5 (A++[mk]) _ h0 h5 _ _ hw1 (by omega) ha hnm hs hit hn5 (by rw [List.length_append,List.length_singleton]; omega) o5 fun h6 bv6 tv6 hn6 o6 hi6=>⟨_,_,rfl,?_⟩
      rw [qQm (by omega) (by omega)]
      have e2:(i:Int)+1=((i+1:Nat):Int):=by omega
      rw [e2]
      refine ihm (i+1) (by omega) (A++[mk]++ss[i]) bv6 tv6 h6 hn6 ?_ hi6 o6
      rw [if_neg (show ¬ i+1=0 by omega),← hA2,hmk]
      simp only [List.append_assoc,List.singleton_append,List.cons_append,List.nil_append]
     rw [qXu]
     refine ⟨fun h0=>⟨rfl,by decide,?_⟩,fun h0=>⟨rfl,by decide,?_⟩⟩
     ·intro b hb
      exact qAq (c:=40) o' (by omega) hb hnb fun bv5 h5 hn5 o5=>step 40 bv5 h5 (by rw [if_pos (by omega)]) hn5 o5
     ·intro b hb
      exact qAq (c:=44) o' (by omega) hb hnb fun bv5 h5 hn5 o5=>step 44 bv5 h5 (by rw [if_neg (by omega)]) hn5 o5
   exact key us.length 0 (by omega) (l++bts y.1) bv3 s2 h3 hn3 (by rw [if_pos rfl,List.drop_zero,List.append_assoc]) (by rw [List.drop_zero]; exact hs2) o3
end Go.Proofs.YtkdneddcocggdaaGreatDoor.Am
namespace Go.Proofs.Sp
open Go Go.Lib Sys
def plus (s x:Except Int Bs):Except Int Bs:=s >>= fun a=>x >>= fun b=>.ok (a++b)
def qWk (bad:Bool) (e:Int):Except Int Bs:=must (!bad) e >>= fun _=>.ok []
def sp32 (x:Except Int Bs):Except Int Bs:=x >>= fun d=>.ok (32::d)
theorem qTg {a b:Bs}:plus (.ok a) (.ok b)=.ok (a++b):=rfl
theorem qAz {s:Except Int Bs}:plus s (.ok [])=s:=by
 cases s with
 | error e=>rfl
 | ok a=>show Except.ok (a++[])=_; rw [List.append_nil]
theorem qXm {s x y:Except Int Bs}:plus (plus s x) y=plus s (plus x y):=by
 cases s with
 | error e=>rfl
 | ok a =>
  cases x with
  | error e=>rfl
  | ok b =>
   cases y with
   | error e=>rfl
   | ok c=>show Except.ok (a++b++c)=Except.ok (a++(b++c)); rw [List.append_assoc]
theorem qBd {s:Except Int Bs} {b:Bool} {e:Int} {x:Except Int Bs}:plus (plus s (qWk (!b) e)) x=plus s (must b e >>= fun _=>x):=by
 rw [qXm]
 congr 1
 unfold qWk
 rw [Bool.not_not]
 cases b with
 | true =>
  show plus (.ok []) x=x
  cases x with
  | error e=>rfl
  | ok b=>rfl
 | false=>rfl
end Go.Proofs.Sp
namespace Go.Proofs.YtkdneddcocggdaaGreatDoor.Am
open Go Go.Proofs Go.RowKit Go.Lib Sys Sp
set_option maxRecDepth 100000
variable {D:Orc} {E:Dorc} {h h' h0:H} {k:Kv} {kp:Kp} {L R:List Res} {bv sg:Value} {l:Bs} {ty:Bool} {p m:Nat} {s:Except Int Bs} {e:Int}
theorem qJx {b:Bool} (h:false=!b):b=true:=by
 cases b with
 | true=>rfl
 | false=>cases h
def OKP (ty:Bool) (bv:Value) (l:Bs):Prop:=ty=true∨(ty=false∧NN bv∧l≠[])
def PqS (s:Except Int Bs) (e:Int) (l:Bs):Prop:=match s with
 | .ok a=>e=0∧l=a
 | .error e'=>e=e'∧e'≠0
def pqL (p:Nat) (sg:Value) (ty:Bool) (bv:Value) (l:Bs) (e:Int) (R:List Res):List Res:=qQj p [sg,bv,.int .i64 e]::rowB ty bv l::R
def Pq (h0:H) (p:Nat) (sg:Value) (R:List Res) (m:Nat) (s:Except Int Bs) (h:H):Prop:=∃ ty bv l e,Hp h0 h (pqL p sg ty bv l e R)∧OKP ty bv l∧l.length≤m∧PqS s e l
theorem Pq.ext (o:Pq h0 p sg R m s h):Ext h0 h:=by obtain ⟨_,_,_,_,o,_⟩:=o; exact o.ext
theorem Pq.later (o:Pq h0 p sg R m s h) (e:Ext h h'):Pq h0 p sg R m s h':=by obtain ⟨a,b,c,d,o,q⟩:=o; exact ⟨a,b,c,d,o.later e,q⟩
theorem Pq.more {m':Nat} (o:Pq h0 p sg R m s h) (hm:m≤m'):Pq h0 p sg R m' s h:=by obtain ⟨a,b,c,d,o,q,r,t⟩:=o; exact ⟨a,b,c,d,o,q,Nat.le_trans r hm,t⟩
theorem qTf {c:UInt8} (o:Hp h0 h (pqL p sg ty bv l e R)) (hok:OKP ty bv l) (hl:l.length<2 ^ 39) {O U T:Prop} (hO:O) (hU:U) (hT:T) {K:H→Prop} (hK:∀ ty' bv' h',Hp h0 h' (pqL p sg ty' bv' (l++[c]) e R)→OKP ty' bv' (l++[c])→K h') :
  qQe (Pt p)=true∧ptrW (Pt p) (fun ad2=>∃ v3:Value,rd h (Addr.add ad2 1)=some v3∧O∧U∧qQz h 1 [.int .u8 (c.toNat:Int)] (fun s4 h5=>qXf s4 (fun n6=>srcW h5 1 s4 (n6) (fun w7=>Am.apX false 5 h5 1 [(.int .u8 0)] v3 (n6) w7 (fun s8 h9=>qQe (Pt p)=true∧ptrW (Pt p) (fun ad10=>one s8=true∧T∧∃ h11,wr1 h9 (Addr.add ad10 1) s8=some h11∧K h11)))))):=by
 refine ⟨rfl,ldj (o.cell (i:=0) rfl) rfl ⟨hO,hU,fun b hb=>?_⟩⟩
 have fin:∀ (ty':Bool) bv' h2,OKP ty' bv' (l++[c])→Hp h0 h2 (rowB ty' bv' (l++[c])::qQj p [sg,bv,.int .i64 e]::R)→qQe (Pt p)=true∧ptrW (Pt p) (fun ad10=>one bv'=true∧T∧∃ h11,wr1 h2 (Addr.add ad10 1) bv'=some h11∧K h11):=fun ty' bv' h2 ok2 o2=>by
  have o3:Hp h0 h2 (qQj p [sg,bv,.int .i64 e]::rowB ty' bv' (l++[c])::R):=o2.perm (List.Perm.swap _ _ _)
  have hone:one bv'=true:=by
   cases ty' with
   | true=>exact qQy (xZu (o3.get (i:=1) rfl:Byt h2 bv' _))
   | false=>exact qZd ((o3.buf (i:=1) rfl:Buf noH h2 bv' (U8 _)).row)
  exact ⟨rfl,o3.stj (i:=0) (j:=1) rfl (by simp) hone hT fun h4 o4=>hK ty' bv' h4 o4 ok2⟩
 have o':Hp h0 h (rowB ty bv l::qQj p [sg,bv,.int .i64 e]::R):=o.perm (List.Perm.swap _ _ _)
 have use:OKB ty bv l→qXf (.slice (some ⟨b,0,none⟩) 1 1) fun n=>srcW (h.set b (.cells [.int .u8 (c.toNat:Int)])) 1 (.slice (some ⟨b,0,none⟩) 1 1) n fun w=>Am.apX false 5 (h.set b (.cells [.int .u8 (c.toNat:Int)])) 1 [.int .u8 0] bv n w (fun s8 h9=>qQe (Pt p)=true∧ptrW (Pt p) (fun ad10=>one s8=true∧T∧∃ h11,wr1 h9 (Addr.add ad10 1) s8=some h11∧K h11)):=fun ok =>
  qAq (c:=c) o' hl hb ok fun bv' h2 ok2 o2=>fin ty bv' h2 (by
   rcases ok2 with ⟨h1,h3⟩ | ⟨h1,h3⟩
   ·exact .inl h1
   ·exact .inr ⟨h1,h3,by simp⟩) o2
 rcases hok with rfl | ⟨rfl,hn,hne⟩
 ·by_cases hz:l=[]
  ·subst hz
   rcases (o.get (i:=1) rfl:Byt h bv []) with ⟨rfl,_⟩ | ⟨g,cap,cs,_,_,_,_,_,_,h6⟩
   ·have o2:Hp h0 h (bufR (.slice none 0 0) (U8 [])::qQj p [sg,.slice none 0 0,.int .i64 e]::R):=(o'.tail).add_nil
    exact xZy (c:=c) o2 hl hb fun bv' h2 n o3=>fin false bv' h2 (.inr ⟨rfl,n,by simp⟩) o3
   ·exact absurd rfl h6
  ·exact use (.inl ⟨rfl,hz⟩)
 ·exact use (.inr ⟨rfl,hn⟩)
theorem xFd {w:ByteArray} (o:Hp h0 h (pqL p sg ty bv l e R)) (hok:OKP ty bv l) (hl:l.length+w.size<2 ^ 39) {T:Prop} (hT:T) {K:H→Prop} (hK:∀ ty' bv' h',Hp h0 h' (pqL p sg ty' bv' (l++bts w) e R)→OKP ty' bv' (l++bts w)→K h') :
  qQe (Pt p)=true∧ptrW (Pt p) (fun ad2=>∃ v3:Value,rd h (Addr.add ad2 1)=some v3∧srcW h 1 (.string w) (w.size) (fun w7=>Am.apX true 5 h 1 [(.int .u8 0)] v3 (w.size) w7 (fun s8 h9=>qQe (Pt p)=true∧ptrW (Pt p) (fun ad10=>one s8=true∧T∧∃ h11,wr1 h9 (Addr.add ad10 1) s8=some h11∧K h11)))):=by
 refine ⟨rfl,ldj (o.cell (i:=0) rfl) rfl ?_⟩
 have fin:∀ (ty':Bool) bv' h2,OKP ty' bv' (l++bts w)→Hp h0 h2 (rowB ty' bv' (l++bts w)::qQj p [sg,bv,.int .i64 e]::R)→qQe (Pt p)=true∧ptrW (Pt p) (fun ad10=>one bv'=true∧T∧∃ h11,wr1 h2 (Addr.add ad10 1) bv'=some h11∧K h11):=fun ty' bv' h2 ok2 o2=>by
  have o3:Hp h0 h2 (qQj p [sg,bv,.int .i64 e]::rowB ty' bv' (l++bts w)::R):=o2.perm (List.Perm.swap _ _ _)
  have hone:one bv'=true:=by
   cases ty' with
   | true=>exact qQy (xZu (o3.get (i:=1) rfl:Byt h2 bv' _))
   | false=>exact qZd ((o3.buf (i:=1) rfl:Buf noH h2 bv' (U8 _)).row)
  exact ⟨rfl,o3.stj (i:=0) (j:=1) rfl (by simp) hone hT fun h4 o4=>hK ty' bv' h4 o4 ok2⟩
 have o':Hp h0 h (rowB ty bv l::qQj p [sg,bv,.int .i64 e]::R):=o.perm (List.Perm.swap _ _ _)
 rcases hok with rfl | ⟨rfl,hn,hne⟩
 ·have hsz:w.size=(bts w).length:=rfl
  refine xPf ?_
  have o':Hp h0 h (bytR bv l::qQj p [sg,bv,.int .i64 e]::R):=o'
  rw [hsz]
  exact o'.bapp (j:=0) (m:=bts w) rfl (fun _=>rfl) (by rw [← hsz]; omega) fun s' h5 o5=>fin true s' h5 (.inl rfl) o5
 ·have hne2:l++bts w≠[]:=fun h=>hne (List.append_eq_nil_iff.mp h).1
  exact qLn o' hl hn hne2 fun bv' h2 n o2=>fin false bv' h2 (.inr ⟨rfl,n,hne2⟩) o2
def qPw (D:Orc) (f:Nat):Prop:=∀ (p:Nat) (sg:Value) (R:List Res) (m:Nat) (s:Except Int Bs) (bad:Bool) (e:Int) h0 h (k:Kv) kp,(bad=true→e≠0)→Pq h0 p sg R m s h→(∀ h',Pq h0 p sg R m (plus s (qWk bad e)) h'→k (.tuple #[]) h')→D f [Pt p,.bool bad,.int .i64 e] h k kp
theorem xLm (c:Cl60 D):qPw D 60:=by
 intro p sg R m s bad e h0 h k kp he o hk
 refine c _ _ _ _ _ _ ?_
 unfold F60
 rw [qQd,qQa]
 cases bad with
 | false =>
  rw [cond_false]
  unfold j60__1
  rw [qQa,qQd,cond_false]
  refine hk h ?_
  have:plus s (qWk false e)=s:=qAz
  rw [this]; exact o
 | true =>
  rw [cond_true]
  obtain ⟨ty,bv,l,e1,o,ok,hl,hs⟩:=o
  refine ⟨rfl,ldjI (o.cell (i:=0) rfl) rfl ?_⟩
  unfold j60__1
  rw [qQa,qQd,qXu]
  refine ⟨fun hz=>⟨rfl,?_⟩,fun hnz=>?_⟩
  ·refine o.stj (i:=0) (j:=2) rfl (by simp) rfl rfl fun h2 o2=>hk h2 ⟨ty,bv,l,e,o2,ok,hl,?_⟩
   cases s with
   | ok a=>exact ⟨rfl,he rfl⟩
   | error e'=>exact absurd (hs.1.symm.trans hz) hs.2
  ·refine hk h ⟨ty,bv,l,e1,o,ok,hl,?_⟩
   cases s with
   | ok a=>exact absurd hs.1 hnz
   | error e'=>exact hs
def qAr (D:Orc) (f:Nat):Prop:=∀ (p:Nat) (sg:Value) (R:List Res) (m:Nat) (s:Except Int Bs) (first:Bool) (w:ByteArray) h0 h (k:Kv) kp,m+w.size+1<2 ^ 39→Pq h0 p sg R m s h→(∀ h',Pq h0 p sg R (m+w.size+1) (plus s (.ok ((if first then [] else [32])++bts w))) h'→k (.tuple #[]) h')→D f [Pt p,.bool first,.string w] h k kp
theorem qFk {a:Bs} (hs:PqS s e l):PqS (plus s (.ok a)) e (l++a):=by
 cases s with
 | ok b=>exact ⟨hs.1,by rw [hs.2]⟩
 | error e'=>exact hs
theorem xLk (c:Cl62 D):qAr D 62:=by
 intro p sg R m s first w h0 h k kp hm o hk
 refine c _ _ _ _ _ _ ?_
 unfold F62
 rw [qQd,qQb]
 obtain ⟨ty,bv,l,e,o,ok,hl,hs⟩:=o
 have hwl:(bts w).length=w.size:=rfl
 cases first with
 | false =>
  rw [Bool.not_false,cond_true]
  refine qTf (c:=32) o ok (by omega) rfl Nat.zero_lt_one rfl fun ty2 bv2 h2 o2 ok2=>?_
  unfold j62__2
  rw [qQb]
  refine xFd o2 ok2 (by rw [List.length_append,List.length_singleton]; omega) rfl fun ty3 bv3 h3 o3 ok3=>hk h3 ⟨ty3,bv3,_,e,o3,ok3,by simp only [List.length_append,List.length_singleton]; omega,?_⟩
  rw [List.append_assoc]
  exact qFk hs
 | true =>
  rw [Bool.not_true,cond_false]
  unfold j62__2
  rw [qQb]
  refine xFd o ok (by omega) rfl fun ty3 bv3 h3 o3 ok3=>hk h3 ⟨ty3,bv3,_,e,o3,ok3,by simp only [List.length_append]; omega,?_⟩
  exact qFk hs
def qNx (D:Orc) (f:Nat):Prop:=∀ (p:Nat) (sg:Value) (R:List Res) (m:Nat) (s:Except Int Bs) h0 h (k:Kv) kp,m+1<2 ^ 39→Pq h0 p sg R m s h→(∀ h',Pq h0 p sg R (m+1) (plus s (.ok [10])) h'→k (.tuple #[]) h')→D f [Pt p] h k kp
theorem xLi (c:Cl64 D):qNx D 64:=by
 intro p sg R m s h0 h k kp hm o hk
 refine c _ _ _ _ ?_
 unfold F64
 obtain ⟨ty,bv,l,e,o,ok,hl,hs⟩:=o
 exact qTf (c:=10) o ok (by omega) rfl Nat.zero_lt_one rfl fun ty2 bv2 h2 o2 ok2=>hk h2 ⟨ty2,bv2,_,e,o2,ok2,by rw [List.length_append,List.length_singleton]; omega,qFk hs⟩
theorem qUd (o:Pq h0 p sg R m s h) {K:Int→Prop} (hok:∀ a,s=.ok a→K 0) (hbad:∀ e,s=.error e→e≠0→K e):qQe (Pt p)=true∧ptrW (Pt p) (fun ad=>∃ x:Int,rd h (Addr.add ad 2)=some (.int .i64 x)∧K x):=by
 obtain ⟨ty,bv,l,e,o,ok,hl,hs⟩:=o
 refine ⟨rfl,ldjI (o.cell (i:=0) rfl) rfl ?_⟩
 cases s with
 | ok a=>rw [hs.1]; exact hok a rfl
 | error e'=>rw [hs.1]; exact hbad e' rfl hs.2
theorem xCf (o:Pq h0 p sg R m s h) {K:Value→Prop} (hK:K sg):qQe (Pt p)=true∧ptrW (Pt p) (fun ad=>∃ v:Value,rd h (Addr.add ad 0)=some v∧K v):=by
 obtain ⟨ty,bv,l,e,o,ok,hl,hs⟩:=o
 exact ⟨rfl,ldj (o.cell (i:=0) rfl) rfl hK⟩
def qNp (D:Orc) (f:Nat):Prop:=∀ (p:Nat) (sg:Value) (R:List Res) (m:Nat) (s:Except Int Bs) (x:Int) h0 h (k:Kv) kp,inI x→m+22<2 ^ 39→Pq h0 p sg R m s h→(∀ h',Pq h0 p sg R (m+22) (plus s (sp32 (numM x))) h'→k (.tuple #[]) h')→D f [Pt p,.int .i64 x] h k kp
theorem xLj (c:Cl63 D) (sf:qPw D 60) (sw:qAr D 62) (st:qFx D 83):qNp D 63:=by
 intro p sg R m s x h0 h k kp hx hm o hk
 refine c _ _ _ _ _ ?_
 unfold F63
 rw [qQa]
 have hmost:(most:Int)=2147483647:=rfl
 have fin:∀ (bad:Bool) h1,bad=(!(decide (0≤x) && decide (x≤most)))→Pq h0 p sg R m (plus s (qWk bad 225)) h1→j63__1 D k kp (Pt p) (.int .i64 x) h1:=fun bad h1 hb o1=>by
  have hall:plus (plus s (qWk bad 225)) (.ok (32::decDigits x.toNat))=plus s (sp32 (numM x)):=by
   rw [hb,qBd]
   unfold sp32 numM
   cases (decide (0≤x) && decide (x≤most)) <;> rfl
  unfold j63__1
  rw [qQa]
  refine qUd o1 (fun a ha=>?_) fun e he hne=>?_
  ·show cond true _ _
   rw [cond_true]
   have hbf:bad=false:=by
    cases bad with
    | false=>rfl
    | true=>cases s <;> cases ha
   rw [hbf] at hb
   have hb:(decide (0≤x) && decide (x≤most))=true:=by simpa using hb.symm
   rw [Bool.and_eq_true,decide_eq_true_eq,decide_eq_true_eq] at hb
   have hxn:x=((x.toNat:Nat):Int):=by omega
   rw [hxn]
   refine st x.toNat h1 _ _ (by omega) fun h2 e2=>⟨_,rfl,?_⟩
   have hd:=qEf (n:=x.toNat) (by omega)
   refine sw p sg R m _ false _ h0 h2 _ _ (by rw [qXi]; omega) (o1.later e2) fun h3 o3=>⟨rfl,hk h3 ?_⟩
   rw [qQu] at o3
   rw [← hall]
   exact o3.more (by rw [qXi]; omega)
  ·rw [show (e==0)=false from beq_eq_false_iff_ne.mpr hne,cond_false]
   refine hk h1 ?_
   rw [← hall]
   have:plus (plus s (qWk bad 225)) (.ok (32::decDigits x.toNat))=plus s (qWk bad 225):=by rw [he]; rfl
   rw [this]
   exact o1.more (by omega)
 rw [qQv,qQc]
 refine ⟨fun hneg=>?_,fun hpos=>?_⟩
 ·refine sf p sg R m s true 225 h0 h _ _ (fun _=>by decide) o fun h1 o1=>⟨rfl,fin true h1 ?_ o1⟩
  rw [decide_eq_false (by omega)]; rfl
 ·refine sf p sg R m s _ 225 h0 h _ _ (fun _=>by decide) o fun h1 o1=>⟨rfl,fin _ h1 ?_ o1⟩
  rw [decide_eq_true (show 0≤x by omega),Bool.true_and,hmost]
  by_cases hb:x>2147483647
  ·rw [decide_eq_true hb,decide_eq_false (by omega)]; rfl
  ·rw [decide_eq_false hb,decide_eq_true (by omega)]; rfl
def qIg (D:Orc) (f:Nat):Prop:=∀ (p:Nat) (sg:Value) (sig:List Sy) (R:List Res) (m:Nat) (s:Except Int Bs) (x:Int) (marked:Bool) h0 h (k:Kv) kp,PSig h0 sg sig→inI x→m+36<2 ^ 39→Pq h0 p sg R m s h→(∀ h',Pq h0 p sg R (m+36) (plus s (sp32 (qJf (S2 sig) x marked))) h'→k (.tuple #[]) h')→D f [Pt p,.int .i64 x,.bool marked] h k kp
theorem xLg (c:Cl66 D) (sf:qPw D 60) (sw:qAr D 62):qIg D 66:=by
 intro p sg sig R m s x marked h0 h k kp ps hx hm o hk
 refine c _ _ _ _ _ _ ?_
 unfold F66
 rw [qQa,qQd]
 have h64:=ps.n64
 refine xCf o ?_
 rw [(ps.sr.ext o.ext).row.len,qQl]
 have fin:∀ (bad:Bool) h1,bad=(!(decide (0≤x) && (decide (x<(sig.length:Int)) || marked && decide (x<2*(sig.length:Int)))))→Pq h0 p sg R m (plus s (qWk bad 223)) h1→j66__2 D k kp (Pt p) (.int .i64 x) (.int .i64 (sig.length:Int)) h1:=fun bad h1 hb o1=>by
  let d:Bs:=if x<(sig.length:Int) then (((S2 sig)[x.toNat]?).map (·.1)).getD [] else (((S2 sig)[(x - (sig.length:Int)).toNat]?).map (·.1)).getD []++[35]
  have hall:plus (plus s (qWk bad 223)) (.ok (32::d))=plus s (sp32 (qJf (S2 sig) x marked)):=by
   rw [hb,qBd]
   unfold sp32 qJf
   rw [qCe]
   cases (decide (0≤x) && (decide (x<(sig.length:Int)) || marked && decide (x<2*(sig.length:Int)))) <;> rfl
  unfold j66__2
  rw [qQa,qQa]
  refine qUd o1 (fun a ha=>?_) fun e he hne=>?_
  ·show cond false _ _
   rw [cond_false]
   have hbf:bad=false:=by
    cases bad with
    | false=>rfl
    | true=>cases s <;> cases ha
   rw [hbf] at hb
   have hok:(decide (0≤x) && (decide (x<(sig.length:Int)) || marked && decide (x<2*(sig.length:Int))))=true:=qJx hb
   simp only [Bool.and_eq_true,Bool.or_eq_true,decide_eq_true_eq] at hok
   have hs':=ps.sr.ext o1.ext
   have at_:∀ j:Nat,j<sig.length→∃ y,sig[j]?=some y∧(S2 sig)[j]?=some (bts y.1,y.2)∧y.1.size≤33∧∀ {K:Addr→Prop},(∀ ad,rd h1 (Addr.add ad 0)=some (.string y.1)→K ad)→qQk sg (j:Int) 2 K:=fun j hj=>by
    refine ⟨sig[j],List.getElem?_eq_getElem hj,?_,ps.n33 _ (List.getElem_mem hj),fun {K} hK=>?_⟩
    ·unfold S2; rw [List.getElem?_map,List.getElem?_eq_getElem hj]; rfl
    ·refine hs'.row.at_ (by omega) (by rw [qQl]; omega) fun ad v hv _ hj2=>?_
     obtain ⟨z,hz,rfl⟩:=qZa hv
     rw [Int.toNat_natCast,List.getElem?_eq_getElem hj] at hz
     obtain rfl:=Option.some.inj hz
     exact hK ad (hj2 0 _ rfl)
   rw [qQc]
   refine ⟨fun hlt=>?_,fun hge=>?_⟩
   ·obtain ⟨y,_,hy,hyl,hat⟩:=at_ x.toNat (by omega)
    have hxn:x=((x.toNat:Nat):Int):=by omega
    refine xCf o1 ?_
    rw [hxn]
    refine hat fun ad hrd=>⟨_,hrd,?_⟩
    refine sw p sg R m _ false _ h0 h1 _ _ (by omega) o1 fun h3 o3=>⟨rfl,hk h3 ?_⟩
    rw [← hall]
    have hd:d=bts y.1:=by
     show (if x<(sig.length:Int) then _ else _)=_
     rw [if_pos hlt,hy]; rfl
    rw [hd]
    exact o3.more (by omega)
   ·obtain ⟨y,_,hy,hyl,hat⟩:=at_ (x - (sig.length:Int)).toNat (by omega)
    have hxn:x - (sig.length:Int)=(((x - (sig.length:Int)).toNat:Nat):Int):=by omega
    refine xCf o1 ?_
    rw [qQm (by omega) (by omega),hxn]
    refine hat fun ad hrd=>⟨_,hrd,by show y.1.size+1≤_; omega,?_⟩
    have hsz:(y.1++ByteArray.mk #[35]).size=y.1.size+1:=by rw [ByteArray.size_append]; rfl
    refine sw p sg R m _ false _ h0 h1 _ _ (by rw [hsz]; omega) o1 fun h3 o3=>⟨rfl,hk h3 ?_⟩
    rw [← hall]
    have hd:d=bts (y.1++ByteArray.mk #[35]):=by
     show (if x<(sig.length:Int) then _ else _)=_
     rw [if_neg hge,hy,qPr]; rfl
    rw [hd]
    exact o3.more (by rw [hsz]; omega)
  ·rw [show (e != 0)=true from bne_iff_ne.mpr hne,cond_true]
   refine hk h1 ?_
   rw [← hall]
   have:plus (plus s (qWk bad 223)) (.ok (32::d))=plus s (qWk bad 223):=by rw [he]; rfl
   rw [this]
   exact o1.more (by omega)
 have hw:IntKind.i64.wrap (2*(sig.length:Int))=2*(sig.length:Int):=qQm (by omega) (by omega)
 rw [hw,qQv,qQc]
 refine ⟨fun hneg=>?_,fun hpos=>?_⟩
 ·refine sf p sg R m s true 223 h0 h _ _ (fun _=>by decide) o fun h1 o1=>⟨rfl,fin true h1 ?_ o1⟩
  rw [decide_eq_false (show ¬ 0≤x by omega)]; rfl
 have ge:(marked=true∨x<(sig.length:Int))→decide (x≥2*(sig.length:Int))=(!(decide (0≤x) && (decide (x<(sig.length:Int)) || marked && decide (x<2*(sig.length:Int))))):=fun hor=>by
  by_cases hlt:x<(sig.length:Int)
  ·rw [decide_eq_true (show 0≤x by omega),decide_eq_true hlt,decide_eq_false (by omega)]; rfl
  ·rw [hor.resolve_right hlt,decide_eq_true (show 0≤x by omega),decide_eq_false hlt]
   by_cases h3:x≥2*(sig.length:Int)
   ·rw [decide_eq_true h3,decide_eq_false (show ¬ x<2*(sig.length:Int) by omega)]; rfl
   ·rw [decide_eq_false h3,decide_eq_true (show x<2*(sig.length:Int) by omega)]; rfl
 rw [qQc]
 refine ⟨fun hge=>?_,fun hlt=>?_⟩
 ·cases marked with
  | true =>
   rw [Bool.not_not,cond_true]
   exact sf p sg R m s _ 223 h0 h _ _ (fun _=>by decide) o fun h1 o1=>⟨rfl,fin _ h1 (ge (.inl rfl)) o1⟩
  | false =>
   rw [Bool.not_not,cond_false]
   refine sf p sg R m s true 223 h0 h _ _ (fun _=>by decide) o fun h1 o1=>⟨rfl,fin true h1 ?_ o1⟩
   rw [decide_eq_false (show ¬ x<(sig.length:Int) by omega),Bool.false_and,Bool.or_false,Bool.and_false]; rfl
 ·exact sf p sg R m s _ 223 h0 h _ _ (fun _=>by decide) o fun h1 o1=>⟨rfl,fin _ h1 (ge (.inr (by omega))) o1⟩
def qHv (D:Orc) (f:Nat):Prop:=∀ (p:Nat) (sg:Value) (sig:List Sy) (R:List Res) (m:Nat) (s:Except Int Bs) (tv:Value) (u:List Int) h0 h (k:Kv) kp,PSig h0 sg sig→Ir h0 tv u→u.length<2 ^ 40→m+50*u.length+2<2 ^ 38→Pq h0 p sg R m s h→(∀ h',Pq h0 p sg R (m+50*u.length+1) (plus s (sp32 (qZg (S2 sig) u))) h'→k (.tuple #[]) h')→D f [Pt p,tv] h k kp
theorem xGv (c:Cl106 D) (sf:qPw D 60) (ck:qYd D 22 Tbl) (wr:∀ n,xQv D 38 n):qHv D 106:=by
 intro p sg sig R m s tv u h0 h k kp ps hi hu hm o hk
 refine c _ _ _ _ _ ?_
 unfold F106
 have hct:qWf sig u=scan (S2 sig) 1 u:=by
  unfold qWf
  rw [if_neg (by rw [ps.chk]; simp)]
 refine xCf o ?_
 refine ck _ _ _ _ _ _ _ (ps.sr.ext o.ext) (qQt _ _ o.ext ps.tb) (hi.ext o.ext) fun h1 e1=>⟨_,rfl,?_⟩
 rw [hct]
 have hall:plus (plus s (qWk (scan (S2 sig) 1 u != 0) (scan (S2 sig) 1 u))) (.ok (32::W (S2 sig) u))=plus s (sp32 (qZg (S2 sig) u)):=by
  rw [qXm]
  congr 1
  unfold sp32 qZg
  by_cases hz:scan (S2 sig) 1 u=0
  ·rw [hz]; rfl
  ·rw [if_pos hz,bne_iff_ne.mpr hz]; rfl
 refine sf p sg R m s _ _ h0 h1 _ _ (fun hb=>bne_iff_ne.mp hb) (o.later e1) fun h2 o2=>⟨rfl,?_⟩
 refine qUd o2 (fun a ha=>?_) fun e he hne=>?_
 ·show cond true _ _
  rw [cond_true]
  have hz:scan (S2 sig) 1 u=0:=by
   by_cases hz:scan (S2 sig) 1 u=0
   ·exact hz
   ·rw [bne_iff_ne.mpr hz] at ha
    cases s <;> cases ha
  have w:=qLo (sig:=S2 sig) (u:=u) hz
  have hlen:=qLq (fun x hx=>by
   unfold S2 at hx
   obtain ⟨y,hy,rfl⟩:=List.mem_map.mp hx
   show (bts y.1).length≤33
   rw [qQn]; exact ps.n33 y hy) w
  obtain ⟨ty,bv,l,e,o3,ok,hl,hs⟩:=o2
  refine qTf (c:=32) o3 ok (by omega) rfl Nat.zero_lt_one rfl fun ty2 bv2 h3 o4 ok2=>?_
  refine ⟨rfl,ldj (o4.cell (i:=0) rfl) rfl ⟨rfl,ldj (o4.cell (i:=0) rfl) rfl ?_⟩⟩
  have hi1:Ir h0 tv (u++[]):=by rw [List.append_nil]; exact hi
  have okb:OKB ty2 bv2 (l++[32]):=by
   rcases ok2 with h | ⟨h,n,_⟩
   ·exact .inl ⟨h,by simp⟩
   ·exact .inr ⟨h,n⟩
  refine wr _ sig sg tv u [] _ ty2 bv2 (l++[32]) (qQj p [sg,bv2,.int .i64 e]::R) h0 h3 _ _ w (Nat.le_refl _) (qSh ps.chk) (nm_ne ps.chk) ps.sr hi1 okb (by rw [List.length_append,List.length_singleton]; omega) (o4.perm (List.Perm.swap _ _ _)) fun h4 bv4 tv4 ok4 o5 _=>⟨_,_,rfl,?_⟩
  have o6:Hp h0 h4 (qQj p [sg,bv2,.int .i64 e]::rowB ty2 bv4 (l++[32]++W (S2 sig) u)::R):=o5.perm (List.Perm.swap _ _ _)
  have hone:one bv4=true:=by
   cases ty2 with
   | true=>exact qQy (xZu (o6.get (i:=1) rfl:Byt h4 bv4 _))
   | false=>exact qZd ((o6.buf (i:=1) rfl:Buf noH h4 bv4 (U8 _)).row)
  refine ⟨rfl,o6.stj (i:=0) (j:=1) rfl (by simp) hone rfl fun h5 o7=>hk h5 ?_⟩
  rw [← hall]
  refine ⟨ty2,bv4,_,e,o7,?_,?_,?_⟩
  ·rcases ok4 with ⟨h,_⟩ | ⟨h,n⟩
   ·exact .inl h
   ·exact .inr ⟨h,n,by simp⟩
  ·simp only [List.length_append,List.length_singleton]; omega
  ·rw [List.append_assoc]
   exact qFk hs
 ·rw [show (e==0)=false from beq_eq_false_iff_ne.mpr hne,cond_false]
  refine hk h2 ?_
  rw [← hall]
  have:plus (plus s (qWk (scan (S2 sig) 1 u != 0) (scan (S2 sig) 1 u))) (.ok (32::W (S2 sig) u))=plus s (qWk (scan (S2 sig) 1 u != 0) (scan (S2 sig) 1 u)):=by rw [he]; rfl
  rw [this]
  exact o2.more (by omega)
end Go.Proofs.YtkdneddcocggdaaGreatDoor.Am
namespace Go.Proofs.Sp
open Go Go.Lib Sys
theorem qJb:∀ (w:Bs) (ws:List Bs),qWd (w::ws)=w++ws.flatMap (32::·)++[10]:=by
 have key:∀ (w:Bs) (ws:List Bs),[32].intercalate (w::ws)=w++ws.flatMap (32::·):=by
  intro w ws
  induction ws generalizing w with
  | nil=>rw [xAw]; simp
  | cons x ws ih=>rw [xYa,ih x,List.flatMap_cons]; simp
 intro w ws
 unfold qWd
 rw [key]
theorem qWi {α:Type} {f:α→Except Int Bs} {x:α} {l:List α} {s:Except Int Bs}:plus s (allM f (x::l))=plus (plus s (f x)) (allM f l):=by
 rw [qXm]; rfl
theorem qZk {α:Type} {f:α→Except Int Bs} {s:Except Int Bs}:plus s (allM f [])=s:=qAz
theorem xXl {α:Type} {f:α→Except Int Bs}:∀ {l:List α} {s:Except Int Bs} {pre:Bs},plus (plus (plus s (.ok pre)) (allM (fun x=>sp32 (f x)) l)) (.ok [10])=plus s (rowM f l >>= fun ws=>.ok (pre++ws.flatMap (32::·)++[10]))
 | [],s,pre=>by
  rw [qZk,qXm,qTg]
  show plus s (.ok (pre++[10]))=plus s (.ok (pre++[]++[10]))
  rw [List.append_nil]
 | x::l,s,pre=>by
  rw [qWi]
  cases hx:f x with
  | error e =>
   have h1:sp32 (.error e)=.error e:=rfl
   have h2:(rowM f (x::l) >>= fun ws=>Except.ok (pre++ws.flatMap (32::·)++[10]))=.error e:=by
    show ((f x >>= fun a=>rowM f l >>= fun b=>.ok (a::b)) >>= fun ws=>Except.ok (pre++ws.flatMap (32::·)++[10]))=_
    rw [hx]; rfl
   rw [h1,h2]
   cases s <;> rfl
  | ok d =>
   have h1:sp32 (.ok d)=.ok (32::d):=rfl
   rw [h1,qXm (x:=.ok pre),qTg,xXl (l:=l) (s:=s) (pre:=pre++32::d)]
   congr 1
   show (rowM f l >>= fun ws=>Except.ok (pre++32::d++ws.flatMap (32::·)++[10]))=((f x >>= fun a=>rowM f l >>= fun b=>.ok (a::b)) >>= fun ws=>Except.ok (pre++ws.flatMap (32::·)++[10]))
   rw [hx]
   cases rowM f l with
   | error e=>rfl
   | ok b =>
    show Except.ok (pre++32::d++b.flatMap (32::·)++[10])=Except.ok (pre++(d::b).flatMap (32::·)++[10])
    rw [List.flatMap_cons]
    simp only [List.append_assoc,List.cons_append]
end Go.Proofs.Sp
namespace Go.Proofs.YtkdneddcocggdaaGreatDoor.Am
open Go Go.Proofs Go.RowKit Go.Lib Sys Sp
set_option maxRecDepth 100000
variable {D:Orc} {E:Dorc} {h h' h0:H} {k:Kv} {kp:Kp} {L R:List Res} {bv sg:Value} {l:Bs} {ty:Bool} {p m:Nat} {s:Except Int Bs} {e:Int}
structure SpecsPr (D:Orc):Prop where
 fail:qPw D 60
 word:qAr D 62
 end_:qNx D 64
 num:qNp D 63
 code:qIg D 66
 term:qHv D 106
theorem Pq.new_ {ws:List Value} (o:Pq h0 p sg R m s h) {K:Value→H→Prop} (hK:∀ b h',Pq h0 p sg (qQj b ws::R) m s h'→K (Pt b) h'):newW h ws K:=by
 obtain ⟨ty,bv,l,e,o,q⟩:=o
 exact o.new_ fun b h' hb o'=>hK b h' ⟨ty,bv,l,e,o'.perm (List.perm_middle (l₁:=[_,_])),q⟩
theorem Pq.cell {b:Nat} {ws:List Value} (o:Pq h0 p sg (qQj b ws::R) m s h):h b=some (.cells ws):=by
 obtain ⟨ty,bv,l,e,o,q⟩:=o
 exact o.cell (i:=2) rfl
theorem Pq.drop_ {r:Res} (o:Pq h0 p sg (r::R) m s h):Pq h0 p sg R m s h:=by
 obtain ⟨ty,bv,l,e,o,q⟩:=o
 exact ⟨ty,bv,l,e,o.sub (List.Sublist.cons_cons _ (List.Sublist.cons_cons _ (List.sublist_cons_self _ _))),q⟩
theorem xCi {sig:Sg} {first mid:Bs} {r:Ru}:plus (plus (plus (plus (plus s (.ok ([]++first))) (sp32 (qZg sig r.1))) (.ok ([32]++mid))) (sp32 (qZg sig r.2))) (.ok [10])=plus s (qEn sig first mid r):=by
 simp only [qXm]
 congr 1
 unfold qEn
 cases qZg sig r.1 with
 | error e=>rfl
 | ok a =>
  cases qZg sig r.2 with
  | error e=>rfl
  | ok b =>
   show Except.ok _=Except.ok _
   rw [qJb]
   simp [List.flatMap_cons]
def qDj (D:Orc) (f:Nat):Prop:=∀ (p:Nat) (sg:Value) (sig:List Sy) (rv:Value) (rules:List Ru) (vs:List (List Value)) (first mid:ByteArray) (R:List Res) (m:Nat) (s:Except Int Bs) h0 h (k:Kv) kp,PSig h0 sg sig→RuS h0 rv rules vs→first.size≤5→mid.size≤2→m+cst ruC rules<2 ^ 37 →
 Pq h0 p sg R m s h→(∀ h',Pq h0 p sg R (m+cst ruC rules) (plus s (qVl (S2 sig) (bts first) (bts mid) rules)) h'→k (.tuple #[]) h')→D f [Pt p,rv,.string first,.string mid] h k kp
theorem xLh (c:Cl65 D) (q:SpecsPr D):qDj D 65:=by
  intro p sg sig rv rules vs first mid R m s h0 h k kp ps rs hf hmd hm o hk
  refine c _ _ _ _ _ _ _ ?_
  unfold F65
  rw [qQb,qQb]
  have hrl:=rs.rel.len
  have hlen:=rs.len
  have fin:∀ h1,Pq h0 p sg R (m+cst ruC rules) (plus s (allM (qEn (S2 sig) (bts first) (bts mid)) rules)) h1→(fun (x22:Am.X) vs23 h21=>xs x22 (k (.tuple #[]) h21) (fun i24=>cond (Nat.beq i24 0) (
lenW (nth vs23 1) (fun n25 => D 60 [(nth vs23 0), (.bool (decide ((n25 : Int) > 64))), (.int .i64 226)] h21 (fun v26 h27 => v26 = (.tuple #[]) ∧ k (.tuple #[]) h27) kp)) (False)) (fun c => kp c h21)) (Am.X.e 0) [Pt p, rv] h1 := fun h1 o1 => by
    show xs (Am.X.e 0) _ _ _
    rw [xs_e]
    show cond true _ _
    rw [cond_true,nth0,nth1,(rs.row.ext o1.ext).len,hrl]
    refine q.fail p sg R _ _ _ 226 h0 h1 _ _ (fun _=>by decide) o1 fun h2 o2=>⟨rfl,hk h2 ?_⟩
    have:plus (plus s (allM (qEn (S2 sig) (bts first) (bts mid)) rules)) (qWk (decide ((rules.length:Int)>64)) 226)=plus s (qVl (S2 sig) (bts first) (bts mid) rules):=by
      rw [qXm]
      congr 1
      unfold qVl
      cases allM (qEn (S2 sig) (bts first) (bts mid)) rules with
      | error e=>rfl
      | ok a =>
        by_cases hgt:rules.length≤64
        · rw [decide_eq_true hgt,decide_eq_false (by omega)]
          show Except.ok (a++[])=Except.ok a
          rw [List.append_nil]
        · rw [decide_eq_false hgt,decide_eq_true (by omega)]; rfl
    rw [← this]; exact o2
  intro J hJ
  have key:∀ n i:Nat,i+n=rules.length→∀ (m':Nat) (s':Except Int Bs) (h1:H),m'+cst ruC (rules.drop i)≤m+cst ruC rules→plus s' (allM (qEn (S2 sig) (bts first) (bts mid)) (rules.drop i))=plus s (allM (qEn (S2 sig) (bts first) (bts mid)) rules)→Pq h0 p sg R m' s' h1 →
      J [Pt p,rv,.string first,.string mid,.int .i64 (i:Int)] h1:=by
    intro n
    induction n with
    | zero =>
      intro i hin m' s' h1 hm' hs' o1
      refine hJ _ _ _ _ _ _ ?_
      unfold round65_1
      rw [qQb,qQb,qQa,(rs.row.ext o1.ext).len,qQc]
      refine ⟨fun hlt=>by omega,fun _=>fin h1 ?_⟩
      rw [List.drop_eq_nil_of_le (by omega),qZk] at hs'
      rw [← hs']
      exact o1.more (by omega)
    | succ n ih =>
      intro i hin m' s' h1 hm' hs' o1
      refine hJ _ _ _ _ _ _ ?_
      unfold round65_1
      rw [qQb,qQb,qQa,(rs.row.ext o1.ext).len,qQc]
      refine ⟨fun _=>?_,fun hge=>by omega⟩
      have hir:i<rules.length:=by omega
      have hiv:i<vs.length:=by omega
      have hd:rules.drop i=rules[i]::rules.drop (i+1):=List.drop_eq_getElem_cons hir
      rw [hd,qXn] at hm'
      rw [hd,qWi] at hs'
      obtain ⟨v,w,hv,iv,iw⟩:=rs.rel.at_ i vs[i] rules[i] (List.getElem?_eq_getElem hiv) (List.getElem?_eq_getElem hir)
      have hrc:ruC rules[i]=50*rules[i].1.length+50*rules[i].2.length+20:=rfl
      generalize rules[i]=r at hm' hs' iv iw hrc
      refine q.word p sg R m' s' true first h0 h1 _ _ (by omega) o1 fun h2 o2=>⟨rfl,?_⟩
      refine qJw (rs.row.ext o2.ext) hiv ⟨v,qEs (rs.row.ext o2.ext) hiv (by rw [hv]; rfl),?_⟩
      refine q.term p sg sig R _ _ v r.1 h0 h2 _ _ ps iv (by omega) (by omega) o2 fun h3 o3=>⟨rfl,?_⟩
      refine q.word p sg R _ _ false mid h0 h3 _ _ (by omega) o3 fun h4 o4=>⟨rfl,?_⟩
      refine qJw (rs.row.ext o4.ext) hiv ⟨w,qEs (rs.row.ext o4.ext) hiv (by rw [hv]; rfl),?_⟩
      refine q.term p sg sig R _ _ w r.2 h0 h4 _ _ ps iw (by omega) (by omega) o4 fun h5 o5=>⟨rfl,?_⟩
      refine q.end_ p sg R _ _ h0 h5 _ _ (by omega) o5 fun h6 o6=>⟨rfl,?_⟩
      rw [qQm (by omega) (by omega),show (i:Int)+1=((i+1:Nat):Int) by omega]
      refine ih (i+1) (by omega) _ _ h6 ?_ ?_ o6
      · omega
      · have:=xCi (s:=s') (sig:=S2 sig) (first:=bts first) (mid:=bts mid) (r:=r)
        show plus (plus (plus (plus (plus (plus s' (.ok ([]++bts first))) (sp32 (qZg (S2 sig) r.1))) (.ok ([32]++bts mid))) (sp32 (qZg (S2 sig) r.2))) (.ok [10])) _=_
        rw [this]; exact hs'
  exact key rules.length 0 (by omega) m s h (by rw [List.drop_zero]; exact Nat.le_refl _) (by rw [List.drop_zero]) o
theorem xXt {sig:Sg} {first:Bs} {mk:Bool} {x:Int × Int}:plus (plus (plus (plus s (.ok ([]++first))) (sp32 (qJf sig x.1 mk))) (sp32 (qJf sig x.2 mk))) (.ok [10])=plus s (qWm sig first mk x):=by
 simp only [qXm]
 congr 1
 unfold qWm
 cases qJf sig x.1 mk with
 | error e=>rfl
 | ok a =>
  cases qJf sig x.2 mk with
  | error e=>rfl
  | ok b =>
   show Except.ok _=Except.ok _
   rw [qJb]
   simp [List.flatMap_cons]
theorem xUg (q:SpecsPr D) {sig:List Sy} (ps:PSig h0 sg sig) {b:Nat} {pv:Value} {l:List (Int × Int)} {ws:List Value} (hr:RowK 2 h0 pv (l.map qWx)) (hin:∀ x∈l,inP x) (hl:l.length<2 ^ 40) (hw1:ws[1]?=some pv) (o:Pq h0 p sg (qQj b ws::R) m s h) (hm:m+cst prC l<2 ^ 37) {K:Kl}
  (hK:∀ h',Pq h0 p sg (qQj b ws::R) (m+cst prC l) (plus s (allM (qWm (S2 sig) qPb true) l)) h'→K (.e 0) [Pt p,Pt b] h'):loop67_8 D [Pt p,Pt b,.int .i64 0] h K:=by
 intro J hJ
 have key:∀ n i:Nat,i+n=l.length→∀ (m':Nat) (s':Except Int Bs) (h1:H),m'+cst prC (l.drop i)≤m+cst prC l→plus s' (allM (qWm (S2 sig) qPb true) (l.drop i))=plus s (allM (qWm (S2 sig) qPb true) l)→Pq h0 p sg (qQj b ws::R) m' s' h1 →
   J [Pt p,Pt b,.int .i64 (i:Int)] h1:=by
  intro n
  induction n with
  | zero =>
   intro i hin' m' s' h1 hm' hs' o1
   refine hJ _ _ _ _ ?_
   unfold round67_8
   rw [qQa]
   refine ldj o1.cell hw1 ?_
   rw [(hr.ext o1.ext).len,List.length_map,qQc]
   refine ⟨fun hlt=>by omega,fun _=>hK h1 ?_⟩
   rw [List.drop_eq_nil_of_le (by omega),qZk] at hs'
   rw [← hs']
   exact o1.more (by omega)
  | succ n ih =>
   intro i hin' m' s' h1 hm' hs' o1
   refine hJ _ _ _ _ ?_
   unfold round67_8
   rw [qQa]
   refine ldj o1.cell hw1 ?_
   rw [(hr.ext o1.ext).len,List.length_map,qQc]
   refine ⟨fun _=>?_,fun hge=>by omega⟩
   have hir:i<l.length:=by omega
   have hiv:i<(l.map qWx).length:=by rw [List.length_map]; exact hir
   have hd:l.drop i=l[i]::l.drop (i+1):=List.drop_eq_getElem_cons hir
   rw [hd,qXn] at hm'
   rw [hd,qWi] at hs'
   obtain ⟨i1,i2⟩:=hin l[i] (List.getElem_mem hir)
   have hvi:(l.map qWx)[i]=[.int .i64 l[i].1,.int .i64 l[i].2]:=by rw [List.getElem_map]; rfl
   have hpc:prC l[i]=100:=rfl
   generalize l[i]=x at hm' hs' i1 i2 hvi hpc
   refine q.word p sg _ m' s' true _ h0 h1 _ _ (by show _+4+1<_; omega) o1 fun h2 o2=>⟨rfl,?_⟩
   refine ldj o2.cell hw1 ?_
   refine qJw (hr.ext o2.ext) hiv ⟨by decide,by decide,x.1,qEs (hr.ext o2.ext) hiv (m:=0) (by rw [hvi]; rfl),?_⟩
   refine q.code p sg sig _ _ _ x.1 true h0 h2 _ _ ps i1 (by show _+4+1+36<_; omega) o2 fun h3 o3=>⟨rfl,?_⟩
   refine ldj o3.cell hw1 ?_
   refine qJw (hr.ext o3.ext) hiv ⟨by decide,by decide,x.2,qEs (hr.ext o3.ext) hiv (m:=1) (by rw [hvi]; rfl),?_⟩
   refine q.code p sg sig _ _ _ x.2 true h0 h3 _ _ ps i2 (by show _+4+1+36+36<_; omega) o3 fun h4 o4=>⟨rfl,?_⟩
   refine q.end_ p sg _ _ _ h0 h4 _ _ (by show _+4+1+36+36+1<_; omega) o4 fun h5 o5=>⟨rfl,?_⟩
   rw [qQm (by omega) (by omega),show (i:Int)+1=((i+1:Nat):Int) by omega]
   refine ih (i+1) (by omega) _ _ h5 ?_ ?_ o5
   ·show _+4+1+36+36+1+_≤_
    omega
   ·have:=xXt (s:=s') (sig:=S2 sig) (first:=qPb) (mk:=true) (x:=x)
    show plus (plus (plus (plus (plus s' (.ok ([]++qPb))) (sp32 (qJf (S2 sig) x.1 true))) (sp32 (qJf (S2 sig) x.2 true))) (.ok [10])) _=_
    rw [this]; exact hs'
 exact key l.length 0 (by omega) m s h (by rw [List.drop_zero]; exact Nat.le_refl _) (by rw [List.drop_zero]) o
theorem xYf (q:SpecsPr D) {b b1:Nat} {a2 a3:Int} {ev:Value} {es:List Int} {ws:List Value} (hi:Ir h0 ev es) (hw1:ws[1]?=some ev) (o:Pq h0 p sg (qQj b ws::R) m s h) (hm:m+22*es.length<2 ^ 37) {K:Kl}
  (hK:∀ h',Pq h0 p sg (qQj b ws::R) (m+22*es.length) (plus s (allM (fun x=>sp32 (numM x)) es)) h'→K (.e 6) [Pt p,Pt b1,.int .i64 a2,.int .i64 a3] h'):loop67_29 D [Pt p,Pt b1,.int .i64 a2,.int .i64 a3,Pt b,.int .i64 0] h K:=by
 intro J hJ
 have hl:=hi.len
 have key:∀ n i:Nat,i+n=es.length→∀ (m':Nat) (s':Except Int Bs) (h1:H),m'+22*(es.length - i)≤m+22*es.length→plus s' (allM (fun x=>sp32 (numM x)) (es.drop i))=plus s (allM (fun x=>sp32 (numM x)) es)→Pq h0 p sg (qQj b ws::R) m' s' h1 →
   J [Pt p,Pt b1,.int .i64 a2,.int .i64 a3,Pt b,.int .i64 (i:Int)] h1:=by
  intro n
  induction n with
  | zero =>
   intro i hin' m' s' h1 hm' hs' o1
   refine hJ _ _ _ _ _ _ _ ?_
   unfold round67_29
   rw [qQa,qQa,qQa]
   refine ldj o1.cell hw1 ?_
   rw [(hi.ext o1.ext).row.len,Zl,qQc]
   refine ⟨fun hlt=>by omega,fun _=>hK h1 ?_⟩
   rw [List.drop_eq_nil_of_le (by omega),qZk] at hs'
   rw [← hs']
   exact o1.more (by omega)
  | succ n ih =>
   intro i hin' m' s' h1 hm' hs' o1
   refine hJ _ _ _ _ _ _ _ ?_
   unfold round67_29
   rw [qQa,qQa,qQa]
   refine ldj o1.cell hw1 ?_
   rw [(hi.ext o1.ext).row.len,Zl,qQc]
   refine ⟨fun _=>?_,fun hge=>by omega⟩
   have hir:i<es.length:=by omega
   have hd:es.drop i=es[i]::es.drop (i+1):=List.drop_eq_getElem_cons hir
   rw [hd,qWi] at hs'
   refine ldj o1.cell hw1 ?_
   refine (hi.ext o1.ext).at_ (by omega) (by omega) fun ad x hx hxi hrd=>⟨x,hrd,?_⟩
   rw [Int.toNat_natCast,List.getElem?_eq_getElem hir] at hx
   obtain rfl:=Option.some.inj hx
   refine q.num p sg _ _ _ _ h0 h1 _ _ hxi (by omega) o1 fun h2 o2=>⟨rfl,?_⟩
   rw [qQm (by omega) (by omega),show (i:Int)+1=((i+1:Nat):Int) by omega]
   exact ih (i+1) (by omega) _ _ h2 (by omega) hs' o2
 exact key es.length 0 (by omega) m s h (by omega) (by rw [List.drop_zero]) o
end Go.Proofs.YtkdneddcocggdaaGreatDoor.Am
namespace Go.Proofs.Sp
open Go Go.Lib Sys Nats
theorem qMe {s:Except Int Bs} {a b:Bs}:plus (plus s (.ok a)) (.ok b)=plus s (.ok (a++b)):=by rw [qXm,qTg]
theorem xKb {s:Except Int Bs} {m:Mo} {bad:Bool} {c:Bs} (h1:bad=false→qHo m.coef=.ok c) (h2:bad=true→qHo m.coef=.error 225) :
  plus (plus (plus (plus (plus s (qWk bad 225)) (.ok ([]++qUy))) (.ok ([32]++c))) (allM (fun x=>sp32 (numM x)) m.exps)) (.ok [10])=plus s (qUe m):=by
 cases bad with
 | true =>
  simp only [qXm]
  congr 1
  unfold qUe
  rw [h2 rfl]; rfl
 | false =>
  have:plus s (qWk false 225)=s:=qAz
  rw [this,qMe,xXl]
  congr 1
  unfold qUe
  rw [h1 rfl]
  show _=(rowM numM m.exps >>= fun es=>Except.ok (qWd (qUy::c::es)))
  cases rowM numM m.exps with
  | error e=>rfl
  | ok es =>
   show Except.ok _=Except.ok _
   rw [qJb,List.flatMap_cons]
   simp only [List.nil_append,List.append_assoc,List.cons_append]
theorem xCr {s:Except Int Bs} {sig:Sg} {i:It}:plus (plus (plus (plus s (.ok ([]++wSet))) (sp32 (qJf sig i.sym true))) (.ok [10])) (allM qUe i.p)=plus s (intW sig i):=by
 simp only [qXm]
 congr 1
 unfold intW
 cases qJf sig i.sym true with
 | error e=>rfl
 | ok a =>
  cases allM qUe i.p with
  | error e=>rfl
  | ok t =>
   show Except.ok _=Except.ok _
   rw [qJb]
   simp [List.flatMap_cons]
theorem xUs {s:Except Int Bs} {sig:Sg} {n:Nd} {kd:Bs} (hk:at1 kinds n.kind.toNat=kd) :
  plus (plus (plus (plus (plus (plus (plus s (qWk (!(decide (0<n.kind) && decide (n.kind<6))) 222)) (.ok ([]++qKt))) (.ok ([32]++kd))) (sp32 (numM n.kids))) (.ok [10])) (allM (qWm sig qPb true) n.prec)) (allM (intW sig) n.ints)=plus s (qPk sig n):=by
 have e:qPk sig n=(must (decide (0<n.kind) && decide (n.kind<6)) 222 >>= fun _=>numM n.kids >>= fun k=>allM (qWm sig qPb true) n.prec >>= fun s1=>allM (intW sig) n.ints >>= fun s2=>.ok (qWd [qKt,at1 kinds n.kind.toNat,k]++s1++s2)):=rfl
 rw [e,← qBd]
 simp only [qXm]
 congr 2
 rw [hk]
 cases numM n.kids with
 | error e=>rfl
 | ok k =>
  cases allM (qWm sig qPb true) n.prec with
  | error e=>rfl
  | ok s1 =>
   cases allM (intW sig) n.ints with
   | error e=>rfl
   | ok s2 =>
    show Except.ok _=Except.ok _
    rw [qJb]
    simp [List.flatMap_cons]
end Go.Proofs.Sp
namespace Go.Proofs.YtkdneddcocggdaaGreatDoor.Am
open Go Go.Proofs Go.RowKit Go.Lib Sys Sp
set_option maxRecDepth 100000
variable {D:Orc} {E:Dorc} {h h' h0:H} {k:Kv} {kp:Kp} {L R:List Res} {bv sg:Value} {l:Bs} {ty:Bool} {p m:Nat} {s:Except Int Bs} {e:Int}
noncomputable def qGi (sig:Sg):Nat→List (List Int)→Except Int Bs
 | _,[]=>.ok []
 | i,t::l=>plus (if i=0 then sp32 (qZg sig t) else plus (.ok ([32]++wIs)) (sp32 (qZg sig t))) (qGi sig (i+1) l)
theorem qIo {sig:Sg}:∀ {l:List (List Int)} {i:Nat} {s:Except Int Bs} {pre:Bs},plus (plus (plus s (.ok pre)) (qGi sig i l)) (.ok [10])=plus s (rowM (qZg sig) l >>= fun ws=>.ok (pre++(behind i ws).flatMap (32::·)++[10]))
 | [],i,s,pre=>by
  show plus (plus (plus s (.ok pre)) (.ok [])) (.ok [10])=plus s (.ok (pre++(behind i []).flatMap (32::·)++[10]))
  rw [qAz,qMe,qLm,List.flatMap_nil,List.append_nil]
 | t::l,i,s,pre=>by
  show plus (plus (plus s (.ok pre)) (plus (if i=0 then sp32 (qZg sig t) else plus (.ok ([32]++wIs)) (sp32 (qZg sig t))) (qGi sig (i+1) l))) (.ok [10])=plus s ((qZg sig t >>= fun a=>rowM (qZg sig) l >>= fun b=>.ok (a::b)) >>= fun ws=>.ok (pre++(behind i ws).flatMap (32::·)++[10]))
  cases ht:qZg sig t with
  | error e =>
   have:(if i=0 then sp32 (.error e) else plus (.ok ([32]++wIs)) (sp32 (.error e)))=.error e:=by split <;> rfl
   rw [this]
   cases s <;> rfl
  | ok d =>
   have:(if i=0 then sp32 (.ok d) else plus (.ok ([32]++wIs)) (sp32 (.ok d)))=.ok ((if i=0 then [d] else [wIs,d]).flatMap (32::·)):=by
    split
    ·simp [sp32]; rfl
    ·show Except.ok _=Except.ok _
     simp [List.flatMap_cons]
   rw [this,← qXm,qMe,qIo (l:=l) (i:=i+1)]
   congr 1
   show (rowM (qZg sig) l >>= fun ws=>Except.ok (pre++(if i=0 then [d] else [wIs,d]).flatMap (32::·)++(behind (i+1) ws).flatMap (32::·)++[10]))=(rowM (qZg sig) l >>= fun b=>Except.ok (d::b)) >>= fun ws=>Except.ok (pre++(behind i ws).flatMap (32::·)++[10])
   cases rowM (qZg sig) l with
   | error e=>rfl
   | ok b =>
    show Except.ok (pre++(if i=0 then [d] else [wIs,d]).flatMap (32::·)++(behind (i+1) b).flatMap (32::·)++[10])=Except.ok (pre++(behind i (d::b)).flatMap (32::·)++[10])
    rw [qKp,List.flatMap_append]
    simp only [List.append_assoc]
theorem Pq.newC {vs ws:List Value} (o:Pq h0 p sg R m s h) (hl:ws.length=vs.length) (hv:vs.all one=true) {T:Prop} (hT:T) {K:Value→H→Prop} (hK:∀ b h',Pq h0 p sg (qQj b vs::R) m s h'→K (Pt b) h') :
  newW h ws (fun p h1=>ptrW p (fun ad=>T∧List.all vs one=true∧∃ h2,Am.wr h1 ad vs=some h2∧K p h2)):=by
 obtain ⟨ty,bv,l,e,o,q⟩:=o
 exact o.new_ fun b h1 hb o1=>o1.st6 (i:=0) rfl hl hv hT fun h2 o2=>hK b h2 ⟨ty,bv,l,e,Hp.perm o2 (List.perm_middle (l₁:=[_,_])),q⟩
theorem qTo (q:SpecsPr D) (st:qYr D 108) {sig:List Sy} (ps:PSig h0 sg sig) {b:Nat} {tv mv:Value} {ws:List Value} {its vs:List (List Value)} {i0:Nat} {mo:List Mo} (hti:RowK 2 h0 tv its) (hi0:i0<its.length) (hi1:its.length<2 ^ 40) (hmv:its[i0]'hi0=[(its[i0]'hi0).headD .nilIface,mv])
  (hr:RowK 2 h0 mv vs) (hrel:Rel2 (MoR h0) vs mo) (hl:mo.length<2 ^ 40) (hw2:ws[2]?=some tv) (o:Pq h0 p sg (qQj b ws::R) m s h) (hm:m+cst moC mo<2 ^ 37) {K:Kl}
  (hK:∀ h',Pq h0 p sg (qQj b ws::R) (m+cst moC mo) (plus s (allM qUe mo)) h'→K (.e 4) [Pt p,Pt b,.int .i64 (i0:Int)] h'):loop67_21 D [Pt p,Pt b,.int .i64 (i0:Int),.int .i64 0] h K:=by
 intro J hJ
 have hvl:=hrel.len
 have at1':∀ {h1:H},Ext h0 h1→∀ {K:Value→Prop},K mv→qQk tv (i0:Int) 2 (fun ad=>∃ v:Value,rd h1 (Addr.add ad 1)=some v∧K v):=fun {h1} e {K} hK =>
  qJw (hti.ext e) hi0 ⟨mv,qEs (hti.ext e) hi0 (by rw [hmv]; rfl),hK⟩
 have key:∀ n i:Nat,i+n=mo.length→∀ (m':Nat) (s':Except Int Bs) (h1:H),m'+cst moC (mo.drop i)≤m+cst moC mo→plus s' (allM qUe (mo.drop i))=plus s (allM qUe mo)→Pq h0 p sg (qQj b ws::R) m' s' h1 →
   J [Pt p,Pt b,.int .i64 (i0:Int),.int .i64 (i:Int)] h1:=by
  intro n
  induction n with
  | zero =>
   intro i hin' m' s' h1 hm' hs' o1
   refine hJ _ _ _ _ _ ?_
   unfold round67_21
   rw [qQa,qQa]
   refine ldj o1.cell hw2 (at1' o1.ext ?_)
   rw [(hr.ext o1.ext).len,qQc]
   refine ⟨fun hlt=>by omega,fun _=>hK h1 ?_⟩
   rw [List.drop_eq_nil_of_le (by omega),qZk] at hs'
   rw [← hs']
   exact o1.more (by omega)
  | succ n ih =>
   intro i hin' m' s' h1 hm' hs' o1
   refine hJ _ _ _ _ _ ?_
   unfold round67_21
   rw [qQa,qQa]
   refine ldj o1.cell hw2 (at1' o1.ext ?_)
   rw [(hr.ext o1.ext).len,qQc]
   refine ⟨fun _=>?_,fun hge=>by omega⟩
   have hir:i<mo.length:=by omega
   have hiv:i<vs.length:=by omega
   have hd:mo.drop i=mo[i]::mo.drop (i+1):=List.drop_eq_getElem_cons hir
   rw [hd,qXn] at hm'
   rw [hd,qWi] at hs'
   obtain ⟨v,w,hv,iv,iw⟩:=hrel.at_ i vs[i] mo[i] (List.getElem?_eq_getElem hiv) (List.getElem?_eq_getElem hir)
   have hmc:moC mo[i]=30*mo[i].exps.length+700:=rfl
   generalize mo[i]=x at hm' hs' iv iw hmc
   refine ldj o1.cell hw2 (at1' o1.ext ?_)
   refine (hr.ext o1.ext).at_ (by omega) (by omega) fun ad v' hv' hrd _=>?_
   rw [Int.toNat_natCast,List.getElem?_eq_getElem hiv,hv] at hv'
   obtain rfl:=Option.some.inj hv'
   refine ⟨v,w,hrd,?_⟩
   refine o1.newC (vs:=[v,w]) (ws:=[.slice none 0 0,.slice none 0 0]) rfl (by simp [qQy iv.row.isSl,qQy iw.row.isSl]) rfl fun b2 h2 o2=>?_
   refine ldj o2.cell rfl ?_
   have hri:Nats.right x.coef↔(decide (x.coef.length≤64) && decide (x.coef=Nats.limbs (Nats.val x.coef)))=true:=by
    unfold Nats.right; simp
   have go:∀ (t:ByteArray) (c:Int) h3,t.size≤640→Pq h0 p sg (qQj b2 [v,w]::qQj b ws::R) m' s' h3→((c != 0)=false→qHo x.coef=.ok (bts t))→((c != 0)=true→qHo x.coef=.error 225) →
     D 60 [Pt p,(.bool (c != 0)),(.int .i64 225)] h3 (fun v94 h95=>v94=(.tuple #[])∧D 62 [Pt p,(.bool true),(.string (ByteArray.mk #[109,111,110,111]))] h95 (fun v96 h97=>v96=(.tuple #[])∧D 62 [Pt p,(.bool false),(.string t)] h97 (fun v98 h99=>v98=(.tuple #[])∧loop67_29 D [Pt p,Pt b,(.int .i64 (i0:Int)),(.int .i64 (i:Int)),Pt b2,(.int .i64 0)] h99 (fun x114 vs115 h113=>xs x114 (K Am.X.r [] h113) (fun i116=>cond (Nat.beq i116 6) (
intK .i64 (nth vs115 2) (fun x117=>intK .i64 (nth vs115 3) (fun x118=>D 64 [(nth vs115 0)] h113 (fun v119 h120=>v119=(.tuple #[])∧J [(nth vs115 0),(nth vs115 1),(.int .i64 x117),(.int .i64 (IntKind.i64.wrap (x118+1)))] h120) (fun c h=>K (Am.X.p c) [] h)))) (False)) (fun c=>(fun c h=>K (Am.X.p c) [] h) c h113))) (fun c h=>K (Am.X.p c) [] h)) (fun c h=>K (Am.X.p c) [] h)) (fun c h=>K (Am.X.p c) [] h):=fun t c h3 ht o3 g1 g2=>by
    refine q.fail p sg _ _ _ _ 225 h0 h3 _ _ (fun _=>by decide) o3 fun h4 o4=>⟨rfl,?_⟩
    refine q.word p sg _ _ _ true _ h0 h4 _ _ (by show _+4+1<_; omega) o4 fun h5 o5=>⟨rfl,?_⟩
    refine q.word p sg _ _ _ false t h0 h5 _ _ (by show _+4+1+_+1<_; omega) o5 fun h6 o6=>⟨rfl,?_⟩
    refine xYf q iw rfl o6 (by show _+4+1+_+1+_<_; omega) fun h7 o7=>?_
    show xs (Am.X.e 6) (K Am.X.r [] h7) _ _
    rw [xs_e]
    show cond true _ _
    rw [cond_true,nth0,nth1,nth2,nth3,qQa,qQa]
    refine q.end_ p sg _ _ _ h0 h7 _ _ (by show _+4+1+_+1+_+1<_; omega) o7.drop_ fun h8 o8=>⟨rfl,?_⟩
    rw [qQm (by omega) (by omega),show (i:Int)+1=((i+1:Nat):Int) by omega]
    refine ih (i+1) (by omega) _ _ h8 ?_ ?_ o8
    ·show _+4+1+_+1+_+1+_≤_
     omega
    ·have:=xKb (s:=s') (m:=x) (bad:=c != 0) (c:=bts t) g1 g2
     show plus (plus (plus (plus (plus (plus s' (qWk (c != 0) 225)) (.ok ([]++qUy))) (.ok ([32]++bts t))) (allM (fun x=>sp32 (numM x)) x.exps)) (.ok [10])) _=_
     rw [this]; exact hs'
   refine st v x.coef h2 _ _ (iv.ext o2.ext) (fun hri2 t h3 e3 ht=>⟨_,_,rfl,?_⟩) fun hnr=>⟨_,_,rfl,?_⟩
   ·have hts:t.size≤640:=by
     have:=qGe hri2
     rw [← ht] at this
     exact this
    refine go t 0 h3 hts (o2.later e3) (fun _=>?_) fun hh=>by cases hh
    unfold qHo
    rw [hri.mp hri2,ht,qPd]; rfl
   ·refine go _ 10 h2 (by decide) o2 (fun hh=>by cases hh) fun _=>?_
    unfold qHo
    have:(decide (x.coef.length≤64) && decide (x.coef=Nats.limbs (Nats.val x.coef)))=false:=by
     rw [← Bool.not_eq_true]; exact fun hx=>hnr (hri.mpr hx)
    rw [this]; rfl
 exact key mo.length 0 (by omega) m s h (by rw [List.drop_zero]; exact Nat.le_refl _) (by rw [List.drop_zero]) o
theorem xWz (q:SpecsPr D) (st:qYr D 108) {sig:List Sy} (ps:PSig h0 sg sig) {b:Nat} {tv:Value} {ws:List Value} {its:List (List Value)} {l:List It} (hti:RowK 2 h0 tv its) (hrel:Rel2 (ItR h0) its l) (hl:l.length<2 ^ 40) (hw2:ws[2]?=some tv)
  (o:Pq h0 p sg (qQj b ws::R) m s h) (hm:m+cst itC l<2 ^ 37) {K:Kl} (hK:∀ h',Pq h0 p sg (qQj b ws::R) (m+cst itC l) (plus s (allM (Sp.intW (S2 sig)) l)) h'→K (.e 2) [] h'):loop67_15 D [Pt p,Pt b,.int .i64 0] h K:=by
 intro J hJ
 have hvl:=hrel.len
 have key:∀ n i:Nat,i+n=l.length→∀ (m':Nat) (s':Except Int Bs) (h1:H),m'+cst itC (l.drop i)≤m+cst itC l→plus s' (allM (Sp.intW (S2 sig)) (l.drop i))=plus s (allM (Sp.intW (S2 sig)) l)→Pq h0 p sg (qQj b ws::R) m' s' h1→J [Pt p,Pt b,.int .i64 (i:Int)] h1:=by
  intro n
  induction n with
  | zero =>
   intro i hin' m' s' h1 hm' hs' o1
   refine hJ _ _ _ _ ?_
   unfold round67_15
   rw [qQa]
   refine ldj o1.cell hw2 ?_
   rw [(hti.ext o1.ext).len,qQc]
   refine ⟨fun hlt=>by omega,fun _=>hK h1 ?_⟩
   rw [List.drop_eq_nil_of_le (by omega),qZk] at hs'
   rw [← hs']
   exact o1.more (by omega)
  | succ n ih =>
   intro i hin' m' s' h1 hm' hs' o1
   refine hJ _ _ _ _ ?_
   unfold round67_15
   rw [qQa]
   refine ldj o1.cell hw2 ?_
   rw [(hti.ext o1.ext).len,qQc]
   refine ⟨fun _=>?_,fun hge=>by omega⟩
   have hir:i<l.length:=by omega
   have hiv:i<its.length:=by omega
   have hd:l.drop i=l[i]::l.drop (i+1):=List.drop_eq_getElem_cons hir
   rw [hd,qXn] at hm'
   rw [hd,qWi] at hs'
   obtain ⟨mv,vs,hv,isym,r1,r2,r3⟩:=hrel.at_ i its[i] l[i] (List.getElem?_eq_getElem hiv) (List.getElem?_eq_getElem hir)
   have hic:itC l[i]=100+cst moC l[i].p:=rfl
   generalize l[i]=x at hm' hs' isym r2 r3 hic hv
   refine q.word p sg _ _ _ true _ h0 h1 _ _ (by show _+3+1<_; omega) o1 fun h2 o2=>⟨rfl,?_⟩
   refine ldj o2.cell hw2 ?_
   refine qJw (hti.ext o2.ext) hiv ⟨x.sym,qEs (hti.ext o2.ext) hiv (by rw [hv]; rfl),?_⟩
   refine q.code p sg sig _ _ _ x.sym true h0 h2 _ _ ps isym (by show _+3+1+36<_; omega) o2 fun h3 o3=>⟨rfl,?_⟩
   refine q.end_ p sg _ _ _ h0 h3 _ _ (by show _+3+1+36+1<_; omega) o3 fun h4 o4=>⟨rfl,?_⟩
   refine qTo q st ps (mo:=x.p) (i0:=i) hti hiv (by omega) (by rw [hv]; rfl) r1 r2 r3 hw2 o4 (by show _+3+1+36+1+_<_; omega) fun h5 o5=>?_
   show xs (Am.X.e 4) (K Am.X.r [] h5) _ _
   rw [xs_e]
   show cond true _ _
   rw [cond_true,nth0,nth1,nth2,qQa,qQm (by omega) (by omega),show (i:Int)+1=((i+1:Nat):Int) by omega]
   refine ih (i+1) (by omega) _ _ h5 ?_ ?_ o5
   ·show _+3+1+36+1+_+_≤_
    omega
   ·have:=xCr (s:=s') (sig:=S2 sig) (i:=x)
    show plus (plus (plus (plus (plus s' (.ok ([]++wSet))) (sp32 (qJf (S2 sig) x.sym true))) (.ok [10])) (allM qUe x.p)) _=_
    rw [this]; exact hs'
 exact key l.length 0 (by omega) m s h (by rw [List.drop_zero]; exact Nat.le_refl _) (by rw [List.drop_zero]) o
def qCa (D:Orc) (f:Nat):Prop:=∀ (p:Nat) (sg:Value) (sig:List Sy) (c:List Value) (n:Nd) (R:List Res) (m:Nat) (s:Except Int Bs) h0 h (k:Kv) kp,PSig h0 sg sig→NdR h0 c n→m+ndC n<2 ^ 37→Pq h0 p sg R m s h →
 (∀ h',Pq h0 p sg R (m+ndC n) (plus s (qPk (S2 sig) n)) h'→k (.tuple #[]) h')→D f [Pt p,.agg c.toArray] h k kp
theorem xLf (c0:Cl67 D) (q:SpecsPr D) (st:qYr D 108) (ck:Cl107 D):qCa D 67:=by
 intro p sg sig c n R m s h0 h k kp ps hn hm o hk
 obtain ⟨sv,tv,vs,rfl,ik,ikids,r1,inp,l1,r2,rel2,l2⟩:=hn
 refine c0 _ _ _ _ _ ?_
 unfold F67
 rw [show (Value.agg [.int .i64 n.kind,sv,tv,.int .i64 n.kids].toArray)=.agg #[.int .i64 n.kind,sv,tv,.int .i64 n.kids] from rfl,qZs]
 have hnc:ndC n=100+cst prC n.prec+cst itC n.ints:=rfl
 refine o.new_ fun b h1 o1=>?_
 have o1:Pq h0 p sg (qQj b [.int .i64 n.kind,sv,tv,.int .i64 n.kids]::R) m s h1:=o1
 refine ldjI o1.cell rfl ?_
 have fin:∀ (bad:Bool) h2,bad=(!(decide (0<n.kind) && decide (n.kind<6)))→Pq h0 p sg (qQj b [.int .i64 n.kind,sv,tv,.int .i64 n.kids]::R) m (plus s (qWk bad 222)) h2→j67__2 D k kp (Pt p) (Pt b) h2:=fun bad h2 hb o2=>by
  have hall:=xUs (s:=s) (sig:=S2 sig) (n:=n) (kd:=at1 kinds n.kind.toNat) rfl
  rw [← hb] at hall
  unfold j67__2
  refine qUd o2 (fun a ha=>?_) fun e he hne=>?_
  ·show cond false _ _
   rw [cond_false]
   have hbf:bad=false:=by
    cases bad with
    | false=>rfl
    | true=>cases s <;> cases ha
   have hok:=qJx (hbf.symm.trans hb)
   rw [Bool.and_eq_true,decide_eq_true_eq,decide_eq_true_eq] at hok
   refine q.word p sg _ _ _ true _ h0 h2 _ _ (by show _+4+1<_; omega) o2 fun h3 o3=>⟨rfl,?_⟩
   refine ldjI o3.cell rfl ?_
   refine ck _ _ _ ?_
   unfold F107
   refine ⟨rfl,by decide,rfl,by decide,rfl,by decide,rfl,by decide,rfl,by decide,rfl,by decide,?_⟩
   intro nb hnb
   have hrow:Row (h3.set nb (.cells (wsV kinds))) (.slice (some ⟨nb,0,none⟩) 6 6) (wsV kinds):=Row.cells qQh rfl
   have o4:=o3.later (show Ext h3 (h3.set nb (.cells (wsV kinds))) from Ext.new hnb)
   refine ⟨_,rfl,qVb o4.cell rfl,?_⟩
   have hkn:n.kind=((n.kind.toNat:Nat):Int):=by omega
   have hvi:(wsV kinds)[n.kind.toNat]?=some (.string (strB (at1 kinds n.kind.toNat))):=by
    have hx:n.kind.toNat<kinds.length:=by show _<6; omega
    unfold wsV at1
    rw [List.getElem?_map,List.getElem?_eq_getElem hx]; rfl
   rw [hkn]
   refine xPv hrow hvi fun ad hr=>⟨_,hr,?_⟩
   have hks:(strB (at1 kinds n.kind.toNat)).size≤8:=by
    rw [qXi]
    have:∀ i:_root_.Fin 6,(at1 kinds i.val).length≤8:=by decide
    exact this ⟨n.kind.toNat,by omega⟩
   refine q.word p sg _ _ _ false _ h0 _ _ _ (by show _+4+1+_+1<_; omega) o4 fun h5 o5=>⟨rfl,?_⟩
   rw [qQu] at o5
   refine ldjI o5.cell rfl ?_
   refine q.num p sg _ _ _ n.kids h0 h5 _ _ ikids (by show _+4+1+_+1+22<_; omega) o5 fun h6 o6=>⟨rfl,?_⟩
   refine q.end_ p sg _ _ _ h0 h6 _ _ (by show _+4+1+_+1+22+1<_; omega) o6 fun h7 o7=>⟨rfl,?_⟩
   refine xUg q ps r1 inp l1 rfl o7 (by show _+4+1+_+1+22+1+_<_; omega) fun h8 o8=>?_
   show xs (Am.X.e 0) _ _ _
   rw [xs_e]
   show cond true _ _
   rw [cond_true,nth0,nth1]
   refine xWz q st ps r2 rel2 l2 rfl o8 (by show _+4+1+_+1+22+1+_+_<_; omega) fun h9 o9=>?_
   show xs (Am.X.e 2) _ _ _
   rw [xs_e]
   show cond true _ _
   rw [cond_true]
   refine hk h9 ?_
   rw [← hall]
   exact o9.drop_.more (by show _+4+1+_+1+22+1+_+_≤_; omega)
  ·rw [show (e != 0)=true from bne_iff_ne.mpr hne,cond_true]
   refine hk h2 ?_
   have:plus s (qPk (S2 sig) n)=plus s (qWk bad 222):=by
    rw [← hall,he]; rfl
   rw [this]
   exact o2.drop_.more (by omega)
 rw [qQv,qQc]
 refine ⟨fun hlt=>?_,fun hge=>?_⟩
 ·refine q.fail p sg _ m s true 222 h0 h1 _ _ (fun _=>by decide) o1 fun h2 o2=>⟨rfl,fin true h2 ?_ o2⟩
  rw [decide_eq_false (show ¬ 0<n.kind by omega)]; rfl
 ·refine ldjI o1.cell rfl ?_
  refine q.fail p sg _ m s _ 222 h0 h1 _ _ (fun _=>by decide) o1 fun h2 o2=>⟨rfl,fin _ h2 ?_ o2⟩
  rw [decide_eq_true (show 0<n.kind by omega),Bool.true_and]
  by_cases hb:n.kind>5
  ·rw [decide_eq_true hb,decide_eq_false (by omega)]; rfl
  ·rw [decide_eq_false hb,decide_eq_true (by omega)]; rfl
end Go.Proofs.YtkdneddcocggdaaGreatDoor.Am
namespace Go.Proofs.Sp
open Go Go.Lib Sys Nats
theorem xBu {s:Except Int Bs} {x:Bs × Int} (hx:qWc x.1=true):plus (plus (plus (plus s (.ok ([]++wSym))) (.ok ([32]++x.1))) (sp32 (numM x.2))) (.ok [10])=plus s (symW x):=by
 simp only [qXm]
 congr 1
 unfold symW
 have:(x.1.getLast?==some 35)=false:=beq_eq_false_iff_ne.mpr (qSb hx)
 rw [this]
 show _=(numM x.2 >>= fun n=>Except.ok (qWd [wSym,x.1,n]))
 cases numM x.2 with
 | error e=>rfl
 | ok n =>
  show Except.ok _=Except.ok _
  rw [qJb]
  simp [List.flatMap_cons]
theorem xXf:∀ {l:Sg},(∀ x∈l,0≤x.2∧x.2≤8∧(qWc x.1=true∨x.1.getLast?=some 35))→(∃ x∈l,qWc x.1=false)→allM symW l=.error 223
 | [],_,h=>by obtain ⟨x,hx,_⟩:=h; cases hx
 | x::l,hall,h=>by
  obtain ⟨a1,a2,a3⟩:=hall x (.head _)
  show (symW x >>= fun a=>allM symW l >>= fun b=>.ok (a++b))=_
  cases hx:qWc x.1 with
  | false =>
   have h35:x.1.getLast?=some 35:=a3.resolve_left (by rw [hx]; simp)
   have:symW x=.error 223:=by
    unfold symW
    rw [h35]; rfl
   rw [this]; rfl
  | true =>
   obtain ⟨y,hy,hyn⟩:=h
   have hy':y∈l:=by
    rcases List.mem_cons.mp hy with rfl | hy
    ·rw [hx] at hyn; cases hyn
    ·exact hy
   rw [xXf (fun z hz=>hall z (.tail _ hz)) ⟨y,hy',hyn⟩]
   unfold symW
   have:(x.1.getLast?==some 35)=false:=beq_eq_false_iff_ne.mpr (qSb hx)
   rw [this]
   have hn:numM x.2=.ok (decDigits x.2.toNat):=by
    unfold numM
    rw [decide_eq_true a1,decide_eq_true (show x.2≤(most:Int) by unfold most; omega)]; rfl
   rw [hn]; rfl
end Go.Proofs.Sp
namespace Go.Proofs.YtkdneddcocggdaaGreatDoor.Am
open Go Go.Proofs Go.RowKit Go.Lib Sys Sp
set_option maxRecDepth 100000
variable {D:Orc} {E:Dorc} {h h' h0:H} {k:Kv} {kp:Kp} {L R:List Res} {bv sg:Value} {l:Bs} {ty:Bool} {p m:Nat} {s:Except Int Bs} {e:Int}
def wdC (x:Cm):Nat:=cmC x+x.word.length
theorem qSp (q:SpecsPr D) {sig:List Sy} (ps:PSig h0 sg sig) {b:Nat} {tv:Value} {ws vs:List Value} {ts:List (List Int)} (hr:Row h0 tv vs) (hrel:Rel2 (fun v l=>Ir h0 v l) vs ts) (hl:ts.length<2 ^ 40) (hw1:ws[1]?=some tv)
  (o:Pq h0 p sg (qQj b ws::R) m s h) (hm:m+50*ts.flatten.length+3*ts.length<2 ^ 37) {K:Kl} (hK:∀ h',Pq h0 p sg (qQj b ws::R) (m+50*ts.flatten.length+3*ts.length) (plus s (qGi (S2 sig) 0 ts)) h'→K (.e 1) [Pt p] h') :
  loop68_16 D [Pt p,Pt b,.int .i64 0] h K:=by
 intro J hJ
 have hvl:=hrel.len
 have key:∀ n i:Nat,i+n=ts.length→∀ (m':Nat) (s':Except Int Bs) (h1:H),m'+50*(ts.drop i).flatten.length+3*(ts.drop i).length≤m+50*ts.flatten.length+3*ts.length→plus s' (qGi (S2 sig) i (ts.drop i))=plus s (qGi (S2 sig) 0 ts)→Pq h0 p sg (qQj b ws::R) m' s' h1→J [Pt p,Pt b,.int .i64 (i:Int)] h1:=by
  intro n
  induction n with
  | zero =>
   intro i hin' m' s' h1 hm' hs' o1
   refine hJ _ _ _ _ ?_
   unfold round68_16
   rw [qQa]
   refine ldj o1.cell hw1 ?_
   rw [(hr.ext o1.ext).len,qQc]
   refine ⟨fun hlt=>by omega,fun _=>hK h1 ?_⟩
   rw [List.drop_eq_nil_of_le (by omega)] at hs'
   have hs':plus s' (.ok [])=_:=hs'
   rw [qAz] at hs'
   rw [← hs']
   exact o1.more (by omega)
  | succ n ih =>
   intro i hin' m' s' h1 hm' hs' o1
   refine hJ _ _ _ _ ?_
   unfold round68_16
   rw [qQa]
   refine ldj o1.cell hw1 ?_
   rw [(hr.ext o1.ext).len,qQc]
   refine ⟨fun _=>?_,fun hge=>by omega⟩
   have hir:i<ts.length:=by omega
   have hiv:i<vs.length:=by omega
   have hd:ts.drop i=ts[i]::ts.drop (i+1):=List.drop_eq_getElem_cons hir
   rw [hd,List.flatten_cons,List.length_append,List.length_cons] at hm'
   rw [hd] at hs'
   have iv:=hrel.at_ i vs[i] ts[i] (List.getElem?_eq_getElem hiv) (List.getElem?_eq_getElem hir)
   have hul:=iv.len
   generalize ts[i]=t at hm' hs' iv hul
   have twenty:∀ (m2:Nat) (s2:Except Int Bs) h2,m2≤m'+2→plus s2 (sp32 (qZg (S2 sig) t))=plus s' (if i=0 then sp32 (qZg (S2 sig) t) else plus (.ok ([32]++wIs)) (sp32 (qZg (S2 sig) t)))→Pq h0 p sg (qQj b ws::R) m2 s2 h2→j68_16_20 D J K (Pt p) (Pt b) (.int .i64 (i:Int)) h2:=fun m2 s2 h2 hm2 hs2 o2=>by
    unfold j68_16_20
    rw [qQa]
    refine ldj o2.cell hw1 ?_
    refine (hr.ext o2.ext).at_ (by omega) (by omega) fun ad v hv hrd=>⟨v,hrd,?_⟩
    rw [Int.toNat_natCast,List.getElem?_eq_getElem hiv] at hv
    obtain rfl:=Option.some.inj hv
    refine q.term p sg sig _ _ _ _ t h0 h2 _ _ ps iv hul (by omega) o2 fun h3 o3=>⟨rfl,?_⟩
    rw [qQm (by omega) (by omega),show (i:Int)+1=((i+1:Nat):Int) by omega]
    refine ih (i+1) (by omega) _ _ h3 (by omega) ?_ o3
    rw [hs2,qXm]; exact hs'
   rw [qQc]
   refine ⟨fun hpos=>?_,fun hz=>?_⟩
   ·refine q.word p sg _ _ _ false _ h0 h1 _ _ (by show _+1+1<_; omega) o1 fun h2 o2=>⟨rfl,twenty (m'+1+1) _ h2 (by omega) ?_ o2⟩
    rw [if_neg (show ¬ i=0 by omega),qXm]; rfl
   ·exact twenty m' s' h1 (by omega) (by rw [if_pos (by omega)]) o1
 exact key ts.length 0 (by omega) m s h (by rw [List.drop_zero]; exact Nat.le_refl _) (by rw [List.drop_zero]) o
def qGa (D:Orc) (f:Nat):Prop:=∀ (p:Nat) (sg:Value) (sig:List Sy) (c:List Value) (x:Cm) (R:List Res) (m:Nat) (s:Except Int Bs) h0 h (k:Kv) kp,PSig h0 sg sig→CmR h0 c x→m+wdC x<2 ^ 37→Pq h0 p sg R m s h →
 (∀ h',Pq h0 p sg R (m+wdC x) (plus s (cmdW (S2 sig) x)) h'→k (.tuple #[]) h')→D f [Pt p,.agg c.toArray] h k kp
theorem xLe (c0:Cl68 D) (q:SpecsPr D):qGa D 68:=by
 intro p sg sig c x R m s h0 h k kp ps hn hm o hk
 obtain ⟨tv,vs,rfl,wl,hr,hrel,htl⟩:=hn
 refine c0 _ _ _ _ _ ?_
 unfold F68
 rw [show (Value.agg [.string (strB x.word),tv].toArray)=.agg #[.string (strB x.word),tv] from rfl,qZs]
 have hwd:wdC x=50*x.terms.flatten.length+4*x.terms.length+20+x.word.length:=rfl
 refine o.new_ fun b h1 o1=>?_
 have o1:Pq h0 p sg (qQj b [.string (strB x.word),tv]::R) m s h1:=o1
 rw [qQf]
 refine ⟨_,qVb o1.cell rfl,?_⟩
 have thirteen:∀ (n:Nat) (s0:Except Int Bs) h2,plus s0 (must (x.terms.length==n) 224 >>= fun _=>rowM (qZg (S2 sig)) x.terms >>= fun ts=>.ok (qWd (x.word::between wIs ts)))=plus s (cmdW (S2 sig) x)→Pq h0 p sg (qQj b [.string (strB x.word),tv]::R) m s0 h2 →
   j68__13 D k kp (Pt p) (Pt b) (.int .i64 (n:Int)) h2:=fun n s0 h2 hall o2=>by
  unfold j68__13
  rw [qQa]
  refine ldj o2.cell rfl ?_
  rw [(hr.ext o2.ext).len,hrel.len]
  have hbool:((x.terms.length:Int) != (n:Int))=!(x.terms.length==n):=by
   by_cases hh:x.terms.length=n
   ·rw [hh]; simp
   ·have h1:((x.terms.length:Int) != (n:Int))=true:=bne_iff_ne.mpr (by omega)
    rw [h1,beq_eq_false_iff_ne.mpr hh]; rfl
  rw [hbool]
  refine q.fail p sg _ _ _ _ 224 h0 h2 _ _ (fun _=>by decide) o2 fun h3 o3=>⟨rfl,?_⟩
  rw [qQf]
  refine ⟨_,qVb o3.cell rfl,?_⟩
  refine q.word p sg _ _ _ true _ h0 h3 _ _ (by rw [qXi]; omega) o3 fun h4 o4=>⟨rfl,?_⟩
  rw [qQu,qXi] at o4
  refine qSp q ps hr hrel htl rfl o4 (by omega) fun h5 o5=>?_
  show xs (Am.X.e 1) _ _ _
  rw [xs_e]
  show cond true _ _
  rw [cond_true,nth0]
  refine q.end_ p sg _ _ _ h0 h5 _ _ (by omega) o5.drop_ fun h6 o6=>⟨rfl,hk h6 ?_⟩
  have:plus (plus (plus (plus s0 (qWk (!(x.terms.length==n)) 224)) (.ok ([]++x.word))) (qGi (S2 sig) 0 x.terms)) (.ok [10])=plus s (cmdW (S2 sig) x):=by
   rw [← hall,qIo,qBd]
   congr 1
   cases must (x.terms.length==n) 224 with
   | error e=>rfl
   | ok u =>
    show (rowM (qZg (S2 sig)) x.terms >>= fun ws=>Except.ok ([]++x.word++(behind 0 ws).flatMap (32::·)++[10]))=(rowM (qZg (S2 sig)) x.terms >>= fun ts=>Except.ok (qWd (x.word::between wIs ts)))
    cases rowM (qZg (S2 sig)) x.terms with
    | error e=>rfl
    | ok ws =>
     show Except.ok _=Except.ok _
     rw [qJb]; rfl
  rw [← this]
  exact o6.more (by omega)
 have nine:∀ t:Bool,(t=true↔bare x.word)→j68__9 D k kp (Pt p) (Pt b) (.int .i64 0) (.string (strB x.word)) (.bool t) h1:=fun t ht=>by
  unfold j68__9
  rw [qQa,qQb,qQd]
  cases t with
  | true =>
   rw [cond_true]
   refine thirteen 0 s h1 ?_ o1
   unfold cmdW qGd
   rw [if_pos (ht.mp rfl)]; rfl
  | false =>
   have hnb:¬ bare x.word:=fun hb=>by have:=ht.mpr hb; cases this
   rw [cond_false,xZq,qQu]
   refine ⟨fun hw=>?_,fun hw=>?_⟩
   ·refine thirteen 1 s h1 ?_ o1
    unfold cmdW qGd
    rw [if_neg hnb,if_pos (show x.word=qVo from hw)]; rfl
   ·rw [xZq,qQu]
    refine ⟨fun hw2=>?_,fun hw2=>?_⟩
    ·refine thirteen 2 s h1 ?_ o1
     unfold cmdW qGd
     rw [if_neg hnb,if_neg (show ¬ x.word=qVo from hw),if_pos (show x.word=qEq from hw2)]; rfl
    ·refine q.fail p sg _ _ _ true 222 h0 h1 _ _ (fun _=>by decide) o1 fun h2 o2=>⟨rfl,thirteen 0 _ h2 ?_ o2⟩
     unfold cmdW qGd
     rw [if_neg hnb,if_neg (show ¬ x.word=qVo from hw),if_neg (show ¬ x.word=qEq from hw2),qXm]; rfl
 rw [qZm,qQc]
 refine ⟨fun hc=>nine _ (by rw [decide_eq_true_eq]; exact ⟨fun hh=>.inl hh,fun _=>hc⟩),fun hc1=>?_⟩
 rw [qZm,qQc]
 refine ⟨fun hc=>nine _ (by rw [decide_eq_true_eq]; exact ⟨fun hh=>.inr (.inl hh),fun _=>hc⟩),fun hc2=>?_⟩
 rw [qZm,qQc]
 refine ⟨fun hc=>nine _ (by rw [decide_eq_true_eq]; exact ⟨fun hh=>.inr (.inr (.inl hh)),fun _=>hc⟩),fun hc3=>?_⟩
 rw [qZm,qQc]
 refine ⟨fun hc=>nine _ (by rw [decide_eq_true_eq]; exact ⟨fun hh=>.inr (.inr (.inr (.inl hh))),fun _=>hc⟩),fun hc4=>?_⟩
 rw [qZm]
 refine nine _ ?_
 rw [decide_eq_true_eq]
 exact ⟨fun hh=>.inr (.inr (.inr (.inr hh))),fun hh=>by
  rcases hh with hh | hh | hh | hh | hh
  ·exact absurd hh hc1
  ·exact absurd hh hc2
  ·exact absurd hh hc3
  ·exact absurd hh hc4
  ·exact hh⟩
end Go.Proofs.YtkdneddcocggdaaGreatDoor.Am
namespace Go.Proofs.Sp
open Go Go.Lib Sys Nats
theorem qTe {B:Bk} (h64:B.sig.length≤64):qDp 0 B=(plus (plus (plus (plus (plus (plus (.ok []) (allM symW B.sig)) (qVl B.sig qKs qJg B.rules)) (qVl B.sig wEq wIs B.eqs)) (allM (qWm B.sig qZz false) B.prec)) (allM (qPk B.sig) B.cert)) (allM (cmdW B.sig) B.cmds) >>=
  fun t=>must (decide (t.length≤65536) && decide (t.count 10<4096)) 220 >>= fun _=>.ok t):=by
 unfold qDp
 rw [if_neg (by simp),decide_eq_true h64]
 cases allM symW B.sig with
 | error e=>rfl
 | ok s1 =>
  cases qVl B.sig qKs qJg B.rules with
  | error e=>rfl
  | ok s2 =>
   cases qVl B.sig wEq wIs B.eqs with
   | error e=>rfl
   | ok s3 =>
    cases allM (qWm B.sig qZz false) B.prec with
    | error e=>rfl
    | ok s4 =>
     cases allM (qPk B.sig) B.cert with
     | error e=>rfl
     | ok s5 =>
      cases allM (cmdW B.sig) B.cmds with
      | error e=>rfl
      | ok s6=>rfl
end Go.Proofs.Sp
namespace Go.Proofs.YtkdneddcocggdaaGreatDoor.Am
open Go Go.Proofs Go.RowKit Go.Lib Sys Sp
set_option maxRecDepth 100000
variable {D:Orc} {E:Dorc} {h h' h0:H} {k:Kv} {kp:Kp} {L R:List Res} {bv sg:Value} {l:Bs} {ty:Bool} {p m:Nat} {s:Except Int Bs} {e:Int}
def qCq (y:Sy):Except Int Bs:=qWk (!qZu y.1) 223
theorem xWk (q:SpecsPr D) (sn:qWj D 61 Tbl) (ht:Tbl h0) {sig:List Sy} (hs:Sr h0 sg sig) {b:Nat} {ws:List Value} (hw:ws[0]?=some sg) (o:Pq h0 p sg (qQj b ws::R) m s h) {K:Kl}
  (hK:∀ h',Pq h0 p sg (qQj b ws::R) m (plus s (allM qCq sig)) h'→K (.e 0) [Pt b,Pt p] h'):loop21_6 D [Pt b,Pt p,.int .i64 0] h K:=by
 intro J hJ
 have hsl:=hs.len
 have key:∀ n i:Nat,i+n=sig.length→∀ (s':Except Int Bs) (h1:H),plus s' (allM qCq (sig.drop i))=plus s (allM qCq sig)→Pq h0 p sg (qQj b ws::R) m s' h1→J [Pt b,Pt p,.int .i64 (i:Int)] h1:=by
  intro n
  induction n with
  | zero =>
   intro i hin' s' h1 hs' o1
   refine hJ _ _ _ _ ?_
   unfold round21_6
   rw [qQa]
   refine ldj o1.cell hw ?_
   rw [(hs.row.ext o1.ext).len,qQl,qQc]
   refine ⟨fun hlt=>by omega,fun _=>hK h1 ?_⟩
   rw [List.drop_eq_nil_of_le (by omega),qZk] at hs'
   rw [← hs']; exact o1
  | succ n ih =>
   intro i hin' s' h1 hs' o1
   refine hJ _ _ _ _ ?_
   unfold round21_6
   rw [qQa]
   refine ldj o1.cell hw ?_
   rw [(hs.row.ext o1.ext).len,qQl,qQc]
   refine ⟨fun _=>?_,fun hge=>by omega⟩
   have hir:i<sig.length:=by omega
   have hd:sig.drop i=sig[i]::sig.drop (i+1):=List.drop_eq_getElem_cons hir
   rw [hd,qWi] at hs'
   refine ldj o1.cell hw ?_
   refine (hs.row.ext o1.ext).at_ (by omega) (by rw [qQl]; omega) fun ad v hv _ hj2=>?_
   obtain ⟨z,hz,rfl⟩:=qZa hv
   rw [Int.toNat_natCast,List.getElem?_eq_getElem hir] at hz
   obtain rfl:=Option.some.inj hz
   refine ⟨_,hj2 0 _ rfl,?_⟩
   refine sn _ _ _ _ (hs.names _ (List.getElem_mem hir)) (qQt _ _ o1.ext ht) fun h2 e2=>⟨_,rfl,?_⟩
   refine q.fail p sg _ _ _ _ 223 h0 h2 _ _ (fun _=>by decide) (o1.later e2) fun h3 o3=>⟨rfl,?_⟩
   rw [qQm (by omega) (by omega),show (i:Int)+1=((i+1:Nat):Int) by omega]
   exact ih (i+1) (by omega) _ h3 hs' o3
 exact key sig.length 0 (by omega) s h (by rw [List.drop_zero]) o
theorem xVp (q:SpecsPr D) {S:Sg} (ps:PSig h0 sg (toSy S)) (hn:∀ x∈S,qWc x.1=true) {b:Nat} {ws:List Value} (hw:ws[0]?=some sg) (o:Pq h0 p sg (qQj b ws::R) m s h) (hm:m+cst syC S<2 ^ 37) {K:Kl}
  (hK:∀ h',Pq h0 p sg (qQj b ws::R) (m+cst syC S) (plus s (allM symW S)) h'→K (.e 2) [Pt b,Pt p] h'):loop21_12 D [Pt b,Pt p,.int .i64 0] h K:=by
 intro J hJ
 have hs:=ps.sr
 have hsl:=ps.n64
 rw [qXh] at hsl
 have key:∀ n i:Nat,i+n=S.length→∀ (m':Nat) (s':Except Int Bs) (h1:H),m'+cst syC (S.drop i)≤m+cst syC S→plus s' (allM symW (S.drop i))=plus s (allM symW S)→Pq h0 p sg (qQj b ws::R) m' s' h1→J [Pt b,Pt p,.int .i64 (i:Int)] h1:=by
  intro n
  induction n with
  | zero =>
   intro i hin' m' s' h1 hm' hs' o1
   refine hJ _ _ _ _ ?_
   unfold round21_12
   rw [qQa]
   refine ldj o1.cell hw ?_
   rw [(hs.row.ext o1.ext).len,qQl,qXh,qQc]
   refine ⟨fun hlt=>by omega,fun _=>hK h1 ?_⟩
   rw [List.drop_eq_nil_of_le (by omega),qZk] at hs'
   rw [← hs']
   exact o1.more (by omega)
  | succ n ih =>
   intro i hin' m' s' h1 hm' hs' o1
   refine hJ _ _ _ _ ?_
   unfold round21_12
   rw [qQa]
   refine ldj o1.cell hw ?_
   rw [(hs.row.ext o1.ext).len,qQl,qXh,qQc]
   refine ⟨fun _=>?_,fun hge=>by omega⟩
   have hir:i<S.length:=by omega
   have hd:S.drop i=S[i]::S.drop (i+1):=List.drop_eq_getElem_cons hir
   rw [hd,qXn] at hm'
   rw [hd,qWi] at hs'
   have hat:∀ {h2:H},Ext h0 h2→∀ {K:Addr→Prop},(∀ ad,rd h2 (Addr.add ad 0)=some (.string (strB S[i].1))→rd h2 (Addr.add ad 1)=some (.int .i64 S[i].2)→K ad)→qQk sg (i:Int) 2 K:=fun {h2} e2 {K} hK=>by
    refine (hs.row.ext e2).at_ (by omega) (by rw [qQl,qXh]; omega) fun ad v hv _ hj2=>?_
    obtain ⟨z,hz,rfl⟩:=qZa hv
    unfold toSy at hz
    rw [Int.toNat_natCast,List.getElem?_map,List.getElem?_eq_getElem hir] at hz
    obtain rfl:=Option.some.inj hz
    exact hK ad (hj2 0 _ rfl) (hj2 1 _ rfl)
   have hok:=hn _ (List.getElem_mem hir)
   have h33:=ps.n33 (strB S[i].1,S[i].2) (List.mem_map.mpr ⟨S[i],List.getElem_mem hir,rfl⟩)
   have h33:(strB S[i].1).size≤33:=h33
   have har:=qSh ps.chk (strB S[i].1,S[i].2) (List.mem_map.mpr ⟨S[i],List.getElem_mem hir,rfl⟩)
   have har:0≤S[i].2∧S[i].2≤8:=har
   have hsc:syC S[i]=70:=rfl
   generalize S[i]=x at hm' hs' hat hok h33 har hsc
   refine q.word p sg _ _ _ true _ h0 h1 _ _ (by show _+3+1<_; omega) o1 fun h2 o2=>⟨rfl,?_⟩
   refine ldj o2.cell hw (hat o2.ext fun ad hr0 _=>⟨_,hr0,?_⟩)
   refine q.word p sg _ _ _ false _ h0 h2 _ _ (by show _+3+1+_+1<_; omega) o2 fun h3 o3=>⟨rfl,?_⟩
   rw [qQu] at o3
   refine ldj o3.cell hw (hat o3.ext fun ad _ hr1=>⟨_,hr1,?_⟩)
   refine q.num p sg _ _ _ x.2 h0 h3 _ _ (by unfold inI; omega) (by show _+3+1+_+1+22<_; omega) o3 fun h4 o4=>⟨rfl,?_⟩
   refine q.end_ p sg _ _ _ h0 h4 _ _ (by show _+3+1+_+1+22+1<_; omega) o4 fun h5 o5=>⟨rfl,?_⟩
   rw [qQm (by omega) (by omega),show (i:Int)+1=((i+1:Nat):Int) by omega]
   refine ih (i+1) (by omega) _ _ h5 ?_ ?_ o5
   ·show _+3+1+_+1+22+1+_≤_
    omega
   ·have:=xBu (s:=s') hok
    show plus (plus (plus (plus (plus s' (.ok ([]++wSym))) (.ok ([32]++x.1))) (sp32 (numM x.2))) (.ok [10])) _=_
    rw [this]; exact hs'
 exact key S.length 0 (by omega) m s h (by rw [List.drop_zero]; exact Nat.le_refl _) (by rw [List.drop_zero]) o
theorem xJa (q:SpecsPr D) {sig:List Sy} (ps:PSig h0 sg sig) {b:Nat} {pv:Value} {l:List (Int × Int)} {ws:List Value} (hr:RowK 2 h0 pv (l.map qWx)) (hin:∀ x∈l,inP x) (hl:l.length<2 ^ 40) (hw1:ws[3]?=some pv) (o:Pq h0 p sg (qQj b ws::R) m s h) (hm:m+cst prC l<2 ^ 37) {K:Kl}
  (hK:∀ h',Pq h0 p sg (qQj b ws::R) (m+cst prC l) (plus s (allM (qWm (S2 sig) qZz false) l)) h'→K (.e 4) [Pt b,Pt p] h'):loop21_21 D [Pt b,Pt p,.int .i64 0] h K:=by
 intro J hJ
 have key:∀ n i:Nat,i+n=l.length→∀ (m':Nat) (s':Except Int Bs) (h1:H),m'+cst prC (l.drop i)≤m+cst prC l→plus s' (allM (qWm (S2 sig) qZz false) (l.drop i))=plus s (allM (qWm (S2 sig) qZz false) l)→Pq h0 p sg (qQj b ws::R) m' s' h1 →
   J [Pt b,Pt p,.int .i64 (i:Int)] h1:=by
  intro n
  induction n with
  | zero =>
   intro i hin' m' s' h1 hm' hs' o1
   refine hJ _ _ _ _ ?_
   unfold round21_21
   rw [qQa]
   refine ldj o1.cell hw1 ?_
   rw [(hr.ext o1.ext).len,List.length_map,qQc]
   refine ⟨fun hlt=>by omega,fun _=>hK h1 ?_⟩
   rw [List.drop_eq_nil_of_le (by omega),qZk] at hs'
   rw [← hs']
   exact o1.more (by omega)
  | succ n ih =>
   intro i hin' m' s' h1 hm' hs' o1
   refine hJ _ _ _ _ ?_
   unfold round21_21
   rw [qQa]
   refine ldj o1.cell hw1 ?_
   rw [(hr.ext o1.ext).len,List.length_map,qQc]
   refine ⟨fun _=>?_,fun hge=>by omega⟩
   have hir:i<l.length:=by omega
   have hiv:i<(l.map qWx).length:=by rw [List.length_map]; exact hir
   have hd:l.drop i=l[i]::l.drop (i+1):=List.drop_eq_getElem_cons hir
   rw [hd,qXn] at hm'
   rw [hd,qWi] at hs'
   obtain ⟨i1,i2⟩:=hin l[i] (List.getElem_mem hir)
   have hvi:(l.map qWx)[i]=[.int .i64 l[i].1,.int .i64 l[i].2]:=by rw [List.getElem_map]; rfl
   have hpc:prC l[i]=100:=rfl
   generalize l[i]=x at hm' hs' i1 i2 hvi hpc
   refine q.word p sg _ m' s' true _ h0 h1 _ _ (by show _+5+1<_; omega) o1 fun h2 o2=>⟨rfl,?_⟩
   refine ldj o2.cell hw1 ?_
   refine qJw (hr.ext o2.ext) hiv ⟨by decide,by decide,x.1,qEs (hr.ext o2.ext) hiv (m:=0) (by rw [hvi]; rfl),?_⟩
   refine q.code p sg sig _ _ _ x.1 false h0 h2 _ _ ps i1 (by show _+5+1+36<_; omega) o2 fun h3 o3=>⟨rfl,?_⟩
   refine ldj o3.cell hw1 ?_
   refine qJw (hr.ext o3.ext) hiv ⟨by decide,by decide,x.2,qEs (hr.ext o3.ext) hiv (m:=1) (by rw [hvi]; rfl),?_⟩
   refine q.code p sg sig _ _ _ x.2 false h0 h3 _ _ ps i2 (by show _+5+1+36+36<_; omega) o3 fun h4 o4=>⟨rfl,?_⟩
   refine q.end_ p sg _ _ _ h0 h4 _ _ (by show _+5+1+36+36+1<_; omega) o4 fun h5 o5=>⟨rfl,?_⟩
   rw [qQm (by omega) (by omega),show (i:Int)+1=((i+1:Nat):Int) by omega]
   refine ih (i+1) (by omega) _ _ h5 ?_ ?_ o5
   ·show _+5+1+36+36+1+_≤_
    omega
   ·have:=xXt (s:=s') (sig:=S2 sig) (first:=qZz) (mk:=false) (x:=x)
    show plus (plus (plus (plus (plus s' (.ok ([]++qZz))) (sp32 (qJf (S2 sig) x.1 false))) (sp32 (qJf (S2 sig) x.2 false))) (.ok [10])) _=_
    rw [this]; exact hs'
 exact key l.length 0 (by omega) m s h (by rw [List.drop_zero]; exact Nat.le_refl _) (by rw [List.drop_zero]) o
theorem xYo (sd:qCa D 67) {sig:List Sy} (ps:PSig h0 sg sig) {b:Nat} {cv:Value} {vs:List (List Value)} {l:List Nd} {ws:List Value} (hr:RowK 4 h0 cv vs) (hrel:Rel2 (NdR h0) vs l) (hl:l.length<2 ^ 40) (hw1:ws[4]?=some cv) (o:Pq h0 p sg (qQj b ws::R) m s h) (hm:m+cst ndC l<2 ^ 37) {K:Kl}
  (hK:∀ h',Pq h0 p sg (qQj b ws::R) (m+cst ndC l) (plus s (allM (qPk (S2 sig)) l)) h'→K (.e 6) [Pt b,Pt p] h'):loop21_28 D [Pt b,Pt p,.int .i64 0] h K:=by
 intro J hJ
 have hvl:=hrel.len
 have key:∀ n i:Nat,i+n=l.length→∀ (m':Nat) (s':Except Int Bs) (h1:H),m'+cst ndC (l.drop i)≤m+cst ndC l→plus s' (allM (qPk (S2 sig)) (l.drop i))=plus s (allM (qPk (S2 sig)) l)→Pq h0 p sg (qQj b ws::R) m' s' h1 →
   J [Pt b,Pt p,.int .i64 (i:Int)] h1:=by
  intro n
  induction n with
  | zero =>
   intro i hin' m' s' h1 hm' hs' o1
   refine hJ _ _ _ _ ?_
   unfold round21_28
   rw [qQa]
   refine ldj o1.cell hw1 ?_
   rw [(hr.ext o1.ext).len,qQc]
   refine ⟨fun hlt=>by omega,fun _=>hK h1 ?_⟩
   rw [List.drop_eq_nil_of_le (by omega),qZk] at hs'
   rw [← hs']
   exact o1.more (by omega)
  | succ n ih =>
   intro i hin' m' s' h1 hm' hs' o1
   refine hJ _ _ _ _ ?_
   unfold round21_28
   rw [qQa]
   refine ldj o1.cell hw1 ?_
   rw [(hr.ext o1.ext).len,qQc]
   refine ⟨fun _=>?_,fun hge=>by omega⟩
   have hir:i<l.length:=by omega
   have hiv:i<vs.length:=by omega
   have hd:l.drop i=l[i]::l.drop (i+1):=List.drop_eq_getElem_cons hir
   rw [hd,qXn] at hm'
   rw [hd,qWi] at hs'
   have hnd:=hrel.at_ i vs[i] l[i] (List.getElem?_eq_getElem hiv) (List.getElem?_eq_getElem hir)
   generalize l[i]=x at hm' hs' hnd
   have hnd':=hnd
   obtain ⟨sv,tv,vs2,hv,_⟩:=hnd'
   refine ldj o1.cell hw1 ?_
   refine (hr.ext o1.ext).at_ (by omega) (by omega) fun ad v' hv' hrd _=>?_
   rw [Int.toNat_natCast,List.getElem?_eq_getElem hiv,hv] at hv'
   obtain rfl:=Option.some.inj hv'
   refine ⟨_,_,_,_,hrd,?_⟩
   rw [hv] at hnd
   refine sd p sg sig _ x _ _ _ h0 h1 _ _ ps hnd (by omega) o1 fun h2 o2=>⟨rfl,?_⟩
   rw [qQm (by omega) (by omega),show (i:Int)+1=((i+1:Nat):Int) by omega]
   exact ih (i+1) (by omega) _ _ h2 (by omega) hs' o2
 exact key l.length 0 (by omega) m s h (by rw [List.drop_zero]; exact Nat.le_refl _) (by rw [List.drop_zero]) o
theorem xYn (sc:qGa D 68) {sig:List Sy} (ps:PSig h0 sg sig) {b:Nat} {cv:Value} {vs:List (List Value)} {l:List Cm} {ws:List Value} (hr:RowK 2 h0 cv vs) (hrel:Rel2 (CmR h0) vs l) (hl:l.length<2 ^ 40) (hw1:ws[5]?=some cv) (o:Pq h0 p sg (qQj b ws::R) m s h) (hm:m+cst wdC l<2 ^ 37) {K:Kl}
  (hK:∀ h',Pq h0 p sg (qQj b ws::R) (m+cst wdC l) (plus s (allM (cmdW (S2 sig)) l)) h'→K (.e 8) [Pt p] h'):loop21_32 D [Pt b,Pt p,.int .i64 0] h K:=by
 intro J hJ
 have hvl:=hrel.len
 have key:∀ n i:Nat,i+n=l.length→∀ (m':Nat) (s':Except Int Bs) (h1:H),m'+cst wdC (l.drop i)≤m+cst wdC l→plus s' (allM (cmdW (S2 sig)) (l.drop i))=plus s (allM (cmdW (S2 sig)) l)→Pq h0 p sg (qQj b ws::R) m' s' h1 →
   J [Pt b,Pt p,.int .i64 (i:Int)] h1:=by
  intro n
  induction n with
  | zero =>
   intro i hin' m' s' h1 hm' hs' o1
   refine hJ _ _ _ _ ?_
   unfold round21_32
   rw [qQa]
   refine ldj o1.cell hw1 ?_
   rw [(hr.ext o1.ext).len,qQc]
   refine ⟨fun hlt=>by omega,fun _=>hK h1 ?_⟩
   rw [List.drop_eq_nil_of_le (by omega),qZk] at hs'
   rw [← hs']
   exact o1.more (by omega)
  | succ n ih =>
   intro i hin' m' s' h1 hm' hs' o1
   refine hJ _ _ _ _ ?_
   unfold round21_32
   rw [qQa]
   refine ldj o1.cell hw1 ?_
   rw [(hr.ext o1.ext).len,qQc]
   refine ⟨fun _=>?_,fun hge=>by omega⟩
   have hir:i<l.length:=by omega
   have hiv:i<vs.length:=by omega
   have hd:l.drop i=l[i]::l.drop (i+1):=List.drop_eq_getElem_cons hir
   rw [hd,qXn] at hm'
   rw [hd,qWi] at hs'
   have hnd:=hrel.at_ i vs[i] l[i] (List.getElem?_eq_getElem hiv) (List.getElem?_eq_getElem hir)
   generalize l[i]=x at hm' hs' hnd
   have hnd':=hnd
   obtain ⟨sv,vs2,hv,_⟩:=hnd'
   refine ldj o1.cell hw1 ?_
   refine (hr.ext o1.ext).at_ (by omega) (by omega) fun ad v' hv' hrd _=>?_
   rw [Int.toNat_natCast,List.getElem?_eq_getElem hiv,hv] at hv'
   obtain rfl:=Option.some.inj hv'
   refine ⟨_,_,hrd,?_⟩
   rw [hv] at hnd
   refine sc p sg sig _ x _ _ _ h0 h1 _ _ ps hnd (by omega) o1 fun h2 o2=>⟨rfl,?_⟩
   rw [qQm (by omega) (by omega),show (i:Int)+1=((i+1:Nat):Int) by omega]
   exact ih (i+1) (by omega) _ _ h2 (by omega) hs' o2
 exact key l.length 0 (by omega) m s h (by rw [List.drop_zero]; exact Nat.le_refl _) (by rw [List.drop_zero]) o
theorem xId {s:Value} {l:Bs} (r:Byt h s l):Row h s (U8 l):=by
 rcases r with ⟨rfl,rfl⟩ | ⟨g,cap,cs,rfl,h1,h2,h3,h4,h5,h6⟩
 ·exact Row.nil_
 ·exact ⟨some ⟨g,0,none⟩,cap,by rw [qZf],by rw [qZf]; exact h3,.inr ⟨_,rfl,rfl,cs,by rw [h1]; rfl,by show 0+cap≤_; omega,by rw [List.drop_zero,qZf]; exact h5⟩⟩
theorem xUh (o:Hp h0 h (pqL p sg ty bv l e R)):Row h bv (U8 l):=by
 cases ty with
 | true=>exact xId (o.get (i:=1) rfl:Byt h bv l)
 | false=>exact (o.buf (i:=1) rfl:Buf noH h bv (U8 l)).row
theorem xYk (o:Hp h0 h (pqL p sg ty bv l e R)) (hl:l.length<2 ^ 39) {K:Kl} (hK:K (.e 10) [Pt p,.int .i64 ((l.count 10+1:Nat):Int)] h):loop21_37 D [Pt p,.int .i64 1,.int .i64 0] h K:=by
 intro J hJ
 have hrow:=xUh o
 have key:∀ n i:Nat,i+n=l.length→J [Pt p,.int .i64 (((l.take i).count 10+1:Nat):Int),.int .i64 (i:Int)] h:=by
  intro n
  induction n with
  | zero =>
   intro i hin
   refine hJ _ _ _ _ ?_
   unfold round21_37
   rw [qQa,qQa]
   refine ⟨rfl,ldj (o.cell (i:=0) rfl) rfl ?_⟩
   rw [hrow.len,qZf,qQc]
   refine ⟨fun hlt=>by omega,fun _=>?_⟩
   rw [List.take_of_length_le (by omega)]
   exact hK
  | succ n ih =>
   intro i hin
   refine hJ _ _ _ _ ?_
   unfold round21_37
   rw [qQa,qQa]
   refine ⟨rfl,ldj (o.cell (i:=0) rfl) rfl ?_⟩
   rw [hrow.len,qZf,qQc]
   refine ⟨fun _=>⟨rfl,ldj (o.cell (i:=0) rfl) rfl ?_⟩,fun hge=>by omega⟩
   have hil:i<l.length:=by omega
   have hct:(l.take (i+1)).count 10=(l.take i).count 10+if l[i]=10 then 1 else 0:=by
    rw [List.take_succ_eq_append_getElem hil,List.count_append,List.count_singleton]
    congr 1
    by_cases hh:l[i]=10
    ·rw [if_pos hh,hh]; rfl
    ·rw [if_neg hh,if_neg (by simpa using hh)]
   have hcl:(l.take i).count 10≤l.length:=Nat.le_trans List.count_le_length (List.length_take_le' _ _)
   have hvi:(U8 l)[i]?=some (.int .u8 (l[i].toNat:Int)):=by
    unfold U8
    rw [List.getElem?_map,List.getElem?_eq_getElem hil]; rfl
   refine xPv hrow hvi fun ad hr=>⟨_,hr,?_⟩
   have next:∀ c:Nat,c=(l.take (i+1)).count 10+1→j21_37_38 D J K (Pt p) (.int .i64 (c:Int)) (.int .i64 (i:Int)) h:=fun c hc=>by
    unfold j21_37_38
    rw [qQa,qQa,qQm (by omega) (by omega),show (i:Int)+1=((i+1:Nat):Int) by omega,hc]
    exact ih (i+1) (by omega)
   rw [qXu]
   refine ⟨fun h10=>?_,fun hn10=>?_⟩
   ·have h10':l[i]=10:=UInt8.toNat_inj.mp (by show l[i].toNat=10; omega)
    rw [qQm (by omega) (by omega),show (((l.take i).count 10+1:Nat):Int)+1=(((l.take i).count 10+1+1:Nat):Int) by omega]
    exact next _ (by rw [hct,if_pos h10'])
   ·have h10':¬ l[i]=10:=fun e=>hn10 (by rw [e]; rfl)
    exact next _ (by rw [hct,if_neg h10'])
 exact key l.length 0 (by omega)
variable {D:Orc} {E:Dorc} {h h' h0:H} {k:Kv} {kp:Kp} {L R:List Res} {bv sg:Value} {l:Bs} {ty:Bool} {p m:Nat} {s:Except Int Bs} {e:Int}
theorem xXw:∀ {l:List Sy},(∀ y∈l,qZu y.1=true)→allM qCq l=.ok []
 | [],_=>rfl
 | y::l,h=>by
  show (qCq y >>= fun a=>allM qCq l >>= fun b=>.ok (a++b))=_
  rw [xXw fun z hz=>h z (.tail _ hz)]
  unfold qCq
  rw [h y (.head _)]; rfl
theorem qRh:∀ {l:List Sy},(∃ y∈l,qZu y.1=false)→allM qCq l=.error 223
 | [],h=>by obtain ⟨y,hy,_⟩:=h; cases hy
 | y::l,h=>by
  show (qCq y >>= fun a=>allM qCq l >>= fun b=>.ok (a++b))=_
  unfold qCq
  cases hy:qZu y.1 with
  | false=>rfl
  | true =>
   obtain ⟨z,hz,hzn⟩:=h
   have hz':z∈l:=by
    rcases List.mem_cons.mp hz with rfl | hz
    ·rw [hy] at hzn; cases hzn
    ·exact hz
   have:=qRh ⟨z,hz',hzn⟩
   unfold qCq at this
   rw [this]; rfl
def xCv (B:Bk):Except Int Bs:=plus (plus (plus (.ok []) (qWk (qZe (toSy B.sig) != 0) (qZe (toSy B.sig)))) (qWk (decide ((B.sig.length:Int)>64)) 226)) (allM qCq (toSy B.sig))
theorem xIm {S:Sg} {x:Bs × Int} (h:x∈S):(strB x.1,x.2)∈toSy S:=List.mem_map.mpr ⟨x,h,rfl⟩
theorem xYc (B:Bk):(∃ e,xCv B=.error e∧qUt B=.error e)∨(xCv B=.ok []∧qZe (toSy B.sig)=0∧B.sig.length≤64∧∀ x∈B.sig,qWc x.1=true):=by
 unfold xCv qUt
 by_cases hc:qZe (toSy B.sig)=0
 ·rw [hc]
  by_cases h64:B.sig.length≤64
  ·rw [decide_eq_false (show ¬ (B.sig.length:Int)>64 by omega)]
   by_cases hn:∀ x∈B.sig,qWc x.1=true
   ·right
    refine ⟨?_,rfl,h64,hn⟩
    rw [xXw fun y hy=>by
     obtain ⟨x,hx,rfl⟩:=List.mem_map.mp hy
     exact hn x hx]
    rfl
   ·left
    have hex:∃ x∈B.sig,qWc x.1=false:=Classical.byContradiction fun hno=>hn fun x hx=>by
     cases hh:qWc x.1 with
     | true=>rfl
     | false=>exact absurd ⟨x,hx,hh⟩ hno
    refine ⟨223,?_,?_⟩
    ·obtain ⟨x,hx,hxn⟩:=hex
     rw [qRh ⟨(strB x.1,x.2),xIm hx,hxn⟩]; rfl
    ·have:=xXf (l:=B.sig) (fun x hx=>by
      obtain ⟨a1,a2,a3⟩:=(qYc hc).2 (strB x.1,x.2) (xIm hx)
      refine ⟨a2,a3,?_⟩
      cases hh:qWc x.1 with
      | true=>exact .inl rfl
      | false =>
       right
       rw [qMi,a1,qHk,qQu] at hh
       have hh:(!(x.1.getLast?==some 35))=false:=hh
       simpa using hh) hex
     unfold qDp
     rw [if_neg (by simp),decide_eq_true h64,this]; rfl
  ·left
   refine ⟨226,?_,?_⟩
   ·rw [decide_eq_true (show (B.sig.length:Int)>64 by omega)]; rfl
   ·unfold qDp
    rw [if_neg (by simp),decide_eq_false h64]; rfl
 ·left
  refine ⟨qZe (toSy B.sig),?_,?_⟩
  ·rw [bne_iff_ne.mpr hc]; rfl
  ·unfold qDp
   rw [if_pos hc]
def qDl (D:Orc) (f:Nat) (T:H→Prop):Prop:=∀ (c:List Value) (B:Bk) h (k:Kv) kp,BkA h c B→cst (fun x:Cm=>x.word.length) B.cmds<2 ^ 36→T h →
 Out (qUt B) (fun s=>∀ h',Ext h h'→k (.tuple #[.string (strB s),.int .i64 0]) h') (fun e=>∀ h',Ext h h'→k (.tuple #[.string (ByteArray.mk #[]),.int .i64 e]) h')→D f [.agg c.toArray] h k kp
theorem xEx {α:Type} {f g:α→Nat}:∀ l:List α,cst (fun x=>f x+g x) l=cst f l+cst g l
 | []=>rfl
 | x::l=>by
  have:=xEx (f:=f) (g:=g) l
  rw [qXn,qXn,qXn,this]; omega
theorem Hp.add_nilT (o:Hp h0 h L):Hp h0 h (bytR (.slice none 0 0) []::L):=o.add (fun _ _=>rfl) (.inl ⟨rfl,rfl⟩) fun b hb=>by
 have hb:Blk (.slice none 0 0)=some b:=hb
 rw [qZl] at hb; cases hb
theorem xMk (c0:Cl21 D) (q:SpecsPr D) (cs:qJz D 31 Tbl) (sn:qWj D 61 Tbl) (sr:qDj D 65) (sd:qCa D 67) (sc:qGa D 68) :
  qDl D 21 Tbl:=by
 intro c B h k kp hb hwl ht hk
 obtain ⟨⟨sg,ru,eq,pr,ce,co,rus,eqs,ces,cos,rfl,a1,a2,a3,a4,a5,a6,a7,a8,a9,a10,a11⟩,n1,n2,n3,n4,n5,n6,sz⟩:=hb
 refine c0 _ _ _ _ ?_
 unfold F21
 rw [show (Value.agg [sg,ru,eq,pr,ce,co].toArray)=.agg #[sg,ru,eq,pr,ce,co] from rfl,qZs]
 refine (Hp.nil_ h).new_ fun p1 h1 hp1 o1=>?_
 have o1:Hp h h1 (qQj p1 [sg,ru,eq,pr,ce,co]::[]):=o1
 refine ldj (o1.cell (i:=0) rfl) rfl ⟨qQy a1.row.isSl,by decide,?_⟩
 refine o1.new_ fun p h2 hp o2=>?_
 have oQ:Pq h p sg (qQj p1 [sg,ru,eq,pr,ce,co]::[]) 0 (.ok []) h2:=⟨true,.slice none 0 0,[],0,o2.add_nilT.perm (List.Perm.swap _ _ _),.inl rfl,Nat.le_refl _,rfl,rfl⟩
 refine ldj oQ.cell rfl ?_
 refine cs _ _ _ _ _ (a1.ext oQ.ext) (qQt _ _ oQ.ext ht) fun h3 e3=>⟨_,rfl,?_⟩
 refine q.fail p sg _ _ _ _ _ h h3 _ _ (fun hb=>bne_iff_ne.mp hb) (oQ.later e3) fun h4 o4=>⟨rfl,?_⟩
 refine ldj o4.cell rfl ?_
 rw [(a1.row.ext o4.ext).len,qQl,qXh]
 refine q.fail p sg _ _ _ _ 226 h h4 _ _ (fun _=>by decide) o4 fun h5 o5=>⟨rfl,?_⟩
 refine xWk q sn ht a1 rfl o5 fun h6 o6=>?_
 have o6:Pq h p sg (qQj p1 [sg,ru,eq,pr,ce,co]::[]) 0 (xCv B) h6:=o6
 show xs (Am.X.e 0) _ _ _
 rw [xs_e]
 show cond true _ _
 rw [cond_true,nth0,nth1]
 rcases xYc B with ⟨e,he,hpe⟩ | ⟨hok,hc0,h64,hnm⟩
 ·rw [he] at o6
  refine qUd o6 (fun a ha=>by cases ha) fun e' he' hne=>?_
  obtain rfl:=Except.error.inj he'
  rw [show (e != 0)=true from bne_iff_ne.mpr hne,cond_true]
  refine qUd o6 (fun a ha=>by cases ha) fun e' he' _=>?_
  obtain rfl:=Except.error.inj he'
  rw [hpe] at hk
  exact hk h6 o6.ext
 rw [hok] at o6
 refine qUd o6 (fun a ha=>?_) fun e' he' hne=>by cases he'
 show cond false _ _
 rw [cond_false]
 have ps:PSig h sg (toSy B.sig):=⟨hc0,a1,by rw [qXh]; exact h64,fun y hy=>xXx ((qYc hc0).2 y hy).1,ht⟩
 have hcost:cst wdC B.cmds=cst cmC B.cmds+cst (fun x:Cm=>x.word.length) B.cmds:=xEx _
 have hbk:bkC B=cst syC B.sig+cst ruC B.rules+cst ruC B.eqs+cst prC B.prec+cst ndC B.cert+cst cmC B.cmds:=rfl
 refine xVp q ps hnm rfl o6 (by omega) fun h7 o7=>?_
 show xs (Am.X.e 2) _ _ _
 rw [xs_e]
 show cond true _ _
 rw [cond_true,nth0,nth1]
 refine ldj o7.cell rfl ?_
 refine sr p sg (toSy B.sig) ru B.rules rus _ _ _ _ _ h h7 _ _ ps ⟨a2,a3,n2,by omega⟩ (by decide) (by decide) (by omega) o7 fun h8 o8=>⟨rfl,?_⟩
 refine ldj o8.cell rfl ?_
 refine sr p sg (toSy B.sig) eq B.eqs eqs _ _ _ _ _ h h8 _ _ ps ⟨a4,a5,n3,by omega⟩ (by decide) (by decide) (by omega) o8 fun h9 o9=>⟨rfl,?_⟩
 refine xJa q ps a6 a7 (by omega) rfl o9 (by omega) fun h10 o10=>?_
 show xs (Am.X.e 4) _ _ _
 rw [xs_e]
 show cond true _ _
 rw [cond_true,nth0,nth1]
 refine xYo sd ps a8 a9 (by omega) rfl o10 (by omega) fun h11 o11=>?_
 show xs (Am.X.e 6) _ _ _
 rw [xs_e]
 show cond true _ _
 rw [cond_true,nth0,nth1]
 refine xYn sc ps a10 a11 (by omega) rfl o11 (by omega) fun h12 o12=>?_
 show xs (Am.X.e 8) _ _ _
 rw [xs_e]
 show cond true _ _
 rw [cond_true,nth0]
 rw [qWq] at o12
 have hchain:qUt B=(plus (plus (plus (plus (plus (plus (.ok []) (allM symW B.sig)) (qVl B.sig qKs qJg B.rules)) (qVl B.sig wEq wIs B.eqs)) (allM (qWm B.sig qZz false) B.prec)) (allM (qPk B.sig) B.cert)) (allM (cmdW B.sig) B.cmds) >>=
   fun t=>must (decide (t.length≤65536) && decide (t.count 10<4096)) 220 >>= fun _=>.ok t):=by
  unfold qUt
  rw [hc0]
  exact qTe h64
 have o12:Pq h p sg (qQj p1 [sg,ru,eq,pr,ce,co]::[]) _ (plus (plus (plus (plus (plus (plus (.ok []) (allM symW B.sig)) (qVl B.sig qKs qJg B.rules)) (qVl B.sig wEq wIs B.eqs)) (allM (qWm B.sig qZz false) B.prec)) (allM (qPk B.sig) B.cert)) (allM (cmdW B.sig) B.cmds)) h12:=o12
 generalize plus (plus (plus (plus (plus (plus (.ok []) (allM symW B.sig)) (qVl B.sig qKs qJg B.rules)) (qVl B.sig wEq wIs B.eqs)) (allM (qWm B.sig qZz false) B.prec)) (allM (qPk B.sig) B.cert)) (allM (cmdW B.sig) B.cmds)=S at o12 hchain
 obtain ⟨ty,bv,l,e,o13,okp,hl,hs⟩:=o12
 have hll:l.length<2 ^ 39:=by omega
 refine xYk o13 hll ?_
 show xs (Am.X.e 10) _ _ _
 rw [xs_e]
 show cond true _ _
 rw [cond_true,nth0,nth1,qQa]
 refine ⟨rfl,ldj (o13.cell (i:=0) rfl) rfl ?_⟩
 rw [(xUh o13).len,qZf]
 have fin:∀ (bad:Bool) h14,bad=(!(decide (l.length≤65536) && decide (l.count 10<4096)))→Pq h p sg (qQj p1 [sg,ru,eq,pr,ce,co]::[]) l.length (plus S (qWk bad 220)) h14→j21__42 D k kp (Pt p) h14:=fun bad h14 hbad o14=>by
  unfold j21__42
  refine qUd o14 (fun a ha=>?_) fun e' he' hne=>?_
  ·show cond false _ _
   rw [cond_false]
   cases S with
   | error e2=>cases ha
   | ok t =>
    cases bad with
    | true=>cases ha
    | false =>
     have hta:plus (.ok t) (qWk false 220)=.ok t:=qAz
     rw [hta] at o14
     obtain ⟨ty2,bv2,l2,e2,o15,_,_,hs2⟩:=o14
     have hlt:l=t:=hs.2
     have hl2:l2=t:=hs2.2
     refine ⟨rfl,ldj (o15.cell (i:=0) rfl) rfl ?_⟩
     refine qNg (xUh o15) fun z hz=>?_
     have hpr:qUt B=.ok t:=by
      rw [hchain]
      show (must (decide (t.length≤65536) && decide (t.count 10<4096)) 220 >>= fun _=>Except.ok t)=_
      rw [← hlt,qJx hbad]; rfl
     rw [hpr] at hk
     have:=hk h14 o15.ext
     rw [← hl2,← hz,qWr] at this
     exact this
  ·rw [show (e' != 0)=true from bne_iff_ne.mpr hne,cond_true]
   refine qUd o14 (fun a ha=>by rw [he'] at ha; cases ha) fun e2 he2 _=>?_
   rw [he'] at he2
   obtain rfl:=Except.error.inj he2
   have hpr:qUt B=.error e':=by
    rw [hchain]
    cases S with
    | error e3 =>
     have he':Except.error e3=Except.error e':=he'
     rw [Except.error.inj he']; rfl
    | ok t =>
     have hlt:l=t:=hs.2
     show (must (decide (t.length≤65536) && decide (t.count 10<4096)) 220 >>= fun _=>Except.ok t)=_
     cases bad with
     | false=>cases he'
     | true =>
      have he':Except.error 220=Except.error e':=he'
      have hb2:(decide (l.length≤65536) && decide (l.count 10<4096))=false:=by
       cases hx:(decide (l.length≤65536) && decide (l.count 10<4096)) with
       | false=>rfl
       | true=>rw [hx] at hbad; cases hbad
      rw [← hlt,hb2,← Except.error.inj he']; rfl
   rw [hpr] at hk
   exact hk h14 o14.ext
 have o12:Pq h p sg (qQj p1 [sg,ru,eq,pr,ce,co]::[]) l.length S h12:=⟨ty,bv,l,e,o13,okp,Nat.le_refl _,hs⟩
 rw [qQv,qQc]
 refine ⟨fun hgt=>?_,fun hle=>?_⟩
 ·refine q.fail p sg _ _ _ true 220 h h12 _ _ (fun _=>by decide) o12 fun h14 o14=>⟨rfl,fin true h14 ?_ o14⟩
  rw [decide_eq_false (show ¬ l.length≤65536 by omega)]; rfl
 ·refine q.fail p sg _ _ _ _ 220 h h12 _ _ (fun _=>by decide) o12 fun h14 o14=>⟨rfl,fin _ h14 ?_ o14⟩
  rw [decide_eq_true (show l.length≤65536 by omega),Bool.true_and]
  by_cases hc:l.count 10<4096
  ·rw [decide_eq_true hc,decide_eq_false (by omega)]; rfl
  ·rw [decide_eq_false hc,decide_eq_true (by omega)]; rfl
structure SpecsW (D:Orc):Prop where
 shown:qWp D 11 Tbl
 print:qAv D 20 Tbl
 printR:qDl D 21 Tbl
theorem xAn (c:Cl6 D) (s:SpecsW D) {cs:List Value} {B:Bk} (hb:BkA h cs B) (hwl:cst (fun x:Cm=>x.word.length) B.cmds<2 ^ 36) (ht:Tbl h) (hk:∀ h',Ext h h'→k (.bool true) h'):D 6 [.agg cs.toArray] h k kp:=by
 obtain ⟨sg,ru,eq,pr,ce,co,rfl,hone⟩:=xNs hb
 refine c _ _ _ _ ?_
 unfold F6
 rw [show (Value.agg [sg,ru,eq,pr,ce,co].toArray)=.agg #[sg,ru,eq,pr,ce,co] from rfl,qZs]
 refine (Hp.nil_ h).new_ fun p1 h1 hp1 o1=>?_
 have o1:Hp h h1 [qQj p1 [sg,ru,eq,pr,ce,co]]:=o1
 refine s.shown h1 _ _ (qQt _ _ o1.ext ht) fun h2 e2=>⟨_,rfl,?_⟩
 show cond false _ _
 have o2:=o1.later e2
 rw [cond_false,qQf]
 refine ⟨_,_,_,_,_,_,rdn (o2.cell (i:=0) rfl) (by simp),?_⟩
 refine s.print [sg,ru,eq,pr,ce,co] B h2 _ _ (hb.ext o2.ext) (qQt _ _ o2.ext ht) ?_
 have hR:=fun (h3:H) (k:Kv) (e3:Ext h2 h3)=>s.printR [sg,ru,eq,pr,ce,co] B h3 k kp (hb.ext (o2.ext.trans e3)) hwl (qQt _ _ (o2.ext.trans e3) ht)
 cases hq:qUt B with
 | error e =>
  rw [hq] at hR
  intro h3 e3
  refine ⟨_,_,rfl,?_⟩
  rw [qQf]
  refine ⟨_,_,_,_,_,_,rdn ((o2.later e3).cell (i:=0) rfl) (by simp),?_⟩
  refine hR h3 _ e3 fun h4 e4=>⟨_,_,rfl,?_⟩
  rw [cond_true,beq_self_eq_true,cond_true,beq_self_eq_true]
  exact hk h4 (o2.ext.trans (e3.trans e4))
 | ok a =>
  rw [hq] at hR
  intro h3 e3
  refine ⟨_,_,rfl,?_⟩
  rw [qQf]
  refine ⟨_,_,_,_,_,_,rdn ((o2.later e3).cell (i:=0) rfl) (by simp),?_⟩
  refine hR h3 _ e3 fun h4 e4=>⟨_,_,rfl,?_⟩
  rw [cond_true,beq_self_eq_true,cond_true,beq_self_eq_true]
  exact hk h4 (o2.ext.trans (e3.trans e4))
end Go.Proofs.YtkdneddcocggdaaGreatDoor.Am
namespace Go.Proofs.YtkdneddcocggdaaGreatDoor.Am
open Go Go.ChangeShapes Go.RowKit
def handed (W:World):H:=fun b=>match W.heap[b]? with
 | some (.cells l _ _)=>some (.ro l.toList)
 | _=>none
theorem xYd (W:World):Rel (handed W) W:=by
 intro b o hb
 unfold handed at hb
 split at hb
 ·rename_i l t fz hw
  obtain rfl:=Option.some.inj hb
  exact ⟨t,fz,by rw [hw]⟩
 ·cases hb
theorem xAz {W:World} {b:Nat}:handed W b=none∨∃ l,handed W b=some (.ro l):=by
 unfold handed
 split
 ·exact .inr ⟨_,rfl⟩
 ·exact .inl rfl
theorem Frame.below {W W':World} {h':H} (f:Am.Frame (handed W) W h' W'):Below W.heap.size W W' :=
 ⟨f.os,f.tape,f.output,f.size,fun b hb=>f.keep b hb xAz⟩
theorem xYq {P:Program} {f:FuncId} {args:List Value} {W:World} (hf:f<P.funcs.size) (h:CS P f args (handed W) (fun v _=>v=.bool true) (fun _ _=>False)) :
  Calls P f args.toArray W fun e w'=>e=.returned (.bool true)∧Below W.heap.size W w' :=
 xDv hf h (xYd W) (fun v h' w' hv _ fr=>⟨by rw [hv],fr.below⟩) (fun _ _ _ hc=>hc.elim)
end Go.Proofs.YtkdneddcocggdaaGreatDoor.Am
namespace Go.Proofs.YtkdneddcocggdaaGreatDoor.Am
open Go Go.ChangeShapes Go.WideShapes Go.ChangeAt Go.RowKit
variable {P:Program} {H:Type} {enc:TypeId × Value→H} {W W':World}
theorem trodAll_stays (hl:laidOutB P=true) (hb:Below W.heap.size W W'):∀ {ts:List TypeId} {vs:List Value} {ds:List (DataW H)} {ps:List MemPlace},
  ts.all (fun t=>P.readableRec t && decide (t<P.types.size))=true→DataW.TrodAll enc P W 0 (fun _=>true) true ts vs ds ps→(∀ x∈ps,x.block<W.heap.size) →
  DataW.TrodAll enc P W' 0 (fun b=>decide (b<W.heap.size)) true ts vs ds ps
 | [],vs,ds,ps,_,h,_=>by
  obtain ⟨rfl,rfl,rfl⟩:=trodAll_nil h
  exact trodAll_mk0
 | t::ts,vs,ds,ps,ht,h,hlt=>by
  obtain ⟨v,vs',d,ds',p,q,rfl,rfl,rfl,h0,h1⟩:=trodAll_cons h
  simp only [List.all_cons,Bool.and_eq_true,decide_eq_true_eq] at ht
  exact trodAll_cons_mk (Below.trod hl ht.1.1 ht.1.2 h0 hb fun x hx=>hlt x (by simp [hx]))
   (trodAll_stays hl hb (by simpa using ht.2) h1 fun x hx=>hlt x (by simp [hx]))
theorem post_true {f:Func} {s:ChangeSpec} {tb:TypeId} {args:Array Value} {ds gs:List (DataW H)} {before:List MemPlace} (hl:laidOutB P=true)
  (hts:f.params.toList.all (fun t=>P.readableRec t && decide (t<P.types.size))=true) (hres:f.resultTypes.toList=[tb]) (htb:P.underlying tb=some .bool) (hvars:s.vars=[])
  (hW:DataW.Whole enc P f.params.toList s.vars false W args.toList ds gs before) (hfn:s.fn H ds={ results:=[.lit (.bool true)],args:=ds }) (hb:Below W.heap.size W W') :
  s.post enc P f false true false false W args (.bool true) W':=by
 have hW':=hW
 obtain ⟨p,q,hA,hV,rfl,_,_⟩:=hW
 rw [hvars] at hV
 obtain ⟨rfl,rfl⟩:=trodVars_none hV
 have hn:f.resultTypes.size=1:=by rw [← Array.length_toList,hres]; rfl
 have hlt:∀ x∈p,x.block<W.heap.size:=fun x hx=>hW'.lt x (by simp [hx])
 refine ⟨ds,[],p++[],[],p,[],hW',?_,?_,?_,?_,fun h=>by cases h⟩
 ·rw [hres,List.append_nil,hfn,hn]
  exact trodAll_cons_mk (shut_bool htb _) trodAll_mk0
 ·rw [List.append_nil,hfn]
  exact trodAll_stays hl hb hts hA hlt
 ·rw [hvars,List.append_nil,hfn]; rfl
 ·exact hb.frame _
theorem row_handed {a:Addr} {len cap:Nat} {vs:List Value} (hlen:vs.length=cap) (hl:len≤cap) (hc:∀ i,i<cap→W.cell? (a.add i)=vs[i]?) :
    Row (handed W) (.slice (some a) len cap) (vs.take len):=by
  have hl2:(vs.take len).length=len:=by simp; omega
  by_cases h0:cap=0
  · subst h0
    have:len=0:=by omega
    subst this
    exact Row.empty
  refine ⟨some a,cap,by rw [hl2],by omega,.inr ⟨a,rfl,?_⟩⟩
  have h1:=hc 0 (by omega)
  have hsome:vs[0]?=some (vs[0]'(by omega)):=List.getElem?_eq_getElem _
  rw [hsome,show a.add 0=a by simp [Addr.add]] at h1
  unfold World.cell? at h1
  split at h1
  · rename_i c t fz hb
    split at h1
    · cases h1
    · rename_i hs
      have hsp:a.spot=none:=by simpa using hs
      have hat:∀ i,i<cap→c[a.off+i]?=vs[i]?:=fun i hi=>by
        have:=hc i hi
        unfold World.cell? at this
        have e:(a.add i).block=a.block:=by unfold Addr.add; split <;> rfl
        have e2:(a.add i).off=a.off+i:=by unfold Addr.add; split <;> simp_all
        have e3:(a.add i).spot=none:=by unfold Addr.add; split <;> simp_all
        rw [e,hb] at this
        simp only [e3,Option.isSome_none,Bool.false_eq_true,if_false,e2] at this
        exact this
      refine ⟨hsp,c.toList,?_,?_,?_⟩
      · simp only [handed,hb,qZq]
      · have:=hat (cap - 1) (by omega)
        rw [List.getElem?_eq_getElem (by omega)] at this
        have:=(Array.getElem?_eq_some_iff.mp this).1
        rw [Array.length_toList]; omega
      · rw [hl2]
        apply List.ext_getElem?
        intro i
        rw [List.getElem?_take,List.getElem?_take]
        split
        · rename_i hi
          rw [List.getElem?_drop,Array.getElem?_toList,hat i (by omega)]
        · rfl
  · cases h1
mutual
 def flat:DataW Unit→List Value
   | .lit (.int k n)=>[.int k n]
   | .lit (.bool b)=>[.bool b]
   | .agg ps=>flats ps
   | _=>[]
 def flats:List (DataW Unit)→List Value
   | []=>[]
   | d::l=>flat d++flats l
end
def layAll (P:Program) (h:Array Obj):List (String × DataW Unit)→Array Obj
 | []=>h
 | (n,d)::l=>layAll P (match P.globalNamed n with
  | some g=>h.modify g fun
   | .cells _ t frozen=>.cells (flat d).toArray t frozen
   | o=>o
  | none=>h) l
theorem own:ownKnob Tryz.prog.godebug=none:=by kernel_rfl
theorem laidOut:laidOutB Tryz.pinned.checked.prog=true:=by kernel_rfl
end Go.Proofs.YtkdneddcocggdaaGreatDoor.Am
namespace Go.Proofs.YtkdneddcocggdaaGreatDoor.Am
open Go Go.Proofs Sys Go.ChangeShapes Go.WideShapes Go.ChangeAt Go.RowKit Go.Deep Go.Lib
set_option maxRecDepth 100000
variable {P:Program} {H:Type} {enc:TypeId × Value→H} {W W':World}
theorem qEj:∀ d:DataW H,1≤Rows.uptoBulk d:=fun d=>by
  cases d <;> (first | (rename_i l; cases l <;> simp [Rows.uptoBulk] <;> omega) | (simp [Rows.uptoBulk]; try omega))
theorem qJr:∀ l:List (DataW H),l.length≤Rows.uptoBulkAll l
  | []=>by simp [Rows.uptoBulkAll]
  | x::r=>by have:=qEj x; have:=qJr r; simp only [Rows.uptoBulkAll,List.length_cons]; omega
theorem qNf:∀ {l:List (DataW H)} {d:DataW H},d∈l→Rows.uptoBulk d≤Rows.uptoBulkAll l
  | [],d,h=>by cases h
  | x::r,d,h=>by
    simp only [Rows.uptoBulkAll]
    rcases List.mem_cons.mp h with rfl | h
    · omega
    · have:=qNf h; omega
theorem qLf (V0 V1:Nat→Value):∀ n:Nat,((List.range n).map fun i=>[V0 i,V1 i]).flatten=(List.range (n*2)).map fun j=>if j % 2=0 then V0 (j / 2) else V1 (j / 2)
  | 0=>rfl
  | n+1=>by
    rw [List.range_succ,List.map_append,List.flatten_append,qLf V0 V1 n,show (n+1)*2=n*2+1+1 by omega,List.range_succ,List.range_succ]
    simp only [List.map_append,List.map_cons,List.map_nil,List.flatten_cons,List.flatten_nil,List.append_nil,List.append_assoc]
    rw [if_pos (by omega),if_neg (by omega)]
    have e1:n*2 / 2=n:=by omega
    have e2:(n*2+1) / 2=n:=by omega
    rw [e1,e2]; rfl
theorem qTa {a:Addr} {len cap:Nat} {V0 V1:Nat→Value} (hl:len≤cap) (hc:∀ i,i<cap→W.cell? (a.add (i*2))=some (V0 i)∧W.cell? (a.add (i*2+1))=some (V1 i)) :
    RowK 2 (handed W) (.slice (some a) len cap) ((List.range len).map fun i=>[V0 i,V1 i]):=by
  have hr:=row_handed (W:=W) (a:=a) (len:=len*2) (cap:=cap*2) (vs:=(List.range (cap*2)).map fun j=>if j % 2=0 then V0 (j / 2) else V1 (j / 2)) (by simp) (by omega) fun j hj=>by
    rw [List.getElem?_map,List.getElem?_range hj,Option.map_some]
    obtain ⟨h1,h2⟩:=hc (j / 2) (by omega)
    by_cases hm:j % 2=0
    · rw [if_pos hm,← h1]; congr 2; omega
    · rw [if_neg hm,← h2]; congr 2; omega
  have ht:((List.range (cap*2)).map fun j=>if j % 2=0 then V0 (j / 2) else V1 (j / 2)).take (len*2)=((List.range len).map fun i=>[V0 i,V1 i]).flatten:=by
    rw [qLf,← List.map_take,List.take_range,Nat.min_eq_left (by omega)]
  rw [ht] at hr
  obtain ⟨base,cap',he,hc',hb⟩:=hr
  simp only [Value.slice.injEq] at he
  obtain ⟨rfl,he2,rfl⟩:=he
  refine ⟨some a,cap,by simp,by simpa using hl,fun v hv=>?_,?_⟩
  · obtain ⟨i,_,rfl⟩:=List.mem_map.mp hv; rfl
  · rcases hb with hb | ⟨a',h1,h2,l,h3,h4,h5⟩
    · exact .inl (by omega)
    · refine .inr ⟨a',h1,h2,l,h3,h4,?_⟩
      rw [← he2] at h5
      simpa using h5
theorem xPh {n:Nat} {v:Value} {y:DataW H × List MemPlace} (h:DataW.trod enc Tryz.prog W 0 (fun _=>true) true n 22 [v]=some y) (hb:Rows.uptoBulk y.1≤1048576):∃ sig,Sr (handed W) v sig∧sig.length≤1048576:=by
  rcases open_slice_pairs Tryz.underlying22 Tryz.underlying94 (by kernel_rfl) rfl rfl (by kernel_rfl) (by kernel_rfl) h with ⟨hcs,hx⟩ | ⟨a,len,cap,m,n',V0,V1,D0,D1,P0,P1,hcs,_,hlc,_,hm,hx,hall⟩
  · simp only [List.cons.injEq,and_true] at hcs
    subst hcs
    exact ⟨[],⟨RowK.nil_,by simp,by simp⟩,by simp⟩
  · simp only [List.cons.injEq,and_true] at hcs
    subst hcs
    have hm:m=cap:=hm
    subst hm
    have hx1:y.1=.slice ((List.range len).map fun i=>.agg [D0 i,D1 i]) ((List.range (m - len)).map fun j=>.agg [D0 (len+j),D1 (len+j)]):=by rw [hx]
    rw [hx1] at hb
    simp only [Rows.uptoBulk] at hb
    have hlen:len≤1048576:=by
      have h1:=qJr ((List.range len).map fun i=>(.agg [D0 i,D1 i]:DataW H))
      simp only [List.length_map,List.length_range] at h1
      omega
    have hstr:∀ i,i<m→∃ x:Sy,V0 i=.string x.1∧V1 i=.int .i64 x.2∧D0 i=.lit (.string x.1.data.toList):=fun i hi=>by
      obtain ⟨_,_,h0,h1⟩:=hall i hi
      obtain ⟨s,hs,hs2,_⟩:=DataW.trod_string Tryz.underlying9 h0
      obtain ⟨z,hz,_,_⟩:=DataW.trod_int Tryz.underlying3 h1
      refine ⟨(s,z),by simpa using hs,by simpa using hz,?_⟩
      have:=congrArg Prod.fst hs2
      exact this
    obtain ⟨X,hX⟩:=Go.Deep.choose_lt (α:=Sy) (p:=fun i x=>V0 i=.string x.1∧V1 i=.int .i64 x.2∧D0 i=.lit (.string x.1.data.toList)) hstr
    have hr:=qTa (W:=W) (a:=a) (len:=len) (cap:=m) (V0:=V0) (V1:=V1) hlc fun i hi=>⟨(hall i hi).1,(hall i hi).2.1⟩
    have hrow:((List.range len).map fun i=>[V0 i,V1 i])=qVz ((List.range len).map X):=by
      unfold qVz
      rw [List.map_map]
      apply List.map_congr_left
      intro i hi
      rw [List.mem_range] at hi
      obtain ⟨h1,h2,_⟩:=hX i (by omega)
      rw [h1,h2]; rfl
    rw [hrow] at hr
    refine ⟨_,⟨hr,by simp; omega,fun x hx=>?_⟩,by simp; omega⟩
    obtain ⟨i,hi,rfl⟩:=List.mem_map.mp hx
    rw [List.mem_range] at hi
    obtain ⟨_,_,h3⟩:=hX i (by omega)
    have h4:=qNf (l:=(List.range len).map fun i=>(.agg [D0 i,D1 i]:DataW H)) (List.mem_map.mpr ⟨i,List.mem_range.mpr hi,rfl⟩)
    rw [h3] at h4
    have hsz:((X i).1.data.toList).length=(X i).1.size:=rfl
    simp only [Rows.uptoBulk,Rows.uptoBulkAll,hsz] at h4
    omega
end Go.Proofs.YtkdneddcocggdaaGreatDoor.Am
namespace Go.Proofs.YtkdneddcocggdaaGreatDoor.Am
open Go Go.Proofs Go.ChangeShapes Go.WideShapes Go.ChangeAt Go.RowKit Go.Deep Go.Lib Sys Sp
set_option maxRecDepth 100000
variable {P:Program} {H:Type} {enc:TypeId × Value→H} {W W':World}
theorem flat_get {α:Type} {sz:Nat} (h0:0<sz):∀ {vs:List (List α)} (k:Nat),(∀ v∈vs,v.length=sz)→vs.flatten[k]?=(vs[k / sz]?).bind (·[k % sz]?)
 | [],k,_=>by simp
 | x::r,k,h=>by
  have hx:=h x (.head _)
  rw [List.flatten_cons]
  by_cases hk:k<sz
  ·rw [List.getElem?_append_left (by omega),Nat.div_eq_of_lt hk,Nat.mod_eq_of_lt hk]; rfl
  ·obtain ⟨m,rfl⟩:∃ m,k=m+sz:=⟨k - sz,by omega⟩
   rw [List.getElem?_append_right (by omega),hx,Nat.add_sub_cancel,Nat.add_div_right m h0,Nat.add_mod_right,flat_get h0 m fun v hv=>h v (.tail _ hv)]
   rfl
theorem flat_takeB {α:Type} {sz:Nat}:∀ {vs:List (List α)} (n:Nat),(∀ v∈vs,v.length=sz)→vs.flatten.take (n*sz)=(vs.take n).flatten
 | [],n,_=>by simp
 | x::r,0,h=>by simp
 | x::r,n+1,h=>by
  have hx:=h x (.head _)
  rw [List.flatten_cons,List.take_succ_cons,List.flatten_cons,Nat.succ_mul,List.take_append,hx]
  rw [List.take_of_length_le (by omega),Nat.add_sub_cancel,flat_takeB n fun v hv=>h v (.tail _ hv)]
theorem rowK_cells {sz:Nat} (h0:0<sz) {a:Addr} {len cap:Nat} {C:Nat→List Value} (hl:len≤cap) (hc:∀ i,i<cap→(C i).length=sz∧∀ j,j<sz→W.cell? ((a.add (i*sz)).add j)=(C i)[j]?) :
  RowK sz (handed W) (.slice (some a) len cap) ((List.range len).map C):=by
 have hall:∀ v∈(List.range cap).map C,v.length=sz:=fun v hv=>by
  obtain ⟨i,hi,rfl⟩:=List.mem_map.mp hv
  exact (hc i (List.mem_range.mp hi)).1
 have hflen:∀ l:List (List Value),(∀ v∈l,v.length=sz)→l.flatten.length=l.length*sz:=fun l=>by
  induction l with
  | nil=>intro _; simp
  | cons x r ih=>intro h; rw [List.flatten_cons,List.length_append,h x (.head _),ih fun v hv=>h v (.tail _ hv),List.length_cons,Nat.succ_mul]; omega
 have hr:=row_handed (W:=W) (a:=a) (len:=len*sz) (cap:=cap*sz) (vs:=((List.range cap).map C).flatten) (by rw [hflen _ hall]; simp) (Nat.mul_le_mul_right _ hl) fun k hk=>by
  rw [flat_get h0 k hall]
  have hd:k / sz<cap:=(Nat.div_lt_iff_lt_mul h0).mpr hk
  have hm:k % sz<sz:=Nat.mod_lt _ h0
  rw [List.getElem?_map,List.getElem?_range hd,Option.map_some]
  obtain ⟨_,h2⟩:=hc (k / sz) hd
  rw [Option.bind_some,← h2 (k % sz) hm,add_add]
  congr 2
  rw [Nat.mul_comm,Nat.div_add_mod]
 have ht:((List.range cap).map C).flatten.take (len*sz)=((List.range len).map C).flatten:=by
  rw [flat_takeB len hall,← List.map_take,List.take_range,Nat.min_eq_left hl]
 rw [ht] at hr
 obtain ⟨base,cap',he,hc',hb⟩:=hr
 simp only [Value.slice.injEq] at he
 obtain ⟨rfl,he2,rfl⟩:=he
 refine ⟨some a,cap,by simp,by simpa using hl,fun v hv=>?_,?_⟩
 ·obtain ⟨i,hi,rfl⟩:=List.mem_map.mp hv
  exact (hc i (by have:=List.mem_range.mp hi; omega)).1
 ·rcases hb with hb | ⟨a',h1,h2,l,h3,h4,h5⟩
  ·left
   rcases Nat.mul_eq_zero.mp hb with h | h
   ·exact h
   ·omega
  ·refine .inr ⟨a',h1,h2,l,h3,h4,?_⟩
   rw [← he2] at h5
   simpa using h5
theorem cost_le {α:Type} {c:α→Nat} {K:Nat} {X:Nat→α} {D:Nat→DataW H}:∀ {l:List Nat},(∀ i∈l,c (X i)≤K*Rows.uptoBulk (D i))→cst c (l.map X)≤K*Rows.uptoBulkAll (l.map D)
 | [],_=>by simp [cst,Rows.uptoBulkAll]
 | i::l,h=>by
  have h1:=h i (.head _)
  have h2:=cost_le (l:=l) fun j hj=>h j (.tail _ hj)
  show c (X i)+cst c (l.map X)≤K*(Rows.uptoBulk (D i)+Rows.uptoBulkAll (l.map D))
  rw [Nat.mul_add]
  omega
theorem slice_handed {α:Type} [Inhabited α] {t e:TypeId} {sz K:Nat} {q:List Value→α→Prop} {c:α→Nat} (ht:P.underlying t=some (.slice e)) (hc:P.cellsOf e=sz) (h0:0<sz) {n:Nat} {v:Value} {y:DataW H × List MemPlace}
  (h:DataW.trod enc P W 0 (fun _=>true) true n t [v]=some y) (hb:Rows.uptoBulk y.1≤1048576) (he:∀ n' cs' y',DataW.trod enc P W 0 (fun _=>true) true n' e cs'=some y'→Rows.uptoBulk y'.1≤1048576→cs'.length=sz→∃ x,q cs' x∧c x≤K*Rows.uptoBulk y'.1) :
  ∃ rows xs,RowK sz (handed W) v rows∧Rel2 q rows xs∧xs.length≤Rows.uptoBulk y.1∧cst c xs≤K*Rows.uptoBulk y.1:=by
 rcases open_slice ht h with ⟨hcs,hx⟩ | ⟨a,len,cap,m,n',D,Pl,hcs,_,hlc,_,hm,hx,hall⟩
 ·simp only [List.cons.injEq,and_true] at hcs
  subst hcs
  exact ⟨[],[],RowK.nil_,.nil_,Nat.zero_le _,by simp [cst]⟩
 ·simp only [List.cons.injEq,and_true] at hcs
  subst hcs
  have hm:m=cap:=hm
  subst hm
  have hx1:y.1=.slice ((List.range len).map D) ((List.range (m - len)).map fun j=>D (len+j)):=by rw [hx]
  have hbe:Rows.uptoBulk y.1=Rows.uptoBulkAll ((List.range len).map D)+Rows.uptoBulkAll ((List.range (m - len)).map fun j=>D (len+j))+1:=by rw [hx1]; simp only [Rows.uptoBulk]
  have h1:=qJr ((List.range len).map D)
  simp only [List.length_map,List.length_range] at h1
  rw [hc] at hall
  obtain ⟨C,hC⟩:=choose_lt (α:=List Value) (p:=fun i cs'=>W.cells? 0 (a.add (i*sz)) sz=some cs'∧DataW.trod enc P W 0 (fun _=>true) true n' e cs'=some (D i,Pl i)) hall
  have hX:∀ i,i<len→∃ x,q (C i) x∧c x≤K*Rows.uptoBulk (D i):=fun i hi=>by
   obtain ⟨c1,c2⟩:=hC i (by omega)
   have h4:=qNf (l:=(List.range len).map D) (List.mem_map.mpr ⟨i,List.mem_range.mpr hi,rfl⟩)
   exact he n' (C i) _ c2 (by dsimp only; omega) (World.cells?_some c1).2.1
  obtain ⟨X,hX⟩:=choose_lt hX
  refine ⟨(List.range len).map C,(List.range len).map X,rowK_cells h0 hlc fun i hi=>?_,⟨by simp,fun j r x hr hx=>?_⟩,by simp; omega,?_⟩
  ·obtain ⟨c1,_⟩:=hC i hi
   obtain ⟨_,c3,c4⟩:=World.cells?_some c1
   exact ⟨c3,c4⟩
  ·rw [List.getElem?_map,Option.map_eq_some_iff] at hr hx
   obtain ⟨i,hi,rfl⟩:=hr
   obtain ⟨i',hi',rfl⟩:=hx
   rw [hi] at hi'
   obtain rfl:=Option.some.inj hi'
   have:=(List.getElem?_eq_some_iff.mp hi)
   obtain ⟨hj,he⟩:=this
   rw [List.length_range] at hj
   rw [List.getElem_range] at he
   exact (hX i (by omega)).1
  ·have:=cost_le (c:=c) (K:=K) (X:=X) (D:=D) (l:=List.range len) fun i hi=>(hX i (List.mem_range.mp hi)).2
   refine Nat.le_trans this (Nat.mul_le_mul_left _ (by omega))
theorem struct_cells {t:TypeId} {fs:Array Field} {n:Nat} {cs:List Value} {y:DataW H × List MemPlace} (hs:P.underlying t=some (.struct fs)) (hone:oneCellFields P fs=true) (hC:P.cellsOf t=fs.size)
  (h:DataW.trod enc P W 0 (fun _=>true) true n t cs=some y):∃ (xs:List (DataW H × List MemPlace)) (m:Nat),y.1=.agg (xs.map (·.1))∧cs.length=fs.size∧xs.length=fs.size ∧
   ∀ (i:Nat) (f:Field) (v:Value),fs[i]?=some f→cs[i]?=some v→∃ x,xs[i]?=some x∧DataW.trod enc P W 0 (fun _=>true) true m f.type [v]=some x:=by
 obtain ⟨xs,m,_,rfl,hl,hxl,hf⟩:=DataW.trod_struct hs h
 refine ⟨xs,m,rfl,by rw [hl,hC],hxl,fun i f v hi hv=>?_⟩
 obtain ⟨ho,hc⟩:=hone_of hone i f hi
 have h1:=hf i f hi
 have hil:=(List.getElem?_eq_some_iff.mp hv).1
 have hd:(cs.drop i).take 1=[v]:=by
  rw [List.drop_eq_getElem_cons hil,List.take_succ_cons,List.take_zero]
  rw [List.getElem?_eq_getElem hil] at hv
  rw [Option.some.inj hv]
 rw [ho,hc,hd] at h1
 have hix:i<xs.length:=by
  rw [hxl]
  have:=(Array.getElem?_eq_some_iff.mp hi).1
  exact this
 rw [List.getElem?_eq_getElem hix] at h1
 exact ⟨xs[i],List.getElem?_eq_getElem hix,h1⟩
theorem len2 {α:Type} {l:List α} (h:l.length=2):∃ a b,l=[a,b]:=by
 match l,h with
 | [a,b],_=>exact ⟨a,b,rfl⟩
theorem len4 {α:Type} {l:List α} (h:l.length=4):∃ a b c d,l=[a,b,c,d]:=by
 match l,h with
 | [a,b,c,d],_=>exact ⟨a,b,c,d,rfl⟩
theorem len6 {α:Type} {l:List α} (h:l.length=6):∃ a b c d e f,l=[a,b,c,d,e,f]:=by
 match l,h with
 | [a,b,c,d,e,f],_=>exact ⟨a,b,c,d,e,f,rfl⟩
theorem struct2_ {t:TypeId} {f0 f1:Field} {n:Nat} {cs:List Value} {y:DataW H × List MemPlace} (hs:P.underlying t=some (.struct #[f0,f1])) (hone:oneCellFields P #[f0,f1]=true) (hC:P.cellsOf t=2)
  (h:DataW.trod enc P W 0 (fun _=>true) true n t cs=some y):∃ v0 v1 x0 x1 m,cs=[v0,v1]∧y.1=.agg [x0.1,x1.1]∧DataW.trod enc P W 0 (fun _=>true) true m f0.type [v0]=some x0∧DataW.trod enc P W 0 (fun _=>true) true m f1.type [v1]=some x1:=by
 obtain ⟨xs,m,e,hl,hxl,hf⟩:=struct_cells hs hone hC h
 obtain ⟨v0,v1,rfl⟩:=len2 hl
 obtain ⟨x0,x1,rfl⟩:=len2 hxl
 obtain ⟨z0,g0,k0⟩:=hf 0 f0 v0 rfl rfl
 obtain ⟨z1,g1,k1⟩:=hf 1 f1 v1 rfl rfl
 obtain rfl:=Option.some.inj g0
 obtain rfl:=Option.some.inj g1
 exact ⟨v0,v1,x0,x1,m,rfl,e,k0,k1⟩
theorem struct4_ {t:TypeId} {f0 f1 f2 f3:Field} {n:Nat} {cs:List Value} {y:DataW H × List MemPlace} (hs:P.underlying t=some (.struct #[f0,f1,f2,f3])) (hone:oneCellFields P #[f0,f1,f2,f3]=true) (hC:P.cellsOf t=4)
  (h:DataW.trod enc P W 0 (fun _=>true) true n t cs=some y):∃ v0 v1 v2 v3 x0 x1 x2 x3 m,cs=[v0,v1,v2,v3]∧y.1=.agg [x0.1,x1.1,x2.1,x3.1]∧DataW.trod enc P W 0 (fun _=>true) true m f0.type [v0]=some x0∧DataW.trod enc P W 0 (fun _=>true) true m f1.type [v1]=some x1 ∧
   DataW.trod enc P W 0 (fun _=>true) true m f2.type [v2]=some x2∧DataW.trod enc P W 0 (fun _=>true) true m f3.type [v3]=some x3:=by
 obtain ⟨xs,m,e,hl,hxl,hf⟩:=struct_cells hs hone hC h
 obtain ⟨v0,v1,v2,v3,rfl⟩:=len4 hl
 obtain ⟨x0,x1,x2,x3,rfl⟩:=len4 hxl
 obtain ⟨z0,g0,k0⟩:=hf 0 f0 v0 rfl rfl
 obtain ⟨z1,g1,k1⟩:=hf 1 f1 v1 rfl rfl
 obtain ⟨z2,g2,k2⟩:=hf 2 f2 v2 rfl rfl
 obtain ⟨z3,g3,k3⟩:=hf 3 f3 v3 rfl rfl
 obtain rfl:=Option.some.inj g0
 obtain rfl:=Option.some.inj g1
 obtain rfl:=Option.some.inj g2
 obtain rfl:=Option.some.inj g3
 exact ⟨v0,v1,v2,v3,x0,x1,x2,x3,m,rfl,e,k0,k1,k2,k3⟩
theorem struct6_ {t:TypeId} {f0 f1 f2 f3 f4 f5:Field} {n:Nat} {cs:List Value} {y:DataW H × List MemPlace} (hs:P.underlying t=some (.struct #[f0,f1,f2,f3,f4,f5])) (hone:oneCellFields P #[f0,f1,f2,f3,f4,f5]=true) (hC:P.cellsOf t=6)
  (h:DataW.trod enc P W 0 (fun _=>true) true n t cs=some y):∃ v0 v1 v2 v3 v4 v5 x0 x1 x2 x3 x4 x5 m,cs=[v0,v1,v2,v3,v4,v5]∧y.1=.agg [x0.1,x1.1,x2.1,x3.1,x4.1,x5.1]∧DataW.trod enc P W 0 (fun _=>true) true m f0.type [v0]=some x0∧DataW.trod enc P W 0 (fun _=>true) true m f1.type [v1]=some x1 ∧
   DataW.trod enc P W 0 (fun _=>true) true m f2.type [v2]=some x2∧DataW.trod enc P W 0 (fun _=>true) true m f3.type [v3]=some x3∧DataW.trod enc P W 0 (fun _=>true) true m f4.type [v4]=some x4∧DataW.trod enc P W 0 (fun _=>true) true m f5.type [v5]=some x5:=by
 obtain ⟨xs,m,e,hl,hxl,hf⟩:=struct_cells hs hone hC h
 obtain ⟨v0,v1,v2,v3,v4,v5,rfl⟩:=len6 hl
 obtain ⟨x0,x1,x2,x3,x4,x5,rfl⟩:=len6 hxl
 obtain ⟨z0,g0,k0⟩:=hf 0 f0 v0 rfl rfl
 obtain ⟨z1,g1,k1⟩:=hf 1 f1 v1 rfl rfl
 obtain ⟨z2,g2,k2⟩:=hf 2 f2 v2 rfl rfl
 obtain ⟨z3,g3,k3⟩:=hf 3 f3 v3 rfl rfl
 obtain ⟨z4,g4,k4⟩:=hf 4 f4 v4 rfl rfl
 obtain ⟨z5,g5,k5⟩:=hf 5 f5 v5 rfl rfl
 obtain rfl:=Option.some.inj g0
 obtain rfl:=Option.some.inj g1
 obtain rfl:=Option.some.inj g2
 obtain rfl:=Option.some.inj g3
 obtain rfl:=Option.some.inj g4
 obtain rfl:=Option.some.inj g5
 exact ⟨v0,v1,v2,v3,v4,v5,x0,x1,x2,x3,x4,x5,m,rfl,e,k0,k1,k2,k3,k4,k5⟩
theorem int_in {t:TypeId} {n:Nat} {v:Value} {y:DataW H × List MemPlace} (ht:P.underlying t=some (.int .i64)) (h:DataW.trod enc P W 0 (fun _=>true) true n t [v]=some y):∃ z,v=.int .i64 z∧inI z:=by
 obtain ⟨z,hz,_,hw⟩:=DataW.trod_int ht h
 refine ⟨z,by simpa using hz,?_⟩
 simp only [Lit.wf,decide_eq_true_eq,Bool.and_eq_true] at hw
 have h1:IntKind.i64.min=-9223372036854775808:=by decide
 have h2:IntKind.i64.max=9223372036854775807:=by decide
 unfold inI; omega
theorem ints_b {t e:TypeId} {kd:IntKind} {n:Nat} {v:Value} {y:DataW H × List MemPlace} (ht:P.underlying t=some (.slice e)) (he:P.underlying e=some (.int kd)) (hc:P.cellsOf e=1)
  (h:DataW.trod enc P W 0 (fun _=>true) true n t [v]=some y):∃ zs:List Int,Row (handed W) v (zs.map (Value.int kd))∧zs.length≤Rows.uptoBulk y.1∧∀ z∈zs,(Lit.int kd z).wf=true:=by
 rcases open_ints ht he hc h with ⟨hcs,hx⟩ | ⟨a',len',cap',zs,hcs,_,hlc,_,hz,hx,hcell,hwf⟩
 ·simp only [List.cons.injEq,and_true] at hcs
  subst hcs
  exact ⟨[],Row.nil_,Nat.zero_le _,fun z hz=>by cases hz⟩
 ·simp only [List.cons.injEq,and_true] at hcs
  subst hcs
  simp only [if_true] at hz
  have hx1:y.1=.slice (lits kd (zs.take len')) (lits kd (zs.drop len')):=by rw [hx]
  have h1:=qJr (lits (H:=H) kd (zs.take len'))
  have hbe:Rows.uptoBulk y.1=Rows.uptoBulkAll (lits (H:=H) kd (zs.take len'))+Rows.uptoBulkAll (lits (H:=H) kd (zs.drop len'))+1:=by rw [hx1]; simp only [Rows.uptoBulk]
  simp only [lits,List.length_map,List.length_take] at h1 hbe
  have hr:=row_handed (W:=W) (a:=a') (len:=len') (cap:=cap') (vs:=zs.map (Value.int kd)) (by simp [hz]) hlc fun i hi=>by
   rw [hcell i (by omega),List.getElem?_map,List.getElem?_eq_getElem (by omega)]
   simp [List.getD_eq_getElem?_getD,List.getElem?_eq_getElem (show i<zs.length by omega)]
  rw [← List.map_take] at hr
  exact ⟨zs.take len',hr,by rw [List.length_take]; omega,fun z hz=>hwf z (List.mem_of_mem_take hz)⟩
theorem ir_b {t e:TypeId} {n:Nat} {v:Value} {y:DataW H × List MemPlace} (ht:P.underlying t=some (.slice e)) (he:P.underlying e=some (.int .i64)) (hc:P.cellsOf e=1)
  (h:DataW.trod enc P W 0 (fun _=>true) true n t [v]=some y) (hb:Rows.uptoBulk y.1≤1048576):∃ l,Ir (handed W) v l∧l.length≤Rows.uptoBulk y.1:=by
 obtain ⟨zs,hr,hl,hw⟩:=ints_b ht he hc h
 refine ⟨zs,⟨hr,by omega,fun z hz=>?_⟩,hl⟩
 have:=hw z hz
 simp only [Lit.wf,decide_eq_true_eq,Bool.and_eq_true] at this
 have h1:IntKind.i64.min=-9223372036854775808:=by decide
 have h2:IntKind.i64.max=9223372036854775807:=by decide
 unfold inI; omega
theorem nr_b {t e:TypeId} {n:Nat} {v:Value} {y:DataW H × List MemPlace} (ht:P.underlying t=some (.slice e)) (he:P.underlying e=some (.int .u32)) (hc:P.cellsOf e=1)
  (h:DataW.trod enc P W 0 (fun _=>true) true n t [v]=some y) (hb:Rows.uptoBulk y.1≤1048576):∃ l,Nr (handed W) v l:=by
 obtain ⟨zs,hr,hl,hw⟩:=ints_b ht he hc h
 have hpos:∀ z∈zs,0≤z∧z<4294967296:=fun z hz=>by
  have:=hw z hz
  simp only [Lit.wf,decide_eq_true_eq,Bool.and_eq_true] at this
  have h1:IntKind.u32.min=0:=by decide
  have h2:IntKind.u32.max=4294967295:=by decide
  omega
 have hU:zs.map (Value.int .u32)=U (zs.map Int.toNat):=by
  unfold U
  rw [List.map_map]
  apply List.map_congr_left
  intro z hz
  simp only [Function.comp_apply,Int.toNat_of_nonneg (hpos z hz).1]
 rw [hU] at hr
 refine ⟨zs.map Int.toNat,hr,fun x hx=>?_,by rw [List.length_map]; omega⟩
 obtain ⟨z,hz,rfl⟩:=List.mem_map.mp hx
 have:=hpos z hz
 show z.toNat<4294967296
 omega
theorem pair_handed {n:Nat} {cs:List Value} {y:DataW H × List MemPlace} (h:DataW.trod enc Tryz.prog W 0 (fun _=>true) true n 56 cs=some y):∃ x:Int × Int,(cs=qWx x∧inP x)∧prC x≤1000*Rows.uptoBulk y.1:=by
 obtain ⟨xs,m,_,hx,hl,hxl,hf⟩:=DataW.trod_array Tryz.underlying56 h
 have hc:Tryz.prog.cellsOf 3=1:=by kernel_rfl
 have hc2:Tryz.prog.cellsOf 56=2:=by kernel_rfl
 rw [hc2] at hl
 obtain ⟨v0,v1,rfl⟩:=len2 hl
 obtain ⟨x0,x1,rfl⟩:=len2 hxl
 have g0:=hf 0 (by omega)
 have g1:=hf 1 (by omega)
 rw [hc] at g0 g1
 obtain ⟨z0,rfl,i0⟩:=int_in Tryz.underlying3 (show DataW.trod enc Tryz.prog W 0 (fun _=>true) true m 3 [v0]=some x0 from g0)
 obtain ⟨z1,rfl,i1⟩:=int_in Tryz.underlying3 (show DataW.trod enc Tryz.prog W 0 (fun _=>true) true m 3 [v1]=some x1 from g1)
 exact ⟨(z0,z1),⟨rfl,i0,i1⟩,by have:=qEj y.1; show 100≤_; omega⟩
theorem pairs_handed {n:Nat} {v:Value} {y:DataW H × List MemPlace} (h:DataW.trod enc Tryz.prog W 0 (fun _=>true) true n 34 [v]=some y) (hb:Rows.uptoBulk y.1≤1048576) :
  ∃ l:List (Int × Int),RowK 2 (handed W) v (l.map qWx)∧(∀ x∈l,inP x)∧l.length≤Rows.uptoBulk y.1∧cst prC l≤1000*Rows.uptoBulk y.1:=by
 obtain ⟨rows,xs,h1,h2,h3,h4⟩:=slice_handed (α:=Int × Int) (q:=fun c x=>c=qWx x∧inP x) (c:=prC) (K:=1000) Tryz.underlying34 (sz:=2) (by kernel_rfl) (by decide) h hb fun n' cs' y' h' hb' _=>pair_handed h'
 have he:rows=xs.map qWx:=by
  apply List.ext_getElem?
  intro i
  rw [List.getElem?_map]
  cases hr:rows[i]? with
  | none =>
   have:=h2.len
   rw [List.getElem?_eq_none_iff] at hr
   rw [List.getElem?_eq_none (by omega)]; rfl
  | some r =>
   obtain ⟨x,hx,hq,_⟩:=h2.get hr
   rw [hx,hq]; rfl
 rw [he] at h1
 refine ⟨xs,h1,fun x hx=>?_,h3,h4⟩
 obtain ⟨i,hi⟩:=List.getElem?_of_mem hx
 have hil:=(List.getElem?_eq_some_iff.mp hi).1
 have:=h2.len
 exact (h2.at_ i _ x (List.getElem?_eq_getElem (by omega)) hi).2
theorem rules_handed {n:Nat} {v:Value} {y:DataW H × List MemPlace} (h:DataW.trod enc Tryz.prog W 0 (fun _=>true) true n 33 [v]=some y) (hb:Rows.uptoBulk y.1≤1048576) :
  ∃ rows xs,RowK 2 (handed W) v rows∧Rel2 (RuI (handed W)) rows xs∧xs.length≤Rows.uptoBulk y.1∧cst ruC xs≤1000*Rows.uptoBulk y.1 :=
 slice_handed (α:=Ru) (q:=RuI (handed W)) (c:=ruC) (K:=1000) Tryz.underlying33 (sz:=2) (by kernel_rfl) (by decide) h hb fun n' cs' y' h' hb' _=>by
  obtain ⟨v0,v1,x0,x1,m,rfl,e,k0,k1⟩:=struct2_ Tryz.underlying43 (by kernel_rfl) (by kernel_rfl) h'
  have hbe:Rows.uptoBulk y'.1=Rows.uptoBulk x0.1+(Rows.uptoBulk x1.1+0)+1:=by rw [e]; simp only [Rows.uptoBulk,Rows.uptoBulkAll]
  obtain ⟨l0,i0,b0⟩:=ir_b Tryz.underlying24 Tryz.underlying3 (by kernel_rfl) k0 (by omega)
  obtain ⟨l1,i1,b1⟩:=ir_b Tryz.underlying24 Tryz.underlying3 (by kernel_rfl) k1 (by omega)
  exact ⟨(l0,l1),⟨v0,v1,rfl,i0,i1⟩,by show 50*l0.length+50*l1.length+20≤_; omega⟩
theorem monos_handed {n:Nat} {v:Value} {y:DataW H × List MemPlace} (h:DataW.trod enc Tryz.prog W 0 (fun _=>true) true n 148 [v]=some y) (hb:Rows.uptoBulk y.1≤1048576) :
  ∃ rows xs,RowK 2 (handed W) v rows∧Rel2 (MoR (handed W)) rows xs∧xs.length≤Rows.uptoBulk y.1∧cst moC xs≤1000*Rows.uptoBulk y.1 :=
 haveI:Inhabited Mo:=⟨⟨[],[]⟩⟩
 slice_handed (α:=Mo) (q:=MoR (handed W)) (c:=moC) (K:=1000) Tryz.underlying148 (sz:=2) (by kernel_rfl) (by decide) h hb fun n' cs' y' h' hb' _=>by
  obtain ⟨v0,v1,x0,x1,m,rfl,e,k0,k1⟩:=struct2_ Tryz.underlying158 (by kernel_rfl) (by kernel_rfl) h'
  have hbe:Rows.uptoBulk y'.1=Rows.uptoBulk x0.1+(Rows.uptoBulk x1.1+0)+1:=by rw [e]; simp only [Rows.uptoBulk,Rows.uptoBulkAll]
  obtain ⟨l0,i0⟩:=nr_b Tryz.underlying153 Tryz.underlying181 (by kernel_rfl) k0 (by omega)
  obtain ⟨l1,i1,b1⟩:=ir_b Tryz.underlying24 Tryz.underlying3 (by kernel_rfl) k1 (by omega)
  exact ⟨⟨l0,l1⟩,⟨v0,v1,rfl,i0,i1⟩,by have:=qEj x0.1; show 30*l1.length+700≤_; omega⟩
theorem ints_handed {n:Nat} {v:Value} {y:DataW H × List MemPlace} (h:DataW.trod enc Tryz.prog W 0 (fun _=>true) true n 44 [v]=some y) (hb:Rows.uptoBulk y.1≤1048576) :
  ∃ rows xs,RowK 2 (handed W) v rows∧Rel2 (ItR (handed W)) rows xs∧xs.length≤Rows.uptoBulk y.1∧cst itC xs≤1000*Rows.uptoBulk y.1 :=
 haveI:Inhabited It:=⟨⟨0,[]⟩⟩
 slice_handed (α:=It) (q:=ItR (handed W)) (c:=itC) (K:=1000) Tryz.underlying44 (sz:=2) (by kernel_rfl) (by decide) h hb fun n' cs' y' h' hb' _=>by
  obtain ⟨v0,v1,x0,x1,m,rfl,e,k0,k1⟩:=struct2_ Tryz.underlying150 (by kernel_rfl) (by kernel_rfl) h'
  have hbe:Rows.uptoBulk y'.1=Rows.uptoBulk x0.1+(Rows.uptoBulk x1.1+0)+1:=by rw [e]; simp only [Rows.uptoBulk,Rows.uptoBulkAll]
  obtain ⟨z,rfl,iz⟩:=int_in Tryz.underlying3 k0
  obtain ⟨rows,xs,h1,h2,h3,h4⟩:=monos_handed k1 (by omega)
  exact ⟨⟨z,xs⟩,⟨v1,rows,rfl,iz,h1,h2,by show xs.length<_; omega⟩,by have:=qEj x0.1; show 100+cst moC xs≤_; omega⟩
theorem cert_handed {n:Nat} {v:Value} {y:DataW H × List MemPlace} (h:DataW.trod enc Tryz.prog W 0 (fun _=>true) true n 35 [v]=some y) (hb:Rows.uptoBulk y.1≤1048576) :
  ∃ rows xs,RowK 4 (handed W) v rows∧Rel2 (NdR (handed W)) rows xs∧xs.length≤Rows.uptoBulk y.1∧cst ndC xs≤1000*Rows.uptoBulk y.1 :=
 haveI:Inhabited Nd:=⟨⟨0,0,[],[]⟩⟩
 slice_handed (α:=Nd) (q:=NdR (handed W)) (c:=ndC) (K:=1000) Tryz.underlying35 (sz:=4) (by kernel_rfl) (by decide) h hb fun n' cs' y' h' hb' _=>by
  obtain ⟨v0,v1,v2,v3,x0,x1,x2,x3,m,rfl,e,k0,k1,k2,k3⟩:=struct4_ Tryz.underlying46 (by kernel_rfl) (by kernel_rfl) h'
  have hbe:Rows.uptoBulk y'.1=Rows.uptoBulk x0.1+(Rows.uptoBulk x1.1+(Rows.uptoBulk x2.1+(Rows.uptoBulk x3.1+0)))+1:=by rw [e]; simp only [Rows.uptoBulk,Rows.uptoBulkAll]
  obtain ⟨z,rfl,iz⟩:=int_in Tryz.underlying3 k0
  obtain ⟨l,p1,p2,p3,p4⟩:=pairs_handed k1 (by omega)
  obtain ⟨rows,xs,h1,h2,h3,h4⟩:=ints_handed k2 (by omega)
  obtain ⟨z3,rfl,iz3⟩:=int_in Tryz.underlying3 k3
  exact ⟨⟨z,z3,l,xs⟩,⟨v1,v2,rows,rfl,iz,iz3,p1,p2,by show l.length<_; omega,h1,h2,by show xs.length<_; omega⟩,by have:=qEj x0.1; show 100+cst prC l+cst itC xs≤_; omega⟩
theorem flat_cost:∀ l:List (List Int),cst (fun t=>50*t.length+4) l=50*l.flatten.length+4*l.length
 | []=>rfl
 | t::l=>by
  have:=flat_cost l
  show 50*t.length+4+cst (fun t=>50*t.length+4) l=_
  rw [List.flatten_cons,List.length_append,List.length_cons]
  omega
theorem flat_one:∀ {rows:List (List Value)},(∀ v∈rows,v.length=1)→rows.flatten.length=rows.length
 | [],_=>rfl
 | r::rows,h=>by
  rw [List.flatten_cons,List.length_append,h r (.head _),flat_one fun v hv=>h v (.tail _ hv),List.length_cons]; omega
theorem terms_handed {n:Nat} {v:Value} {y:DataW H × List MemPlace} (h:DataW.trod enc Tryz.prog W 0 (fun _=>true) true n 57 [v]=some y) (hb:Rows.uptoBulk y.1≤1048576) :
  ∃ vs xs,Row (handed W) v vs∧Rel2 (fun v l=>Ir (handed W) v l) vs xs∧xs.length≤Rows.uptoBulk y.1∧50*xs.flatten.length+4*xs.length≤100*Rows.uptoBulk y.1:=by
 obtain ⟨rows,xs,h1,h2,h3,h4⟩:=slice_handed (α:=List Int) (q:=fun c l=>∃ v,c=[v]∧Ir (handed W) v l) (c:=fun t=>50*t.length+4) (K:=100) Tryz.underlying57 (sz:=1) (by kernel_rfl) (by decide) h hb fun n' cs' y' h' hb' hl=>by
  obtain ⟨v,rfl⟩:=List.length_eq_one_iff.mp hl
  obtain ⟨l,il,bl⟩:=ir_b Tryz.underlying24 Tryz.underlying3 (by kernel_rfl) h' hb'
  exact ⟨l,⟨v,rfl,il⟩,by have:=qEj y'.1; show 50*l.length+4≤_; omega⟩
 rw [flat_cost] at h4
 refine ⟨rows.flatten,xs,?_,?_,h3,h4⟩
 ·obtain ⟨base,cap,he,hcap,hsz,hb⟩:=h1
  have hfl:=flat_one hsz
  refine ⟨base,cap,by rw [hfl]; exact he,by omega,?_⟩
  rcases hb with hb | ⟨a,g1,g2,l,g3,g4,g5⟩
  ·exact .inl hb
  ·exact .inr ⟨a,g1,g2,l,g3,by omega,by rw [hfl]; simpa using g5⟩
 ·refine ⟨?_,fun j w x hw hx=>?_⟩
  ·obtain ⟨_,_,_,_,hsz,_⟩:=h1
   rw [flat_one hsz]; exact h2.len
  ·obtain ⟨_,_,_,_,hsz,_⟩:=h1
   rw [flat_get (by decide) j hsz,Nat.div_one,Nat.mod_one] at hw
   cases hr:rows[j]? with
   | none=>rw [hr] at hw; cases hw
   | some r =>
    rw [hr] at hw
    obtain ⟨v,rfl,iv⟩:=h2.at_ j r x hr hx
    obtain rfl:v=w:=Option.some.inj hw
    exact iv
theorem cmds_handed {n:Nat} {v:Value} {y:DataW H × List MemPlace} (h:DataW.trod enc Tryz.prog W 0 (fun _=>true) true n 36 [v]=some y) (hb:Rows.uptoBulk y.1≤1048576) :
  ∃ rows xs,RowK 2 (handed W) v rows∧Rel2 (CmR (handed W)) rows xs∧xs.length≤Rows.uptoBulk y.1∧cst (fun x:Cm=>cmC x+x.word.length) xs≤1000*Rows.uptoBulk y.1 :=
 haveI:Inhabited Cm:=⟨⟨[],[]⟩⟩
 slice_handed (α:=Cm) (q:=CmR (handed W)) (c:=fun x:Cm=>cmC x+x.word.length) (K:=1000) Tryz.underlying36 (sz:=2) (by kernel_rfl) (by decide) h hb fun n' cs' y' h' hb' _=>by
  obtain ⟨v0,v1,x0,x1,m,rfl,e,k0,k1⟩:=struct2_ Tryz.underlying59 (by kernel_rfl) (by kernel_rfl) h'
  have hbe:Rows.uptoBulk y'.1=Rows.uptoBulk x0.1+(Rows.uptoBulk x1.1+0)+1:=by rw [e]; simp only [Rows.uptoBulk,Rows.uptoBulkAll]
  obtain ⟨s,hs,hx0,_⟩:=DataW.trod_string Tryz.underlying9 k0
  obtain rfl:v0=.string s:=by simpa using hs
  have hsb:Rows.uptoBulk x0.1=s.size+1:=by
   rw [hx0]
   simp only [Rows.uptoBulk]; rfl
  obtain ⟨vs,xs,h1,h2,h3,h4⟩:=terms_handed k1 (by omega)
  refine ⟨⟨bts s,xs⟩,⟨v1,vs,by rw [qWr],by show s.size<_; omega,h1,h2,by show xs.length<_; omega⟩,?_⟩
  show 50*xs.flatten.length+4*xs.length+20+s.size≤_
  omega
theorem cst_two {α:Type} {f g:α→Nat}:∀ l:List α,cst (fun x=>f x+g x) l=cst f l+cst g l
 | []=>rfl
 | x::l=>by
  have:=cst_two (f:=f) (g:=g) l
  rw [qXn,qXn,qXn,this]; omega
theorem sig_cost:∀ l:Sg,cst syC l=70*l.length
 | []=>rfl
 | x::l=>by
  have:=sig_cost l
  show 70+cst syC l=_
  rw [List.length_cons]; omega
theorem book_handed {n:Nat} {cs:List Value} {y:DataW H × List MemPlace} (h:DataW.trod enc Tryz.prog W 0 (fun _=>true) true n 38 cs=some y) (hb:Rows.uptoBulk y.1≤1048576):∃ B:Bk,BkA (handed W) cs B∧cst (fun x:Cm=>x.word.length) B.cmds<2 ^ 36:=by
 obtain ⟨v0,v1,v2,v3,v4,v5,x0,x1,x2,x3,x4,x5,m,rfl,e,k0,k1,k2,k3,k4,k5⟩:=struct6_ Tryz.underlying38 (by kernel_rfl) (by kernel_rfl) h
 have hbe:Rows.uptoBulk y.1=Rows.uptoBulk x0.1+(Rows.uptoBulk x1.1+(Rows.uptoBulk x2.1+(Rows.uptoBulk x3.1+(Rows.uptoBulk x4.1+(Rows.uptoBulk x5.1+0)))))+1:=by rw [e]; simp only [Rows.uptoBulk,Rows.uptoBulkAll]
 obtain ⟨sig,s1,s2⟩:=xPh k0 (by omega)
 obtain ⟨r1,R1,a1,a2,a3,a4⟩:=rules_handed k1 (by omega)
 obtain ⟨r2,R2,b1,b2,b3,b4⟩:=rules_handed k2 (by omega)
 obtain ⟨l3,c1,c2,c3,c4⟩:=pairs_handed k3 (by omega)
 obtain ⟨r4,R4,d1,d2,d3,d4⟩:=cert_handed k4 (by omega)
 obtain ⟨r5,R5,e1,e2,e3,e4⟩:=cmds_handed k5 (by omega)
 rw [cst_two] at e4
 have hsy:toSy (S2 sig)=sig:=by
  unfold toSy S2
  rw [List.map_map]
  conv=>rhs; rw [← List.map_id sig]
  apply List.map_congr_left
  intro x _
  show (strB (bts x.1),x.2)=x
  rw [qWr]
 refine ⟨⟨S2 sig,R1,R2,l3,R4,R5⟩,⟨⟨v0,v1,v2,v3,v4,v5,r1,r2,r4,r5,rfl,by rw [hsy]; exact s1,a1,a2,b1,b2,c1,c2,d1,d2,e1,e2⟩,by rw [qCe]; omega,by dsimp only; omega,by dsimp only; omega,by dsimp only; omega,by dsimp only; omega,by dsimp only; omega,?_⟩,by dsimp only; omega⟩
 unfold bkC
 dsimp only
 rw [sig_cost,qCe]
 omega
end Go.Proofs.YtkdneddcocggdaaGreatDoor.Am
