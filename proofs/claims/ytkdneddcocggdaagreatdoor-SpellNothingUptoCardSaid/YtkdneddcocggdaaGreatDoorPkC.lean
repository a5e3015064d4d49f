/-
  Packed: Rules by which a function's reading is shown: slices as rows of values, blocks that are new, what stays. Rules for strings. Slices whose elements take several cells. A contract over the model's worlds, as a reading of a call: what lay before stays; new rows may come.
-/
import Derived.Test.YtkdneddcocggdaaGreatDoorPkA
import Derived.IntWalk
import Derived.Laws.Append
import Derived.Test.YtkdneddcocggdaaGreatDoorPkB
import Derived.Below
set_option linter.unusedVariables false
set_option linter.unusedSimpArgs false
set_option linter.unnecessarySimpa false
namespace Go.Proofs.YtkdneddcocggdaaGreatDoor.Am
open Go
variable {h h' h'':H} {s:Value} {vs:List Value}
theorem xUg (j:IntKind):ikEq j j=true:=by cases j <;> rfl
theorem qQa {j:IntKind} {n:Int} {k:Int→Prop}:intK j (.int j n) k=k n:=by simp only [intK,xUg]
theorem xBh {j:IntKind} {n:Int} {k:IntKind→Int→Prop}:intW (.int j n) k=k j n:=rfl
theorem qQc {b:Bool} {k:Bool→Prop}:qQp (.bool b) k=k b:=rfl
theorem qQb {x:ByteArray} {k:ByteArray→Prop}:strW (.string x) k=k x:=rfl
theorem qQe {a:Addr} {k:Addr→Prop}:ptrW (.pointer (some a)) k=k a:=rfl
theorem qVq {cs:Array Value} {k:List Value→Prop}:aggW (.agg cs) k=k cs.toList:=rfl
theorem xVk {a:Option Addr} {n c:Nat} {k:Nat→Prop}:lenW (.slice a n c) k=k n:=rfl
theorem qVu {a:Option Addr} {n c:Nat} {k:Nat→Prop}:qXi (.slice a n c) k=k n:=rfl
theorem nth0 {v:Value} {l:List Value}:nth (v::l) 0=v:=rfl
theorem nth1 {a b:Value} {l:List Value}:nth (a::b::l) 1=b:=rfl
theorem nth2 {a b c:Value} {l:List Value}:nth (a::b::c::l) 2=c:=rfl
theorem nth3 {a b c d:Value} {l:List Value}:nth (a::b::c::d::l) 3=d:=rfl
theorem nth4 {a b c d e:Value} {l:List Value}:nth (a::b::c::d::e::l) 4=e:=rfl
theorem xs_r {r:Prop} {e:Nat→Prop} {p:List PanicEntry→Prop}:xs .r r e p=r:=rfl
theorem xs_e {i:Nat} {r:Prop} {e:Nat→Prop} {p:List PanicEntry→Prop}:xs (.e i) r e p=e i:=rfl
theorem qVk {t:Bool} {A B:Prop}:cond t A B↔(t=true→A)∧(t=false→B):=by cases t <;> simp
theorem qQd {p:Prop} [Decidable p] {A B:Prop}:cond (decide p) A B↔(p→A)∧(¬ p→B):=by by_cases hp:p <;> simp [hp]
theorem qQx {t:Bool} {A B:Prop}:cond (!t) A B=cond t B A:=by cases t <;> rfl
theorem qZf {a b:Int} {A B:Prop}:cond (a==b) A B↔(a=b→A)∧(a≠b→B):=by by_cases hp:a=b <;> simp [hp]
theorem qZl {a b:Int} {A B:Prop}:cond (a != b) A B↔(a≠b→A)∧(a=b→B):=by by_cases hp:a=b <;> simp [hp]
theorem qQr {n:Int} (h0 : -9223372036854775808≤n) (h1:n≤9223372036854775807):IntKind.i64.wrap n=n:=IntWalk.i64_in n ⟨h0,h1⟩
theorem qWy {n:Int} (h0:0≤n) (h1:n≤18446744073709551615):IntKind.u64.wrap n=n:=IntWalk.u64_in n ⟨h0,h1⟩
theorem xCn {n:Int} (h0:0≤n) (h1:n≤4294967295):IntKind.u32.wrap n=n:=IntWalk.u32_in n ⟨h0,h1⟩
theorem xDh (n:Int):IntKind.u32.wrap n=n % 4294967296:=IntKind.wrap_u32 n
theorem shr32 {n:Int}:Int.fdiv n (2 ^ (min (Int.toNat (32:Int)) (IntKind.bits .u64)))=n / 4294967296:=by
 have:(2:Int) ^ (min (Int.toNat (32:Int)) (IntKind.bits .u64))=4294967296:=by decide
 rw [this,Int.fdiv_eq_ediv_of_nonneg _ (by omega)]
def Ext (h h':H):Prop:=∀ b o,h b=some o→h' b=some o
def ExtBut (c:Nat) (h h':H):Prop:=∀ b o,b≠c→h b=some o→h' b=some o
theorem Ext.refl (h:H):Ext h h:=fun _ _ x=>x
theorem Ext.trans (e:Ext h h') (f:Ext h' h''):Ext h h'':=fun b o x=>f b o (e b o x)
theorem Ext.new {b:Nat} {o:VObj} (hb:h b=none):Ext h (h.set b o):=fun c u hc=>by
 unfold H.set
 by_cases hcb:c=b
 ·subst hcb; rw [hb] at hc; cases hc
 ·rw [if_neg hcb]; exact hc
theorem Ext.but (e:Ext h h') {c:Nat} (hc:h c=none) (f:ExtBut c h' h''):Ext h h'':=fun b o hb =>
 f b o (fun x=>by rw [x,hc] at hb; cases hb) (e b o hb)
theorem Ext.set {c:Nat} {o:VObj} (e:Ext h h') (hc:h c=none):Ext h (h'.set c o):=fun b u hb=>by
 unfold H.set
 have:b≠c:=fun x=>by rw [x,hc] at hb; cases hb
 rw [if_neg this]; exact e b u hb
theorem Ext.free (e:Ext h h') {c:Nat} (hc:h' c=none):h c=none:=by
 cases hx:h c with
 | none=>rfl
 | some o=>rw [e c o hx] at hc; cases hc
theorem ExtBut.refl (c:Nat) (h:H):ExtBut c h h:=fun _ _ _ x=>x
theorem ExtBut.trans {c:Nat} (e:ExtBut c h h') (f:ExtBut c h' h''):ExtBut c h h'':=fun b o hb x=>f b o hb (e b o hb x)
theorem Ext.to {c:Nat} (e:Ext h h'):ExtBut c h h':=fun b o _ x=>e b o x
theorem ExtBut.set {c:Nat} {o:VObj}:ExtBut c h (h.set c o):=fun b u hb hx=>by
 unfold H.set; rw [if_neg hb]; exact hx
theorem qQf {b:Nat} {o:VObj}:h.set b o b=some o:=by simp [H.set]
theorem qXg {b c:Nat} {o:VObj} (hb:b≠c):h.set c o b=h b:=by simp [H.set,hb]
theorem qJf {b:Nat} {o u:VObj}:(h.set b o).set b u=h.set b u:=by
 funext c; unfold H.set; by_cases hc:c=b <;> simp [hc]
theorem qZg {b o i:Nat}:(⟨b,o,none⟩:Addr).add i=⟨b,o+i,none⟩:=by
 unfold Addr.add
 split <;> simp_all
def Row (h:H) (s:Value) (vs:List Value):Prop :=
 ∃ base cap,s=.slice base vs.length cap∧vs.length≤cap∧(cap=0∨∃ a,base=some a ∧
  a.spot=none∧∃ l,qZm (h a.block)=some l∧a.off+cap≤l.length∧(l.drop a.off).take vs.length=vs)
theorem qBe {h:H} {a:Addr} {n:Nat} {l:List Value} (hs:a.spot=none) (hl:qZm (h a.block)=some l) (hn:a.off+n≤l.length):rdR h a n=some ((l.drop a.off).take n):=by
 unfold rdR
 split
 ·rename_i h0; subst h0; simp
 ·simp only [rdN,hs,hl,Option.bind_some]
  rw [if_pos (by omega)]
theorem Row.len (r:Row h s vs) {k:Nat→Prop}:lenW s k↔k vs.length:=by
 obtain ⟨base,cap,rfl,_⟩:=r
 exact Iff.rfl
theorem Row.slen (r:Row h s vs) {k:Nat→Prop}:qXi s k↔k vs.length:=by
 obtain ⟨base,cap,rfl,_⟩:=r
 exact Iff.rfl
theorem qFn (e:Ext h h') {b:Nat} {l:List Value} (hb:qZm (h b)=some l):qZm (h' b)=some l:=by
 cases hx:h b with
 | none=>rw [hx] at hb; simp [qZm] at hb
 | some o=>rw [hx] at hb; rw [e b o hx]; exact hb
theorem Row.ext (r:Row h s vs) (e:Ext h h'):Row h' s vs:=by
 obtain ⟨base,cap,rfl,hc,hb⟩:=r
 refine ⟨base,cap,rfl,hc,?_⟩
 rcases hb with hb | ⟨a,ha,h1,l,h2,h3,h4⟩
 ·exact .inl hb
 ·exact .inr ⟨a,ha,h1,l,qFn e h2,h3,h4⟩
def Off (c:Nat) (s:Value):Prop:=match s with
 | .slice (some a) _ n=>n≠0→a.block≠c
 | _=>True
theorem Row.but (r:Row h s vs) {c:Nat} (ho:Off c s) (e:ExtBut c h h'):Row h' s vs:=by
 obtain ⟨base,cap,rfl,hc,hb⟩:=r
 refine ⟨base,cap,rfl,hc,?_⟩
 by_cases h0:cap=0
 ·exact .inl h0
 rcases hb with hb | ⟨a,rfl,h1,l,h2,h3,h4⟩
 ·exact .inl hb
 ·refine .inr ⟨a,rfl,h1,l,?_,h3,h4⟩
  cases hx:h a.block with
  | none=>rw [hx] at h2; simp [qZm] at h2
  | some o=>rw [hx] at h2; rw [e _ o (ho h0) hx]; exact h2
theorem Row.off (r:Row h s vs) {c:Nat} (hc:h c=none):Off c s:=by
 obtain ⟨base,cap,rfl,_,hb⟩:=r
 cases base with
 | none=>trivial
 | some a =>
  intro h0 hx
  rcases hb with hb | ⟨a,h5,h1,l,h2,h3,h4⟩
  ·exact h0 hb
  ·cases h5
   rw [hx,hc] at h2
   simp [qZm] at h2
theorem Row.get (r:Row h s vs) {i:Nat} (hi:i<vs.length) {k:Addr→Prop} (hk:∀ a,rd h a=some vs[i]→k a):qQm s (i:Int) 1 k:=by
 obtain ⟨base,cap,rfl,hc,hb⟩:=r
 rcases hb with hb | ⟨a,rfl,h1,l,h2,h3,h4⟩
 ·omega
 ·refine ⟨by omega,by omega,hk _ ?_⟩
  have e1:l[a.off+i]?=some vs[i]:=by
   have:=congrArg (·[i]?) h4
   simp only [List.getElem?_take,List.getElem?_drop,hi,if_true] at this
   rw [this,List.getElem?_eq_getElem hi]
  have e2:a.add (Int.toNat (i:Int)*1)=⟨a.block,a.off+i,none⟩:=by
   obtain ⟨b,o,sp⟩:=a
   subst h1
   simp [Addr.add]
  rw [e2]
  simp only [rd,h2,Option.bind_some,e1]
theorem Row.at_ (r:Row h s vs) {n:Int} (h0:0≤n) (h1:n<vs.length) {k:Addr→Prop} (hk:∀ a v,vs[n.toNat]?=some v→rd h a=some v→k a):qQm s n 1 k:=by
 obtain ⟨i,rfl⟩:=Int.eq_ofNat_of_zero_le h0
 have hi:i<vs.length:=by omega
 exact r.get hi fun a ha=>hk a vs[i] (by simp [hi]) ha
theorem Row.upto (r:Row h s vs) {n:Int} (h0:0≤n) (h1:n≤vs.length) {k:Value→Prop} (hk:∀ s',Row h s' (vs.take n.toNat)→(∀ c,Off c s→Off c s')→k s'):qXy s none (some n) none 1 k:=by
 obtain ⟨base,cap,rfl,hc,hb⟩:=r
 obtain ⟨i,rfl⟩:=Int.eq_ofNat_of_zero_le h0
 have hi:i≤vs.length:=by omega
 simp only [Int.toNat_natCast] at hk
 simp only [qXy,Option.getD_none,Option.getD_some,Option.isSome_none,Option.isSome_some,Bool.false_eq_true,false_implies,true_and,Int.toNat_natCast,Int.toNat_zero,Nat.sub_zero]
 refine ⟨by omega,by omega,by omega,by omega,hk _ ?_ ?_⟩
 ·refine ⟨(if cap=0 then base else base.map (·.add (0*1))),cap,by simp [Nat.min_eq_left hi],by simp; omega,?_⟩
  rcases hb with hb | ⟨a,rfl,g1,l,g2,g3,g4⟩
  ·exact .inl (by simpa using hb)
  ·have hz:(if cap=0 then some a else (some a).map (·.add (0*1)))=some a:=by
    have:a.add (0*1)=a:=by simp [Addr.add]
    simp [this]
   rw [hz]
   refine .inr ⟨a,rfl,g1,l,g2,by simpa using g3,?_⟩
   rw [List.length_take,Nat.min_eq_left hi]
   conv=>rhs; rw [← g4]
   rw [List.take_take,Nat.min_eq_left hi]
 ·intro c ho
  cases base with
  | none =>
   have:(if cap=0 then none else (none:Option Addr).map (·.add (0*1)))=none:=by split <;> rfl
   rw [this]; trivial
  | some a =>
   have hz:(if cap=0 then some a else (some a).map (·.add (0*1)))=some a:=by
    have:a.add (0*1)=a:=by simp [Addr.add]
    simp [this]
   rw [hz]; exact ho
theorem Row.src (r:Row h s vs) {n:Nat} (hn:n≤vs.length) {k:List Value→Prop} (hk:k (vs.take n)):srcW h 1 s n k:=by
 obtain ⟨base,cap,rfl,hc,hb⟩:=r
 rcases hb with hb | ⟨a,rfl,g1,l,g2,g3,g4⟩
 ·have:vs=[]:=List.length_eq_zero_iff.mp (by omega)
  subst this
  have h0:n=0:=by simpa using hn
  subst h0
  cases base with
  | none=>simpa [srcW] using hk
  | some a=>exact ⟨[],by simp [rdR],by simpa using hk⟩
 ·refine ⟨vs.take n,?_,hk⟩
  rw [Nat.mul_one,qBe g1 g2 (by omega),← g4,List.take_take,Nat.min_eq_left (by
   have:=congrArg List.length g4
   simp at this; omega)]
theorem Row.nil_:Row h (.slice none 0 0) []:=⟨none,0,rfl,by simp,.inl rfl⟩
theorem Row.empty {a:Option Addr}:Row h (.slice a 0 0) []:=⟨a,0,rfl,by simp,.inl rfl⟩
theorem Row.cells {b n:Nat} (hb:h b=some (.cells vs)) (hn:vs.length=n):Row h (.slice (some ⟨b,0,none⟩) n n) vs :=
 ⟨some ⟨b,0,none⟩,n,by rw [hn],by omega,.inr ⟨_,rfl,rfl,vs,by rw [hb]; rfl,by simp; omega,by simp⟩⟩
def Buf (h0 h:H) (s:Value) (vs:List Value):Prop :=
 ((∃ a,s=.slice a 0 0)∧vs=[]) ∨
 ∃ b off cap l,h0 b=none∧s=.slice (some ⟨b,off,none⟩) vs.length cap∧h b=some (.cells l)∧vs.length≤cap∧off+cap≤l.length∧(l.drop off).take vs.length=vs
theorem Buf.row {h0:H} (r:Buf h0 h s vs):Row h s vs:=by
 rcases r with ⟨⟨a,rfl⟩,rfl⟩ | ⟨b,off,cap,l,_,rfl,hb,h1,h2,h3⟩
 ·exact Row.empty
 ·exact ⟨_,cap,rfl,h1,.inr ⟨_,rfl,rfl,l,by rw [hb]; rfl,h2,h3⟩⟩
theorem Buf.mono {h0 h1:H} (r:Buf h0 h s vs) (e:Ext h1 h0):Buf h1 h s vs:=by
 rcases r with h2 | ⟨b,off,cap,l,hb,h2⟩
 ·exact .inl h2
 ·exact .inr ⟨b,off,cap,l,e.free hb,h2⟩
theorem Buf.cells {h0:H} {b n:Nat} (h0b:h0 b=none) (hb:h b=some (.cells vs)) (hn:vs.length=n):Buf h0 h (.slice (some ⟨b,0,none⟩) n n) vs :=
 .inr ⟨b,0,n,vs,h0b,by rw [hn],hb,by omega,by omega,by rw [List.drop_zero,List.take_length]⟩
theorem Buf.ext {h0:H} (r:Buf h0 h s vs) (e:Ext h h'):Buf h0 h' s vs:=by
 rcases r with h1 | ⟨b,off,cap,l,h1,h2,h3,h4⟩
 ·exact .inl h1
 ·exact .inr ⟨b,off,cap,l,h1,h2,e _ _ h3,h4⟩
theorem getElem?_splice {l ws:List Value} {o i:Nat} (ho:o+ws.length≤l.length):(splice l o ws)[i]?=if i<o then l[i]? else if i<o+ws.length then ws[i - o]? else l[i]?:=by
 unfold splice
 rw [List.getElem?_append]
 simp only [List.length_take,Nat.min_eq_left (show o≤l.length by omega)]
 split
 ·rename_i h1; rw [List.getElem?_take,if_pos h1]
 ·rename_i h1
  rw [List.getElem?_append]
  split
  ·rename_i h2; rw [if_pos (by omega)]
  ·rename_i h2
   rw [if_neg (by omega),List.getElem?_drop]
   congr 1; omega
theorem qVo {l ws:List Value} {o:Nat} (ho:o+ws.length≤l.length):(splice l o ws).length=l.length:=by simp [splice]; omega
theorem Buf.put {h0:H} (r:Buf h0 h s vs) {i:Nat} (hi:i<vs.length) {v:Value} {k:Addr→Prop}
  (hk:∀ a h',wr1 h a v=some h'→(∀ o,Ext o h→(∀ b,o b≠none→h0 b≠none)→Ext o h')→Buf h0 h' s (vs.set i v)→k a):qQm s (i:Int) 1 k:=by
 rcases r with ⟨⟨ba,rfl⟩,rfl⟩ | ⟨b,off,cap,l,h1,rfl,hb,h2,h3,h4⟩
 ·simp at hi
 ·refine ⟨by omega,by omega,?_⟩
  have e2:(⟨b,off,none⟩:Addr).add (Int.toNat (i:Int)*1)=⟨b,off+i,none⟩:=by simp [Addr.add]
  rw [e2]
  refine hk _ (h.set b (.cells (l.set (off+i) v))) ?_ ?_ ?_
  ·simp only [wr1,hb]
   rw [if_pos (by omega)]
  ·intro o ho hd
   exact ho.set (by
    cases hx:o b with
    | none=>rfl
    | some u=>exact absurd h1 (hd b (by rw [hx]; simp)))
  ·refine .inr ⟨b,off,cap,l.set (off+i) v,h1,by simp,qQf,by simpa using h2,by simpa using h3,?_⟩
   apply List.ext_getElem?
   intro j
   rw [List.length_set,List.getElem?_take,List.getElem?_drop,List.getElem?_set,List.getElem?_set]
   have h5:=congrArg (·[j]?) h4
   simp only [List.getElem?_take,List.getElem?_drop] at h5
   by_cases hj:j<vs.length
   ·simp only [hj,if_true] at h5 ⊢
    by_cases hij:i=j
    ·subst hij
     simp [hj,show off+i<l.length by omega]
    ·simp [hij,h5]
   ·simp only [hj,if_false]
    rw [if_neg (by omega),List.getElem?_eq_none (by omega)]
theorem Buf.app {h0:H} (r:Buf h0 h s vs) (e:Ext h0 h) {bytes:Nat} {z:List Value} {ws:List Value} (hz:z.length=1) (h1:ws.all one=true) (hb:2*(vs.length+ws.length)*bytes≤2 ^ 48) (hl:vs.length+ws.length≤2 ^ 62) {k:Value→H→Prop}
  (hk:∀ s' h',Buf h0 h' s' (vs++ws)→Ext h0 h'→k s' h'):apW h 1 bytes z s ws.length ws k:=by
 have grow:∀ cap base old,cap<vs.length+ws.length→qBh h base (vs.length*1)=some old→old=vs→Builtin.nextslicecap (vs.length+ws.length) cap*bytes≤2 ^ 48∧((vs.length+ws.length:Nat):Int)≤IntKind.i64.max ∧
   ∃ old,qBh h base (vs.length*1)=some old∧∀ b c,h b=none→vs.length+ws.length≤c→k (.slice (some ⟨b,0,none⟩) (vs.length+ws.length) c) (h.set b (.cells (old++(ws++(List.replicate (c - (vs.length+ws.length)) z).flatten)))):=by
  intro cap base old hc ho hov
  subst hov
  refine ⟨Nat.le_trans (Nat.mul_le_mul_right _ (nextslicecap_le hc)) hb,?_,old,ho,fun b c hbn hcc=>hk _ _ ?_ ?_⟩
  ·have:IntKind.i64.max=9223372036854775807:=by decide
   rw [this]; omega
  ·have hlen:((List.replicate (c - (old.length+ws.length)) z).flatten).length=c - (old.length+ws.length):=by
    rw [List.length_flatten,List.map_replicate,List.sum_replicate_nat,hz,Nat.mul_one]
   refine .inr ⟨b,0,c,_,e.free hbn,by simp,qQf,by simp; omega,?_,?_⟩
   ·simp only [List.length_append,hlen]; omega
   ·rw [List.drop_zero,← List.append_assoc,List.take_append_of_le_length (by simp),List.take_length]
  ·exact e.trans (Ext.new hbn)
 rcases r with ⟨⟨ba,rfl⟩,rfl⟩ | ⟨b,off,cap,l,g1,rfl,g2,g3,g4,g5⟩
 ·refine ⟨fun hc=>?_,fun hc=>?_⟩
  ·have:ws=[]:=List.length_eq_zero_iff.mp (by simpa using hc)
   subst this
   have:=hk _ _ (.inl ⟨⟨ba,rfl⟩,rfl⟩) e
   cases ba with
   | none=>exact this
   | some a=>exact ⟨fun _=>this,fun hn=>absurd rfl hn⟩
  ·have:=grow 0 ba [] (by simpa using hc) (by cases ba <;> simp [qBh,rdR]) rfl
   simpa using this
 ·refine ⟨fun hc=>?_,fun hc=>?_⟩
  ·refine ⟨fun hw=>?_,fun hw=>⟨h1,h.set b (.cells (splice l (off+vs.length) ws)),?_,?_⟩⟩
   ·subst hw
    refine hk _ _ ?_ e
    simpa using .inr ⟨b,off,cap,l,g1,rfl,g2,g3,g4,g5⟩
   ·rw [Nat.mul_one,qZg]
    simp only [wr,g2]
    rw [if_pos (show off+vs.length+ws.length≤l.length by omega)]
   ·refine hk _ _ (.inr ⟨b,off,cap,_,g1,by simp,qQf,by simpa using hc,by rw [qVo (by omega)]; omega,?_⟩) (e.set g1)
    apply List.ext_getElem?
    intro j
    rw [List.getElem?_take,List.getElem?_drop,getElem?_splice (by omega),List.getElem?_append,List.length_append]
    have h5:=congrArg (·[j]?) g5
    simp only [List.getElem?_take,List.getElem?_drop] at h5
    by_cases hj:j<vs.length
    ·simp only [hj,if_true] at h5 ⊢
     rw [if_pos (by omega),if_pos (by omega),h5]
    ·by_cases hj2:j<vs.length+ws.length
     ·rw [if_pos hj2,if_neg (by omega),if_pos (by omega),if_neg hj]
      congr 1; omega
     ·rw [if_neg hj2,if_neg hj,List.getElem?_eq_none (by omega)]
  ·refine grow cap (some ⟨b,off,none⟩) vs hc ?_ rfl
   have:=qBe (h:=h) (a:=⟨b,off,none⟩) (n:=vs.length) rfl (by show qZm (h b)=_; rw [g2]; rfl) (by show off+_≤_; omega)
   simp only [qBh,Nat.mul_one,this,g5]
def qJm (s:Value) (n:Nat):Value:=match s with
 | .slice b _ c=>.slice b n c
 | v=>v
def xGr (s:Value):Nat:=match s with
 | .slice _ _ c=>c
 | _=>0
def isSl (s:Value):Prop:=match s with
 | .slice _ _ _=>True
 | _=>False
theorem xXh {s:Value} {n:Int} {k:Value→Prop} (hs:isSl s) (h0:0≤n) (h1:n≤xGr s) (hk:k (qJm s n.toNat)):qXy s none (some n) none 1 k:=by
 cases s <;> try exact hs.elim
 rename_i base len cap
 simp only [xGr] at h1
 simp only [qXy,Option.getD_none,Option.getD_some,Option.isSome_none,Option.isSome_some,Bool.false_eq_true,false_implies,true_and,Int.toNat_natCast,Int.toNat_zero,Nat.sub_zero]
 refine ⟨by omega,by omega,by omega,by omega,?_⟩
 have hz:(if cap=0 then base else base.map (·.add (0*1)))=base:=by
  cases base with
  | none=>split <;> rfl
  | some a =>
   have:a.add (0*1)=a:=by simp [Addr.add]
   simp [this]
 rw [hz]; exact hk
theorem Row.isSl (r:Row h s vs):isSl s:=by obtain ⟨base,cap,rfl,_⟩:=r; trivial
theorem Row.cap (r:Row h s vs):vs.length≤xGr s:=by obtain ⟨base,cap,rfl,hc,_⟩:=r; exact hc
theorem Row.cut (r:Row h s vs) {n:Nat} (hn:n≤vs.length):Row h (qJm s n) (vs.take n):=by
 obtain ⟨base,cap,rfl,hc,hb⟩:=r
 refine ⟨base,cap,by simp [qJm,Nat.min_eq_left hn],by simp; omega,?_⟩
 rcases hb with hb | ⟨a,rfl,g1,l,g2,g3,g4⟩
 ·exact .inl hb
 ·refine .inr ⟨a,rfl,g1,l,g2,g3,?_⟩
  rw [List.length_take,Nat.min_eq_left hn]
  conv=>rhs; rw [← g4]
  rw [List.take_take,Nat.min_eq_left hn]
theorem Buf.cut {h0:H} (r:Buf h0 h s vs) {n:Nat} (hn:n≤vs.length):Buf h0 h (qJm s n) (vs.take n):=by
 rcases r with ⟨⟨ba,rfl⟩,rfl⟩ | ⟨b,off,cap,l,h1,rfl,hb,h2,h3,h4⟩
 ·have:n=0:=by simpa using hn
  subst this
  exact .inl ⟨⟨_,rfl⟩,rfl⟩
 ·refine .inr ⟨b,off,cap,l,h1,by simp [qJm,Nat.min_eq_left hn],hb,by simp; omega,h3,?_⟩
  rw [List.length_take,Nat.min_eq_left hn]
  conv=>rhs; rw [← h4]
  rw [List.take_take,Nat.min_eq_left hn]
theorem Row.upto' (r:Row h s vs) {n:Int} (h0:0≤n) (h1:n≤vs.length) {k:Value→Prop} (hk:k (qJm s n.toNat)):qXy s none (some n) none 1 k :=
 xXh r.isSl h0 (by have:=r.cap; omega) hk
def Blk (s:Value):Option Nat:=match s with
 | .slice (some a) _ n=>if n=0 then none else some a.block
 | _=>none
def H.drop (h:H) (s:Value):H:=fun b=>if Blk s=some b then none else h b
def Sep (s t:Value):Prop:=Blk t=none∨Blk t≠Blk s
theorem Ext.drop (h:H) (s:Value):Ext (h.drop s) h:=fun b o hb=>by
 unfold H.drop at hb
 split at hb
 ·cases hb
 ·exact hb
theorem qZo {h:H} {s:Value} {b:Nat} (hb:Blk s≠some b):h.drop s b=h b:=by unfold H.drop; rw [if_neg hb]
theorem qOw {h:H} {s:Value} {b:Nat} (hb:Blk s=some b):h.drop s b=none:=by unfold H.drop; rw [if_pos hb]
theorem Row.drop (r:Row h s vs) {t:Value} (hs:Sep t s):Row (h.drop t) s vs:=by
 obtain ⟨base,cap,rfl,hc,hb⟩:=r
 refine ⟨base,cap,rfl,hc,?_⟩
 by_cases h0:cap=0
 ·exact .inl h0
 rcases hb with hb | ⟨a,rfl,g1,l,g2,g3,g4⟩
 ·exact .inl hb
 ·refine .inr ⟨a,rfl,g1,l,?_,g3,g4⟩
  rcases hs with hs | hs
  ·simp [Blk,h0] at hs
  ·rw [qZo (fun x=>hs (by rw [x]; simp [Blk,h0]))]; exact g2
theorem qZh {a:Option Addr} {n:Nat}:Blk (.slice a n 0)=none:=by cases a <;> rfl
theorem qXb {a:Addr} {n c:Nat} (hc:c≠0):Blk (.slice (some a) n c)=some a.block:=by simp [Blk,hc]
theorem xBt {h:H} {a:Option Addr} {n:Nat}:h.drop (.slice a n 0)=h:=by
 funext b; rw [qZo]; rw [qZh]; simp
theorem Buf.pos {h0:H} (r:Buf h0 h s vs):(∃ a,s=.slice a 0 0∧vs=[]) ∨
  ∃ b off cap l,cap≠0∧h0 b=none∧s=.slice (some ⟨b,off,none⟩) vs.length cap∧h b=some (.cells l)∧vs.length≤cap∧off+cap≤l.length∧(l.drop off).take vs.length=vs:=by
 rcases r with ⟨⟨a,h1⟩,h2⟩ | ⟨b,off,cap,l,h1,h2,h3,h4,h5⟩
 ·exact .inl ⟨a,h1,h2⟩
 ·by_cases hc:cap=0
  ·subst hc
   have:vs=[]:=List.length_eq_zero_iff.mp (by omega)
   subst this
   exact .inl ⟨_,h2,rfl⟩
  ·exact .inr ⟨b,off,cap,l,hc,h1,h2,h3,h4,h5⟩
theorem Buf.self {h0:H} (r:Buf h0 h s vs):Buf (h.drop s) h s vs:=by
 rcases r.pos with ⟨a,h1,h2⟩ | ⟨b,off,cap,l,hc,h1,rfl,h2⟩
 ·exact .inl ⟨⟨a,h1⟩,h2⟩
 ·exact .inr ⟨b,off,cap,l,qOw (qXb hc),rfl,h2⟩
theorem Buf.drop {h0:H} (r:Buf h0 h s vs) {t:Value} (hs:Sep t s):Buf h0 (h.drop t) s vs:=by
 rcases r.pos with ⟨a,h1,h2⟩ | ⟨b,off,cap,l,hc,h1,rfl,h2,h3⟩
 ·exact .inl ⟨⟨a,h1⟩,h2⟩
 ·refine .inr ⟨b,off,cap,l,h1,rfl,?_,h3⟩
  rcases hs with hs | hs
  ·rw [qXb hc] at hs; cases hs
  ·rw [qZo (fun x=>hs (by rw [x,qXb hc]))]; exact h2
theorem Ext.drop_of {h0:H} (e:Ext h0 h) (r:Buf h0 h' s vs):Ext h0 (h.drop s):=fun b o hb=>by
 rcases r.pos with ⟨a,rfl,_⟩ | ⟨c,off,cap,l,hc,h1,rfl,_⟩
 ·rw [xBt]; exact e b o hb
 ·rw [qZo (fun x=>by rw [qXb hc] at x; cases x; rw [h1] at hb; cases hb)]; exact e b o hb
theorem Row.known (r:Row h s vs) {b:Nat} (hb:Blk s=some b):h b≠none:=by
 obtain ⟨base,cap,rfl,hc,h1⟩:=r
 rcases h1 with rfl | ⟨a,rfl,g1,l,g2,g3,g4⟩
 ·rw [qZh] at hb; cases hb
 ·intro h0
  have:a.block=b:=by
   unfold Blk at hb
   simp only at hb
   split at hb
   ·cases hb
   ·exact Option.some.inj hb
  subst this
  rw [h0] at g2; simp [qZm] at g2
theorem Buf.sep {h0:H} {t:Value} {us:List Value} (r:Buf h0 h s vs) (q:Row h0 t us):Sep s t∧Sep t s:=by
 rcases r.pos with ⟨a,rfl,_⟩ | ⟨c,off,cap,l,hc,h1,rfl,_⟩
 ·refine ⟨?_,.inl qZh⟩
  cases hb:Blk t with
  | none=>exact .inl hb
  | some b=>exact .inr (by rw [hb,qZh]; simp)
 ·cases hb:Blk t with
  | none=>exact ⟨.inl hb,.inr (by rw [hb,qXb hc]; simp)⟩
  | some b =>
   have hne:b≠c:=fun x=>by
    have:=q.known hb
    rw [x] at this
    exact this h1
   exact ⟨.inr (by rw [hb,qXb hc]; simp [hne]),.inr (by rw [hb,qXb hc]; simp [Ne.symm hne])⟩
theorem xEw {s:Value} {n:Nat}:Blk (qJm s n)=Blk s:=by
 cases s <;> try rfl
 rename_i b _ _; cases b <;> rfl
theorem Buf.copy {h0:H} (r:Buf h0 h s vs) (e:Ext h0 h) {ws:List Value} (h1:ws.all one=true) (hw:ws.length≤vs.length) {n:Nat} (hn:n=ws.length) {k:Value→H→Prop}
  (hk:∀ h',Buf h0 h' s (ws++vs.drop ws.length)→Ext h0 h'→k (.int .i64 (ws.length:Nat)) h'):cpW h s n ws k:=by
 subst hn
 rcases r with ⟨⟨ba,rfl⟩,rfl⟩ | ⟨b,off,cap,l,g1,rfl,g2,g3,g4,g5⟩
 ·have:ws=[]:=List.length_eq_zero_iff.mp (by simpa using hw)
  subst this
  have:=hk h (.inl ⟨⟨ba,rfl⟩,rfl⟩) e
  cases ba with
  | none=>exact ⟨fun _=>by simpa using this,fun h=>absurd rfl h⟩
  | some a=>exact ⟨fun _=>by simpa using this,fun h=>absurd rfl h⟩
 ·refine ⟨fun h0=>?_,fun h0=>⟨h1,h.set b (.cells (splice l off ws)),?_,?_⟩⟩
  ·subst h0
   have:=hk h (by simpa using .inr ⟨b,off,cap,l,g1,rfl,g2,g3,g4,g5⟩) e
   simpa using this
  ·simp only [wr,g2]
   rw [if_pos (by omega)]
  ·rw [Nat.min_eq_left hw]
   refine hk _ (.inr ⟨b,off,cap,_,g1,by simp; omega,qQf,by simp; omega,by rw [qVo (by omega)]; omega,?_⟩) (e.set g1)
   apply List.ext_getElem?
   intro j
   rw [List.getElem?_take,List.getElem?_drop,getElem?_splice (by omega),List.getElem?_append,List.getElem?_drop,List.length_append,List.length_drop]
   have h5:=congrArg (·[j]?) g5
   simp only [List.getElem?_take,List.getElem?_drop] at h5
   by_cases hj:j<ws.length
   ·rw [if_pos (by omega),if_neg (by omega),if_pos (by omega),if_pos hj]
    congr 1; omega
   ·by_cases hj2:j<vs.length
    ·rw [if_pos hj2] at h5
     rw [if_pos (by omega),if_neg (by omega),if_neg (by omega),if_neg hj,h5]
     congr 1; omega
    ·rw [if_neg (by omega),if_neg hj,List.getElem?_eq_none (by omega)]
theorem Buf.apX {h0:H} (r:Buf h0 h s vs) {e:TypeId} {str:Bool} (hs:str=false∨∃ a n c,s=.slice (some a) n c) {bytes m:Nat} {z ws:List Value} {k:Value→H→Prop} (hk:apW h 1 bytes z s m ws k):apX str e h bytes z s m ws k:=by
 have ht:qMf str e h s=false:=by
  rcases r with ⟨⟨a,rfl⟩,rfl⟩ | ⟨b,off,cap,l,_,rfl,hb,h1,h2,h3⟩
  ·cases a with
   | none =>
    rcases hs with hs | ⟨a,n,c,hs⟩
    ·exact hs
    ·cases hs
   | some a =>
    show (match h a.block,0 with
     | some (.brow _ _),_+1=>true
     | _,_=>false)=false
    split
    ·rename_i h2; cases h2
    ·rfl
  ·unfold qMf
   simp only [hb]
 unfold Am.apX
 rw [ht]
 exact hk
def bts (s:ByteArray):List UInt8:=s.data.toList
theorem qQq (s:ByteArray):(bts s).length=s.size:=rfl
theorem xAy {a b:ByteArray} (h:bts a=bts b):a=b:=by
 cases a; cases b
 simp only [bts] at h
 congr 1
 exact Array.toList_inj.mp h
theorem get!_eq (s:ByteArray) (i:Nat) (hi:i<s.size):(bts s)[i]?=some (s.get! i):=by
 have hi':i<s.data.size:=hi
 unfold bts
 rw [Array.getElem?_toList,Array.getElem?_eq_getElem hi']
 cases s with
 | mk d=>simp [ByteArray.get!,getElem!_pos,show i<d.size from hi']
theorem qFc (s:ByteArray):∀ (d i:Nat) (r:List UInt8),i+d=s.size→ByteArray.toList.loop s i r=r.reverse++(bts s).drop i
 | 0,i,r,h=>by
  rw [ByteArray.toList.loop]
  rw [if_neg (by omega),List.drop_eq_nil_of_le (by rw [qQq]; omega),List.append_nil]
 | d+1,i,r,h=>by
  rw [ByteArray.toList.loop]
  rw [if_pos (by omega),qFc s d (i+1) _ (by omega)]
  have hi:=get!_eq s i (by omega)
  have hl:i<(bts s).length:=by rw [qQq]; omega
  have:(bts s).drop i=s.get! i::(bts s).drop (i+1):=by
   rw [List.drop_eq_getElem_cons hl]
   rw [List.getElem?_eq_getElem hl] at hi
   rw [Option.some.inj hi]
  rw [this]
  simp
theorem qQw (s:ByteArray):s.toList=bts s:=by
 have:=qFc s s.size 0 [] (by omega)
 simpa [ByteArray.toList] using this
theorem qXk {s:ByteArray} {n:Int} {k:Int→Prop} (h0:0≤n) (h1:n<s.size) (hk:∀ b:UInt8,(bts s)[n.toNat]?=some b→k (b.toNat:Int)):qZc s n k :=
 ⟨h0,h1,hk _ (get!_eq s _ (by omega))⟩
theorem qYg (s:ByteArray) (a b:Nat):bts (s.extract a b)=((bts s).take b).drop a:=by
 unfold bts
 rw [ByteArray.data_extract,Array.toList_extract]
 simp [List.extract,List.drop_take]
theorem qZb {s:ByteArray} {n:Int} {k:ByteArray→Prop} (h0:0≤n) (h1:n≤s.size) (hk:∀ t,bts t=(bts s).drop n.toNat→k t):qXm s (some n) none k:=by
 refine ⟨h0,?_,?_,hk _ ?_⟩
 ·simpa using h1
 ·simp
 ·rw [qYg]
  simp only [Option.getD_some,Option.getD_none,Int.toNat_natCast]
  rw [List.take_of_length_le (by rw [qQq]; omega)]
theorem qVh {s:ByteArray} {n:Int} {k:ByteArray→Prop} (h0:0≤n) (h1:n≤s.size) (hk:∀ t,bts t=(bts s).take n.toNat→k t):qXm s none (some n) k:=by
 refine ⟨by simp,by simpa using h0,by simpa using h1,hk _ ?_⟩
 rw [qYg]
 simp
theorem qIn (a b:ByteArray):bts (a++b)=bts a++bts b:=by
 unfold bts
 rw [ByteArray.data_append,Array.toList_append]
def U8 (l:List UInt8):List Value:=l.map fun b=>.int .u8 (b.toNat:Int)
theorem qXz (l:List UInt8):(U8 l).length=l.length:=by simp [U8]
theorem xDc (l:List UInt8):(U8 l).all one=true:=by
 simp only [U8,List.all_map,List.all_eq_true]
 intro x _; rfl
theorem xXq (l m:List UInt8):U8 l++U8 m=U8 (l++m):=by simp [U8]
theorem xAx (l:List UInt8):bts (xYt (l.map fun b=>(b.toNat:Int)))=l:=by
 unfold bts xYt
 rw [List.map_map]
 have:(fun n:Int=>UInt8.ofNat n.toNat) ∘ (fun b:UInt8=>(b.toNat:Int))=id:=by
  funext b
  simp
 rw [this]; simp
theorem qGq {h:H} {s:Value} {l:List UInt8} (r:Row h s (U8 l)) {k:ByteArray→Prop} (hk:∀ t,bts t=l→k t):bsW h s k:=by
 obtain ⟨base,cap,rfl,hc,hb⟩:=r
 rcases hb with rfl | ⟨a,rfl,g1,c,g2,g3,g4⟩
 ·have:l=[]:=by simpa [U8] using hc
  subst this
  cases base with
  | none=>exact hk _ rfl
  | some a=>exact ⟨[],by simp [rdR,U8],hk _ rfl⟩
 ·refine ⟨l.map fun b=>(b.toNat:Int),?_,hk _ (xAx l)⟩
  rw [qBe g1 g2 (by omega),g4]
  simp [U8,List.map_map]
variable {h h' h'':H} {s:Value} {sz:Nat} {vs:List (List Value)}
theorem qYu {sz:Nat}:∀ {vs:List (List Value)},(∀ v∈vs,v.length=sz)→vs.flatten.length=vs.length*sz
 | [],_=>by simp
 | v::vs,h=>by
  rw [List.flatten_cons,List.length_append,h v (by simp),qYu fun u hu=>h u (by simp [hu]),List.length_cons,Nat.succ_mul]; omega
theorem qKe {sz:Nat}:∀ {vs:List (List Value)} (i:Nat),(∀ v∈vs,v.length=sz)→vs.flatten.drop (i*sz)=(vs.drop i).flatten
 | vs,0,_=>by simp
 | [],i+1,_=>by simp
 | v::vs,i+1,h=>by
  rw [List.flatten_cons,List.drop_succ_cons,← qKe i fun u hu=>h u (by simp [hu]),Nat.succ_mul,Nat.add_comm,← List.drop_drop]
  congr 1
  rw [List.drop_append_of_le_length (by rw [h v (by simp)]; omega),List.drop_of_length_le (by rw [h v (by simp)]; omega)]; simp
theorem qKd {sz:Nat}:∀ {vs:List (List Value)} (i:Nat),(∀ v∈vs,v.length=sz)→vs.flatten.take (i*sz)=(vs.take i).flatten
 | vs,0,_=>by simp
 | [],i+1,_=>by simp
 | v::vs,i+1,h=>by
  rw [List.flatten_cons,List.take_succ_cons,List.flatten_cons,← qKd i fun u hu=>h u (by simp [hu]),Nat.succ_mul,Nat.add_comm]
  have hv:=h v (by simp)
  rw [List.take_append,hv,List.take_of_length_le (by omega)]
  congr 2; omega
theorem xUm {sz:Nat} {vs:List (List Value)} {i:Nat} (h:∀ v∈vs,v.length=sz) (hi:i<vs.length):(vs.flatten.drop (i*sz)).take sz=vs[i]:=by
 rw [qKe i h,List.drop_eq_getElem_cons hi,List.flatten_cons]
 have hv:=h vs[i] (List.getElem_mem hi)
 rw [List.take_append_of_le_length (by omega),List.take_of_length_le (by omega)]
def RowK (sz:Nat) (h:H) (s:Value) (vs:List (List Value)):Prop :=
 ∃ base cap,s=.slice base vs.length cap∧vs.length≤cap∧(∀ v∈vs,v.length=sz)∧(cap=0∨∃ a,base=some a ∧
  a.spot=none∧∃ l,qZm (h a.block)=some l∧a.off+cap*sz≤l.length∧(l.drop a.off).take (vs.length*sz)=vs.flatten)
theorem RowK.len (r:RowK sz h s vs) {k:Nat→Prop}:lenW s k↔k vs.length:=by
 obtain ⟨base,cap,rfl,_⟩:=r
 exact Iff.rfl
theorem RowK.slen (r:RowK sz h s vs) {k:Nat→Prop}:qXi s k↔k vs.length:=by
 obtain ⟨base,cap,rfl,_⟩:=r
 exact Iff.rfl
theorem RowK.each (r:RowK sz h s vs):∀ v∈vs,v.length=sz:=by obtain ⟨_,_,_,_,h,_⟩:=r; exact h
theorem RowK.ext (r:RowK sz h s vs) (e:Ext h h'):RowK sz h' s vs:=by
 obtain ⟨base,cap,rfl,hc,he,hb⟩:=r
 refine ⟨base,cap,rfl,hc,he,?_⟩
 rcases hb with hb | ⟨a,ha,h1,l,h2,h3,h4⟩
 ·exact .inl hb
 ·exact .inr ⟨a,ha,h1,l,qFn e h2,h3,h4⟩
theorem RowK.but (r:RowK sz h s vs) {c:Nat} (ho:Off c s) (e:ExtBut c h h'):RowK sz h' s vs:=by
 obtain ⟨base,cap,rfl,hc,he,hb⟩:=r
 refine ⟨base,cap,rfl,hc,he,?_⟩
 by_cases h0:cap=0
 ·exact .inl h0
 rcases hb with hb | ⟨a,rfl,h1,l,h2,h3,h4⟩
 ·exact .inl hb
 ·refine .inr ⟨a,rfl,h1,l,?_,h3,h4⟩
  cases hx:h a.block with
  | none=>rw [hx] at h2; simp [qZm] at h2
  | some o=>rw [hx] at h2; rw [e _ o (ho h0) hx]; exact h2
theorem RowK.off (r:RowK sz h s vs) {c:Nat} (hc:h c=none):Off c s:=by
 obtain ⟨base,cap,rfl,_,_,hb⟩:=r
 cases base with
 | none=>trivial
 | some a =>
  intro h0 hx
  rcases hb with hb | ⟨a,h5,h1,l,h2,h3,h4⟩
  ·exact h0 hb
  ·cases h5
   rw [hx,hc] at h2
   simp [qZm] at h2
theorem RowK.get (r:RowK sz h s vs) {i:Nat} (hi:i<vs.length) {k:Addr→Prop}
  (hk:∀ a,rdN h a sz=some vs[i]→(∀ j x,vs[i][j]?=some x→rd h (a.add j)=some x)→k a):qQm s (i:Int) sz k:=by
 obtain ⟨base,cap,rfl,hc,he,hb⟩:=r
 rcases hb with hb | ⟨a,rfl,h1,l,h2,h3,h4⟩
 ·omega
 ·have m1:i*sz+sz≤cap*sz:=by rw [← Nat.succ_mul]; exact Nat.mul_le_mul_right _ (by omega)
  have m2:i*sz+sz≤vs.length*sz:=by rw [← Nat.succ_mul]; exact Nat.mul_le_mul_right _ (by omega)
  obtain ⟨b,o,sp⟩:=a
  subst h1
  have e2:(⟨b,o,none⟩:Addr).add (Int.toNat (i:Int)*sz)=⟨b,o+i*sz,none⟩:=by simp [Addr.add]
  have e3:(l.drop (o+i*sz)).take sz=vs[i]:=by
   rw [← xUm he hi,← h4,List.drop_take,List.drop_drop,List.take_take,Nat.min_eq_left (by omega)]
  refine ⟨by omega,by omega,hk _ ?_ ?_⟩
  ·rw [e2]
   simp only [rdN,h2,Option.bind_some]
   have h3':o+cap*sz≤l.length:=h3
   rw [if_pos (by omega),e3]
  ·intro j x hx
   have hj:j<sz:=by
    have:=(List.getElem?_eq_some_iff.mp hx).1
    rw [he _ (List.getElem_mem hi)] at this; exact this
   rw [e2,qZg]
   simp only [rd,h2,Option.bind_some]
   rw [← e3,List.getElem?_take,if_pos hj,List.getElem?_drop] at hx
   exact hx
theorem RowK.at_ (r:RowK sz h s vs) {n:Int} (h0:0≤n) (h1:n<vs.length) {k:Addr→Prop}
  (hk:∀ a v,vs[n.toNat]?=some v→rdN h a sz=some v→(∀ j x,v[j]?=some x→rd h (a.add j)=some x)→k a):qQm s n sz k:=by
 obtain ⟨i,rfl⟩:=Int.eq_ofNat_of_zero_le h0
 have hi:i<vs.length:=by omega
 exact r.get hi fun a ha hj=>hk a vs[i] (by simp [hi]) ha hj
theorem RowK.src (r:RowK sz h s vs) {n:Nat} (hn:n≤vs.length) {k:List Value→Prop} (hk:k (vs.take n).flatten):srcW h sz s n k:=by
 obtain ⟨base,cap,rfl,hc,he,hb⟩:=r
 rcases hb with hb | ⟨a,rfl,g1,l,g2,g3,g4⟩
 ·have:vs=[]:=List.length_eq_zero_iff.mp (by omega)
  subst this
  have h0:n=0:=by simpa using hn
  subst h0
  cases base with
  | none=>simpa [srcW] using hk
  | some a=>exact ⟨[],by simp [rdR],by simpa using hk⟩
 ·refine ⟨(vs.take n).flatten,?_,hk⟩
  have m1:n*sz≤cap*sz:=Nat.mul_le_mul_right _ (by omega)
  have m2:n*sz≤vs.length*sz:=Nat.mul_le_mul_right _ hn
  rw [qBe g1 g2 (by omega),← qKd n he,← g4,List.take_take,Nat.min_eq_left m2]
theorem RowK.nil_ {a:Option Addr}:RowK sz h (.slice a 0 0) []:=⟨a,0,rfl,by simp,by simp,.inl rfl⟩
theorem RowK.isSl (r:RowK sz h s vs):isSl s:=by obtain ⟨base,cap,rfl,_⟩:=r; trivial
theorem RowK.cells {b n:Nat} {l:List Value} (hb:h b=some (.cells l)) (hn:vs.length=n) (he:∀ v∈vs,v.length=sz) (hl:l=vs.flatten):RowK sz h (.slice (some ⟨b,0,none⟩) n n) vs:=by
 subst hl
 refine ⟨some ⟨b,0,none⟩,n,by rw [hn],by omega,he,.inr ⟨_,rfl,rfl,vs.flatten,by rw [hb]; rfl,?_,?_⟩⟩
 ·show 0+n*sz≤_
  rw [qYu he,hn]; omega
 ·rw [List.drop_zero,← qYu he,List.take_length]
theorem RowK.cut (r:RowK sz h s vs) {lo hi:Option Int} {i j:Nat} (hi0:lo.getD 0=(i:Int)) (hj0:hi.getD (vs.length:Int)=(j:Int)) (hij:i≤j) (hj:j≤vs.length) {k:Value→Prop}
  (hk:∀ s',RowK sz h s' ((vs.take j).drop i)→(∀ c,Off c s→Off c s')→k s'):qXy s lo hi none sz k:=by
 obtain ⟨base,cap,rfl,hc,he,hb⟩:=r
 simp only [qXy,Option.getD_none,Option.isSome_none,Bool.false_eq_true,false_implies,true_and,hi0,hj0,Int.toNat_natCast]
 refine ⟨by omega,by omega,by omega,by omega,hk _ ⟨(if cap=i then base else base.map (·.add (i*sz))),cap - i,?_,?_,?_,?_⟩ ?_⟩
 ·have:((vs.take j).drop i).length=j - i:=by simp; omega
  rw [this]
 ·simp; omega
 ·intro v hv
  exact he v (List.mem_of_mem_take (List.mem_of_mem_drop hv))
 ·by_cases h0:cap - i=0
  ·exact .inl h0
  ·rcases hb with hb | ⟨a,rfl,g1,l,g2,g3,g4⟩
   ·omega
   ·refine .inr ⟨a.add (i*sz),?_,?_,l,?_,?_,?_⟩
    ·rw [if_neg (by omega)]; rfl
    ·obtain ⟨b,o,sp⟩:=a; subst g1; rw [qZg]
    ·obtain ⟨b,o,sp⟩:=a; subst g1; rw [qZg]; exact g2
    ·obtain ⟨b,o,sp⟩:=a; subst g1; rw [qZg]
     have:i*sz+(cap - i)*sz=cap*sz:=by rw [← Nat.add_mul]; congr 1; omega
     have g3':o+cap*sz≤l.length:=g3
     show o+i*sz+(cap - i)*sz≤l.length
     omega
    ·obtain ⟨b,o,sp⟩:=a; subst g1; rw [qZg]
     have hl:((vs.take j).drop i).length=j - i:=by simp; omega
     have g4':(l.drop o).take (vs.length*sz)=vs.flatten:=g4
     have m2:i*sz+(j - i)*sz≤vs.length*sz:=by rw [← Nat.add_mul]; exact Nat.mul_le_mul_right _ (by omega)
     have e1:((vs.take j).drop i).flatten=(vs.flatten.drop (i*sz)).take ((j - i)*sz):=by
      rw [qKe i he,qKd (j - i) fun v hv=>he v (List.mem_of_mem_drop hv),List.drop_take]
     rw [hl,e1,← g4',List.drop_take,List.drop_drop,List.take_take,Nat.min_eq_left (by omega)]
 ·intro c ho
  cases base with
  | none =>
   have:(if cap=i then none else (none:Option Addr).map (·.add (i*sz)))=none:=by split <;> rfl
   rw [this]; trivial
  | some a =>
   by_cases h0:cap=i
   ·rw [if_pos h0]
    intro hne
    exact absurd (show cap - i=0 by omega) hne
   ·rw [if_neg h0]
    intro hne hx
    refine ho (by omega) ?_
    have:(a.add (i*sz)).block=a.block:=by unfold Addr.add; split <;> rfl
    rw [← this]; exact hx
def BufK (sz:Nat) (h0 h:H) (s:Value) (vs:List (List Value)):Prop :=
 (∀ v∈vs,v.length=sz)∧(((∃ a,s=.slice a 0 0)∧vs=[]) ∨
 ∃ b off cap l,h0 b=none∧s=.slice (some ⟨b,off,none⟩) vs.length cap∧h b=some (.cells l)∧vs.length≤cap∧off+cap*sz≤l.length∧(l.drop off).take (vs.length*sz)=vs.flatten)
theorem BufK.row {h0:H} (r:BufK sz h0 h s vs):RowK sz h s vs:=by
 obtain ⟨he,⟨⟨a,rfl⟩,rfl⟩ | ⟨b,off,cap,l,_,rfl,hb,h1,h2,h3⟩⟩:=r
 ·exact RowK.nil_
 ·exact ⟨_,cap,rfl,h1,he,.inr ⟨_,rfl,rfl,l,by rw [hb]; rfl,h2,h3⟩⟩
theorem BufK.mono {h0 h1:H} (r:BufK sz h0 h s vs) (e:Ext h1 h0):BufK sz h1 h s vs:=by
 obtain ⟨he,h2 | ⟨b,off,cap,l,hb,h2⟩⟩:=r
 ·exact ⟨he,.inl h2⟩
 ·exact ⟨he,.inr ⟨b,off,cap,l,e.free hb,h2⟩⟩
theorem BufK.ext {h0:H} (r:BufK sz h0 h s vs) (e:Ext h h'):BufK sz h0 h' s vs:=by
 obtain ⟨he,h1 | ⟨b,off,cap,l,h1,h2,h3,h4⟩⟩:=r
 ·exact ⟨he,.inl h1⟩
 ·exact ⟨he,.inr ⟨b,off,cap,l,h1,h2,e _ _ h3,h4⟩⟩
theorem BufK.nil_ {h0:H} {a:Option Addr}:BufK sz h0 h (.slice a 0 0) []:=⟨by simp,.inl ⟨⟨a,rfl⟩,rfl⟩⟩
theorem BufK.cells {h0:H} {b n:Nat} {l:List Value} (h0b:h0 b=none) (hb:h b=some (.cells l)) (hn:vs.length=n) (he:∀ v∈vs,v.length=sz) (hl:l=vs.flatten):BufK sz h0 h (.slice (some ⟨b,0,none⟩) n n) vs:=by
 subst hl
 refine ⟨he,.inr ⟨b,0,n,vs.flatten,h0b,by rw [hn],hb,by omega,?_,?_⟩⟩
 ·rw [qYu he,hn]; omega
 ·rw [List.drop_zero,← qYu he,List.take_length]
theorem BufK.app {h0:H} (r:BufK sz h0 h s vs) (e:Ext h0 h) {bytes m:Nat} {z ws:List Value} {us:List (List Value)} (hz:z.length=sz) (h1:ws.all one=true) (hu:∀ v∈us,v.length=sz) (hws:ws=us.flatten) (hm:m=us.length)
  (hb:2*(vs.length+us.length)*bytes≤2 ^ 48) (hl:vs.length+us.length≤2 ^ 62) {k:Value→H→Prop}
  (hk:∀ s' h',BufK sz h0 h' s' (vs++us)→Ext h0 h'→k s' h'):apW h sz bytes z s m ws k:=by
 subst hws hm
 obtain ⟨he,r⟩:=r
 have hall:∀ v∈vs++us,v.length=sz:=fun v hv=>by
  rcases List.mem_append.mp hv with hv | hv
  ·exact he v hv
  ·exact hu v hv
 have hul:=qYu hu
 have hvl:=qYu he
 have grow:∀ (cap:Nat) base old,cap<vs.length+us.length→qBh h base (vs.length*sz)=some old→old=vs.flatten→Builtin.nextslicecap (vs.length+us.length) cap*bytes≤2 ^ 48∧((vs.length+us.length:Nat):Int)≤IntKind.i64.max ∧
   ∃ old,qBh h base (vs.length*sz)=some old∧∀ b c,h b=none→vs.length+us.length≤c→k (.slice (some ⟨b,0,none⟩) (vs.length+us.length) c) (h.set b (.cells (old++(us.flatten++(List.replicate (c - (vs.length+us.length)) z).flatten)))):=by
  intro cap base old hc ho hov
  subst hov
  refine ⟨Nat.le_trans (Nat.mul_le_mul_right _ (nextslicecap_le hc)) hb,?_,_,ho,fun b c hbn hcc=>hk _ _ ?_ ?_⟩
  ·have:IntKind.i64.max=9223372036854775807:=by decide
   rw [this]; omega
  ·have hlen:((List.replicate (c - (vs.length+us.length)) z).flatten).length=(c - (vs.length+us.length))*sz:=by
    rw [qYu (sz:=sz) (fun v hv=>by rw [List.eq_of_mem_replicate hv]; exact hz),List.length_replicate]
   have m1:vs.length*sz+us.length*sz+(c - (vs.length+us.length))*sz=c*sz:=by rw [← Nat.add_mul,← Nat.add_mul]; congr 1; omega
   refine ⟨hall,.inr ⟨b,0,c,_,e.free hbn,by simp,qQf,by simp; omega,?_,?_⟩⟩
   ·simp only [List.length_append,hlen,hul,hvl]; omega
   ·rw [List.drop_zero,← List.append_assoc,List.length_append,List.flatten_append,List.take_append_of_le_length (by rw [List.length_append,hul,hvl,Nat.add_mul]; omega),List.take_of_length_le (by rw [List.length_append,hul,hvl,Nat.add_mul]; omega)]
  ·exact e.trans (Ext.new hbn)
 rcases r with ⟨⟨ba,rfl⟩,rfl⟩ | ⟨b,off,cap,l,g1,rfl,g2,g3,g4,g5⟩
 ·refine ⟨fun hc=>?_,fun hc=>?_⟩
  ·have:us=[]:=List.length_eq_zero_iff.mp (by simpa using hc)
   subst this
   have:=hk _ _ ⟨hall,.inl ⟨⟨ba,rfl⟩,rfl⟩⟩ e
   cases ba with
   | none=>exact this
   | some a=>exact ⟨fun _=>this,fun hn=>absurd rfl hn⟩
  ·have:=grow 0 ba [] (by simpa using hc) (by cases ba <;> simp [qBh,rdR]) rfl
   simpa using this
 ·refine ⟨fun hc=>?_,fun hc=>?_⟩
  ·have m1:vs.length*sz+us.length*sz≤cap*sz:=by rw [← Nat.add_mul]; exact Nat.mul_le_mul_right _ hc
   refine ⟨fun hw=>?_,fun hw=>⟨h1,h.set b (.cells (splice l (off+vs.length*sz) us.flatten)),?_,?_⟩⟩
   ·have h0:us.length*sz=0:=by rw [← hul,hw]; rfl
    have hk':=hk (.slice (some ⟨b,off,none⟩) (vs.length+us.length) cap) h ⟨hall,.inr ⟨b,off,cap,l,g1,by simp,g2,by simpa using hc,g4,by
     rw [List.flatten_append,hw,List.append_nil,List.length_append,Nat.add_mul,h0,Nat.add_zero]; exact g5⟩⟩ e
    exact hk'
   ·rw [qZg]
    simp only [wr,g2]
    rw [if_pos (show off+vs.length*sz+us.flatten.length≤l.length by rw [hul]; omega)]
   ·refine hk _ _ ⟨hall,.inr ⟨b,off,cap,_,g1,by simp,qQf,by simpa using hc,by rw [qVo (by rw [hul]; omega)]; omega,?_⟩⟩ (e.set g1)
    apply List.ext_getElem?
    intro j
    rw [List.flatten_append,List.getElem?_take,List.getElem?_drop,getElem?_splice (by rw [hul]; omega),List.getElem?_append,List.length_append,hvl,hul,Nat.add_mul]
    have h5:=congrArg (·[j]?) g5
    simp only [List.getElem?_take,List.getElem?_drop] at h5
    by_cases hj:j<vs.length*sz
    ·simp only [hj,if_true] at h5 ⊢
     rw [if_pos (by omega),if_pos (by omega),h5]
    ·by_cases hj2:j<vs.length*sz+us.length*sz
     ·rw [if_pos hj2,if_neg (by omega),if_pos (by omega),if_neg hj]
      congr 1; omega
     ·rw [if_neg hj2,if_neg hj,List.getElem?_eq_none (by rw [hul]; omega)]
  ·have m1:vs.length*sz≤cap*sz:=Nat.mul_le_mul_right _ g3
   refine grow cap (some ⟨b,off,none⟩) vs.flatten hc ?_ rfl
   have:=qBe (h:=h) (a:=⟨b,off,none⟩) (n:=vs.length*sz) rfl (by show qZm (h b)=_; rw [g2]; rfl) (by show off+_≤_; omega)
   simp only [qBh,this,g5]
end Go.Proofs.YtkdneddcocggdaaGreatDoor.Am
namespace Go.Proofs.YtkdneddcocggdaaGreatDoor.Am
open Go Go.RowKit
variable {P:Program} {h:H} {W W':World}
theorem Rel.below (r:Rel h W) (b:Below W.heap.size W W'):Rel h W':=fun c o hc=>by
 rw [b.block c (r.lt hc)]; exact r c o hc
theorem qSu (b:Below W.heap.size W W'):Am.Frame h W h W' :=
 ⟨b.os,b.tape,b.output,b.size,fun c hc _=>b.block c hc,fun _ _ x=>x,fun _ _ x=>x⟩
theorem qKn {f:FuncId} {args:Array Value} {v:Value} {T:World→Prop} (h:Calls P f args W fun e w'=>e=.returned v∧T w'):f<P.funcs.size:=by
 obtain ⟨e,w',fr,⟨he,_⟩,_,hf,hl⟩:=h []
 subst he
 obtain ⟨_,_,_,fn,hfn,_⟩:=hl
 rw [hf] at hfn
 exact qLt hfn
theorem qWs {f:FuncId} {args:List Value} {k:Kv} {kp:Kp} {v:Value} (hc:∀ W,Rel h W→Calls P f args.toArray W fun e w'=>e=.returned v∧Below W.heap.size W w') (hk:k v h):CS P f args h k kp :=
 fun W R r hv hp=>⟨fun _=>(hc W r).mono fun e w' ⟨he,hb⟩=>by
  subst he
  exact hv v h w' hk (r.below hb) (qSu hb),fun hf=>absurd (qKn (hc W r)) (Nat.not_lt.mpr hf)⟩
theorem xFs (r:Rel h W) (b:Below W.heap.size W W') {c:Nat} {l:List Value} (hc:W.heap.size≤c) (hm:qAo W'.heap[c]? (.cells l)):Rel (h.set c (.cells l)) W'∧Am.Frame h W (h.set c (.cells l)) W':=by
 refine ⟨fun d o hd=>?_,b.os,b.tape,b.output,b.size,fun d hd _=>b.block d hd,fun d hd hn=>?_,fun d l' hl=>?_⟩
 ·unfold H.set at hd
  split at hd
  ·rename_i e; subst e; cases hd; exact hm
  ·exact r.below b d o hd
 ·unfold H.set; rw [if_neg (by omega)]; exact hn
 ·unfold H.set; rw [if_neg (by have:=r.lt hl; omega)]; exact hl
end Go.Proofs.YtkdneddcocggdaaGreatDoor.Am
