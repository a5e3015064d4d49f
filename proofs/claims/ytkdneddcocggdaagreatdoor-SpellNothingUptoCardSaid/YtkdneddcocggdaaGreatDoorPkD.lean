/-
  Packed: What is known of memory, laid out in parts that do not meet. Parts of memory: rows of one's own whose elements take several cells. Names, numbers and terms as bytes: plain. Giving up and catching; names at the front of a text; a symbol's code. Builders of texts: what they hold, by the library's own text. Contracts of Go's library, as readings of calls.
-/
import Derived.Test.YtkdneddcocggdaaGreatDoorPkC
import GoSem.Core.Utf8
import Derived.Lib.ItoaNum
import Derived.Test.YtkdneddcocggdaaGreatDoorPkS
import Derived.Test.YtkdneddcocggdaaGreatDoorSpLay
import Derived.Shelf.RegionOpenPlain
import Derived.Lib.FieldsP
import Derived.Lib.AppendIntMem
set_option linter.unusedVariables false
set_option linter.unusedSimpArgs false
set_option linter.unnecessarySimpa false
namespace Go.Proofs.YtkdneddcocggdaaGreatDoor.Am
open Go
structure Res where
 foot:Nat→Prop
 ok:H→Prop
 loc:∀ h h',(∀ b,foot b→h' b=h b)→ok h→ok h'
structure Hp (h0 h:H) (L:List Res):Prop where
 ext:Ext h0 h
 ok:∀ r∈L,r.ok h
 new:∀ r∈L,∀ b,r.foot b→h0 b=none∧h b≠none
 dis:L.Pairwise fun r q=>∀ b,r.foot b→¬ q.foot b
theorem Hp.nil_ (h:H):Hp h h []:=⟨Ext.refl h,by simp,by simp,.nil⟩
theorem Hp.get {h0 h:H} {L:List Res} (o:Hp h0 h L) {i:Nat} {r:Res} (hi:L[i]?=some r):r.ok h:=o.ok r (List.mem_of_getElem? hi)
theorem Hp.ne {h0 h:H} {L:List Res} (o:Hp h0 h L) {i j:Nat} {r q:Res} (hi:L[i]?=some r) (hj:L[j]?=some q) (hij:i≠j) {b:Nat} (hb:r.foot b):¬ q.foot b:=by
 obtain ⟨h1,rfl⟩:=List.getElem?_eq_some_iff.mp hi
 obtain ⟨h2,rfl⟩:=List.getElem?_eq_some_iff.mp hj
 have hd:=List.pairwise_iff_getElem.mp o.dis
 rcases Nat.lt_or_gt_of_ne hij with h3 | h3
 ·exact hd i j h1 h2 h3 b hb
 ·exact fun hq=>hd j i h2 h1 h3 b hq hb
theorem Hp.upd {h0 h h':H} {L:List Res} (o:Hp h0 h L) {i:Nat} {r r':Res} (hi:L[i]?=some r) (hk:∀ b,h b≠none→¬ r.foot b→h' b=h b) (ho:r'.ok h') (hf:∀ b,r'.foot b→(r.foot b∨h b=none)∧h' b≠none):Hp h0 h' (L.set i r'):=by
 obtain ⟨hl,hr⟩:=List.getElem?_eq_some_iff.mp hi
 have hd:=List.pairwise_iff_getElem.mp o.dis
 have oth:∀ j q,L[j]?=some q→j≠i→∀ b,q.foot b→h' b=h b:=fun j q hj hji b hb =>
  hk b (o.new q (List.mem_of_getElem? hj) b hb).2 (o.ne hj hi hji hb)
 refine ⟨fun b u hb=>?_,fun q hq=>?_,fun q hq b hb=>?_,?_⟩
 ·have:=o.ext b u hb
  rw [hk b (by rw [this]; simp) (fun hf=>by rw [(o.new r (List.mem_of_getElem? hi) b hf).1] at hb; cases hb)]
  exact this
 ·obtain ⟨j,hj⟩:=List.getElem?_of_mem hq
  rw [List.getElem?_set] at hj
  split at hj
  ·cases hj; exact ho
  ·rename_i hij
   exact q.loc h h' (oth j q hj (Ne.symm hij)) (o.get hj)
 ·obtain ⟨j,hj⟩:=List.getElem?_of_mem hq
  rw [List.getElem?_set] at hj
  split at hj
  ·cases hj
   obtain ⟨h1,h2⟩:=hf b hb
   refine ⟨?_,h2⟩
   rcases h1 with h1 | h1
   ·exact (o.new r (List.mem_of_getElem? hi) b h1).1
   ·exact o.ext.free h1
  ·rename_i hij
   have hn:=o.new q (List.mem_of_getElem? hj) b hb
   exact ⟨hn.1,by rw [oth j q hj (Ne.symm hij) b hb]; exact hn.2⟩
 ·rw [List.pairwise_iff_getElem]
  intro a c ha hc hac b
  rw [List.length_set] at ha hc
  rw [List.getElem_set,List.getElem_set]
  have away:∀ j (hj:j<L.length),j≠i→L[j].foot b→¬ r'.foot b:=fun j hj hji hb hb'=>by
   rcases (hf b hb').1 with h1 | h1
   ·exact o.ne (List.getElem?_eq_getElem hj) hi hji hb h1
   ·exact (o.new _ (List.getElem_mem hj) b hb).2 h1
  split
  ·rename_i e; subst e
   rw [if_neg (by omega)]
   exact fun h1 h2=>away c hc (by omega) h2 h1
  ·split
   ·rename_i e; subst e
    exact away a ha (by omega)
   ·exact hd a c ha hc hac b
theorem Hp.add {h0 h h':H} {L:List Res} (o:Hp h0 h L) {r:Res} (hk:∀ b,h b≠none→h' b=h b) (ho:r.ok h') (hf:∀ b,r.foot b→h b=none∧h' b≠none):Hp h0 h' (r::L):=by
 refine ⟨fun b u hb=>?_,fun q hq=>?_,fun q hq b hb=>?_,?_⟩
 ·have:=o.ext b u hb
  rw [hk b (by rw [this]; simp)]; exact this
 ·rcases List.mem_cons.mp hq with rfl | hq
  ·exact ho
  ·exact q.loc h h' (fun b hb=>hk b (o.new q hq b hb).2) (o.ok q hq)
 ·rcases List.mem_cons.mp hq with rfl | hq
  ·exact ⟨o.ext.free (hf b hb).1,(hf b hb).2⟩
  ·have hn:=o.new q hq b hb
   exact ⟨hn.1,by rw [hk b hn.2]; exact hn.2⟩
 ·rw [List.pairwise_cons]
  exact ⟨fun q hq b hb hq'=>(o.new q hq b hq').2 (hf b hb).1,o.dis⟩
theorem Ext.keeps {h h':H} (e:Ext h h'):∀ b,h b≠none→h' b=h b:=fun b hb=>by
 cases hx:h b with
 | none=>exact absurd hx hb
 | some o=>exact e b o hx
theorem Hp.later {h0 h h':H} {L:List Res} (o:Hp h0 h L) (e:Ext h h'):Hp h0 h' L :=
 ⟨o.ext.trans e,fun q hq=>q.loc h h' (fun b hb=>e.keeps b (o.new q hq b hb).2) (o.ok q hq),fun q hq b hb=>⟨(o.new q hq b hb).1,by rw [e.keeps b (o.new q hq b hb).2]; exact (o.new q hq b hb).2⟩,o.dis⟩
theorem Hp.base {h0 h1 h:H} {L:List Res} (o:Hp h0 h L) (e:Ext h1 h0):Hp h1 h L:=⟨e.trans o.ext,o.ok,fun q hq b hb=>⟨e.free (o.new q hq b hb).1,(o.new q hq b hb).2⟩,o.dis⟩
theorem Hp.perm {h0 h:H} {L L':List Res} (o:Hp h0 h L) (p:L'.Perm L):Hp h0 h L' :=
 ⟨o.ext,fun q hq=>o.ok q (p.mem_iff.mp hq),fun q hq=>o.new q (p.mem_iff.mp hq),(p.pairwise_iff fun {x y} hxy b hy hx=>hxy b hx hy).mpr o.dis⟩
theorem Hp.sub {h0 h:H} {L L':List Res} (o:Hp h0 h L) (p:L'.Sublist L):Hp h0 h L' :=
 ⟨o.ext,fun q hq=>o.ok q (p.subset hq),fun q hq=>o.new q (p.subset hq),o.dis.sublist p⟩
theorem Hp.tail {h0 h:H} {r:Res} {L:List Res} (o:Hp h0 h (r::L)):Hp h0 h L:=o.sub (List.sublist_cons_self r L)
theorem Hp.join {h0 h h':H} {L L':List Res} (o:Hp h0 h L) (o':Hp h h' L'):Hp h0 h' (L'++L):=by
 have o2:=o.later o'.ext
 refine ⟨o2.ext,fun q hq=>?_,fun q hq b hb=>?_,?_⟩
 ·rcases List.mem_append.mp hq with hq | hq
  ·exact o'.ok q hq
  ·exact o2.ok q hq
 ·rcases List.mem_append.mp hq with hq | hq
  ·exact ⟨o.ext.free (o'.new q hq b hb).1,(o'.new q hq b hb).2⟩
  ·exact o2.new q hq b hb
 ·rw [List.pairwise_append]
  exact ⟨o'.dis,o.dis,fun q hq r hr b hb hb'=>(o.new r hr b hb').2 (o'.new q hq b hb).1⟩
def qQn (b:Nat) (l:List Value):Res:=⟨fun c=>c=b,fun h=>h b=some (.cells l),fun h h' e o=>by rw [e b rfl]; exact o⟩
def noH:H:=fun _=>none
theorem qLh (h:H):Ext noH h:=fun b o hb=>by cases hb
def bufR (s:Value) (vs:List Value):Res:=⟨fun c=>Blk s=some c,fun h=>Buf noH h s vs,fun h h' e o=>by
 rcases o.pos with ⟨a,h1,h2⟩ | ⟨b,off,cap,l,hc,h1,rfl,h2,h3⟩
 ·exact .inl ⟨⟨a,h1⟩,h2⟩
 ·exact .inr ⟨b,off,cap,l,h1,rfl,(e b (qXb hc)).trans h2,h3⟩⟩
theorem qGp {s:Value} {vs:List Value} {b:Nat}:(bufR s vs).foot b↔Blk s=some b:=Iff.rfl
variable {h0 h h':H} {L:List Res} {i j b:Nat} {l vs ws:List Value} {s v z:Value}
theorem Hp.cell (o:Hp h0 h L) (hi:L[i]?=some (qQn b l)):h b=some (.cells l):=o.get hi
theorem Hp.buf (o:Hp h0 h L) (hi:L[i]?=some (bufR s vs)):Buf noH h s vs:=o.get hi
theorem Hp.row (o:Hp h0 h L) (hi:L[i]?=some (bufR s vs)):Row h s vs:=(o.buf hi).row
theorem qVi (hb:h b=some (.cells l)) (hj:l[j]?=some v):rd h (Addr.add ⟨b,0,none⟩ j)=some v:=by
 rw [qZg,Nat.zero_add]
 simp only [rd,hb,qZm,Option.bind_some]
 exact hj
theorem qWl (hb:h b=some (.cells l)) (hj:l[0]?=some v):rd h ⟨b,0,none⟩=some v:=by
 simp only [rd,hb,qZm,Option.bind_some]
 exact hj
theorem Hp.set_cell (o:Hp h0 h L) (hi:L[i]?=some (qQn b l)) (l':List Value):Hp h0 (h.set b (.cells l')) (L.set i (qQn b l')) :=
 o.upd hi (fun c _ hc=>qXg hc) qQf fun c hc=>⟨.inl hc,by
  have hc:c=b:=hc
  subst hc; rw [qQf]; simp⟩
theorem Hp.wr (o:Hp h0 h L) (hi:L[i]?=some (qQn b l)) (hj:j<l.length) {K:H→Prop} (hK:∀ h',Hp h0 h' (L.set i (qQn b (l.set j v)))→K h'):∃ h',wr1 h (Addr.add ⟨b,0,none⟩ j) v=some h'∧K h':=by
 refine ⟨_,?_,hK _ (o.set_cell hi _)⟩
 rw [qZg,Nat.zero_add]
 simp only [wr1,o.cell hi]
 rw [if_pos hj]
theorem Hp.wr0 (o:Hp h0 h L) (hi:L[i]?=some (qQn b l)) (hj:0<l.length) {K:H→Prop} (hK:∀ h',Hp h0 h' (L.set i (qQn b (l.set 0 v)))→K h'):∃ h',wr1 h ⟨b,0,none⟩ v=some h'∧K h':=by
 refine ⟨_,?_,hK _ (o.set_cell hi _)⟩
 simp only [wr1,o.cell hi]
 rw [if_pos hj]
theorem Hp.newc (o:Hp h0 h L) (hb:h b=none) (l:List Value):Hp h0 (h.set b (.cells l)) (qQn b l::L) :=
 o.add (Ext.new hb).keeps qQf fun c hc=>by
  have hc:c=b:=hc
  subst hc
  exact ⟨hb,by rw [qQf]; simp⟩
theorem Buf.blk' {h0 h:H} {s:Value} {vs:List Value} (r:Buf h0 h s vs) {d:Nat} (hd:Blk s=some d):h0 d=none:=by
 rcases r.pos with ⟨a,rfl,_⟩ | ⟨b,off,cap,l,hc,h1,rfl,_⟩
 ·rw [qZh] at hd; cases hd
 ·rw [qXb hc] at hd; cases hd; exact h1
theorem Hp.of_buf {h':H} {s':Value} {vs':List Value} (o:Hp h0 h L) (hi:L[i]?=some (bufR s vs)) (r:Buf (h.drop s) h' s' vs') (e:Ext (h.drop s) h'):Hp h0 h' (L.set i (bufR s' vs')):=by
 refine o.upd hi (fun c hc hn=>?_) (r.mono (qLh _)) fun c hc=>⟨?_,r.row.known hc⟩
 ·have:=e.keeps c (by rw [qZo hn]; exact hc)
  rw [this,qZo hn]
 ·by_cases hx:Blk s=some c
  ·exact .inl hx
  ·right
   rcases r.pos with ⟨a,rfl,_⟩ | ⟨b,off,cap,l,hcap,h1,rfl,_⟩
   ·rw [qGp,qZh] at hc; cases hc
   ·rw [qGp,qXb hcap] at hc; cases hc
    rw [qZo hx] at h1; exact h1
theorem Hp.put (o:Hp h0 h L) (hi:L[i]?=some (bufR s vs)) (hj:j<vs.length) {T:Prop} (hT:T) {K:H→Prop} (hv:one v=true) (hK:∀ h',Hp h0 h' (L.set i (bufR s (vs.set j v)))→K h') :
  qQm s (j:Int) 1 fun ad=>one v=true∧T∧∃ h',wr1 h ad v=some h'∧K h' :=
 (o.buf hi).self.put hj (v:=v) fun a h' hw hx hbuf=>⟨hv,hT,h',hw,hK h' (o.of_buf hi hbuf (hx _ (Ext.drop h s) fun b hb=>hb))⟩
theorem xXk {n m bytes:Nat} (h1:n+m≤2 ^ 40) (h2:bytes≤64):2*(n+m)*bytes≤2 ^ 48:=by
 have h3:2*(n+m)≤2199023255552:=by omega
 calc 2*(n+m)*bytes≤2199023255552*64:=Nat.mul_le_mul h3 h2
  _≤2 ^ 48:=by decide
theorem Hp.app (o:Hp h0 h L) (hi:L[i]?=some (bufR s vs)) {bytes:Nat} (h1:ws.all one=true) (hb:bytes≤64) (hl:vs.length+ws.length≤2 ^ 40) {K:Value→H→Prop}
  (hK:∀ s' h',Hp h0 h' (L.set i (bufR s' (vs++ws)))→K s' h'):apW h 1 bytes [z] s ws.length ws K :=
 (o.buf hi).self.app (Ext.drop h s) rfl h1 (xXk hl hb) (by omega) fun s' h' r e=>hK s' h' (o.of_buf hi r e)
theorem Hp.push (o:Hp h0 h L) (hi:L[i]?=some (bufR s vs)) {bytes:Nat} (hb:bytes≤64) (hl:vs.length<2 ^ 40) (hv:one v=true) {O U:Prop} (hO:O) (hU:U) {K:Value→H→Prop}
  (hK:∀ s' h',Hp h0 h' (L.set i (bufR s' (vs++[v])))→K s' h') :
  O∧U∧qQz h 1 [v] (fun s31 h32=>qXi s31 (fun n33=>srcW h32 1 s31 (n33) (fun w34=>apW h32 1 bytes [z] s (n33) w34 (fun s35 h36=>K s35 h36)))):=by
 refine ⟨hO,hU,fun b hb'=>?_⟩
 have hrow:Row (h.set b (.cells [v])) (.slice (some ⟨b,0,none⟩) 1 1) [v]:=Row.cells qQf rfl
 show qXi (.slice (some ⟨b,0,none⟩) 1 1) _
 rw [qVu]
 refine hrow.src (by simp) ?_
 exact (o.later (Ext.new hb')).app hi (by simp [hv]) hb (by simp; omega) hK
theorem Hp.cutTo (o:Hp h0 h L) (hi:L[i]?=some (bufR s vs)) {n:Nat} (hn:n≤vs.length):Hp h0 h (L.set i (bufR (qJm s n) (vs.take n))) :=
 o.of_buf hi (by
  have:=(o.buf hi).self.cut hn
  exact this) (Ext.drop h s)
theorem Hp.upto (o:Hp h0 h L) (hi:L[i]?=some (bufR s vs)) {n:Int} (hn0:0≤n) (hn:n≤vs.length) {K:Value→Prop} (hK:Hp h0 h (L.set i (bufR (Am.qJm s n.toNat) (vs.take n.toNat)))→K (Am.qJm s n.toNat)):qXy s none (some n) none 1 K :=
 (o.row hi).upto' hn0 hn (hK (o.cutTo hi (by omega)))
theorem xGs {n:Nat} (hn:vs.length=n) (hb:h b=some (.cells vs)):Buf noH h (.slice (some ⟨b,0,none⟩) n n) vs:=Buf.cells rfl hb hn
theorem Hp.cell_buf (o:Hp h0 h L) (hi:L[i]?=some (qQn b l)) {n:Nat} (hn:l.length=n):Hp h0 h (L.set i (bufR (.slice (some ⟨b,0,none⟩) n n) l)) :=
 o.upd hi (fun _ _ _=>rfl) (xGs hn (o.cell hi)) fun c hc=>by
  have hc:Blk (.slice (some ⟨b,0,none⟩) n n)=some c:=hc
  by_cases h0:n=0
  ·subst h0; rw [qZh] at hc; cases hc
  ·rw [qXb h0] at hc
   cases hc
   exact ⟨.inl rfl,by rw [o.cell hi]; simp⟩
theorem Hp.add_nil (o:Hp h0 h L) {a:Option Addr}:Hp h0 h (bufR (.slice a 0 0) []::L) :=
 o.add (fun _ _=>rfl) (.inl ⟨⟨a,rfl⟩,rfl⟩) fun c hc=>by rw [qGp,qZh] at hc; cases hc
abbrev Pt (b:Nat):Value:=.pointer (some ⟨b,0,none⟩)
theorem ld0 (hb:h b=some (.cells l)) (hj:l[0]?=some v) {K:Value→Prop} (hK:K v):ptrW (Pt b) fun ad=>∃ v,rd h ad=some v∧K v:=⟨v,qWl hb hj,hK⟩
theorem ldI (hb:h b=some (.cells l)) {x:Int} (hj:l[0]?=some (.int .i64 x)) {K:Int→Prop} (hK:K x):ptrW (Pt b) fun ad=>∃ x:Int,rd h ad=some (.int .i64 x)∧K x:=⟨x,qWl hb hj,hK⟩
theorem ldj (hb:h b=some (.cells l)) (hj:l[j]?=some v) {K:Value→Prop} (hK:K v):ptrW (Pt b) fun ad=>∃ v,rd h (Addr.add ad j)=some v∧K v:=⟨v,qVi hb hj,hK⟩
theorem ldjI (hb:h b=some (.cells l)) {x:Int} (hj:l[j]?=some (.int .i64 x)) {K:Int→Prop} (hK:K x):ptrW (Pt b) fun ad=>∃ x:Int,rd h (Addr.add ad j)=some (.int .i64 x)∧K x:=⟨x,qVi hb hj,hK⟩
theorem Hp.st0 (o:Hp h0 h L) (hi:L[i]?=some (qQn b l)) (hj:0<l.length) (hv:one v=true) {T:Prop} (hT:T) {K:H→Prop} (hK:∀ h',Hp h0 h' (L.set i (qQn b (l.set 0 v)))→K h') :
  ptrW (Pt b) fun ad=>one v=true∧T∧∃ h',wr1 h ad v=some h'∧K h':=⟨hv,hT,o.wr0 hi hj hK⟩
theorem Hp.stj (o:Hp h0 h L) (hi:L[i]?=some (qQn b l)) (hj:j<l.length) (hv:one v=true) {T:Prop} (hT:T) {K:H→Prop} (hK:∀ h',Hp h0 h' (L.set i (qQn b (l.set j v)))→K h') :
  ptrW (Pt b) fun ad=>one v=true∧T∧∃ h',wr1 h (Addr.add ad j) v=some h'∧K h':=⟨hv,hT,o.wr hi hj hK⟩
theorem Hp.new_ (o:Hp h0 h L) {K:Value→H→Prop} (hK:∀ b h',h b=none→Hp h0 h' (qQn b l::L)→K (Pt b) h'):newW h l K:=fun b hb=>hK b _ hb (o.newc hb l)
theorem qGh {v:Value}:∀ n:Nat,(List.replicate n [v]).flatten=List.replicate n v
 | 0=>rfl
 | n+1=>by rw [List.replicate_succ,List.flatten_cons,qGh n,List.replicate_succ]; rfl
theorem Hp.add_buf {h':H} (o:Hp h0 h L) (e:Ext h h') (r:Buf h h' s vs):Hp h0 h' (bufR s vs::L) :=
 o.add e.keeps (r.mono (qLh _)) fun c hc=>⟨r.blk' hc,r.row.known hc⟩
theorem Row.part (r:Row h s vs) {lo hi:Option Int} {i j:Nat} (hi0:lo.getD 0=(i:Int)) (hj0:hi.getD (vs.length:Int)=(j:Int)) (hij:i≤j) (hj:j≤vs.length) {k:Value→Prop}
  (hk:∀ s',Row h s' ((vs.take j).drop i)→(∀ c,Off c s→Off c s')→k s'):qXy s lo hi none 1 k:=by
 obtain ⟨base,cap,rfl,hc,hb⟩:=r
 simp only [qXy,Option.getD_none,Option.isSome_none,Bool.false_eq_true,false_implies,true_and,hi0,hj0,Int.toNat_natCast]
 have hl:((vs.take j).drop i).length=j - i:=by simp; omega
 refine ⟨by omega,by omega,by omega,by omega,hk _ ⟨(if cap=i then base else base.map (·.add (i*1))),cap - i,by rw [hl],by rw [hl]; omega,?_⟩ ?_⟩
 ·by_cases h0:cap - i=0
  ·exact .inl h0
  ·rcases hb with hb | ⟨a,rfl,g1,l,g2,g3,g4⟩
   ·omega
   ·obtain ⟨b,o,sp⟩:=a
    subst g1
    have g3':o+cap≤l.length:=g3
    have g4':(l.drop o).take vs.length=vs:=g4
    refine .inr ⟨(⟨b,o,none⟩:Addr).add (i*1),?_,?_,l,?_,?_,?_⟩
    ·rw [if_neg (by omega)]; rfl
    ·rw [qZg]
    ·rw [qZg]; exact g2
    ·rw [qZg]
     show o+i*1+(cap - i)≤l.length
     omega
    ·rw [qZg,hl]
     show (l.drop (o+i*1)).take (j - i)=_
     conv=>rhs; rw [← g4']
     rw [List.take_take,Nat.min_eq_left hj,List.drop_take,List.drop_drop,Nat.mul_one]
 ·intro c ho
  cases base with
  | none =>
   have:(if cap=i then none else (none:Option Addr).map (·.add (i*1)))=none:=by split <;> rfl
   rw [this]; trivial
  | some a =>
   by_cases h0:cap=i
   ·rw [if_pos h0]
    intro hne
    exact absurd (show cap - i=0 by omega) hne
   ·rw [if_neg h0]
    intro hne hx
    refine ho (by omega) ?_
    have:(a.add (i*1)).block=a.block:=by unfold Addr.add; split <;> rfl
    rw [← this]; exact hx
theorem Hp.apart {r q:Res} {l1 l2 l3:List Res} (o:Hp h0 h (l1++r::(l2++q::l3))) {b:Nat} (hb:r.foot b):¬ q.foot b:=by
 have:=o.ne (i:=l1.length) (j:=l1.length+1+l2.length) (r:=r) (q:=q) (by simp) (by
  rw [List.getElem?_append_right (by omega),show l1.length+1+l2.length - l1.length=l2.length+1 by omega]
  simp) (by omega) hb
 exact this
variable {h0 h h':H} {L:List Res} {i j sz:Nat} {s v z:Value} {vs us:List (List Value)} {l w:List Value}
theorem BufK.pos (r:BufK sz h0 h s vs):(∀ v∈vs,v.length=sz)∧((∃ a,s=.slice a 0 0∧vs=[]) ∨
  ∃ b off cap l,cap≠0∧h0 b=none∧s=.slice (some ⟨b,off,none⟩) vs.length cap∧h b=some (.cells l)∧vs.length≤cap∧off+cap*sz≤l.length∧(l.drop off).take (vs.length*sz)=vs.flatten):=by
 obtain ⟨he,⟨⟨a,h1⟩,h2⟩ | ⟨b,off,cap,l,h1,h2,h3,h4,h5⟩⟩:=r
 ·exact ⟨he,.inl ⟨a,h1,h2⟩⟩
 ·by_cases hc:cap=0
  ·subst hc
   have:vs=[]:=List.length_eq_zero_iff.mp (by omega)
   subst this
   exact ⟨he,.inl ⟨_,h2,rfl⟩⟩
  ·exact ⟨he,.inr ⟨b,off,cap,l,hc,h1,h2,h3,h4,h5⟩⟩
theorem BufK.self (r:BufK sz h0 h s vs):BufK sz (h.drop s) h s vs:=by
 obtain ⟨he,⟨a,h1,h2⟩ | ⟨b,off,cap,l,hc,h1,rfl,h2⟩⟩:=r.pos
 ·exact ⟨he,.inl ⟨⟨a,h1⟩,h2⟩⟩
 ·exact ⟨he,.inr ⟨b,off,cap,l,qOw (qXb hc),rfl,h2⟩⟩
theorem RowK.known (r:RowK sz h s vs) {b:Nat} (hb:Blk s=some b):h b≠none:=by
 obtain ⟨base,cap,rfl,hc,he,h1⟩:=r
 rcases h1 with rfl | ⟨a,rfl,g1,l,g2,g3,g4⟩
 ·rw [qZh] at hb; cases hb
 ·intro h0
  have:a.block=b:=by
   unfold Blk at hb
   simp only at hb
   split at hb
   ·cases hb
   ·exact Option.some.inj hb
  subst this
  rw [h0] at g2; simp [qZm] at g2
theorem BufK.blk' (r:BufK sz h0 h s vs) {d:Nat} (hd:Blk s=some d):h0 d=none:=by
 obtain ⟨_,⟨a,rfl,_⟩ | ⟨b,off,cap,l,hc,h1,rfl,_⟩⟩:=r.pos
 ·rw [qZh] at hd; cases hd
 ·rw [qXb hc] at hd; cases hd; exact h1
def bufK (sz:Nat) (s:Value) (vs:List (List Value)):Res:=⟨fun c=>Blk s=some c,fun h=>BufK sz noH h s vs,fun h h' e o=>by
 obtain ⟨he,⟨a,h1,h2⟩ | ⟨b,off,cap,l,hc,h1,rfl,h2,h3⟩⟩:=BufK.pos o
 ·exact ⟨he,.inl ⟨⟨a,h1⟩,h2⟩⟩
 ·exact ⟨he,.inr ⟨b,off,cap,l,h1,rfl,(e b (qXb hc)).trans h2,h3⟩⟩⟩
theorem Hp.bufK_ (o:Hp h0 h L) (hi:L[i]?=some (bufK sz s vs)):BufK sz noH h s vs:=o.get hi
theorem Hp.rowK (o:Hp h0 h L) (hi:L[i]?=some (bufK sz s vs)):RowK sz h s vs:=(o.bufK_ hi).row
theorem Hp.of_bufK {s':Value} {vs':List (List Value)} (o:Hp h0 h L) (hi:L[i]?=some (bufK sz s vs)) (r:BufK sz (h.drop s) h' s' vs') (e:Ext (h.drop s) h'):Hp h0 h' (L.set i (bufK sz s' vs')):=by
 refine o.upd hi (fun c hc hn=>?_) (r.mono (qLh _)) fun c hc=>⟨?_,r.row.known hc⟩
 ·have:=e.keeps c (by rw [qZo hn]; exact hc)
  rw [this,qZo hn]
 ·by_cases hx:Blk s=some c
  ·exact .inl hx
  ·right
   obtain ⟨_,⟨a,rfl,_⟩ | ⟨b,off,cap,l,hcap,h1,rfl,_⟩⟩:=r.pos
   ·have hc:Blk (.slice a 0 0)=some c:=hc
    rw [qZh] at hc; cases hc
   ·have hc:Blk (.slice (some ⟨b,off,none⟩) vs'.length cap)=some c:=hc
    rw [qXb hcap] at hc; cases hc
    rw [qZo hx] at h1; exact h1
theorem Hp.appK (o:Hp h0 h L) (hi:L[i]?=some (bufK sz s vs)) {bytes m:Nat} {z ws:List Value} (hz:z.length=sz) (h1:ws.all one=true) (hu:∀ v∈us,v.length=sz) (hws:ws=us.flatten) (hm:m=us.length) (hb:bytes≤64) (hl:vs.length+us.length≤2 ^ 40) {K:Value→H→Prop}
  (hK:∀ s' h',Hp h0 h' (L.set i (bufK sz s' (vs++us)))→K s' h'):apW h sz bytes z s m ws K :=
 (o.bufK_ hi).self.app (Ext.drop h s) hz h1 hu hws hm (xXk hl hb) (by omega) fun s' h' r e=>hK s' h' (o.of_bufK hi r e)
theorem Hp.pushK (o:Hp h0 h L) (hi:L[i]?=some (bufK sz s vs)) {bytes:Nat} {z:List Value} (hz:z.length=sz) (hw:w.length=sz) (hb:bytes≤64) (hl:vs.length<2 ^ 40) (hv:w.all one=true) {K:Value→H→Prop}
  (hK:∀ s' h',Hp h0 h' (L.set i (bufK sz s' (vs++[w])))→K s' h') :
  qQz h 1 w (fun s31 h32=>qXi s31 (fun n33=>srcW h32 sz s31 (n33) (fun w34=>apW h32 sz bytes z s (n33) w34 (fun s35 h36=>K s35 h36)))):=by
 intro b hb'
 have hrow:RowK sz (h.set b (.cells w)) (.slice (some ⟨b,0,none⟩) 1 1) [w]:=RowK.cells qQf rfl (by simpa using hw) (by simp)
 show qXi (.slice (some ⟨b,0,none⟩) 1 1) _
 rw [qVu]
 refine hrow.src (by simp) ?_
 have e:([w].take 1).flatten=w:=by simp
 rw [e]
 exact (o.later (Ext.new hb')).appK hi (us:=[w]) hz hv (by simpa using hw) (by simp) rfl hb (by simp; omega) hK
theorem Hp.add_nilK (o:Hp h0 h L) {a:Option Addr}:Hp h0 h (bufK sz (.slice a 0 0) []::L) :=
 o.add (fun _ _=>rfl) ⟨by simp,.inl ⟨⟨a,rfl⟩,rfl⟩⟩ fun c hc=>by
  have hc:Blk (.slice a 0 0)=some c:=hc
  rw [qZh] at hc; cases hc
theorem ldx {b:Nat} (hb:h b=some (.cells l)) {x:ByteArray} (hj:l[j]?=some (.string x)) {K:ByteArray→Prop} (hK:K x):ptrW (Pt b) fun ad=>∃ x:ByteArray,rd h (Addr.add ad j)=some (.string x)∧K x:=⟨x,qVi hb hj,hK⟩
theorem BufK.of_new {h1:H} (r:BufK sz h0 h s vs) (hn:∀ d,Blk s=some d→h1 d=none):BufK sz h1 h s vs:=by
 obtain ⟨he,⟨a,h1,h2⟩ | ⟨b,off,cap,l,hc,h1,rfl,h2⟩⟩:=r.pos
 ·exact ⟨he,.inl ⟨⟨a,h1⟩,h2⟩⟩
 ·exact ⟨he,.inr ⟨b,off,cap,l,hn _ (qXb hc),rfl,h2⟩⟩
theorem Buf.of_new {h1:H} {vs:List Value} (r:Buf h0 h s vs) (hn:∀ d,Blk s=some d→h1 d=none):Buf h1 h s vs:=by
 rcases r.pos with ⟨a,h1,h2⟩ | ⟨b,off,cap,l,hc,h1,rfl,h2⟩
 ·exact .inl ⟨⟨a,h1⟩,h2⟩
 ·exact .inr ⟨b,off,cap,l,hn _ (qXb hc),rfl,h2⟩
theorem Hp.newSlN (o:Hp h0 h L) {n:Nat} {ws:List Value} (hn:ws.length=n) {K:Value→H→Prop} (hK:∀ s h',Hp h0 h' (bufR s ws::L)→K s h'):qQz h n ws K:=fun b hb =>
 hK _ _ ((o.newc hb ws).cell_buf (i:=0) rfl hn)
theorem BufK.put (r:BufK sz h0 h s vs) (e:Ext h0 h) (hj:j<vs.length) (hw:w.length=sz) {k:Addr→Prop}
  (hk:∀ a h',wr h a w=some h'→BufK sz h0 h' s (vs.set j w)→Ext h0 h'→k a):qQm s (j:Int) sz k:=by
 obtain ⟨he,⟨a,rfl,rfl⟩ | ⟨b,off,cap,l,hc,h1,rfl,g2,g3,g4,g5⟩⟩:=r.pos
 ·simp at hj
 ·have m1:j*sz+sz≤vs.length*sz:=by rw [← Nat.succ_mul]; exact Nat.mul_le_mul_right _ (by omega)
  have m2:vs.length*sz≤cap*sz:=Nat.mul_le_mul_right _ g3
  have e2:(⟨b,off,none⟩:Addr).add (Int.toNat (j:Int)*sz)=⟨b,off+j*sz,none⟩:=by simp [Addr.add]
  refine ⟨by omega,by omega,?_⟩
  rw [e2]
  refine hk _ (h.set b (.cells (splice l (off+j*sz) w))) ?_ ⟨?_,.inr ⟨b,off,cap,_,h1,by simp,qQf,by simpa using g3,?_,?_⟩⟩ (e.set h1)
  ·simp only [wr,g2]
   rw [if_pos (show off+j*sz+w.length≤l.length by omega)]
  ·intro v hv
   rcases List.mem_or_eq_of_mem_set hv with hv | hv
   ·exact he v hv
   ·rw [hv]; exact hw
  ·rw [qVo (by omega)]; exact g4
  ·have hset:vs.set j w=vs.take j++w::vs.drop (j+1):=List.set_eq_take_append_cons_drop.trans (by rw [if_pos hj])
   have hA:(vs.take j).flatten=(l.drop off).take (j*sz):=by rw [← qKd j he,← g5,List.take_take,Nat.min_eq_left (by omega)]
   have hB:(vs.drop (j+1)).flatten=(l.drop (off+(j+1)*sz)).take (vs.length*sz - (j+1)*sz):=by rw [← qKe (j+1) he,← g5,List.drop_take,List.drop_drop]
   have hl:(vs.set j w).length=vs.length:=by simp
   rw [hl,hset,List.flatten_append,List.flatten_cons,hA,hB]
   apply List.ext_getElem?
   intro m
   have m3:(j+1)*sz=j*sz+sz:=Nat.succ_mul j sz
   simp only [List.getElem?_take,List.getElem?_drop,getElem?_splice (show off+j*sz+w.length≤l.length by omega),List.getElem?_append,List.length_take,List.length_drop]
   have hmin:min (j*sz) (l.length - off)=j*sz:=by omega
   rw [hmin]
   by_cases q1:m<j*sz
   ·rw [if_pos (by omega),if_pos (by omega),if_pos q1,if_pos q1]
   ·rw [if_neg q1]
    by_cases q2:m<j*sz+sz
    ·rw [if_pos (by omega),if_neg (by omega),if_pos (by omega),if_pos (by omega)]
     congr 1; omega
    ·rw [if_neg (show ¬ m - j*sz<w.length by omega)]
     by_cases q3:m<vs.length*sz
     ·rw [if_pos q3,if_neg (by omega),if_neg (by omega),if_pos (by omega)]
      congr 1; omega
     ·rw [if_neg q3,if_neg (by omega)]
end Go.Proofs.YtkdneddcocggdaaGreatDoor.Am
namespace Go.Proofs.Sp
open Go Go.Lib
theorem qIl {s:ByteArray} {p:Nat} (h:(s.get! p).toNat<128):Utf8.decode s p=((s.get! p).toNat,1):=by
 unfold Utf8.decode
 simp only [Nat.add_zero]
 rw [if_pos h]
theorem qGm {s:ByteArray} {p:Nat} (h:¬ (s.get! p).toNat<128):128≤(Utf8.decode s p).1∧1≤(Utf8.decode s p).2∧∀ j,1≤j→j<(Utf8.decode s p).2→p+j<s.size∧128≤(s.get! (p+j)).toNat:=by
 unfold Utf8.decode
 simp only [Nat.add_zero]
 rw [if_neg h]
 have hc:∀ k,(decide (p+k<s.size) && (s.get! (p+k)).toNat / 64==2)=true→p+k<s.size∧128≤(s.get! (p+k)).toNat:=fun k hk=>by
  simp only [Bool.and_eq_true,decide_eq_true_eq,beq_iff_eq] at hk
  exact ⟨hk.1,by omega⟩
 have one:∀ r,128≤r→128≤((r,1):Nat × Nat).1∧1≤((r,1):Nat × Nat).2∧∀ j,1≤j→j<((r,1):Nat × Nat).2→p+j<s.size∧128≤(s.get! (p+j)).toNat :=
  fun r hr=>⟨hr,Nat.le_refl _,fun j h1 h2=>by dsimp only at h2; omega⟩
 have err:(128:Nat)≤Utf8.runeError:=by decide
 split
 ·rename_i h1
  simp only [Bool.and_eq_true] at h1
  have c1:=hc 1 (by simpa using h1.2)
  split
  ·refine ⟨by dsimp only; omega,by dsimp only; omega,fun j g1 g2=>?_⟩
   dsimp only at g2
   obtain rfl:j=1:=by omega
   exact c1
  ·exact one _ err
 ·split
  ·rename_i h1
   simp only [Bool.and_eq_true] at h1
   have c1:=hc 1 (by simpa using h1.1.2)
   have c2:=hc 2 (by simpa using h1.2)
   split
   ·rename_i h2
    simp only [Bool.and_eq_true,decide_eq_true_eq] at h2
    refine ⟨by dsimp only; omega,by dsimp only; omega,fun j g1 g2=>?_⟩
    dsimp only at g2
    rcases (by omega:j=1∨j=2) with rfl | rfl
    ·exact c1
    ·exact c2
   ·exact one _ err
  ·split
   ·rename_i h1
    simp only [Bool.and_eq_true] at h1
    have c1:=hc 1 (by simpa using h1.1.1.2)
    have c2:=hc 2 (by simpa using h1.1.2)
    have c3:=hc 3 (by simpa using h1.2)
    split
    ·rename_i h2
     simp only [Bool.and_eq_true,decide_eq_true_eq] at h2
     refine ⟨by dsimp only; omega,by dsimp only; omega,fun j g1 g2=>?_⟩
     dsimp only at g2
     rcases (by omega:j=1∨j=2∨j=3) with rfl | rfl | rfl
     ·exact c1
     ·exact c2
     ·exact c3
    ·exact one _ err
   ·exact one _ err
abbrev Bs:=List UInt8
def qZj (b:UInt8):Bool:=(97≤b.toNat && b.toNat≤122) || (65≤b.toNat && b.toNat≤90) || 128≤b.toNat
def qYh (b:UInt8):Bool:=qZj b || (48≤b.toNat && b.toNat≤57) || b.toNat==95 || b.toNat==39
def qCz:Bs→Nat
 | []=>0
 | b::r=>if qZj b then 1+(r.takeWhile qYh).length else 0
def qPo (l:Bs):Nat:=if 0<qCz l∧l[qCz l]?=some 35 then qCz l+1 else qCz l
theorem qEe {b:UInt8} (h:qZj b=true):qYh b=true:=by unfold qYh; rw [h]; rfl
theorem qPm {α:Type} (p:α→Bool):∀ l:List α,(l.takeWhile p).length≤l.length
 | []=>by simp
 | a::l=>by
  rw [List.takeWhile_cons]
  split
  ·simp only [List.length_cons]; have:=qPm p l; omega
  ·simp
theorem xXl:∀ l:Bs,qCz l≤l.length
 | []=>by simp [qCz]
 | b::r=>by
  show (if qZj b then 1+(r.takeWhile qYh).length else 0)≤_
  split
  ·have:=qPm qYh r; simp only [List.length_cons]; omega
  ·simp
theorem qOq (l:Bs):qPo l≤l.length:=by
 unfold qPo
 split
 ·rename_i h
  obtain ⟨h1,_⟩:=List.getElem?_eq_some_iff.mp h.2
  omega
 ·exact xXl l
theorem qMc {l:Bs} {e:Nat} (he:e≤l.length) (h0:0<e→∃ b,l[0]?=some b∧qZj b=true) (h1:∀ j,j<e→∃ b,l[j]?=some b∧qYh b=true)
  (h2:∀ b,l[e]?=some b→(e=0→qZj b=false)∧(0<e→qYh b=false)):qCz l=e:=by
 cases l with
 | nil=>simp at he; subst he; rfl
 | cons b r =>
  show (if qZj b then 1+(r.takeWhile qYh).length else 0)=e
  rcases Nat.eq_zero_or_pos e with rfl | hp
  ·have:=(h2 b rfl).1 rfl
   rw [this]; rfl
  ·obtain ⟨c,hc,hl⟩:=h0 hp
   obtain rfl:b=c:=by simpa using hc
   rw [if_pos hl]
   obtain ⟨m,rfl⟩:∃ m,e=1+m:=⟨e - 1,by omega⟩
   congr 1
   have key:∀ (r:Bs) (m:Nat),m≤r.length→(∀ j,j<m→∃ b,r[j]?=some b∧qYh b=true)→(∀ b,r[m]?=some b→qYh b=false)→(r.takeWhile qYh).length=m:=by
    intro r
    induction r with
    | nil=>intro m hm _ _; simp at hm; subst hm; rfl
    | cons x r ih =>
     intro m hm ha hb
     cases m with
     | zero=>rw [List.takeWhile_cons,hb x rfl]; rfl
     | succ m =>
      obtain ⟨y,hy,hy2⟩:=ha 0 (by omega)
      obtain rfl:x=y:=by simpa using hy
      rw [List.takeWhile_cons,hy2]
      simp only [if_true,List.length_cons]
      rw [ih m (by simp only [List.length_cons] at hm; omega) (fun j hj=>by simpa using ha (j+1) (by omega)) (fun b hb'=>hb b (by simpa using hb'))]
   refine key r m (by simp only [List.length_cons] at he; omega) (fun j hj=>?_) (fun x hx=>?_)
   ·have:=h1 (1+j) (by omega)
    rwa [Nat.add_comm,List.getElem?_cons_succ] at this
   ·have:=(h2 x (by rw [Nat.add_comm,List.getElem?_cons_succ]; exact hx)).2 (by omega)
    exact this
def qXu (b:UInt8):Bool:=48≤b.toNat && b.toNat≤57
def valF (a:Nat) (l:Bs):Nat:=l.foldl (fun a b=>10*a+(b.toNat - 48)) a
def valD (l:Bs):Nat:=valF 0 l
def numV (l:Bs):Option Nat:=if l=decDigits (valD l) then some (valD l) else none
def numT (l:Bs) (top:Nat):Option Nat:=match numV l with
 | some n=>if n≤top then some n else none
 | none=>none
theorem xPd {l:Bs} {n:Nat} (h:numV l=some n):l=decDigits n:=by
 unfold numV at h
 split at h
 ·rename_i h1
  obtain rfl:=Option.some.inj h
  exact h1
 ·cases h
theorem qYa {l:Bs} {top n:Nat} (h:numT l top=some n):l=decDigits n∧n≤top:=by
 unfold numT at h
 split at h
 ·rename_i m hm
  split at h
  ·obtain rfl:=Option.some.inj h
   exact ⟨xPd hm,by assumption⟩
  ·cases h
 ·cases h
theorem qDd (a:Nat) (l m:Bs):valF a (l++m)=valF (valF a l) m:=by unfold valF; rw [List.foldl_append]
theorem qUe (d:Nat) (h:d<10):(UInt8.ofNat (48+d)).toNat=48+d:=by
 rw [UInt8.toNat_ofNat']
 omega
theorem qRo:∀ n:Nat,valD (decDigits n)=n:=by
 intro n
 induction n using Nat.strongRecOn with
 | _ n ih =>
  rw [decDigits]
  split
  ·rename_i h
   unfold valD valF
   simp only [List.foldl_cons,List.foldl_nil]
   rw [qUe n h]; omega
  ·rename_i h
   unfold valD at ih ⊢
   rw [qDd,ih (n / 10) (by omega)]
   unfold valF
   simp only [List.foldl_cons,List.foldl_nil]
   rw [qUe _ (Nat.mod_lt _ (by decide))]
   omega
theorem xKx (n:Nat):numV (decDigits n)=some n:=by
 unfold numV
 rw [qRo,if_pos rfl]
theorem xKy {n top:Nat} (h:n≤top):numT (decDigits n) top=some n:=by
 unfold numT
 rw [xKx]
 exact if_pos h
theorem qIm:∀ n:Nat,∀ b∈decDigits n,qXu b=true:=by
 intro n
 induction n using Nat.strongRecOn with
 | _ n ih =>
  intro b hb
  rw [decDigits] at hb
  split at hb
  ·rename_i h
   simp only [List.mem_singleton] at hb
   subst hb
   unfold qXu
   rw [qUe n h]
   simp; omega
  ·rename_i h
   rcases List.mem_append.mp hb with hb | hb
   ·exact ih (n / 10) (by omega) b hb
   ·simp only [List.mem_singleton] at hb
    subst hb
    unfold qXu
    rw [qUe _ (Nat.mod_lt _ (by decide))]
    have:=Nat.mod_lt n (show 0<10 by decide)
    simp; omega
theorem xAc (n:Nat):decDigits n≠[]:=by
 rw [decDigits]
 split <;> simp
def symI (sig:List Bs) (nm:Bs):Option Nat:=sig.findIdx? (·==nm)
def qPq (g:Bs→Except Int (List Int × Bs)):Nat→Bool→Bs→Except Int (List Int × Bs)
 | 0,true,s=>.ok ([],s)
 | 0,false,s=>if s.head?=some 41 then .ok ([],s.drop 1) else .error 224
 | n+1,b,s=>if s.head?=some (if b then 40 else 44) then (match g (s.drop 1) with
  | .error e=>.error e
  | .ok (l,r)=>match qPq g n false r with
   | .error e=>.error e
   | .ok (m,r)=>.ok (l++m,r)) else .error 224
def qAw (sig:Sys.Sg):Nat→Bs→Except Int (List Int × Bs)
 | 0,_=>.error 224
 | f+1,s=>if s.head?=some 95 then (match numT ((s.drop 1).takeWhile qXu) 1048575 with
   | some n=>.ok ([-1 - (n:Int)],(s.drop 1).dropWhile qXu)
   | none=>.error 225)
  else match symI (sig.map (·.1)) (s.take (qPo s)) with
   | none=>.error 223
   | some c=>match qPq (qAw sig f) (Sys.kids sig c) true (s.drop (qPo s)) with
    | .ok (l,r)=>.ok ((c:Int)::l,r)
    | .error e=>.error e
def qWj (sig:Sys.Sg) (s:Bs):Except Int (List Int):=match qAw sig (s.length+1) s with
 | .error e=>.error e
 | .ok (l,r)=>if r=[] then .ok l else .error 224
end Go.Proofs.Sp
namespace Go.Proofs.YtkdneddcocggdaaGreatDoor.Am
open Go Go.Proofs Sys Go.Lib
set_option maxRecDepth 100000
variable {D:Orc} {E:Dorc} {h h0:H} {k:Kv} {kp:Kp}
def chain (e:Int):List PanicEntry:=[PanicEntry.mk (.iface 112 (.agg #[.int .i64 e])) false false]
theorem qQl (c:Cl28 D) {t:Bool} {e:Int} (h1:t=true→k (.tuple #[]) h) (h2:t=false→kp (chain e) h):D 28 [.bool t,.int .i64 e] h k kp:=by
 refine c _ _ _ _ _ ?_
 unfold F28
 rw [qQc,qQa]
 cases t with
 | true=>exact h1 rfl
 | false=>exact ⟨rfl,by decide,h2 rfl⟩
def asOk (P:Program) (t:TypeId):Bool:=match P.underlying t,qAp P t with
 | some (.interface _),_=>false
 | some _,some _=>true
 | _,_=>false
theorem xWm {P:Program} {t:TypeId} {v:Value} {K:Value→Prop} (ho:asOk P t=true) (hk:K (.tuple #[v,.bool true])):qUk P (.iface t v) t true K:=by
 unfold asOk at ho
 unfold qUk
 split at ho
 ·cases ho
 ·rename_i d z hn h1 h2
  rw [h1,h2]
  split
  ·rename_i h3; exact absurd (Option.some.inj h3) (fun e=>hn _ e)
  ·exact ⟨fun _=>hk,fun h=>absurd rfl h⟩
  ·rename_i h3; cases h3
 ·cases ho
theorem qTa {c:Bool} {u:TypeId} {v:Value} {K:Bool→Prop}:eqIf c (.iface u v) .nilIface K=K false:=rfl
theorem qBw (c:Cl26 D) {p:Value} (hk:k (.tuple #[]) h):D 26 [.nilIface,p] h k kp:=by
 refine c _ _ _ _ _ ?_
 unfold F26
 exact ⟨rfl,hk⟩
theorem qEi (c:Cl26 D) {b:Nat} {x e:Int} (hb:h b=some (.cells [.int .i64 x])) (hk:∀ h',h' b=some (.cells [.int .i64 e])→(∀ d,d≠b→h d≠none→h' d=h d)→k (.tuple #[]) h') :
  D 26 [.iface 112 (.agg #[.int .i64 e]),Pt b] h k kp:=by
 refine c _ _ _ _ _ ?_
 unfold F26
 rw [qTa,cond_false]
 refine xWm (by kernel_rfl) ?_
 rw [show (#[Value.agg #[Value.int .i64 e],Value.bool true]:Array Value)=[Value.agg #[Value.int .i64 e],Value.bool true].toArray from rfl,ex0,ex1]
 intro q hq
 rw [qQe]
 refine ⟨rfl,rfl,?_⟩
 have hqb:q≠b:=fun e=>by rw [e,hb] at hq; cases hq
 refine ⟨(h.set q (.cells [.int .i64 0])).set q (.cells [.int .i64 e]),?_,?_⟩
 ·unfold wr
  rw [qQf]
  rfl
 ·rw [qQc]
  show cond (!true) _ _
  unfold j26__4
  rw [qQe]
  refine ⟨e,?_,rfl,?_⟩
  ·exact qVi qQf rfl
  ·rw [qQe]
   refine ⟨rfl,rfl,((h.set q (.cells [.int .i64 0])).set q (.cells [.int .i64 e])).set b (.cells [.int .i64 e]),?_,hk _ qQf fun d hd hn=>?_⟩
   ·unfold wr1
    have:((h.set q (.cells [.int .i64 0])).set q (.cells [.int .i64 e])) b=some (.cells [.int .i64 x]):=by
     rw [qXg (Ne.symm hqb),qXg (Ne.symm hqb)]; exact hb
    simp only [this]
    rfl
   ·have hdq:d≠q:=fun e=>hn (by rw [e]; exact hq)
    rw [qXg hd,qXg hdq,qXg hdq]
def clo (g b:Nat):Deferred:=Deferred.mk (Target.fn (Fn.func g) #[Pt b]) (#[]++[].toArray)
def qWi (E:Dorc) (g:Nat):Prop:=(∀ b h (k:FrameMode→H→Prop) kp,k .returning h→E g [Pt b] .returning h k kp) ∧
 ∀ b x e h (k:FrameMode→H→Prop) kp,h b=some (.cells [.int .i64 x])→(∀ h',h' b=some (.cells [.int .i64 e])→(∀ d,d≠b→h d≠none→h' d=h d)→k (.panicking [PanicEntry.mk (.iface 112 (.agg #[.int .i64 e])) true false]) h') →
  E g [Pt b] (.panicking (chain e)) h k kp
theorem xIi (c:Cl25 D E) (cc:Cl26 D):qWi E 25:=by
 refine ⟨fun b h k kp hk=>c _ _ _ _ _ ?_,fun b x e h k kp hb hk=>c _ _ _ _ _ ?_⟩
 ·unfold F25
  exact qBw cc ⟨rfl,hk⟩
 ·unfold F25
  exact qEi cc hb fun h' h1 h2=>⟨rfl,hk h' h1 h2⟩
theorem xHv (c:Cl52 D E) (cc:Cl26 D):qWi E 52:=by
 refine ⟨fun b h k kp hk=>c _ _ _ _ _ ?_,fun b x e h k kp hb hk=>c _ _ _ _ _ ?_⟩
 ·unfold F52
  exact qBw cc ⟨rfl,hk⟩
 ·unfold F52
  exact qEi cc hb fun h' h1 h2=>⟨rfl,hk h' h1 h2⟩
theorem qDn {g:Nat} (hb:qZr Tryz.prog g=true) (s:qWi E g) {fin:H→Prop} {finp:List PanicEntry→H→Prop} {b:Nat} (hk:fin h):qQu Tryz.prog E fin finp [clo g b] .returning h :=
 ⟨hb,s.1 b h _ _ hk⟩
theorem qOl {g:Nat} (hb:qZr Tryz.prog g=true) (s:qWi E g) {fin:H→Prop} {finp:List PanicEntry→H→Prop} {b:Nat} {x e:Int} (hc:h b=some (.cells [.int .i64 x]))
  (hk:∀ h',h' b=some (.cells [.int .i64 e])→(∀ d,d≠b→h d≠none→h' d=h d)→fin h'):qQu Tryz.prog E fin finp [clo g b] (.panicking (chain e)) h :=
 ⟨hb,s.2 b x e h _ _ hc hk⟩
theorem qRs (c:Cl111 D) (c2:Cl135 D) {s p:ByteArray} (hs:s.size<2 ^ 62) (hp:p.size<2 ^ 62) (hk:k (.bool ((bts p).isPrefixOf (bts s))) h):D 111 [.string s,.string p] h k kp:=by
 refine c _ _ _ _ _ ?_
 unfold F111
 refine c2 _ _ _ _ _ ?_
 unfold F135
 simp only [qQb,qQd]
 refine ⟨fun h1=>?_,fun h1=>⟨_,rfl,?_⟩⟩
 ·refine qVh (by omega) (by omega) fun t ht=>⟨_,rfl,?_⟩
  have:(t.toList==p.toList)=(bts p).isPrefixOf (bts s):=by
   rw [qQw,qQw,ht,Int.toNat_natCast,Bool.eq_iff_iff,beq_iff_eq,List.isPrefixOf_iff_prefix,← qQq p]
   constructor
   ·intro e; rw [← e]; exact List.take_prefix _ _
   ·rintro ⟨u,hu⟩; rw [← hu]; simp
  rw [this]; exact hk
 ·have:(bts p).isPrefixOf (bts s)=false:=by
   rw [← Bool.not_eq_true,List.isPrefixOf_iff_prefix]
   intro hpre
   have:=hpre.length_le
   rw [qQq,qQq] at this
   omega
  rw [this] at hk; exact hk
theorem xDw (c:Cl140 D):qZx letter D 140:=by
 intro r h k kp hk
 refine c _ _ _ _ ?_
 unfold F140
 have hl:letter r=((97≤r && r≤122) || (65≤r && r≤90) || 128≤r):=rfl
 have d128:decide ((r:Int)≥128)=decide (128≤r):=by congr 1; exact propext (by omega)
 simp only [qQa,qQx,qQd,d128]
 refine ⟨fun h1=>⟨fun h2=>?_,fun h2=>⟨fun h3=>⟨fun h4=>?_,fun h4=>?_⟩,fun h3=>?_⟩⟩,fun h1=>⟨fun h3=>⟨fun h4=>?_,fun h4=>?_⟩,fun h3=>?_⟩⟩ <;> (rw [hl] at hk; revert hk; first | (rw [show ((97≤r && r≤122) || (65≤r && r≤90) || 128≤r:Bool)=true by simp; omega]; exact id) | (rw [show ((97≤r && r≤122) || (65≤r && r≤90) || 128≤r:Bool)=decide (128≤r) by rw [Bool.eq_iff_iff]; simp; omega]; exact id))
theorem xDv (c:Cl141 D) (t:qZx letter D 140):qZx more D 141:=by
 intro r h k kp hk
 refine c _ _ _ _ ?_
 unfold F141
 rw [qQa]
 refine t _ _ _ _ ⟨_,rfl,?_⟩
 cases hl:letter r with
 | true =>
  show k (.bool true) h
  have:more r=true:=by unfold more; rw [hl]; simp
  rw [this] at hk; exact hk
 | false =>
  show cond true _ _
  rw [cond_true]
  exact qOj hl (Φ:=fun x=>k (.bool x) h) hk
end Go.Proofs.YtkdneddcocggdaaGreatDoor.Am
namespace Go.Proofs
open Go.Shelf Go.RowKit
theorem Tryz.bldX:Builder.Extra Tryz.prog Tryz.laysJoin_ren:={
 sizeBuilder:=by kernel_rfl
 liesBuilder:=by kernel_rfl
 t5:=Tryz.underlying5
 a5:=Tryz.isAgg5
 z5:=Tryz.sizeOf5
 v5:=Tryz.zeroValue5
 infoByte:=by kernel_rfl
 cellsByte:=by kernel_rfl
 sizeByte:=by kernel_rfl
 neB5:=by decide }
variable {P:Program} {ρ:Ren}
set_option maxHeartbeats 1000000 in
set_option maxRecDepth 100000 in
theorem xAu (L:Lays.n240 P ρ) (X:Builder.X72 P ρ) (b:Nat) (w:World) {e:TypeId} {n:Nat} (h0:w.cell? ⟨b,0,none⟩=some (.pointer none)) (hsh:w.shape? b=some (e,n)) (hn:0<n)
  (hlies:liesAt P P.depth e (n / P.cellsOf e) 0 (ρ.t 72) 1=true) (hfz:w.frozen? ⟨b,0,none⟩=false) :
  Calls P (ρ.f 240) #[.pointer (some ⟨b,0,none⟩)] w fun e w'=>e=.returned (.tuple #[])∧w'=w.setCell ⟨b,0,none⟩ (.pointer (some ⟨b,0,none⟩)):=by
 obtain ⟨j,hj,hjs⟩:=Option.map_eq_some_iff.1 X.sizeBuilder
 have mixed:=L.mixed
 have t72:=L.t72; have a72:=L.a72; have z72:=L.z72; have v72:=L.v72; have u72:=run_underlying L.t72
 have t70:=L.t70; have a70:=L.a70; have z70:=L.z70; have v70:=L.v70; have u70:=run_underlying L.t70
 have t9:=L.t9; have a9:=L.a9; have z9:=L.z9; have v9:=L.v9; have u9:=run_underlying L.t9
 have t4:=L.t4; have a4:=L.a4; have z4:=L.z4; have v4:=L.v4; have u4:=run_underlying L.t4
 have t164:=L.t164; have a164:=L.a164; have z164:=L.z164; have v164:=L.v164; have u164:=run_underlying L.t164
 go_enter L.f240,Body.n240_ntmps ρ
 go_wp2
 rw [Lib.run_to_unsafe w ⟨b,0,none⟩ L.t70 L.t164 hj (by rw [hjs]; decide) hsh hn]
 simp only [Result.andThen]
 rw [Oper.upon_value]
 go_wp2
 rw [run_callFunc_extern L.f276 (by kernel_rfl) (by kernel_rfl) (by kernel_rfl) (e:=Extern.AbiNoEscape.same) (by kernel_rfl)]
 rw [Lib.run_noEscape]
 simp only [Result.andThen]
 rw [Oper.upon_value]
 go_wp2
 rw [Lib.run_from_unsafe w ⟨b,0,none⟩ L.t164 L.t70 hj hsh hlies]
 simp only [Result.andThen]
 rw [Oper.upon_value]
 go_wp2
 go_end0
 exact ⟨rfl,rfl⟩
set_option maxHeartbeats 2000000 in
set_option maxRecDepth 100000 in
theorem xYh (L:Lays.n169 P ρ) (X:Builder.Extra P ρ) (b:Nat) (w:World) (hc:w.cell? ⟨b,1,none⟩=some (.slice none 0 0)) :
  Calls P (ρ.f 169) #[.pointer (some ⟨b,0,none⟩)] w fun e w'=>e=.returned (.string ⟨#[]⟩)∧w'=w.drew:=by
 have hUS:=Any.unsafeString_none L X
 have c1:w.drew.cell? ⟨b,1,none⟩=some (.slice none 0 0):=hc
 have hSD:(Builtin.unsafeSliceData_ #[(ρ.t 37)] (ρ.t 127) #[.slice none 0 0]).run P w.drew=.ok (.pointer none) w.drew:=rfl
 have mixed:=L.mixed
 have t72:=L.t72; have a72:=L.a72; have z72:=L.z72; have v72:=L.v72; have u72:=run_underlying L.t72
 have t70:=L.t70; have a70:=L.a70; have z70:=L.z70; have v70:=L.v70; have u70:=run_underlying L.t70
 have t37:=L.t37; have a37:=L.a37; have z37:=L.z37; have v37:=L.v37; have u37:=run_underlying L.t37
 have t127:=L.t127; have a127:=L.a127; have z127:=L.z127; have v127:=L.v127; have u127:=run_underlying L.t127
 have t3:=L.t3; have a3:=L.a3; have z3:=L.z3; have v3:=L.v3; have u3:=run_underlying L.t3
 have t9:=L.t9; have a9:=L.a9; have z9:=L.z9; have v9:=L.v9; have u9:=run_underlying L.t9
 have t5:=X.t5; have a5:=X.a5; have z5:=X.z5; have v5:=X.v5; have u5:=run_underlying X.t5
 go_enter L.f169,Body.n169_ntmps ρ
 go_wp2
 go_region_o
 all_goals (go_wp2; go_ret; exact ⟨rfl,rfl⟩)
set_option maxHeartbeats 2000000 in
set_option maxRecDepth 100000 in
theorem xYg (L:Lays.n169 P ρ) (X:Builder.Extra P ρ) (b g cap n:Nat) (l:List UInt8) (w:World) (h0:l≠[]) (hc:w.cell? ⟨b,1,none⟩=some (.slice (some ⟨g,0,none⟩) l.length cap)) (hcap:cap≠0)
  (hsh:w.shape? g=some (ρ.t 5,n)) (hn:l.length≤n) (h63:l.length≤9223372036854775807) (hcell:∀ j x,l[j]?=some x→w.cell? ((⟨g,0,none⟩:Addr).add j)=some (.int .u8 x.toNat)) :
  Calls P (ρ.f 169) #[.pointer (some ⟨b,0,none⟩)] w fun e w'=>e=.returned (.string ⟨l.toArray⟩)∧w'=w.drew.freeze ⟨g,0,none⟩ l.length:=by
 have c1:w.drew.cell? ⟨b,1,none⟩=some (.slice (some ⟨g,0,none⟩) l.length cap):=hc
 have hSD:(Builtin.unsafeSliceData_ #[(ρ.t 37)] (ρ.t 127) #[.slice (some ⟨g,0,none⟩) l.length cap]).run P w.drew=.ok (.pointer (some ⟨g,0,none⟩)) w.drew :=
  Lib.run_unsafeSliceData_row _ _ _ _ _ _ hcap
 have hUS:(Builtin.unsafeString_ #[(ρ.t 127),(ρ.t 3)] (ρ.t 9) #[.pointer (some ⟨g,0,none⟩),.int .i64 l.length]).run P w.drew=.ok (.string ⟨l.toArray⟩) (w.drew.freeze ⟨g,0,none⟩ l.length) :=
  Lib.run_unsafeString_row w.drew (ρ.t 127) (ρ.t 3) (ρ.t 9) (ρ.t 5) L.t127 X.cellsByte g n hsh l h0 hn h63 hcell
 have mixed:=L.mixed
 have t72:=L.t72; have a72:=L.a72; have z72:=L.z72; have v72:=L.v72; have u72:=run_underlying L.t72
 have t70:=L.t70; have a70:=L.a70; have z70:=L.z70; have v70:=L.v70; have u70:=run_underlying L.t70
 have t37:=L.t37; have a37:=L.a37; have z37:=L.z37; have v37:=L.v37; have u37:=run_underlying L.t37
 have t127:=L.t127; have a127:=L.a127; have z127:=L.z127; have v127:=L.v127; have u127:=run_underlying L.t127
 have t3:=L.t3; have a3:=L.a3; have z3:=L.z3; have v3:=L.v3; have u3:=run_underlying L.t3
 have t9:=L.t9; have a9:=L.a9; have z9:=L.z9; have v9:=L.v9; have u9:=run_underlying L.t9
 have t5:=X.t5; have a5:=X.a5; have z5:=X.z5; have v5:=X.v5; have u5:=run_underlying X.t5
 go_enter L.f169,Body.n169_ntmps ρ
 go_wp2
 go_region_o
 all_goals (go_wp2; go_ret; exact ⟨rfl,rfl⟩)
end Go.Proofs
namespace Go.Proofs.YtkdneddcocggdaaGreatDoor.Am
open Go Go.Proofs Go.RowKit Go.Shelf
set_option maxRecDepth 100000
variable {D:Orc} {h h0 h':H} {k:Kv} {kp:Kp} {L:List Res}
def Byt (h:H) (s:Value) (l:List UInt8):Prop:=(s=.slice none 0 0∧l=[]) ∨
 ∃ g cap cs,s=.slice (some ⟨g,0,none⟩) l.length cap∧h g=some (.brow 5 cs)∧cs.length=cap∧l.length≤cap∧cap≠0∧cs.take l.length=U8 l∧l≠[]
theorem Byt.loc {s:Value} {l:List UInt8} (r:Byt h s l) (e:∀ b,Blk s=some b→h' b=h b):Byt h' s l:=by
 rcases r with r | ⟨g,cap,cs,rfl,h1,h2,h3,h4,h5⟩
 ·exact .inl r
 ·exact .inr ⟨g,cap,cs,rfl,(e g (qXb h4)).trans h1,h2,h3,h4,h5⟩
def bytR (s:Value) (l:List UInt8):Res:=⟨fun c=>Blk s=some c,fun h=>Byt h s l,fun h h' e o=>o.loc e⟩
def qAh (b:Nat) (t:TypeId) (l:List Value):Res:=⟨fun c=>c=b,fun h=>h b=some (.brow t l),fun h h' e o=>by rw [e b rfl]; exact o⟩
theorem Byt.known {s:Value} {l:List UInt8} (r:Byt h s l) {b:Nat} (hb:Blk s=some b):h b≠none:=by
 rcases r with ⟨rfl,_⟩ | ⟨g,cap,cs,rfl,h1,h2,h3,h4,h5⟩
 ·rw [qZh] at hb; cases hb
 ·rw [qXb h4] at hb; cases hb; rw [h1]; simp
theorem Byt.app {s:Value} {l m:List UInt8} {str:Bool} (r:Byt h s l) (hst:s=.slice none 0 0→str=true) (hl:l.length+m.length≤2 ^ 40) {K:Value→H→Prop}
  (hK:∀ s' h',Byt h' s' (l++m)→(∀ b,h b≠none→Blk s≠some b→h' b=h b)→(∀ b,Blk s'=some b→Blk s=some b∨h b=none)→K s' h'):apX str 5 h 1 [.int .u8 0] s m.length (U8 m) K:=by
 have big:∀ n c,c<n→n≤2 ^ 40→Builtin.nextslicecap n c*1≤2 ^ 48∧((n:Nat):Int)≤IntKind.i64.max:=fun n c hc hn=>by
  have h1:=nextslicecap_le hc
  have:IntKind.i64.max=9223372036854775807:=by decide
  refine ⟨by omega,by rw [this]; omega⟩
 have rep:∀ (old:List UInt8) n c,old.length+m.length=n→(U8 old++(U8 m++(List.replicate (c - n) [Value.int .u8 0]).flatten)).take n=U8 (old++m):=fun old n c hn=>by
  rw [← List.append_assoc,xXq,List.take_left' (by rw [qXz,List.length_append]; exact hn)]
 have replen:∀ (old:List UInt8) n c,old.length+m.length=n→n≤c→(U8 old++(U8 m++(List.replicate (c - n) [Value.int .u8 0]).flatten)).length=c:=fun old n c hn hc=>by
  simp [qXz,qGh]; omega
 rcases r with ⟨rfl,rfl⟩ | ⟨g,cap,cs,rfl,h1,h2,h3,h4,h5,h6⟩
 ·have ht:qMf str 5 h (.slice none 0 0)=true:=hst rfl
  unfold apX
  rw [ht]
  refine ⟨fun hc=>?_,fun hc=>?_⟩
  ·have:m=[]:=List.length_eq_zero_iff.mp (by omega)
   subst this
   exact hK _ _ (.inl ⟨rfl,rfl⟩) (fun _ _ _=>rfl) fun b hb=>by
    have hb:Blk (.slice none (0+0) 0)=some b:=hb
    rw [qZh] at hb; cases hb
  ·obtain ⟨b1,b2⟩:=big (0+m.length) 0 hc (by simpa using hl)
   refine ⟨b1,b2,[],rfl,fun b c hb hcc=>?_⟩
   have hr:=rep [] (0+m.length) c (by simp)
   have hrl:=replen [] (0+m.length) c (by simp) hcc
   refine hK _ _ (.inr ⟨b,c,_,by simp,qQf,hrl,by simpa using hcc,by omega,?_,fun e=>by rw [List.nil_append] at e; subst e; simp at hc⟩) (fun d hd _=>qXg fun e=>hd (by rw [e]; exact hb)) fun d hd=>.inr ?_
   ·have e:(([]:List UInt8)++m).length=0+m.length:=by simp
    rw [e]; exact hr
   ·have hd:Blk (.slice (some ⟨b,0,none⟩) (0+m.length) c)=some d:=hd
    rw [qXb (by omega)] at hd; cases hd; exact hb
 ·have ht:qMf str 5 h (.slice (some ⟨g,0,none⟩) l.length cap)=true:=by
   obtain ⟨c,rfl⟩:∃ c,cap=c+1:=⟨cap - 1,by omega⟩
   unfold qMf
   simp only [h1]
  unfold apX
  rw [ht]
  refine ⟨fun hc=>?_,fun hc=>?_⟩
  ·refine ⟨fun hw=>?_,fun hw=>⟨xDc m,h.set g (.brow 5 (splice cs l.length (U8 m))),?_,?_⟩⟩
   ·have:m=[]:=by simpa [U8] using hw
    subst this
    exact hK _ _ (.inr ⟨g,cap,cs,by simp,h1,h2,by simpa using h3,h4,by simpa using h5,by simpa using h6⟩) (fun _ _ _=>rfl) fun b hb=>.inl hb
   ·rw [Nat.mul_one,qZg,Nat.zero_add]
    unfold wr
    simp only [h1]
    rw [if_pos (by rw [qXz]; omega)]
   ·refine hK _ _ (.inr ⟨g,cap,_,by simp,qQf,by rw [qVo (by rw [qXz]; omega)]; exact h2,by simpa using hc,h4,?_,fun e=>h6 (List.append_eq_nil_iff.mp e).1⟩) (fun d hd hn=>qXg fun e=>hn (by rw [e,qXb h4])) fun b hb=>.inl (by
     have hb:Blk (.slice (some ⟨g,0,none⟩) (l.length+m.length) cap)=some b:=hb
     rw [qXb h4] at hb ⊢; exact hb)
    rw [List.length_append,← xXq,← h5]
    unfold splice
    rw [← List.append_assoc,List.take_left' (by simp [qXz]; omega)]
  ·obtain ⟨b1,b2⟩:=big (l.length+m.length) cap hc hl
   refine ⟨b1,b2,cs.take l.length,?_,fun b c hb hcc=>?_⟩
   ·have:=qBe (h:=h) (a:=⟨g,0,none⟩) (n:=l.length) (l:=cs) rfl (by show qZm (h g)=_; rw [h1]; rfl) (by show 0+_≤_; omega)
    simpa [qBh] using this
   ·rw [h5]
    have hr:=rep l (l.length+m.length) c rfl
    have hrl:=replen l (l.length+m.length) c rfl hcc
    refine hK _ _ (.inr ⟨b,c,_,by simp,qQf,hrl,by simpa using hcc,by omega,?_,fun e=>h6 (List.append_eq_nil_iff.mp e).1⟩) (fun d hd _=>qXg fun e=>hd (by rw [e]; exact hb)) fun d hd=>.inr ?_
    ·rw [List.length_append]; exact hr
    ·have hd:Blk (.slice (some ⟨b,0,none⟩) (l.length+m.length) c)=some d:=hd
     rw [qXb (by omega)] at hd; cases hd; exact hb
theorem Hp.bapp (o:Hp h0 h L) {j:Nat} {s:Value} {l m:List UInt8} {str:Bool} (hj:L[j]?=some (bytR s l)) (hst:s=.slice none 0 0→str=true) (hl:l.length+m.length≤2 ^ 40) {K:Value→H→Prop}
  (hK:∀ s' h',Hp h0 h' (L.set j (bytR s' (l++m)))→K s' h'):apX str 5 h 1 [.int .u8 0] s m.length (U8 m) K :=
 Byt.app (o.get hj) hst hl fun s' h' r e1 e2=>hK s' h' (o.upd hj (fun b hb hn=>e1 b hb hn) r fun b hb=>⟨(e2 b hb).imp id id,r.known hb⟩)
theorem Hp.set_brow {i b:Nat} {t:TypeId} {l:List Value} (o:Hp h0 h L) (hi:L[i]?=some (qAh b t l)) (l':List Value):Hp h0 (h.set b (.brow t l')) (L.set i (qAh b t l')) :=
 o.upd hi (fun c _ hc=>qXg hc) qQf fun c hc=>⟨.inl hc,by
  have hc:c=b:=hc
  subst hc; rw [qQf]; simp⟩
theorem Hp.brow {i b:Nat} {t:TypeId} {l:List Value} (o:Hp h0 h L) (hi:L[i]?=some (qAh b t l)):h b=some (.brow t l):=o.get hi
theorem rdb {b j:Nat} {t:TypeId} {l:List Value} {v:Value} (hb:h b=some (.brow t l)) (hj:l[j]?=some v):rd h (Addr.add ⟨b,0,none⟩ j)=some v:=by
 rw [qZg,Nat.zero_add]
 simp only [rd,hb,qZm,Option.bind_some]
 exact hj
theorem wrb {b j:Nat} {t:TypeId} {l:List Value} {v:Value} (hb:h b=some (.brow t l)) (hj:j<l.length):wr1 h (Addr.add ⟨b,0,none⟩ j) v=some (h.set b (.brow t (l.set j v))):=by
 rw [qZg,Nat.zero_add]
 simp only [wr1,hb]
 rw [if_pos hj]
def BldT (t:TypeId) (n:Nat):Prop:=liesAt Tryz.prog Tryz.prog.depth t (n / Tryz.prog.cellsOf t) 0 69 1=true
def Head (b:Nat) (p:Value):Prop:=p=.pointer none∨p=Pt b
def qCh (D:Orc) (f:Nat):Prop:=∀ (b:Nat) (t:TypeId) (p:Value) (l:List Value) h (k:Kv) kp,h b=some (.brow t (p::l))→BldT t (l.length+1)→Head b p→k (.tuple #[]) (h.set b (.brow t (Pt b::l)))→D f [Pt b] h k kp
theorem xQg {b:Nat} {o:VObj} (hb:h b=some o):h.set b o=h:=by
 funext c
 unfold H.set
 by_cases hc:c=b
 ·rw [if_pos hc,hc,hb]
 ·rw [if_neg hc]
theorem xFh:qCh (CS Tryz.prog) 116:=by
 intro b t p l h k kp hb ht hp hk W R r hv hkp
 obtain ⟨fz,hm,hf⟩:=r b _ hb
 have hc:W.cell? ⟨b,0,none⟩=some p:=by
  unfold World.cell?
  rw [hm]; rfl
 have key:Calls Tryz.prog 116 #[Pt b] W fun e w'=>e=.returned (.tuple #[])∧(w'=W∧p=Pt b∨w'=W.setCell ⟨b,0,none⟩ (Pt b)):=by
  rcases hp with rfl | rfl
  ·refine (xAu { Tryz.laysJoin with } Tryz.bldX.toX72 b W (e:=t) (n:=l.length+1) hc ?_ (by omega) ht ?_).mono fun e w' he=>⟨he.1,.inr he.2⟩
   ·unfold World.shape?
    rw [hm]; simp
   ·unfold World.frozen?
    rw [hm]
    have:=hf 0 (by simp)
    simp only [Bool.and_eq_false_iff,decide_eq_false_iff_not]
    by_cases h1:fz.1≤0
    ·exact .inr fun h2=>this ⟨h1,h2⟩
    ·exact .inl h1
  ·refine (Any.Builder_copyCheck_used { Tryz.laysJoin with } Tryz.bldX.toX72 b W hc).mono fun e w' he=>⟨he.1,.inl ⟨he.2,rfl⟩⟩
 refine ⟨fun _=>key.mono fun e w' ⟨he,hw⟩=>?_,fun hf=>absurd (qKn (v:=.tuple #[]) (T:=fun _=>True) (key.mono fun e w' he=>⟨he.1,trivial⟩)) (Nat.not_lt.mpr hf)⟩
 subst he
 rcases hw with ⟨rfl,rfl⟩ | rfl
 ·rw [xQg hb] at hk
  exact hv _ _ _ hk r (.refl _ _)
 ·have u:Upd W b (.cells (Pt b::l).toArray t fz) (W.setCell ⟨b,0,none⟩ (Pt b)):=by
   refine ⟨rfl,rfl,rfl,by simp [World.setCell],?_,fun c hc=>?_⟩
   ·simp only [World.setCell,Array.getElem?_modify,hm]
    simp
   ·simp only [World.setCell,Array.getElem?_modify]
    rw [if_neg (Ne.symm hc)]
  exact hv _ _ _ hk (r.upd u ⟨fz,rfl,by simpa using hf⟩) (Frame.upd u hb rfl)
def ShB (h:H) (g:Nat) (cs:List Value):Prop:=h g=some (.brow 5 cs)∨h g=some (.bro 5 cs)
def qPk (D:Orc) (f:Nat):Prop:=∀ (b:Nat) (t:TypeId) (p:Value) (rest:List Value) h (k:Kv) kp,
 (h b=some (.brow t (p::.slice none 0 0::rest))→k (.string ⟨#[]⟩) h→D f [Pt b] h k kp) ∧
 ∀ g cap cs (l:List UInt8),h b=some (.brow t (p::.slice (some ⟨g,0,none⟩) l.length cap::rest))→ShB h g cs→cap≠0→l≠[]→l.length≤cs.length→l.length≤2 ^ 40→cs.take l.length=U8 l →
  k (.string ⟨l.toArray⟩) (h.set g (.bro 5 cs))→D f [Pt b] h k kp
theorem xId:qPk (CS Tryz.prog) 37:=by
 intro b t p rest h k kp
 have cell1:∀ {W:World} {v:Value},Rel h W→h b=some (.brow t (p::v::rest))→W.cell? ⟨b,1,none⟩=some v:=fun r hb=>by
  obtain ⟨fz,hm,hf⟩:=r b _ hb
  unfold World.cell?
  rw [hm]; rfl
 refine ⟨fun hb hk W R r hv hp=>?_,fun g cap cs l hb hg hcap hl hlc hl40 hcs hk W R r hv hp=>?_⟩
 ·have key:=xYh { Tryz.laysJoin with } Tryz.bldX b W (cell1 r hb)
  refine ⟨fun _=>key.mono fun e w' ⟨he,hw⟩=>?_,fun hf=>absurd (qKn (v:=.string ⟨#[]⟩) (T:=fun _=>True) (key.mono fun e w' he=>⟨he.1,trivial⟩)) (Nat.not_lt.mpr hf)⟩
  subst he; subst hw
  exact hv _ _ _ hk (r.same (SameHeap.refl W).drew) (Frame.same (SameHeap.refl W).drew)
 ·obtain ⟨fz,hm⟩:∃ fz,W.heap[g]?=some (.cells cs.toArray 5 fz):=by
   rcases hg with hg | hg
   ·obtain ⟨fz,hm,_⟩:=r g _ hg; exact ⟨fz,hm⟩
   ·exact r g _ hg
  have key:=xYg { Tryz.laysJoin with } Tryz.bldX b g cap cs.length l W hl (cell1 r hb) hcap (by unfold World.shape?; rw [hm]; rfl) hlc (by omega) (fun j x hx=>by
   rw [qZg,Nat.zero_add]
   unfold World.cell?
   rw [hm]
   have h1:(U8 l)[j]?=some (.int .u8 x.toNat):=by simp [U8,hx]
   rw [← hcs,List.getElem?_take] at h1
   split at h1
   ·simpa using h1
   ·cases h1)
  refine ⟨fun _=>key.mono fun e w' ⟨he,hw⟩=>?_,fun hf=>absurd (qKn (v:=.string ⟨l.toArray⟩) (T:=fun _=>True) (key.mono fun e w' he=>⟨he.1,trivial⟩)) (Nat.not_lt.mpr hf)⟩
  subst he; subst hw
  have hz:l.length≠0:=by simpa using hl
  have hm':W.drew.heap[g]?=some (.cells cs.toArray 5 fz):=hm
  obtain ⟨fz',u⟩:∃ fz',Upd W g (.cells cs.toArray 5 fz') (W.drew.freeze ⟨g,0,none⟩ l.length):=by
   unfold World.freeze
   rw [if_neg hz]
   refine ⟨(if fz.1==fz.2 then (0,0+l.length) else (min fz.1 0,max fz.2 (0+l.length))),rfl,rfl,rfl,Array.size_modify,?_,fun c hc=>?_⟩
   ·simp only [Array.getElem?_modify,hm']
    simp
   ·simp only [Array.getElem?_modify]
    rw [if_neg (Ne.symm hc)]; rfl
  refine hv _ _ _ hk (r.upd u ⟨fz',rfl⟩) ?_
  rcases hg with hg | hg
  ·exact Frame.upd u hg rfl
  ·exact Frame.upd u hg rfl
end Go.Proofs.YtkdneddcocggdaaGreatDoor.Am
namespace Go.Proofs.YtkdneddcocggdaaGreatDoor.Am
open Go Go.Proofs Go.RowKit Go.Shelf Go.Lib Sys
set_option maxRecDepth 100000
structure Tbl (h:H):Prop where
 utf:∃ l3 l4,h 0=some (.ro l3)∧h 1=some (.ro l4)∧(∀ c,c<256→l3[c]?=some (.int .u8 (firstT c))) ∧
  ∀ i,i<16→l4[2*i]?=some (.int .u8 (accLo i))∧l4[2*i+1]?=some (.int .u8 (accHi i))
 pow:h 3=some (.ro (Lib.pow10Tab.map fun z=>Value.int .u64 z))
 syn:∃ u v,h 4=some (.ro [.iface u v])
 rng:∃ u v,h 5=some (.ro [.iface u v])
theorem qQt:Stays Tbl:=fun h h' e t =>
 ⟨t.utf.elim fun l3 ⟨l4,a,b,c⟩=>⟨l3,l4,e _ _ a,e _ _ b,c⟩,e _ _ t.pow,t.syn.elim fun u ⟨v,x⟩=>⟨u,v,e _ _ x⟩,t.rng.elim fun u ⟨v,x⟩=>⟨u,v,e _ _ x⟩⟩
theorem qTi {h:H} {W:World} (r:Rel h W) {b i:Nat} {l:List Value} {v:Value} (hb:h b=some (.ro l)) (hi:l[i]?=some v):W.cell? ⟨b,i,none⟩=some v:=by
 obtain ⟨t,fz,hm⟩:=r b _ hb
 unfold World.cell?
 rw [hm]
 simpa using hi
theorem xBs {h:H} {W:World} (r:Rel h W) (t:Tbl h):Utf8Tabs 0 1 W:=by
 obtain ⟨l3,l4,a,b,c,d⟩:=t.utf
 exact ⟨fun i hi=>qTi r a (c i hi),fun i hi=>⟨qTi r b (d i hi).1,qTi r b (d i hi).2⟩⟩
theorem xUt {h:H} {W:World} (r:Rel h W) (t:Tbl h):Lib.TabIs Tryz.prog W "internal/strconv.uint64pow10" .u64 Lib.pow10Tab:=by
 obtain ⟨ty,fz,hm⟩:=r _ _ t.pow
 unfold Lib.TabIs World.var?
 rw [show Tryz.prog.globalNamed "internal/strconv.uint64pow10"=some 3 by kernel_rfl,Option.bind_some,hm]
variable {h h0:H} {k:Kv} {kp:Kp}
theorem xIg:qUl (CS Tryz.prog) 29 Tbl:=by
 intro s h k kp hs ht hk
 exact qWs (v:=.bool (validD s.data.toList)) (fun W r=>Any.utf8_ValidString Tryz.laysValid s W (by omega) (xBs r ht)) hk
def strB (l:List UInt8):ByteArray:=⟨l.toArray⟩
theorem qQv (l:List UInt8):bts (strB l)=l:=by simp [bts,strB]
theorem qUs (s:ByteArray):strB (bts s)=s:=xAy (qQv _)
theorem qXv (l:List UInt8):(strB l).size=l.length:=by rw [← qQq,qQv]
def qDy (D:Orc) (f:Nat) (T:H→Prop):Prop:=∀ (n:Nat) h (k:Kv) kp,n<2 ^ 63→T h→k (.string (strB (decDigits n))) h→D f [.int .i64 (n:Int)] h k kp
theorem xHl:qDy (CS Tryz.prog) 82 Tbl:=by
 intro n h k kp hn ht hk
 refine qWs (v:=.string ⟨(Lib.itoa (n:Int)).toArray⟩) (fun W r=>?_) (by
  rw [show Lib.itoa (n:Int)=decDigits n by unfold Lib.itoa; rw [if_neg (by omega)]; simp]; exact hk)
 refine (Any.strconv_Itoa Tryz.laysItoa (n:Int) (by omega) (by omega) W (xUt r ht)).mono fun e w' ⟨he,q,os,hw⟩=>⟨he,?_⟩
 subst hw
 exact Lib.below_grow _ W (Nat.le_refl _) q os
def qGx (D:Orc) (f:Nat):Prop:=∀ (n:Nat) h (k:Kv) kp,n<100→k (.string (strB (decDigits n))) h→D f [.int .i64 (n:Int)] h k kp
theorem xDp:qGx (CS Tryz.prog) 158:=fun n h k kp hn hk =>
 qWs (v:=.string ⟨(decDigits n).toArray⟩) (fun W r=>(Any.internal_strconv_small { Tryz.laysItoa with } n hn W).mono fun e w' ⟨he,hw⟩=>⟨he,hw ▸ Below.refl _ _⟩) hk
def qMu (D:Orc) (f:Nat) (T:H→Prop):Prop:=∀ (n:Nat) h (k:Kv) kp,1≤n→n<2 ^ 64→T h→k (.int .i64 (Lib.nDigits n:Int)) h→D f [.int .u64 (n:Int)] h k kp
theorem xDo:qMu (CS Tryz.prog) 159 Tbl:=fun n h k kp h1 h2 ht hk =>
 qWs (v:=.int .i64 (Lib.nDigits n:Int)) (fun W r=>(Any.internal_strconv_numDigits { Tryz.laysItoa with } n h1 (by omega) W (xUt r ht)).mono fun e w' ⟨he,hw⟩=>⟨he,hw ▸ Below.refl _ _⟩) hk
def qTw (D:Orc) (f:Nat):Prop:=∀ (p n cap:Nat) (rest:List Value) h (k:Kv) kp,n<2 ^ 64→h p=some (.cells (List.replicate (Lib.nDigits n) (.int .u8 0)++rest)) →
 k (.tuple #[]) (h.set p (.cells (U8 (decDigits n)++rest)))→D f [.slice (some ⟨p,0,none⟩) (Lib.nDigits n) cap,.int .u64 (n:Int)] h k kp
theorem xDn:qTw (CS Tryz.prog) 160:=by
 intro p n cap rest h k kp hn hp hk W R r hv hkp
 obtain ⟨t,fz,hm,hf⟩:=r p _ hp
 have hH:Go.Sort.Holds (fun (b:UInt8)=>Value.int .u8 (b.toNat:Int)) W p 0 (Array.replicate (Lib.nDigits n) 0):=fun j hj=>by
  rw [Array.size_replicate] at hj
  have h1:(List.replicate (Lib.nDigits n) (Value.int .u8 0)++rest)[j]?=some (.int .u8 0):=by
   rw [List.getElem?_append_left (by simpa using hj),List.getElem?_replicate,if_pos hj]
  refine ⟨?_,?_⟩
  ·unfold World.cell?
   rw [hm,Nat.zero_add,getElem!_pos _ _ (by simpa using hj),Array.getElem_replicate]
   simpa using h1
  ·unfold World.frozen?
   rw [hm,Nat.zero_add]
   have:=hf j (by simp; omega)
   simp only [Bool.and_eq_false_iff,decide_eq_false_iff_not]
   by_cases h2:fz.1≤j
   ·exact .inr fun h3=>this ⟨h2,h3⟩
   ·exact .inl h2
 have key:=Any.internal_strconv_formatBase10 { Tryz.laysItoa with } p 0 cap n (Array.replicate (Lib.nDigits n) 0) W hH (by rw [Array.size_replicate]; exact Lib.lt_pow_nDigits n) (by omega) (by
  rw [Array.size_replicate]
  rcases Nat.eq_zero_or_pos n with rfl | hp
  ·rw [Lib.nDigits_small (by omega)]; omega
  ·have:=Lib.numDigits_eq n hp (by omega)
   split at this <;> omega)
 rw [Array.size_replicate] at key
 refine ⟨fun _=>key.mono fun e w' ⟨he,m,v',dk,hw,hF⟩=>?_,fun hf=>absurd (qKn (v:=.tuple #[]) (T:=fun _=>True) (key.mono fun e w' he=>⟨he.1,trivial⟩)) (Nat.not_lt.mpr hf)⟩
 subst he; subst hw
 have hlist:Go.Sort.putCells (fun (b:UInt8)=>Value.int .u8 (b.toNat:Int)) 0 dk (List.replicate (Lib.nDigits n) (Value.int .u8 0)++rest).toArray=(U8 (decDigits n)++rest).toArray:=by
  apply Array.ext_getElem?
  intro j
  unfold Go.Sort.putCells
  rw [Array.getElem?_mapIdx]
  simp only [List.getElem?_toArray,Nat.zero_add,Nat.zero_le,true_and,Nat.sub_zero]
  have hdl:=Lib.decDigits_length n
  by_cases hj:j<Lib.nDigits n
  ·rw [List.getElem?_append_left (by simpa using hj),List.getElem?_append_left (by rw [qXz,hdl]; exact hj),List.getElem?_replicate,if_pos hj,Option.map_some,hF.size,if_pos hj]
   have:=Lib.row_is_numeral hF j (by rw [hdl]; exact hj)
   unfold U8
   rw [List.getElem?_map,List.getElem?_eq_getElem (by rw [hdl]; exact hj),this]; rfl
  ·rw [List.getElem?_append_right (by simpa using hj),List.getElem?_append_right (by rw [qXz,hdl]; omega),hF.size,qXz,hdl,List.length_replicate]
   simp only [if_neg hj]
   cases rest[j - Lib.nDigits n]? <;> rfl
 have u:Upd W p (.cells (U8 (decDigits n)++rest).toArray t fz) ((Go.Sort.putRow (fun (b:UInt8)=>Value.int .u8 (b.toNat:Int)) W p 0 dk).drewN m):=by
  refine ⟨rfl,rfl,rfl,Array.size_modify,?_,fun c hc=>?_⟩
  ·show (W.heap.modify p _)[p]?=_
   rw [Array.getElem?_modify,if_pos rfl,hm,← hlist]; rfl
  ·show (W.heap.modify p _)[c]?=_
   rw [Array.getElem?_modify,if_neg (Ne.symm hc)]
 refine hv _ _ _ hk (r.upd u ⟨t,fz,rfl,fun j hj=>hf j ?_⟩) (Frame.upd u hp rfl)
 have hdl:=Lib.decDigits_length n
 simp only [List.length_append,qXz,hdl,List.length_replicate] at hj ⊢
 exact hj
def qKt (D:Orc) (f:Nat):Prop:=∀ (s:ByteArray) (c:UInt8) h (k:Kv) kp,k (.int .i64 (((bts s).count c:Nat):Int)) h→D f [.string s,.string ⟨#[c]⟩] h k kp
theorem xIc:qKt (CS Tryz.prog) 39:=fun s c h k kp hk =>
 qWs (v:=.int .i64 (((bts s).count c:Nat):Int)) (fun W r=>(Any.strings_Count_one Tryz.laysCount s c W).mono fun e w' ⟨he,hw⟩=>⟨he,hw ▸ Below.refl _ _⟩) hk
def qJs (D:Orc) (f:Nat):Prop:=∀ (s:ByteArray) (c:UInt8) h (k:Kv) kp,k (.int .i64 (Lib.indexByte (bts s) c)) h→D f [.string s,.string ⟨#[c]⟩] h k kp
theorem xHk:qJs (CS Tryz.prog) 86:=fun s c h k kp hk =>
 qWs (v:=.int .i64 (Lib.indexByte (bts s) c)) (fun W r=>(Any.strings_Index_one Tryz.laysIndex s c W).mono fun e w' ⟨he,hw⟩=>⟨he,hw ▸ Below.refl _ _⟩) hk
def qKu (D:Orc) (f:Nat):Prop:=∀ (s:ByteArray) h (k:Kv) kp,s.size≤2 ^ 40→k (.string s) h→D f [.string s] h k kp
theorem xDl:qKu (CS Tryz.prog) 180:=fun s h k kp hs hk =>
 qWs (v:=.string s) (fun W r=>Any.stringslite_Clone Tryz.laysClone s W (by omega)) hk
def qMs (D:Orc) (f:Nat):Prop:=∀ (v:Value) (ws:List ByteArray) (sep:ByteArray) h (k:Kv) kp,Row h v (ws.map .string)→ws.length≤2 ^ 40→((bts sep).intercalate (ws.map bts)).length≤2 ^ 40 →
 k (.string (strB ((bts sep).intercalate (ws.map bts)))) h→D f [v,.string sep] h k kp
theorem xFp:qMs (CS Tryz.prog) 100:=by
 intro v ws sep h k kp hr hl hlen hk
 obtain ⟨base,cap,hv,hc,hb⟩:=hr
 rw [List.length_map] at hv hc hb
 subst hv
 cases ws with
 | nil =>
  refine qWs (v:=.string ⟨#[]⟩) (fun W r=>(Any.strings_Join_none Tryz.laysJoin Tryz.bldX base cap sep W).mono fun e w' ⟨he,hw⟩=>⟨he,hw ▸ Below.refl _ _⟩) ?_
  simpa [List.intercalate,strB] using hk
 | cons x ws =>
  rcases hb with hb | ⟨a,rfl,hs,l,h2,h3,h4⟩
  ·simp only [List.length_cons] at hc; omega
  ·obtain ⟨b,o,sp⟩:=a
   subst hs
   refine qWs (v:=.string (strB ((bts sep).intercalate ((x::ws).map bts)))) (fun W r=>?_) hk
   obtain ⟨t,fz,hm⟩:=qAu h2 (fun o ho=>r b o ho)
   refine Any.strings_Join Tryz.laysJoin Tryz.bldX b o cap (x::ws) sep W (fun j y hy=>?_) ?_ (by omega) hc (by
    have:Lib.join ((x::ws).map (·.data.toList)) sep.data.toList=(bts sep).intercalate ((x::ws).map bts):=rfl
    rw [this]; omega)
   ·have hj:=(List.getElem?_eq_some_iff.mp hy).1
    have h5:=congrArg (·[j]?) h4
    simp only [List.getElem?_take,List.getElem?_drop,List.getElem?_map,hy] at h5
    rw [if_pos (by simpa using hj)] at h5
    unfold World.cell?
    rw [hm]
    simpa using h5
   ·exact (Array.getElem?_eq_some_iff.mp hm).1
def qCg (D:Orc) (f g:Nat) (q:Nat→Bool):Prop:=∀ (s:ByteArray) h (k:Kv) kp,s.size≤2 ^ 30→(∀ v h',Ext h h'→Buf h h' v ((Lib.goFieldsP q s).map .string)→k v h')→D f [.string s,.func (.func g) #[] #[]] h k kp
theorem xCe (w:World):PredAt Tryz.prog 43 #[] encR (fun r=>decide ((r:Int)=32)) w:=fun W r _=>by
 unfold FnGives
 go_enter Tryz.func43,Tryz.ntmps43
 go_wp2
 go_ret
 exact ⟨rfl,0,rfl⟩
theorem xIa:qCg (CS Tryz.prog) 42 43 (fun r=>decide ((r:Int)=32)):=by
 intro s h k kp hs hk W R r hv hp
 have key:=Any.strings_FieldsFunc Tryz.laysFields 43 #[] (enters_of Tryz.func43 (by kernel_rfl) rfl) (fun r=>decide ((r:Int)=32)) s W (by omega) (xCe W) (by kernel_rfl) (by kernel_rfl)
 have hlt:42<Tryz.prog.funcs.size:=of_decide_eq_true (by kernel_rfl)
 refine ⟨fun _=>key.mono fun e w' ⟨A,he,hA,hown,hb⟩=>?_,fun hf=>absurd hlt (Nat.not_lt.mpr hf)⟩
 subst he
 generalize hn:(Lib.goFieldsP (fun r=>decide ((r:Int)=32)) s).length=n at hown ⊢
 obtain ⟨_,⟨h1,h2⟩ | ⟨g,cap,cur,h1,h2,h3,h4,h5,h6,h7⟩⟩:=hown
 ·cases h1
 ·cases h1
  rw [Nat.mul_one] at h6 h7
  have hcur:cur.toList=(Lib.goFieldsP (fun r=>decide ((r:Int)=32)) s).map .string:=by
   rw [← h7,List.take_of_length_le (by rw [Array.length_toList]; omega)]
  have hnone:h A=none:=by
   cases hx:h A with
   | none=>rfl
   | some o=>have:=r.lt hx; omega
  obtain ⟨r2,f2⟩:=xFs r hb hA (l:=(Lib.goFieldsP (fun r=>decide ((r:Int)=32)) s).map .string) ⟨_,_,by rw [h3,← hcur],fun j _=>by omega⟩
  exact hv _ _ _ (hk _ _ (Ext.new hnone) (Buf.cells hnone qQf (by rw [List.length_map]; exact hn))) r2 f2
end Go.Proofs.YtkdneddcocggdaaGreatDoor.Am
