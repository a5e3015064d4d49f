/-
  Packed: A weakest-precondition reading of the model's code over a partial view of memory: definitions alone (the operations, a region, code, calls). What it says is shown sound against the model in the texts behind it. A weakest-precondition reading of the model's code over a partial view of memory: operations, regions, code, a function's body. What the partial view of memory says of the model's memory, and how reading, writing and making keep it. Each operation's reading holds of the model's run of it: values, memory. Each operation's reading holds of the model's run of it: built values, cuts, indexes, arithmetic, conversions. Each operation's reading holds of the model's run of it: arithmetic, comparisons, cuts, indexes, conversions. Each operation's reading holds of the model's run of it: conversions, cuts, rows made and grown, strings walked, assertions. Each operation's reading holds of the model's run of it: append, copy, assertions, least and greatest. An operation's reading holds of the model's step. Each operation's reading holds of the model's run of it: maps, noughts, '==' of structures. '==' of references that are no constants. An operation's reading holds of the model's step: every operation.
-/
import Derived.Calls
import Derived.Below
import Derived.Orders
import Derived.Laws.Sem
import Derived.Laws.World
import Derived.Laws.Cells
import Derived.Laws.NewFold
import Derived.Laws.BytesArg
import Derived.Laws.IdiomStrings
import Derived.CallsIn
import Derived.Laws.StructEq
import Derived.ChangeKeysEq
set_option linter.unusedVariables false
set_option linter.unusedSimpArgs false
set_option linter.unnecessarySimpa false
namespace Go.Proofs.YtkdneddcocggdaaGreatDoor.Am
open Go
structure LoopQ where
 fn:FuncId
 params:Array Tmp
 assign:Code
 body:Code
 defers:Nat
inductive VObj
 | cells (l:List Value)
 | ro (l:List Value)
 | map (es:List MapEntry) (clock:Nat)
 | sit (s:ByteArray) (pos:Nat)
 | dfr
 | lp (st:LoopState) (pend:Option Code) (e:List (Option Value)) (q:LoopQ)
 | old
 | brow (t:TypeId) (l:List Value)
 | bro (t:TypeId) (l:List Value)
abbrev H:=Nat→Option VObj
def H.set (h:H) (b:Nat) (o:VObj):H:=fun c=>if c=b then some o else h c
def qZm:Option VObj→Option (List Value)
 | some (.cells l)=>some l
 | some (.ro l)=>some l
 | some (.brow _ l)=>some l
 | some (.bro _ l)=>some l
 | _=>none
def rd (h:H) (a:Addr):Option Value :=
 match a.spot with
 | none=>(qZm (h a.block)).bind (·[a.off]?)
 | some _=>none
def rdN (h:H) (a:Addr) (n:Nat):Option (List Value) :=
 match a.spot with
 | none=>(qZm (h a.block)).bind fun l=>if a.off+n≤l.length then some ((l.drop a.off).take n) else none
 | some _=>none
def rdR (h:H) (a:Addr) (n:Nat):Option (List Value):=if n=0 then some [] else rdN h a n
def splice (l:List Value) (o:Nat) (vs:List Value):List Value:=l.take o++(vs++l.drop (o+vs.length))
def wr (h:H) (a:Addr) (vs:List Value):Option H :=
 match a.spot,h a.block with
 | none,some (.cells l)=>if a.off+vs.length≤l.length then some (h.set a.block (.cells (splice l a.off vs))) else none
 | none,some (.brow t l)=>if a.off+vs.length≤l.length then some (h.set a.block (.brow t (splice l a.off vs))) else none
 | _,_=>none
def wr1 (h:H) (a:Addr) (v:Value):Option H :=
 match a.spot,h a.block with
 | none,some (.cells l)=>if a.off<l.length then some (h.set a.block (.cells (l.set a.off v))) else none
 | none,some (.brow t l)=>if a.off<l.length then some (h.set a.block (.brow t (l.set a.off v))) else none
 | _,_=>none
def szOf (P:Program) (t:TypeId):Nat:=P.cellsOf t
def qVp (P:Program) (t:TypeId):Nat:=P.bytesOf t
def aggB (P:Program) (t:TypeId):Bool:=match P.underlying t with | some (.struct _) | some (.array _ _)=>true | _=>false
def qAp (P:Program) (t:TypeId):Option Value:=(P.info? t).bind (·.zero)
def qZz (P:Program) (t:TypeId):List Value:=match qAp P t with | some v=>v.cells.toList | none=>[]
def leafs (P:Program):Nat→TypeId→Option (List TypeId)
 | 0,_=>none
 | n+1,t=>match P.underlying t with
  | some (.struct fs)=>fs.toList.foldr (fun f acc=>(leafs P n f.type).bind fun a=>acc.map (a++·)) (some [])
  | some (.array k e)=>(leafs P n e).map fun a=>(List.replicate k a).flatten
  | some _=>some [t]
  | none=>none
def qUc (P:Program) (t:TypeId) (φ:Value→Prop):Prop :=
 match P.underlying t with
 | some (.int k)=>∃ x:Int,φ (.int k x)
 | some .bool=>∃ x:Bool,φ (.bool x)
 | some .string=>∃ x:ByteArray,φ (.string x)
 | _=>∃ x:Value,φ x
def exLr (P:Program):List TypeId→(List Value→Prop)→Prop
 | [],φ=>φ []
 | t::ts,φ=>qUc P t fun v=>exLr P ts fun vs=>φ (v::vs)
def exL (P:Program) (ts:List TypeId) (φ:List Value→Prop):Prop:=match Nat.ble ts.length 16 with
 | true=>exLr P ts φ
 | false=>∃ vs:List Value,φ vs
def exT (P:Program) (t:TypeId) (φ:Value→Prop):Prop :=
 match aggB P t with
 | true=>match leafs P 20 t with
  | some ts=>exL P ts fun vs=>φ (.agg vs.toArray)
  | none=>False
 | false=>qUc P t φ
def exTs (P:Program):List TypeId→(List Value→Prop)→Prop
 | [],φ=>φ []
 | t::ts,φ=>exT P t fun v=>exTs P ts fun vs=>φ (v::vs)
def exR (P:Program) (ts:List TypeId) (φ:Value→Prop):Prop :=
 match ts with
 | [t]=>exT P t φ
 | ts=>exTs P ts fun vs=>φ (.tuple vs.toArray)
abbrev Env:=List (Option Value)
def getk:Env→Nat→(Value→Prop)→Prop
 | [],_,_=>False
 | some v::_,0,k=>k v
 | none::_,0,_=>False
 | _::e,n+1,k=>getk e n k
def setk:Env→Nat→Option Value→(Env→Prop)→Prop
 | [],_,_,k=>k []
 | _::e,0,v,k=>k (v::e)
 | x::e,n+1,v,k=>setk e n v fun e'=>k (x::e')
def putk (e:Env) (d:Option Nat) (v:Option Value) (k:Env→Prop):Prop :=
 match d with
 | some d=>setk e d v k
 | none=>k e
def ev (e:Env) (x:Operand) (k:Value→Prop):Prop :=
 match x with
 | .tmp t=>getk e t k
 | .const v=>k v
 | .global g=>k (.pointer (some ⟨g,0,none⟩))
 | .func f=>k (.func (.func f) #[] #[])
def evs (e:Env):List Operand→(List Value→Prop)→Prop
 | [],k=>k []
 | x::xs,k=>ev e x fun v=>evs e xs fun vs=>k (v::vs)
def evo (e:Env) (x:Option Operand) (k:Option Value→Prop):Prop :=
 match x with
 | some x=>ev e x fun v=>k (some v)
 | none=>k none
inductive Kd | raw | int (k:IntKind) | bool | str
def projk (e:Env):List (Nat × Kd)→(List Value→Prop)→Prop
 | [],k=>k []
 | (s,_)::ss,k=>getk e s fun v=>projk e ss fun vs=>k (v::vs)
def nth:List Value→Nat→Value
 | [],_=>undef
 | v::_,0=>v
 | _::vs,n+1=>nth vs n
def qZu (n:Nat):List (Nat × Kd)→List Value→Nat→Env
 | [],_,_=>List.replicate n none
 | (s,_)::ss,vs,j=>(qZu n ss vs (j+1)).set s (some (nth vs j))
def intW (v:Value) (k:IntKind→Int→Prop):Prop:=match v with | .int j n=>k j n | _=>False
def ikEq (a b:IntKind):Bool:=Nat.beq a.ctorIdx b.ctorIdx
def intK (j:IntKind) (v:Value) (k:Int→Prop):Prop:=match v with | .int j' n=>(match ikEq j' j with | true=>k n | false=>False) | _=>False
def qQp (v:Value) (k:Bool→Prop):Prop:=match v with | .bool b=>k b | _=>False
def strW (v:Value) (k:ByteArray→Prop):Prop:=match v with | .string s=>k s | _=>False
def ptrW (v:Value) (k:Addr→Prop):Prop:=match v with | .pointer (some a)=>k a | _=>False
def aggW (v:Value) (k:List Value→Prop):Prop:=match v with | .agg cs=>k cs.toList | _=>False
def lenW (v:Value) (k:Nat→Prop):Prop:=match v with | .slice _ n _=>k n | _=>False
def grdW (c:Value) (t:Bool→Prop) (f:Prop):Prop:=match c with | .bool b=>t b | _=>f
def qQh:Value→Bool
 | .pointer none | .nilIface | .nilFunc=>false
 | .func (.func _) _ _=>true
 | .func _ _ _=>false
 | _=>true
def qQm (s:Value) (i:Int) (sz:Nat) (k:Addr→Prop):Prop :=
 match s with
 | .slice (some a) len _=>0≤i∧i<(len:Int)∧k (a.add (i.toNat*sz))
 | _=>False
def qZc (s:ByteArray) (i:Int) (k:Int→Prop):Prop:=0≤i∧i<(s.size:Int)∧k ((s.get! i.toNat).toNat:Int)
def qXm (s:ByteArray) (lo hi:Option Int) (k:ByteArray→Prop):Prop :=
 0≤lo.getD 0∧lo.getD 0≤hi.getD s.size∧hi.getD s.size≤(s.size:Int)∧k (s.extract (lo.getD 0).toNat (hi.getD s.size).toNat)
def qXy (s:Value) (lo hi mx:Option Int) (sz:Nat) (k:Value→Prop):Prop :=
 match s with
 | .slice a len cap =>
  0≤lo.getD 0∧lo.getD 0≤hi.getD len∧hi.getD len≤mx.getD cap∧mx.getD cap≤(cap:Int)∧(mx.isSome→hi.isSome) ∧
   k (.slice (if (mx.getD cap).toNat=(lo.getD 0).toNat then a else a.map (·.add ((lo.getD 0).toNat*sz))) ((hi.getD len).toNat - (lo.getD 0).toNat) ((mx.getD cap).toNat - (lo.getD 0).toNat))
 | _=>False
def optI (v:Option Value) (k:Option Int→Prop):Prop :=
 match v with
 | some (.int _ n)=>k (some n)
 | some _=>False
 | none=>k none
def tyW (d:Kd) (v:Value) (k:Value→Prop):Prop:=match d with
 | .raw=>k v
 | .int j=>intK j v fun n=>k (.int j n)
 | .bool=>qQp v fun b=>k (.bool b)
 | .str=>strW v fun s=>k (.string s)
def qUw:List Kd→List Value→(List Value→Prop)→Prop
 | d::ds,v::vs,k=>tyW d v fun v=>qUw ds vs fun vs=>k (v::vs)
 | _,vs,k=>k vs
def buildk (n:Nat):List (Nat × Kd)→List Value→Nat→(Env→Prop)→Prop
 | [],_,_,k=>k (List.replicate n none)
 | (s,d)::ss,vs,j,k=>tyW d (nth vs j) fun v=>buildk n ss vs (j+1) fun e=>setk e s (some v) k
def qEu (agg:Bool) (cs:List Value) (off n:Nat) (k:Value→Prop):Prop :=
 match agg with
 | true=>k (.agg ((cs.drop off).take n).toArray)
 | false=>match cs.drop off with
  | v::_=>k v
  | []=>False
def eqL (P:Program):List TypeId→List Value→List Value→(Bool→Prop)→Prop
 | [],[],[],k=>k true
 | t::ts,x::xs,y::ys,k =>
  match P.underlying t,x,y with
  | some (.int j),.int j1 a,.int j2 b=>(j=j1∧j=j2)∧eqL P ts xs ys fun r=>k ((a==b) && r)
  | some .bool,.bool a,.bool b=>eqL P ts xs ys fun r=>k ((a==b) && r)
  | some .string,.string a,.string b=>eqL P ts xs ys fun r=>k ((a==b) && r)
  | _,_,_=>False
 | _,_,_,_=>False
def qXj:Operand→Bool
 | .const _=>true
 | _=>false
def eqW (P:Program) (c:Bool) (t:TypeId) (x y:Value) (k:Bool→Prop):Prop :=
 match P.underlying t with
 | some .bool=>qQp x fun a=>qQp y fun b=>k (a==b)
 | some (.slice _)=>match x,y with
  | .slice none _ _,.slice b _ _=>k b.isNone
  | .slice (some _) _ _,.slice none _ _=>k false
  | _,_=>False
 | some (.map _ _)=>match x,y with
  | .map none,.map b=>k b.isNone
  | .map (some _),.map none=>k false
  | _,_=>False
 | some (.func _ _ _)=>match x,y with
  | .nilFunc,.nilFunc=>k true
  | .nilFunc,.func _ _ _=>k false
  | .func _ _ _,.nilFunc=>k false
  | _,_=>False
 | some (.interface _)=>match x,y with
  | .nilIface,.nilIface=>c=true∧k true
  | .nilIface,.iface _ _=>k false
  | .iface _ _,.nilIface=>k false
  | _,_=>False
 | some (.pointer _)=>match x,y with
  | .pointer none,.pointer b=>k b.isNone
  | .pointer (some _),.pointer none=>k false
  | _,_=>False
 | some (.struct _) | some (.array _ _)=>match leafs P 20 t with
  | some ts=>aggW x fun xs=>aggW y fun ys=>eqL P ts xs ys k
  | none=>False
 | _=>False
def qIp (op:BinOp) (j:IntKind) (a b:Int) (k:Value→Prop):Prop :=
 match op with
 | .add=>k (.int j (j.wrap (a+b)))
 | .sub=>k (.int j (j.wrap (a - b)))
 | .mul=>k (.int j (j.wrap (a*b)))
 | .quo=>b≠0∧k (.int j (j.wrap (a.tdiv b)))
 | .rem=>b≠0∧k (.int j (a.tmod b))
 | .and=>k (.int j (j.wrap (BitVec.ofInt j.bits a &&& BitVec.ofInt j.bits b).toNat))
 | .or=>k (.int j (j.wrap (BitVec.ofInt j.bits a ||| BitVec.ofInt j.bits b).toNat))
 | .xor=>k (.int j (j.wrap (BitVec.ofInt j.bits a ^^^ BitVec.ofInt j.bits b).toNat))
 | .andNot=>k (.int j (j.wrap (BitVec.ofInt j.bits a &&& ~~~BitVec.ofInt j.bits b).toNat))
 | .eql=>k (.bool (a==b))
 | .neq=>k (.bool (a != b))
 | .lss=>k (.bool (decide (a<b)))
 | .leq=>k (.bool (decide (a≤b)))
 | .gtr=>k (.bool (decide (a>b)))
 | .geq=>k (.bool (decide (a≥b)))
 | _=>False
def xZj (op:BinOp) (j:IntKind) (a b:Int) (k:Value→Prop):Prop :=
 match op with
 | .shl=>0≤b∧k (.int j (j.wrap (a*2 ^ (min b.toNat j.bits))))
 | .shr=>0≤b∧k (.int j (a.fdiv (2 ^ (min b.toNat j.bits))))
 | _=>False
def qIo (op:BinOp) (a b:ByteArray) (k:Value→Prop):Prop :=
 match op with
 | .add=>a.size+b.size≤9223372036854775807∧k (.string (a++b))
 | .eql=>k (.bool (a.toList==b.toList))
 | .neq=>k (.bool (!(a.toList==b.toList)))
 | .lss=>k (.bool (Op.bytesLess a.toList b.toList))
 | .leq=>k (.bool (Op.bytesLess a.toList b.toList || a.toList==b.toList))
 | .gtr=>k (.bool (!(Op.bytesLess a.toList b.toList || a.toList==b.toList)))
 | .geq=>k (.bool (!Op.bytesLess a.toList b.toList))
 | _=>False
def qLq:BinOp→Bool
 | .shl | .shr=>true
 | _=>false
def binV (P:Program) (op:BinOp) (c:Bool) (t:TypeId) (x y:Value) (k:Value→Prop):Prop :=
 match x,y with
 | .int j a,.int j' b=>match qLq op with
  | true=>xZj op j a b k
  | false=>j=j'∧qIp op j a b k
 | .string a,.string b=>qIo op a b k
 | _,_=>match op with
  | .eql=>eqW P c t x y fun r=>k (.bool r)
  | .neq=>eqW P c t x y fun r=>k (.bool (!r))
  | _=>False
def eqSl (x y:Value) (k:Bool→Prop):Prop:=match x,y with
 | .slice none _ _,.slice b _ _=>k b.isNone
 | .slice (some _) _ _,.slice none _ _=>k false
 | _,_=>False
def xGk (x y:Value) (k:Bool→Prop):Prop:=match x,y with
 | .map none,.map b=>k b.isNone
 | .map (some _),.map none=>k false
 | _,_=>False
def eqFn (x y:Value) (k:Bool→Prop):Prop:=match x,y with
 | .nilFunc,.nilFunc=>k true
 | .nilFunc,.func _ _ _=>k false
 | .func _ _ _,.nilFunc=>k false
 | _,_=>False
def eqIf (c:Bool) (x y:Value) (k:Bool→Prop):Prop:=match x,y with
 | .nilIface,.nilIface=>c=true∧k true
 | .nilIface,.iface _ _=>k false
 | .iface _ _,.nilIface=>k false
 | _,_=>False
def xGj (x y:Value) (k:Bool→Prop):Prop:=match x,y with
 | .pointer none,.pointer b=>k b.isNone
 | .pointer (some _),.pointer none=>k false
 | _,_=>False
def eqn (op:BinOp) (q:(Bool→Prop)→Prop) (k:Value→Prop):Prop:=match op with
 | .eql=>q fun r=>k (.bool r)
 | .neq=>q fun r=>k (.bool (!r))
 | _=>False
def binW (P:Program) (op:BinOp) (c:Bool) (t:TypeId) (x y:Value) (k:Value→Prop):Prop :=
 match P.underlying t with
 | some (.int j)=>match qLq op with
  | true=>intK j x fun a=>intW y fun _ b=>xZj op j a b k
  | false=>intK j x fun a=>intK j y fun b=>qIp op j a b k
 | some .string=>strW x fun a=>strW y fun b=>qIo op a b k
 | some .bool=>eqn op (fun q=>qQp x fun a=>qQp y fun b=>q (a==b)) k
 | some (.slice _)=>eqn op (eqSl x y) k
 | some (.map _ _)=>eqn op (xGk x y) k
 | some (.func _ _ _)=>eqn op (eqFn x y) k
 | some (.interface _)=>eqn op (eqIf c x y) k
 | some (.pointer _)=>eqn op (xGj x y) k
 | _=>False
def qZk (v:Value) (i:Nat) (k:Value→Prop):Prop:=match v with
 | .tuple vs=>match vs.toList.drop i with
  | v::_=>k v
  | []=>False
 | _=>False
def unW (op:UnOp) (x:Value) (k:Value→Prop):Prop :=
 match op with
 | .neg=>intW x fun j n=>k (.int j (j.wrap (0 - n)))
 | .xor=>intW x fun j n=>k (.int j (j.wrap (BitVec.ofInt j.bits (if j.signed then -1 else j.max) ^^^ BitVec.ofInt j.bits n).toNat))
 | .not=>qQp x fun b=>k (.bool !b)
 | _=>False
def one:Value→Bool
 | .agg _ | .tuple _=>false
 | _=>true
def qQz (h:H) (n:Nat) (cs:List Value) (k:Value→H→Prop):Prop:=∀ b,h b=none→k (.slice (some ⟨b,0,none⟩) n n) (h.set b (.cells cs))
def xFx (h:H) (s:ByteArray) (k:Value→H→Prop):Prop:=∀ b,h b=none→k (.pointer (some ⟨b,0,none⟩)) (h.set b (.sit s 0))
def sbW (h:H) (x:ByteArray) (k:Value→H→Prop):Prop:=∀ b c,h b=none→x.size≤c →
 k (.slice (some ⟨b,0,none⟩) x.size c) (h.set b (.ro ((x.data.toList.map fun y=>.int .u8 y.toNat)++List.replicate (c - x.size) (.int .u8 0))))
def xYt (ns:List Int):ByteArray:=⟨(ns.map fun n=>UInt8.ofNat n.toNat).toArray⟩
def bsW (h:H) (v:Value) (k:ByteArray→Prop):Prop :=
 match v with
 | .slice none _ _=>k ByteArray.empty
 | .slice (some a) n _=>∃ ns:List Int,rdR h a n=some (ns.map (Value.int .u8))∧k (xYt ns)
 | _=>False
def xKz (h:H) (a:Addr) (k:Value→H→Prop):Prop:=a.off=0∧∃ s p,h a.block=some (.sit s p) ∧
 (s.size≤p→k (.tuple #[.bool false]) h) ∧
 (p<s.size→k (.tuple #[.bool true,.int .i64 p,.int .i32 (Utf8.decode s p).1]) (h.set a.block (.sit s (p+(Utf8.decode s p).2))))
def xLg (P:Program) (t:TypeId):Bool:=match P.underlying t with
 | some (.struct fs)=>match fs[0]? with
  | some f=>f.name == "addr" || (f.name == "Builder" && (match P.underlying f.type with
   | some (.struct gs)=>match gs[0]? with
    | some g=>g.name == "addr"
    | none=>false
   | _=>false))
  | none=>false
 | _=>false
def newW (h:H) (vs:List Value) (k:Value→H→Prop):Prop:=∀ b,h b=none→k (.pointer (some ⟨b,0,none⟩)) (h.set b (.cells vs))
def newA (P:Program) (t:TypeId) (h:H) (vs:List Value) (k:Value→H→Prop):Prop:=match xLg P t with
 | true=>∀ b,h b=none→k (.pointer (some ⟨b,0,none⟩)) (h.set b (.brow t vs))
 | false=>newW h vs k
def qBh (h:H) (base:Option Addr) (n:Nat):Option (List Value):=match base with
 | none=>some []
 | some a=>rdR h a n
def apW (h:H) (sz bytes:Nat) (z:List Value) (s:Value) (m:Nat) (ws:List Value) (k:Value→H→Prop):Prop :=
 match s with
 | .slice base len cap =>
  (len+m≤cap→match base with
   | none=>k (.slice none (len+m) cap) h
   | some a=>(ws=[]→k (.slice base (len+m) cap) h)∧(ws≠[]→ws.all one=true∧∃ h',wr h (a.add (len*sz)) ws=some h'∧k (.slice base (len+m) cap) h')) ∧
  (cap<len+m→Builtin.nextslicecap (len+m) cap*bytes≤2 ^ 48∧((len+m:Nat):Int)≤IntKind.i64.max ∧
   ∃ old,qBh h base (len*sz)=some old ∧
    ∀ b c,h b=none→len+m≤c→k (.slice (some ⟨b,0,none⟩) (len+m) c) (h.set b (.cells (old++(ws++(List.replicate (c - (len+m)) z).flatten)))))
 | _=>False
def isU8 (P:Program) (t:TypeId):Bool:=match P.underlying t with
 | some (.int .u8)=>true
 | _=>false
def xUb (P:Program) (t:TypeId):Bool:=match P.underlying t with
 | some .string=>true
 | _=>false
def qMf (str:Bool) (e:TypeId) (h:H) (s:Value):Bool:=match s with
 | .slice none _ _=>str
 | .slice (some a) _ c=>match h a.block,c with
  | some (.brow _ _),_+1=>true
  | _,_=>false
 | _=>false
def mkO (ty:Bool) (t:TypeId) (l:List Value):VObj:=bif ty then .brow t l else .cells l
def apG (ty:Bool) (e:TypeId) (h:H) (sz bytes:Nat) (z:List Value) (s:Value) (m:Nat) (ws:List Value) (k:Value→H→Prop):Prop :=
 match s with
 | .slice base len cap =>
  (len+m≤cap→match base with
   | none=>k (.slice none (len+m) cap) h
   | some a=>(ws=[]→k (.slice base (len+m) cap) h)∧(ws≠[]→ws.all one=true∧∃ h',wr h (a.add (len*sz)) ws=some h'∧k (.slice base (len+m) cap) h')) ∧
  (cap<len+m→Builtin.nextslicecap (len+m) cap*bytes≤2 ^ 48∧((len+m:Nat):Int)≤IntKind.i64.max ∧
   ∃ old,qBh h base (len*sz)=some old ∧
    ∀ b c,h b=none→len+m≤c→k (.slice (some ⟨b,0,none⟩) (len+m) c) (h.set b (mkO ty e (old++(ws++(List.replicate (c - (len+m)) z).flatten)))))
 | _=>False
def apX (str:Bool) (e:TypeId) (h:H) (bytes:Nat) (z:List Value) (s:Value) (m:Nat) (ws:List Value) (k:Value→H→Prop):Prop :=
 apG (qMf str e h s) e h 1 bytes z s m ws k
def srcW (h:H) (sz:Nat) (x:Value) (n:Nat) (k:List Value→Prop):Prop :=
 match x with
 | .slice none _ _=>k []
 | .slice (some a) _ _=>∃ ws,rdR h a (n*sz)=some ws∧k ws
 | .string s=>k ((s.extract 0 n).data.toList.map fun b=>.int .u8 b.toNat)
 | _=>False
def qXi (x:Value) (k:Nat→Prop):Prop :=
 match x with
 | .slice _ n _=>k n
 | .string s=>k s.size
 | _=>False
def qKa (h:H) (bytes:Nat) (z:List Value) (n m:Int) (k:Value→H→Prop):Prop :=
 0≤n∧n≤m∧(bytes:Int)*m≤2 ^ 48∧m≤2 ^ 48 ∧
  ∀ b,h b=none→k (.slice (some ⟨b,0,none⟩) n.toNat m.toNat) (h.set b (.cells (List.replicate m.toNat z).flatten))
def cpW (h:H) (d:Value) (n:Nat) (ws:List Value) (k:Value→H→Prop):Prop :=
 match d with
 | .slice base len _=>(ws=[]→k (.int .i64 (min n len:Nat)) h)∧(ws≠[]→match base with
   | none=>k (.int .i64 (min n len:Nat)) h
   | some a=>ws.all one=true∧∃ h',wr h a ws=some h'∧k (.int .i64 (min n len:Nat)) h')
 | _=>False
def keyD (P:Program) (t:TypeId):Option TypeDesc:=match P.underlying t with
 | some (.int j)=>some (.int j)
 | some .string=>some .string
 | _=>none
def mapK (h:H) (m:Value) (k:List MapEntry→Prop):Prop:=match m with
 | .map none=>k []
 | .map (some r)=>∃ es c,h r=some (.map es c)∧k es
 | _=>False
def qSn (d:TypeDesc) (n:Value) (es:List MapEntry) (z:Value) (k:Value→Bool→Prop):Prop:=match Instr.findNow d n es 0 with
 | some (some (_,v))=>k v true
 | some none=>k z false
 | none=>False
def mapU (h:H) (m:Value) (d:TypeDesc) (n x:Value) (k:H→Prop):Prop:=match m with
 | .map (some r)=>∃ es c,h r=some (.map es c)∧match Instr.findNow d n es 0 with
  | some (some (i,_))=>k (h.set r (.map (es.modify i fun e=>{ e with key:=n,val:=x }) c))
  | some none=>k (h.set r (.map (es++[{ key:=n,val:=x,born:=c }]) (c+1)))
  | none=>False
 | _=>False
def xCv (h:H) (k:Value→H→Prop):Prop:=∀ b,h b=none→k (.map (some b)) (h.set b (.map [] 0))
def clW (h:H) (z:List Value) (s:Value) (k:H→Prop):Prop:=match s with
 | .slice none _ _=>k h
 | .slice (some a) n _=>(n=0→k h)∧(n≠0→(List.replicate n z).flatten.all one=true∧∃ h',wr h a (List.replicate n z).flatten=some h'∧k h')
 | _=>False
def eqFs (P:Program):List Field→List Value→List Value→(Bool→Prop)→Prop
 | [],_,_,k=>k true
 | f::fs,xs,ys,k=>match P.underlying f.type with
  | some (.int j)=>qEu false xs f.offset 1 fun x=>qEu false ys f.offset 1 fun y=>intK j x fun a=>intK j y fun b=>eqFs P fs xs ys fun r=>k ((a==b) && r)
  | some .string=>qEu false xs f.offset 1 fun x=>qEu false ys f.offset 1 fun y=>strW x fun a=>strW y fun b=>eqFs P fs xs ys fun r=>k ((a.toList==b.toList) && r)
  | some .bool=>qEu false xs f.offset 1 fun x=>qEu false ys f.offset 1 fun y=>qQp x fun a=>qQp y fun b=>eqFs P fs xs ys fun r=>k ((a==b) && r)
  | _=>False
def xUs (P:Program) (t:TypeId) (fs:List Field):Bool:=!P.eqGuardType P.depth t && (!P.stoodInHeld t && fs.all fun f=>f.name != "_" && !aggB P f.type)
def eqIs (j:IntKind):Nat→List Value→List Value→(Bool→Prop)→Prop
 | 0,[],[],k=>k true
 | n+1,x::xs,y::ys,k=>intK j x fun a=>intK j y fun b=>eqIs j n xs ys fun r=>k ((a==b) && r)
 | _,_,_,_=>False
def xUr (P:Program) (t el:TypeId):Option IntKind:=match P.underlying el with
 | some (.int j)=>match (P.info? el).isSome && (!P.eqGuardType P.depth t && (!aggB P el && Nat.beq (P.cellsOf el) 1)) with
  | true=>some j
  | false=>none
 | _=>none
def binA (P:Program) (op:BinOp) (t:TypeId) (x y:Value) (k:Value→Prop):Prop:=match P.underlying t with
 | some (.array n el)=>match xUr P t el with
  | some j=>eqn op (fun q=>aggW x fun xs=>aggW y fun ys=>eqIs j n xs ys q) k
  | none=>False
 | some (.struct fs)=>match xUs P t fs.toList with
  | true=>eqn op (fun q=>aggW x fun xs=>aggW y fun ys=>eqFs P fs.toList xs ys q) k
  | false=>False
 | _=>False
def qSr (P:Program) (t:TypeId):Bool:=match P.underlying t with | some (.interface _) | some (.pointer _)=>true | _=>false
def qLr (h:H) (a:Addr):Prop:=a.spot=none∧∃ l,h a.block=some (.cells l)∧a.off<l.length
def xAm (P:Program) (t:TypeId):Bool:=match P.info? t with | some i=>i.comparable | none=>false
def xUd (P:Program) (t:TypeId):Bool:=match P.underlying t with
 | some (.int _)=>true
 | _=>false
def ptrE (P:Program) (h:H) (t:TypeId) (a b:Addr) (k:Bool→Prop):Prop:=match P.underlying t with
 | some (.pointer el)=>((P.info? el).isSome=true∧szOf P el≠0)∧qLr h a∧qLr h b∧k (decide (a=b))
 | _=>False
def refE (P:Program) (h:H) (t:TypeId) (x y:Value) (k:Bool→Prop):Prop:=match P.underlying t,x,y with
 | some (.pointer _),.pointer none,.pointer b=>k b.isNone
 | some (.pointer _),.pointer (some _),.pointer none=>k false
 | some (.pointer _),.pointer (some a),.pointer (some b)=>ptrE P h t a b k
 | some (.interface _),.nilIface,.iface _ _=>k false
 | some (.interface _),.iface _ _,.nilIface=>k false
 | some (.interface _),.iface t1 (.pointer (some a)),.iface t2 (.pointer (some b))=>match Nat.beq t1 t2 with
  | false=>k false
  | true=>xAm P t1=true∧ptrE P h t1 a b k
 | some (.interface _),.iface t1 (.int i a),.iface t2 (.int j b)=>match Nat.beq t1 t2 with
  | false=>k false
  | true=>xAm P t1=true∧xUd P t1=true∧i=j∧k (a==b)
 | _,_,_=>False
def refW (P:Program) (h:H) (op:BinOp) (t:TypeId) (x y:Value) (k:Value→Prop):Prop:=eqn op (refE P h t x y) k
inductive X
 | n
 | e (id:Nat)
 | r
 | p (c:List PanicEntry)
abbrev Kv:=Value→H→Prop
abbrev Kp:=List PanicEntry→H→Prop
abbrev Kx:=X→Env→H→Prop
abbrev Orc:=FuncId→List Value→H→Kv→Kp→Prop
abbrev Kl:=X→List Value→H→Prop
abbrev Lor:=Code→List Value→H→Kl→Prop
def qJb (place:Nat→Option (Nat × Nat × Bool)) (e:Env):List (Nat × Operand)→List Value→(List Value→Prop)→Prop
 | [],cs,k=>k cs
 | (i,x)::ps,cs,k=>ev e x fun v =>
  match place i with
  | none=>False
  | some (off,n,true)=>aggW v fun vs=>vs.length=n∧off+n≤cs.length∧qJb place e ps (splice cs off vs) k
  | some (off,_,false)=>one v=true∧off<cs.length∧qJb place e ps (splice cs off [v]) k
def plc (P:Program) (off:Nat) (t:TypeId):Option (Nat × Nat × Bool) :=
 match aggB P t,szOf P t with
 | true,n=>some (off,n,true)
 | false,1=>some (off,1,false)
 | _,_=>none
def qZi (P:Program) (t:TypeId) (i:Nat):Option (Nat × Nat × Bool) :=
 match P.underlying t with
 | some (.struct fs)=>match fs[i]? with
  | some f=>plc P f.offset f.type
  | none=>none
 | some (.array _ e)=>plc P (i*szOf P e) e
 | _=>none
def qWu (P:Program) (t:TypeId) (i:Nat):Option (Nat × Nat × Bool) :=
 match P.underlying t with
 | some (.slice e)=>plc P (i*szOf P e) e
 | _=>none
def known (P:Program) (t:TypeId):Bool:=(P.info? t).isSome
def qDq (P:Program) (t:TypeId):Bool :=
 match P.underlying t with
 | some (.struct fs)=>fs.toList.all fun f=>(P.info? f.type).isSome
 | some (.array _ e)=>(P.info? e).isSome
 | _=>false
def zOk (P:Program) (t:TypeId):Bool:=(qAp P t).isSome && ((qZz P t).length==szOf P t && decide (0<szOf P t))
def qXr (P:Program) (t:TypeId):Option TypeId :=
 match P.underlying t with
 | some (.slice e)=>some e
 | _=>none
def qZr (P:Program) (f:FuncId):Bool :=
 match P.funcs[f]? with
 | some fn=>fn.name != "runtime.NumGoroutine" && fn.body.isSome
 | none=>false
def qIz (P:Program) (t:TypeId):List TypeId :=
 match P.underlying t with
 | some (.tuple ts)=>ts.toList
 | _=>[t]
def qGo (P:Program) (C:Orc) (t:TypeId) (f:FuncId) (args:List Value) (h:H) (k:Kv) (kp:Kp):Prop :=
 match qZr P f with
 | true=>C f args h (fun v h'=>exR P (qIz P t) fun v'=>v=v'∧k v' h') kp
 | false=>False
def qBz (P:Program) (C:Orc) (t:TypeId) (f:Value) (args:List Value) (h:H) (k:Kv) (kp:Kp):Prop :=
 match f with
 | .func (.func g) first cap=>qGo P C t g (first.toList++(args++cap.toList)) h k kp
 | .func (.yield l) first _=>C (P.funcs.size+l) (first.toList++args) h k kp
 | _=>False
def xPo (P:Program) (t:TypeId) (name:String):Option FuncId :=
 match (P.info? t).bind fun i=>i.methods.find? (·.name==name) with
 | some { path,func:=some (f,ptr),.. } =>
  match path.isEmpty,P.underlying t,ptr with
  | true,some (.pointer _),true=>some f
  | true,some (.pointer _),false=>none
  | true,some _,false=>some f
  | _,_,_=>none
 | _=>none
def invW (P:Program) (C:Orc) (t:TypeId) (r:Value) (name:String) (args:List Value) (h:H) (k:Kv) (kp:Kp):Prop :=
 match r with
 | .iface u x=>match xPo P u name with
  | some f=>qGo P C t f (x::args) h k kp
  | none=>False
 | _=>False
inductive Cv | ints (k:IntKind) | same | bs | sb | rs | mark | no
def cvOf (P:Program) (s d:TypeId):Cv :=
 match P.underlying s,P.underlying d with
 | some (.int _),some (.int k)=>.ints k
 | some .string,some .string=>.same
 | some (.int _),some .string=>.rs
 | some (.slice e),some .string=>match P.underlying e with
  | some (.int .u8)=>.bs
  | _=>.no
 | some .string,some (.slice e)=>match P.underlying e with
  | some (.int .u8)=>.sb
  | _=>.no
 | some (.slice e),some (.slice _)=>match s==d,P.underlying e with
  | true,some (.int .u8)=>.mark
  | _,_=>.no
 | _,_=>.no
def xBb (h:H) (v:Value) (k:Kv):Prop:=match v with
 | .slice (some a) n c=>∃ l,h a.block=some (.cells l)∧k (.slice (some a) n c) (h.set a.block (.ro l))
 | _=>False
def xAh (P:Program) (s d:TypeId) (v:Value) (h:H) (k:Kv):Prop :=
 match cvOf P s d with
 | .ints j=>intW v fun _ n=>k (.int j (j.wrap n)) h
 | .same=>strW v fun x=>k (.string x) h
 | .rs=>intW v fun _ n=>k (.string (Utf8.encode n)) h
 | .bs=>bsW h v fun x=>k (.string x) h
 | .sb=>strW v fun x=>sbW h x k
 | .mark=>xBb h v k
 | .no=>False
def qPa (mx:Bool) (j:IntKind):Int→List Value→(Value→Prop)→Prop
 | a,[],k=>k (.int j a)
 | a,.int j' b::vs,k=>j=j'∧qPa mx j (bif mx then (if a<b then b else a) else (if b<a then b else a)) vs k
 | _,_::_,_=>False
def qKb (mx:Bool) (vs:List Value) (k:Value→Prop):Prop :=
 match vs with
 | .int j a::vs=>qPa mx j a vs k
 | _=>False
def xYu (P:Program) (t:TypeId):Bool:=match P.underlying t with | some (.slice _) | some .string=>true | _=>false
def bltW (P:Program) (b:Builtin) (ts:List TypeId) (vs:List Value) (h:H) (k:Kv) (kp:Kp):Prop :=
 match b,ts,vs with
 | .len,[t],[v]=>match P.underlying t with
  | some .string=>strW v fun s=>k (.int .i64 s.size) h
  | some (.slice _)=>lenW v fun n=>k (.int .i64 n) h
  | some (.array n _)=>k (.int .i64 n) h
  | some (.map _ _)=>match v with
   | .map none=>k (.int .i64 0) h
   | .map (some r)=>∃ es c,h r=some (.map es c)∧k (.int .i64 es.length) h
   | _=>False
  | _=>False
 | .append,[t,u],[s,x]=>match qXr P t,zOk P ((qXr P t).getD 0) && xYu P u with
  | some e,true=>qXi x fun n=>srcW h (szOf P e) x n fun ws=>match isU8 P e && (szOf P e==1) with
   | true=>apX (xUb P u) e h (qVp P e) (qZz P e) s n ws k
   | false=>apW h (szOf P e) (qVp P e) (qZz P e) s n ws k
  | _,_=>False
 | .copy,[t,_],[d,x]=>match qXr P t,zOk P ((qXr P t).getD 0) with
  | some e,true=>qXi x fun n=>qXi d fun m=>srcW h (szOf P e) x (min n m) fun ws=>cpW h d n ws k
  | _,_=>False
 | .clear,[t],[s]=>match qXr P t,zOk P ((qXr P t).getD 0) with
  | some e,true=>clW h (qZz P e) s fun h'=>k (.tuple #[]) h'
  | _,_=>False
 | .min,_,vs=>qKb false vs fun v=>k v h
 | .max,_,vs=>qKb true vs fun v=>k v h
 | .panic,_,[.iface t v]=>kp [{ v:=.iface t v,recovered:=false }] h
 | _,_,_=>False
def qUk (P:Program) (x:Value) (t:TypeId) (ok:Bool) (k:Value→Prop):Prop :=
 match P.underlying t with
 | some (.interface _)=>False
 | some _=>match ok with
  | true=>match x with
   | .nilIface=>match qAp P t with
    | some z=>k (.tuple #[z,.bool false])
    | none=>False
   | .iface u v=>match qAp P t with
    | some z=>(u=t→k (.tuple #[v,.bool true]))∧(u≠t→k (.tuple #[z,.bool false]))
    | none=>False
   | _=>False
  | false=>match x with
   | .iface u v=>u=t∧k v
   | _=>False
 | none=>False
def panW (v:Value) (h:H) (kp:Kp):Prop:=match v with
 | .iface t w=>kp [{ v:=.iface t w,recovered:=false }] h
 | _=>False
def opW (P:Program) (C:Orc) (o:Oper) (e:Env) (h:H) (k:Kv) (kp:Kp):Prop :=
 match o.op with
 | .move x | .assign x=>ev e x fun v=>k v h
 | .pick c a b=>ev e c fun v=>qQp v fun t=>bif t then ev e a fun v=>k v h else ev e b fun v=>k v h
 | .alloc t=>match zOk P t with
  | true=>newA P t h (qZz P t) k
  | false=>False
 | .box t x=>ev e x fun v=>match aggB P t with
  | true=>aggW v fun cs=>newA P t h cs k
  | false=>one v=true∧newW h [v] k
 | .build t ps=>match zOk P t,qDq P t with
  | true,true=>qJb (qZi P t) e ps.toList (qZz P t) fun cs=>k (.agg cs.toArray) h
  | _,_=>False
 | .buildSlice t n ps=>match qXr P t,zOk P ((qXr P t).getD 0),decide (n*szOf P ((qXr P t).getD 0)≤2 ^ 24) with
  | some el,true,true=>qJb (qWu P t) e ps.toList (List.replicate n (qZz P el)).flatten fun cs=>qQz h n cs k
  | _,_,_=>False
 | .load t x=>ev e x fun v=>ptrW v fun a=>match aggB P t with
  | true=>match leafs P 20 t with
   | some ts=>exL P ts fun vs=>rdN h a (szOf P t)=some vs∧k (.agg vs.toArray) h
   | none=>False
  | false=>match P.underlying t with
   | some _=>qUc P t fun v=>rd h a=some v∧k v h
   | none=>False
 | .store t x y=>ev e x fun v=>ptrW v fun a=>ev e y fun u=>match aggB P t with
  | true=>aggW u fun cs=>cs.length=szOf P t∧cs.all one=true∧∃ h',wr h a cs=some h'∧k (.tuple #[]) h'
  | false=>match P.underlying t with
   | some _=>one u=true∧szOf P t=1∧∃ h',wr1 h a u=some h'∧k (.tuple #[]) h'
   | none=>False
 | .nilCheck x=>ev e x fun v=>qQh v=true∧k v h
 | .binOp op t x y _=>ev e x fun a=>ev e y fun b=>match qSr P t && !(qXj x || qXj y) with
  | true=>refW P h op t a b fun v=>k v h
  | false=>match aggB P t with
   | false=>binW P op (qXj x || qXj y) t a b fun v=>k v h
   | true=>binA P op t a b fun v=>k v h
 | .unOp op _ x=>ev e x fun a=>unW op a fun v=>k v h
 | .convert s d x=>ev e x fun v=>xAh P s d v h k
 | .makeInterface t x=>ev e x fun v=>match P.underlying t with
  | some (.interface _)=>False
  | some _=>k (.iface t v) h
  | none=>False
 | .makeFunc (.func f) first cap=>evs e first.toList fun a=>evs e cap.toList fun b=>k (.func (.func f) a.toArray b.toArray) h
 | .makeSlice t l c=>ev e l fun l=>ev e c fun c=>intW l fun _ n=>intW c fun _ m=>match qXr P t,zOk P ((qXr P t).getD 0) with
  | some el,true=>qKa h (qVp P el) (qZz P el) n m k
  | _,_=>False
 | .makeMap t r=>evo e r fun r=>optI r fun _=>match P.underlying t with
  | some (.map _ _)=>xCv h k
  | _=>False
 | .lookup t x i ok=>ev e x fun v=>ev e i fun n=>match P.underlying t with
  | some (.map key el)=>match keyD P key,qAp P el with
   | some d,some z=>mapK h v fun es=>qSn d n es z fun u b=>exT P el fun u'=>u=u'∧k (bif ok then .tuple #[u',.bool b] else u') h
   | _,_=>False
  | _=>False
 | .mapUpdate t m n x=>ev e m fun m=>ev e n fun n=>ev e x fun x=>match P.underlying t with
  | some (.map key _)=>match keyD P key with
   | some d=>mapU h m d n x fun h'=>k (.tuple #[]) h'
   | none=>False
  | _=>False
 | .slice t x lo hi mx=>ev e x fun v=>evo e lo fun lo=>evo e hi fun hi=>evo e mx fun mx=>optI lo fun lo=>optI hi fun hi=>optI mx fun mx =>
  match P.underlying t,mx with
  | some .string,none=>strW v fun s=>qXm s lo hi fun s=>k (.string s) h
  | some (.slice el),mx=>match known P el with
   | true=>qXy v lo hi mx (szOf P el) fun s=>k s h
   | false=>False
  | some (.array n el),none=>ptrW v fun a=>match known P el with
   | true=>qXy (.slice (some a) n n) lo hi none (szOf P el) fun s=>k s h
   | false=>False
  | _,_=>False
 | .fieldAddr s x f=>ev e x fun v=>ptrW v fun a=>match P.underlying s with
  | some (.struct fs)=>match fs[f]? with
   | some fd=>match szOf P fd.type with
    | 0=>False
    | _+1=>k (.pointer (some (a.add fd.offset))) h
   | none=>False
  | _=>False
 | .field t x f=>ev e x fun v=>aggW v fun cs=>match P.underlying t with
  | some (.struct fs)=>match fs[f]? with
   | some fd=>match P.underlying fd.type with
    | some _=>qEu (aggB P fd.type) cs fd.offset (szOf P fd.type) fun v=>k v h
    | none=>False
   | none=>False
  | _=>False
 | .indexAddr t x i=>ev e x fun v=>ev e i fun i=>intW i fun _ n=>match P.underlying t with
  | some (.slice el)=>match known P el with
   | true=>qQm v n (szOf P el) fun a=>k (.pointer (some a)) h
   | false=>False
  | some (.array len el)=>match known P el && decide (2≤len) with
   | false=>False
   | true=>ptrW v fun a=>0≤n∧n<(len:Int)∧k (.pointer (some (a.add (n.toNat*szOf P el)))) h
  | _=>False
 | .index t x i=>ev e x fun v=>ev e i fun i=>intW i fun _ n=>match P.underlying t with
  | some .string=>strW v fun s=>qZc s n fun b=>k (.int .u8 b) h
  | _=>False
 | .range t x=>ev e x fun v=>match P.underlying t with
  | some .string=>strW v fun s=>xFx h s k
  | _=>False
 | .next x true=>ev e x fun v=>ptrW v fun a=>xKz h a k
 | .typeAssert x _ t ok=>ev e x fun v=>qUk P v t ok fun v=>k v h
 | .extract x i=>ev e x fun v=>qZk v i fun v=>k v h
 | .call c=>match c.callee with
  | .builtin b=>evs e c.args.toList fun vs=>bltW P b c.argTypes.toList vs h k kp
  | .value (.func f)=>evs e c.args.toList fun vs=>qGo P C o.type f vs h k kp
  | .value f=>ev e f fun f=>evs e c.args.toList fun vs=>qBz P C o.type f vs h k kp
  | .invoke r name=>ev e r fun r=>evs e c.args.toList fun vs=>invW P C o.type r name vs h k kp
 | .panic x=>ev e x fun v=>panW v h kp
 | _=>False
def again (P:Program) (r:Oper) (e:Env) (h:H):Prop :=
 match r.op,r.dst with
 | .load t x,some d=>ev e x fun v=>ptrW v fun a=>getk e d fun w=>match aggB P t with
  | true=>aggW w fun cs=>rdN h a (szOf P t)=some cs
  | false=>rd h a=some w
 | _,_=>False
def qYx (P:Program):List Oper→Env→H→Prop→Prop
 | [],_,_,k=>k
 | r::rs,e,h,k=>again P r e h∧qYx P rs e h k
def qAj (ops:Array Oper) (j:Nat):Option Nat:=(ops[j]?).bind (·.dst)
def rgn (P:Program) (C:Orc) (ops:Array Oper):List (Oper × List Oper)→Env→H→(Env→H→Prop)→Kp→Prop
 | [],e,h,k,_=>k e h
 | (o,chk)::rest,e,h,k,kp =>
  match o.guard with
  | none=>opW P C o e h (fun v h'=>putk e o.dst (some v) fun e'=>qYx P chk e' h' (rgn P C ops rest e' h' k kp)) kp
  | some (j,want)=>match qAj ops j with
   | none=>False
   | some s=>getk e s fun c=>grdW c (fun t =>
    bif (bif want then t else !t)
    then setk e s (some (.bool want)) fun e=>opW P C o e h (fun v h'=>putk e o.dst (some v) fun e'=>qYx P chk e' h' (rgn P C ops rest e' h' k kp)) kp
    else setk e s (some (.bool (!want))) fun e=>putk e o.dst (some undef) fun e'=>rgn P C ops rest e' h k kp)
    (putk e o.dst (some undef) fun e'=>rgn P C ops rest e' h k kp)
inductive Cl | p | r | a | e
 deriving DecidableEq
def clOf (P:Program) (o:Op):Cl :=
 match o with
 | .move _ | .assign _ | .pick .. | .build .. | .nilCheck _ | .unOp .. | .makeInterface .. | .makeFunc .. | .slice .. | .fieldAddr .. | .field ..
 | .indexAddr .. | .index .. | .typeAssert .. | .extract ..=>.p
 | .binOp _ t x y _=>match qSr P t && !(qXj x || qXj y) with
  | true=>.e
  | false=>.p
 | .convert s d _=>match cvOf P s d with
  | .ints _ | .same | .rs=>.p
  | _=>.e
 | .load ..=>.r
 | .alloc _ | .box .. | .buildSlice .. | .makeSlice ..=>.a
 | .call { callee:=.builtin .len,argTypes,.. }=>match (argTypes.toList.head?).bind P.underlying with
  | some .string | some (.slice _) | some (.array _ _)=>.p
  | _=>.e
 | .call { callee:=.builtin .min,.. } | .call { callee:=.builtin .max,.. }=>.p
 | _=>.e
def edges (o:Oper):List Nat:=o.after.toList.filterMap fun x=>if Region.binds .any x then some x.on else none
def qFo (ops:List Oper) (done:List Nat) (i:Nat):Bool:=match ops[i]? with
 | some o=>(edges o).all done.contains
 | none=>false
def qBg (P:Program) (ops:List Oper):Nat→List Nat→List Nat→List Nat
 | 0,_,acc=>acc.reverse
 | n+1,left,acc =>
  match (left.find? fun i=>qFo ops acc i && (clOf P ((ops[i]?).map (·.op) |>.getD (.ready 0)) != .e)) with
  | some i=>qBg P ops n (left.filter (· != i)) (i::acc)
  | none=>match left.find? fun i=>qFo ops acc i with
   | some i=>qBg P ops n (left.filter (· != i)) (i::acc)
   | none=>acc.reverse
def nubN:List Nat→List Nat→List Nat
 | [],acc=>acc
 | x::xs,acc=>match acc.any (Nat.beq x) with
  | true=>nubN xs acc
  | false=>nubN xs (x::acc)
theorem qLl {y:Nat}:∀ (l acc:List Nat),y∈nubN l acc→y∈l∨y∈acc
 | [],acc,h=>.inr h
 | x::xs,acc,h=>by
  unfold nubN at h
  split at h
  ·rcases qLl xs acc h with h | h
   ·exact .inl (List.mem_cons_of_mem _ h)
   ·exact .inr h
  ·rcases qLl xs (x::acc) h with h | h
   ·exact .inl (List.mem_cons_of_mem _ h)
   ·rcases List.mem_cons.mp h with h | h
    ·exact .inl (h ▸ List.mem_cons_self ..)
    ·exact .inr h
def ancs (ops:List Oper):List Nat→List (Nat × List Nat)→List (Nat × List Nat)
 | [],acc=>acc
 | i::is,acc=>ancs ops is ((i,match ops[i]? with
  | some o=>nubN ((edges o).flatMap fun j=>j::(((acc.find? fun x=>x.1==j).map (·.2)).getD [])) []
  | none=>[])::acc)
def qMh (an:List (Nat × List Nat)) (i:Nat):List Nat:=((an.find? fun x=>x.1==i).map (·.2)).getD []
def chkOf (P:Program) (ops:List Oper) (an:List (Nat × List Nat)) (ahead:List Nat) (i:Nat):List Nat:=match ops[i]? with
 | some o=>match clOf P o.op with
  | .e=>ahead.filter fun j=>match ops[j]? with
   | some r=>clOf P r.op==.r && !(qMh an i).contains j
   | none=>false
  | _=>[]
 | none=>[]
def qHm (P:Program) (ops:List Oper) (an:List (Nat × List Nat)):List Nat→List Nat→List (Nat × List Nat)
 | _,[]=>[]
 | ahead,i::is=>(i,chkOf P ops an ahead i)::qHm P ops an (i::ahead) is
def item (ops:List Oper) (x:Nat × List Nat):Option (Oper × List Oper):=(ops[x.1]?).map fun o=>(o,x.2.filterMap (ops[·]?))
def canon (P:Program) (ops:List Oper):List (Nat × List Nat) :=
 let order:=qBg P ops ops.length (List.range ops.length) []
 qHm P ops (ancs ops order []) [] order
def quiet (ops:Array Oper) (r x:Oper):Bool:=match x.dst with
 | some d=>!(r.looksAt ops).contains d && r.dst != some d
 | none=>true
def qWn (ops:List Oper) (i:Nat):List Nat:=match ops[i]? with
 | some o=>edges o
 | none=>[]
def xCr (ops:Array Oper) (x:Oper):Bool:=match x.dst with
 | some d=>!(x.looksAt ops).contains d
 | none=>true
def qOd (P:Program) (ops:List Oper) (an:List (Nat × List Nat)) (x:Nat) (y:Nat × List Nat):Bool :=
 match ops[x]?,ops[y.1]? with
 | some ox,some oy=>(quiet ops.toArray ox oy || clOf P ox.op != .r || clOf P oy.op==.e) && ((qMh an y.1).contains x ||
   (ox.apart ops.toArray oy && clOf P ox.op != .e && ((clOf P oy.op != .e && y.2.isEmpty) || clOf P ox.op==.p || (clOf P ox.op==.r && y.2.contains x && xCr ops.toArray ox))))
 | _,_=>false
def qVr (P:Program) (ops:List Oper) (an:List (Nat × List Nat)):List (Nat × List Nat)→Bool
 | []=>true
 | x::rest=>(match ops[x.1]? with | some o=>clOf P o.op==.e || x.2.isEmpty | none=>false) && rest.all (qOd P ops an x.1) && qVr P ops an rest
def qLf (ops:List Oper):List Nat→List Nat→Bool
 | _,[]=>true
 | done,i::is=>qFo ops done i && !done.contains i && qLf ops (i::done) is
def qOc (P:Program) (ops:List Oper):Bool :=
 let order:=qBg P ops ops.length (List.range ops.length) []
 let an:=ancs ops order []
 order.length==ops.length && (List.range ops.length).all order.contains && qLf ops [] order && qVr P ops an (qHm P ops an [] order)
def addE (ops:Array Oper) (i j:Nat):Array Oper:=ops.modify j fun o=>{ o with after:=o.after.push ⟨i,.chain⟩ }
def xYx (P:Program) (ops:Array Oper):Option (Nat × Nat) :=
 match qOc P ops.toList with
 | true=>none
 | false=>((List.range ops.size).flatMap fun i=>(List.range i).map fun j=>(j,i)).find? fun x=>qOc P (addE ops x.1 x.2).toList && qOc P (addE ops x.2 x.1).toList
def rgnC (P:Program) (C:Orc) (ops:Array Oper) (e:Env) (h:H) (k:Env→H→Prop) (kp:Kp):Prop:=rgn P C ops ((canon P ops.toList).filterMap (item ops.toList)) e h k kp
def rgnD (P:Program) (C:Orc) (ops:Array Oper) (e:Env) (h:H) (k:Env→H→Prop) (kp:Kp):Prop:=match xYx P ops with
 | none=>rgnC P C ops e h k kp
 | some (i,j)=>rgnC P C (addE ops i j) e h k kp∧rgnC P C (addE ops j i) e h k kp
structure Lv where
 n:Nat
 par:List Kd
 head:Nat→List (Nat × Kd)
 ext:Nat→List (Nat × List (Nat × Kd))
 ret:List (Nat × Kd)
 mid:Nat→Option (List (Nat × Kd))
def qWm:Code→Option Nat
 | .region id _ _=>some id
 | .seq a b=>match qWm a with
  | some i=>some i
  | none=>qWm b
 | .cond _ a b=>match qWm a with
  | some i=>some i
  | none=>qWm b
 | .block _ a=>qWm a
 | .loop a=>qWm a
 | .scope a=>qWm a
 | _=>none
def fits (n:Nat) (e:Env) (k:Prop):Prop:=match Nat.beq e.length n with
 | true=>k
 | false=>False
def keepk (n:Nat) (l:List (Nat × Kd)) (e:Env) (k:Env→Prop):Prop:=fits n e (projk e l fun vs=>buildk n l vs 0 k)
def jump (_id:Nat) (n:Nat) (l:List (Nat × Kd)) (e:Env) (h:H) (F:Env→H→Prop):Prop:=keepk n l e fun e=>F e h
def meet (lv:Lv) (b:Code) (e:Env) (h:H) (F:Env→H→Prop):Prop :=
 match qWm b with
 | some i=>match lv.mid i with
  | some l=>jump i lv.n l e h F
  | none=>F e h
 | none=>F e h
def pick (i:Nat) (f:Nat→List (Nat × Kd)→Prop):List (Nat × List (Nat × Kd))→Prop
 | []=>False
 | (j,l)::r=>bif Nat.beq i j then f j l else pick i f r
def xs (x:X) (r:Prop) (e:Nat→Prop) (p:List PanicEntry→Prop):Prop:=match x with
 | .n=>False
 | .r=>r
 | .e i=>e i
 | .p c=>p c
def leave (lv:Lv) (id:Nat) (K:Kx):Kl:=fun x vs h =>
 xs x (buildk lv.n lv.ret vs 0 fun e=>K .r e h) (fun i=>pick i (fun j l=>buildk lv.n l vs 0 fun e=>K (.e j) e h) (lv.ext id)) (fun c=>K (.p c) [] h)
def quit (lv:Lv) (id:Nat) (K:Kl) (x:X) (e:Env) (h:H):Prop :=
 match x with
 | .n=>False
 | .r=>fits lv.n e (projk e lv.ret fun vs=>K .r vs h)
 | .e i=>fits lv.n e (pick i (fun j l=>projk e l fun vs=>K (.e j) vs h) (lv.ext id))
 | .p c=>K (.p c) [] h
def exec (P:Program) (C:Orc) (L:Lor) (lv:Lv):Code→Env→H→Kx→Prop
 | .skip,e,h,K=>K .n e h
 | .region _ ops draw,e,h,K=>match draw with
  | false=>rgn P C ops (ops.toList.map fun o=>(o,[])) e h (K .n) (fun c h=>K (.p c) [] h)
  | true=>rgnD P C ops e h (K .n) (fun c h=>K (.p c) [] h)
 | .seq a b,e,h,K=>exec P C L lv a e h fun x e h=>match x with
  | .n=>meet lv b e h fun e h=>exec P C L lv b e h K
  | .e i=>K (.e i) e h
  | .r=>K .r e h
  | .p c=>K (.p c) e h
 | .cond c a b,e,h,K=>ev e c fun v=>qQp v fun t=>bif t then exec P C L lv a e h K else exec P C L lv b e h K
 | .block id a,e,h,K=>exec P C L lv a e h fun x e h=>match x with
  | .n=>K .n e h
  | .e i=>match Nat.beq i id with
   | true=>K .n e h
   | false=>K (.e i) e h
  | .r=>K .r e h
  | .p c=>K (.p c) e h
 | .loop a,e,h,K=>match qWm a with
  | some i=>fits lv.n e (projk e (lv.head i) fun vs=>L a vs h (leave lv i K))
  | none=>False
 | .exit id,e,h,K=>K (.e id) e h
 | .ret,e,h,K=>K .r e h
 | _,_,_,_=>False
def round (P:Program) (C:Orc) (L:Lor) (lv:Lv) (a:Code) (again:List Value→H→Prop) (K:Kl) (vs:List Value) (h:H):Prop :=
 match qWm a with
 | some i=>buildk lv.n (lv.head i) vs 0 fun e=>exec P C L lv a e h fun x e h=>match x with
  | .n=>fits lv.n e (projk e (lv.head i) fun vs=>again vs h)
  | .e j=>quit lv i K (.e j) e h
  | .r=>quit lv i K .r e h
  | .p c=>quit lv i K (.p c) e h
 | none=>False
def resW (P:Program) (h:H) (e:Env):List ResultVar→(List Value→Prop)→Prop
 | [],k=>k []
 | .tmp t::rs,k=>getk e t fun v=>resW P h e rs fun vs=>k (v::vs)
 | .cell t ty::rs,k=>getk e t fun v=>ptrW v fun a=>match aggB P ty with
  | true=>match leafs P 20 ty with
   | some ts=>exL P ts fun cs=>rdN h a (szOf P ty)=some cs∧resW P h e rs fun vs=>k (.agg cs.toArray::vs)
   | none=>False
  | false=>match P.underlying ty with
   | some _=>qUc P ty fun v=>rd h a=some v∧resW P h e rs fun vs=>k (v::vs)
   | none=>False
def xXx:List Value→Value
 | [v]=>v
 | vs=>.tuple vs.toArray
def qJw (n:Nat) (args:List Value):Env:=args.map some++List.replicate (n - args.length) none
def xEa (P:Program) (C:Orc) (L:Lor) (lv:Lv) (fn:Func) (args:List Value) (h:H) (k:Kv) (kp:Kp):Prop :=
 match fn.body with
 | some c=>qUw lv.par args fun args=>exec P C L lv c (qJw fn.ntmps args) h fun x e h=>match x with
  | .n | .r=>resW P h e fn.results.toList fun vs=>k (xXx vs) h
  | .p c=>kp c h
  | .e _=>False
 | none=>False
def EnvR (e:Env) (tmps:Array Value):Prop:=e.length=tmps.size∧∀ (s:Nat) (v:Value),e[s]?=some (some v)→tmps[s]?=some v
def qAo (x:Option Obj):VObj→Prop
 | .cells l=>∃ t fz,x=some (.cells l.toArray t fz)∧∀ j,j≤l.length→¬ (fz.1≤j∧j<fz.2)
 | .ro l=>∃ t fz,x=some (.cells l.toArray t fz)
 | .map es c=>x=some (.map es.toArray c)
 | .sit s p=>x=some (.stringIter s p)
 | .dfr=>x=some (.deferred (some []))
 | .lp st pd e q=>∃ tmps,EnvR e tmps∧x=some (.loop { state:=st,pending:=pd,fn:=q.fn,tmps:=tmps,params:=q.params,assign:=q.assign,body:=q.body,defers:=q.defers })
 | .old=>∃ o,x=some o
 | .brow t l=>∃ fz,x=some (.cells l.toArray t fz)∧∀ j,j≤l.length→¬ (fz.1≤j∧j<fz.2)
 | .bro t l=>∃ fz,x=some (.cells l.toArray t fz)
def Rel (h:H) (w:World):Prop:=∀ b o,h b=some o→qAo w.heap[b]? o
def VObj.rw:VObj→Bool
 | .ro _=>false
 | _=>true
structure Frame (h:H) (w:World) (h':H) (w':World):Prop where
 os:w'.os=w.os
 tape:w'.tape=w.tape
 output:w'.output=w.output
 size:w.heap.size≤w'.heap.size
 keep:∀ b,b<w.heap.size→(h b=none∨∃ l,h b=some (.ro l))→w'.heap[b]?=w.heap[b]?
 dom:∀ b,b<w.heap.size→h b=none→h' b=none
 ro:∀ b l,h b=some (.ro l)→h' b=some (.ro l)
theorem Frame.refl (h:H) (w:World):Frame h w h w:=⟨rfl,rfl,rfl,Nat.le_refl _,fun _ _ _=>rfl,fun _ _ h=>h,fun _ _ h=>h⟩
theorem Frame.trans {h h' h'':H} {w w' w'':World} (f:Frame h w h' w') (g:Frame h' w' h'' w''):Frame h w h'' w'' where
 os:=g.os.trans f.os
 tape:=g.tape.trans f.tape
 output:=g.output.trans f.output
 size:=Nat.le_trans f.size g.size
 keep:=fun b hb hn=>by
  rw [g.keep b (Nat.lt_of_lt_of_le hb f.size),f.keep b hb hn]
  rcases hn with hn | ⟨l,hl⟩
  ·exact .inl (f.dom b hb hn)
  ·exact .inr ⟨l,f.ro b l hl⟩
 dom:=fun b hb hn=>g.dom b (Nat.lt_of_lt_of_le hb f.size) (f.dom b hb hn)
 ro:=fun b l hl=>g.ro b l (f.ro b l hl)
theorem qAz {w:World} {b:Nat} {o:VObj} (h:qAo w.heap[b]? o):b<w.heap.size:=by
 rcases Nat.lt_or_ge b w.heap.size with hb | hb
 ·exact hb
 ·rw [Array.getElem?_eq_none hb] at h
  cases o <;> simp [qAo] at h
theorem Rel.lt {h:H} {w:World} (r:Rel h w) {b:Nat} {o:VObj} (hb:h b=some o):b<w.heap.size:=qAz (r b o hb)
theorem Rel.fresh {h:H} {w:World} (r:Rel h w):h w.heap.size=none:=by
 cases hb:h w.heap.size with
 | none=>rfl
 | some o=>exact absurd (r.lt hb) (Nat.lt_irrefl _)
structure SameHeap (w w':World):Prop where
 os:w'.os=w.os
 tape:w'.tape=w.tape
 output:w'.output=w.output
 heap:w'.heap=w.heap
theorem SameHeap.refl (w:World):SameHeap w w:=⟨rfl,rfl,rfl,rfl⟩
theorem SameHeap.drew {w w':World} (s:SameHeap w w'):SameHeap w w'.drew:=⟨s.os,s.tape,s.output,s.heap⟩
theorem Rel.same {h:H} {w w':World} (r:Rel h w) (s:SameHeap w w'):Rel h w':=fun b o hb=>by rw [s.heap]; exact r b o hb
theorem Frame.same {h:H} {w w':World} (s:SameHeap w w'):Frame h w h w' :=
 ⟨s.os,s.tape,s.output,by rw [s.heap]; exact Nat.le_refl _,fun _ _ _=>by rw [s.heap],fun _ _ h=>h,fun _ _ h=>h⟩
structure Upd (w:World) (b:Nat) (o:Obj) (w':World):Prop where
 os:w'.os=w.os
 tape:w'.tape=w.tape
 output:w'.output=w.output
 size:w'.heap.size=w.heap.size
 at_:w'.heap[b]?=some o
 far:∀ c,c≠b→w'.heap[c]?=w.heap[c]?
structure New (w:World) (o:Obj) (w':World):Prop where
 os:w'.os=w.os
 tape:w'.tape=w.tape
 output:w'.output=w.output
 size:w'.heap.size=w.heap.size+1
 at_:w'.heap[w.heap.size]?=some o
 far:∀ c,c≠w.heap.size→w'.heap[c]?=w.heap[c]?
theorem New.alloc (w:World) (o:Obj):New w o (w.alloc o) :=
 ⟨rfl,rfl,rfl,by simp,by show (w.heap.push o)[_]?=_; simp,fun c hc=>by
  show (w.heap.push o)[c]?=_
  rw [Array.getElem?_push]
  split
  ·omega
  ·rfl⟩
theorem New.drew {w w':World} {o:Obj} (n:New w o w'):New w o w'.drew:=⟨n.os,n.tape,n.output,n.size,n.at_,n.far⟩
theorem New.of_drew {w w':World} {o:Obj} (n:New w.drew o w'):New w o w':=⟨n.os,n.tape,n.output,n.size,n.at_,n.far⟩
theorem Rel.new {h:H} {w w':World} {o:Obj} {v:VObj} (r:Rel h w) (n:New w o w') (m:qAo (some o) v):Rel (h.set w.heap.size v) w':=by
 intro b o' hb
 unfold H.set at hb
 split at hb
 ·rename_i he
  subst he
  obtain rfl:=Option.some.inj hb
  rw [n.at_]; exact m
 ·rename_i he
  rw [n.far b he]; exact r b o' hb
theorem Frame.new {h:H} {w w':World} {o:Obj} {v:VObj} (r:Rel h w) (n:New w o w'):Frame h w (h.set w.heap.size v) w' where
 os:=n.os
 tape:=n.tape
 output:=n.output
 size:=by rw [n.size]; omega
 keep:=fun b hb _=>n.far b (by omega)
 dom:=fun b hb hn=>by unfold H.set; rw [if_neg (by omega)]; exact hn
 ro:=fun b l hl=>by unfold H.set; rw [if_neg (by have:=r.lt hl; omega)]; exact hl
theorem Rel.upd {h:H} {w w':World} {b:Nat} {o:Obj} {v:VObj} (r:Rel h w) (n:Upd w b o w') (m:qAo (some o) v):Rel (h.set b v) w':=by
 intro c o' hb
 unfold H.set at hb
 split at hb
 ·rename_i he
  subst he
  obtain rfl:=Option.some.inj hb
  rw [n.at_]; exact m
 ·rename_i he
  rw [n.far c he]; exact r c o' hb
theorem Frame.upd {h:H} {w w':World} {b:Nat} {o:Obj} {v was:VObj} (n:Upd w b o w') (hb:h b=some was) (hw:was.rw=true):Frame h w (h.set b v) w' where
 os:=n.os
 tape:=n.tape
 output:=n.output
 size:=by rw [n.size]; omega
 keep:=fun c hc hn=>n.far c fun e=>by
  subst e
  rcases hn with hn | ⟨l,hl⟩
  ·simp [hn] at hb
  ·rw [hl] at hb; obtain rfl:=Option.some.inj hb; simp [VObj.rw] at hw
 dom:=fun c hc hn=>by
  unfold H.set; rw [if_neg (fun e=>by subst e; simp [hn] at hb)]; exact hn
 ro:=fun c l hl=>by
  unfold H.set
  rw [if_neg (fun e=>by subst e; rw [hl] at hb; obtain rfl:=Option.some.inj hb; simp [VObj.rw] at hw)]
  exact hl
theorem qAu {w:World} {b:Nat} {x:Option VObj} {l:List Value} (hl:qZm x=some l) (hm:∀ o,x=some o→qAo w.heap[b]? o) :
  ∃ t fz,w.heap[b]?=some (.cells l.toArray t fz):=by
 cases x with
 | none=>simp [qZm] at hl
 | some o =>
  have:=hm o rfl
  cases o <;> simp [qZm] at hl
  ·subst hl; obtain ⟨t,fz,h,_⟩:=this; exact ⟨t,fz,h⟩
  ·subst hl; obtain ⟨t,fz,h⟩:=this; exact ⟨t,fz,h⟩
  ·subst hl; obtain ⟨fz,h,_⟩:=this; exact ⟨_,fz,h⟩
  ·subst hl; obtain ⟨fz,h⟩:=this; exact ⟨_,fz,h⟩
theorem xKr {h:H} {w:World} (r:Rel h w) {a:Addr} {v:Value} (hv:rd h a=some v):w.cell? a=some v:=by
 unfold rd at hv
 split at hv
 ·rename_i hs
  cases hl:qZm (h a.block) with
  | none=>simp [hl] at hv
  | some l =>
   obtain ⟨t,fz,hb⟩:=qAu hl (r a.block)
   simp [hl] at hv
   simp [World.cell?,hb,hs,hv]
 ·simp at hv
theorem xJq {h:H} {w:World} (r:Rel h w) {a:Addr} {n:Nat} {vs:List Value} (hv:rdN h a n=some vs) :
  vs.length=n∧∀ j v,vs[j]?=some v→w.cell? (a.add j)=some v:=by
 unfold rdN at hv
 split at hv
 ·rename_i hs
  cases hl:qZm (h a.block) with
  | none=>simp [hl] at hv
  | some l =>
   obtain ⟨t,fz,hb⟩:=qAu hl (r a.block)
   simp only [hl,Option.bind_some,Option.ite_none_right_eq_some,Option.some.injEq] at hv
   obtain ⟨hle,rfl⟩:=hv
   refine ⟨by simp; omega,fun j v hj=>?_⟩
   have hspot:(a.add j).spot=none:=by unfold Addr.add; split <;> simp [hs]
   have hblk:(a.add j).block=a.block:=by unfold Addr.add; split <;> rfl
   have hoff:(a.add j).off=a.off+j:=by unfold Addr.add; split <;> simp [*]
   rw [List.getElem?_take] at hj
   split at hj
   ·rw [List.getElem?_drop] at hj
    simp [World.cell?,hblk,hb,hspot,hoff,hj]
   ·simp at hj
 ·simp at hv
theorem qPx {P:Program} {h:H} {w:World} (r:Rel h w) {a:Addr} {n:Nat} {vs:List Value} (hv:rdN h a n=some vs) :
  (loadCells a n).run P w=.ok vs.toArray w:=by
 obtain ⟨hn,hc⟩:=xJq r hv
 subst hn
 exact run_loadCells_list w a vs hc
theorem qEb {P:Program} {h:H} {w:World} (r:Rel h w) {a:Addr} {n:Nat} {vs:List Value} (hv:rdR h a n=some vs) :
  (loadCells a n).run P w=.ok vs.toArray w:=by
 unfold rdR at hv
 split at hv
 ·rename_i h0
  obtain rfl:=Option.some.inj hv
  subst h0
  exact run_loadCells_list w a [] (by simp)
 ·exact qPx r hv
theorem qSf {v:Value} (h:one v=true):v.oneCell'=true:=by cases v <;> simp_all [one,Value.oneCell']
theorem qFt {v:Value} (h:one v=true):v.cells=#[v]:=by cases v <;> simp_all [one,Value.cells]
theorem qFi {P:Program} {w:World} {b o:Nat} {c:Array Value} {t:TypeId} {fz:Nat × Nat} {v:Value}
  (hb:w.heap[b]?=some (.cells c t fz)) (ho:o<c.size) (hf:¬ (fz.1≤o∧o<fz.2)) (h1:one v=true) :
  ∃ w',(store ⟨b,o,none⟩ v).run P w=.ok () w'∧Upd w b (.cells (c.setIfInBounds o v) t fz) w':=by
 refine ⟨w.setCell ⟨b,o,none⟩ v,?_,?_⟩
 ·rw [run_store P w _ v _ (qSf h1)]
  have hc:w.cell? ⟨b,o,none⟩=some c[o]:=by simp [World.cell?,hb,ho]
  have hz:w.frozen? ⟨b,o,none⟩=false:=by
   simp only [World.frozen?,hb]
   simpa using hf
  simp [hc,hz]
 ·refine ⟨rfl,rfl,rfl,by simp [World.setCell],?_,fun d hd=>?_⟩
  ·simp [World.setCell,Array.getElem?_modify,hb]
  ·simp only [World.setCell,Array.getElem?_modify]
   rw [if_neg (by simpa using Ne.symm hd)]
theorem Upd.trans {w w' w'':World} {b:Nat} {o o':Obj} (f:Upd w b o w') (g:Upd w' b o' w''):Upd w b o' w'' :=
 ⟨g.os.trans f.os,g.tape.trans f.tape,g.output.trans f.output,g.size.trans f.size,g.at_,fun c hc=>(g.far c hc).trans (f.far c hc)⟩
theorem qFk (l:List Value) (o:Nat) (v:Value) (vs:List Value) (ho:o<l.length):splice (l.set o v) (o+1) vs=splice l o (v::vs):=by
 unfold splice
 apply List.ext_getElem?
 intro j
 simp only [List.getElem?_append,List.length_take,List.length_set,List.getElem?_take,List.getElem?_set,List.getElem?_drop,List.length_cons]
 have m1:min (o+1) l.length=o+1:=by omega
 have m2:min o l.length=o:=by omega
 simp only [m1,m2]
 by_cases h1:j<o
 ·have:¬ o=j:=by omega
  simp [h1,show j<o+1 by omega,this]
 ·by_cases h2:j=o
  ·subst h2; simp [ho]
  ·have e:j - o=(j - (o+1))+1:=by omega
   simp only [show ¬ j<o+1 by omega,if_false,h1,e,List.getElem?_cons_succ,List.length_cons,Nat.add_lt_add_iff_right]
   split
   ·rfl
   ·rename_i h3
    have:¬ o=o+1+vs.length+(j - (o+1) - vs.length):=by omega
    rw [if_neg this]
    congr 1
    omega
theorem qHs (l:List Value) (o:Nat):splice l o []=l:=by simp [splice]
theorem qEr (l:List Value) (o:Nat) (vs:List Value) (h:o+vs.length≤l.length):(splice l o vs).length=l.length:=by
 simp [splice]; omega
theorem Addr.add_eq {b o i:Nat}:(⟨b,o,none⟩:Addr).add i=⟨b,o+i,none⟩:=by
 unfold Addr.add; split <;> simp_all
theorem qYz {P:Program} {b o:Nat} {t:TypeId} {fz:Nat × Nat}:∀ (vs:List Value) (i:Nat) (w:World) (l:List Value),
  w.heap[b]?=some (.cells l.toArray t fz)→o+i+vs.length≤l.length→(∀ j,j<l.length→¬ (fz.1≤j∧j<fz.2))→vs.all one=true →
  ∃ w',(storeCells ⟨b,o,none⟩ vs i).run P w=.ok () w'∧Upd w b (.cells (splice l (o+i) vs).toArray t fz) w'
 | [],i,w,l,hb,_,_,_=>⟨w,by simp [storeCells],by rw [qHs]; exact ⟨rfl,rfl,rfl,rfl,hb,fun _ _=>rfl⟩⟩
 | v::vs,i,w,l,hb,hl,hf,h1=>by
  simp only [List.length_cons] at hl
  simp only [List.all_cons,Bool.and_eq_true] at h1
  obtain ⟨w1,hr1,hu1⟩:=qFi (P:=P) hb (o:=o+i) (by simp; omega) (hf _ (by omega)) h1.1
  have hb1:w1.heap[b]?=some (.cells (l.set (o+i) v).toArray t fz):=by rw [hu1.at_]; simp
  obtain ⟨w2,hr2,hu2⟩:=qYz (P:=P) (o:=o) (fz:=fz) vs (i+1) w1 (l.set (o+i) v) hb1 (by simp; omega) (by simpa using hf) h1.2
  refine ⟨w2,?_,?_⟩
  ·simp only [storeCells,Sem.run_bind,Addr.add_eq,hr1,Result.andThen_ok]
   exact hr2
  ·have e:splice (l.set (o+i) v) (o+(i+1)) vs=splice l (o+i) (v::vs):=by
    rw [show o+(i+1)=o+i+1 by omega]; exact qFk l (o+i) v vs (by omega)
   rw [← e]; exact hu1.trans hu2
theorem qDb {P:Program} {h h':H} {w:World} (r:Rel h w) {a:Addr} {vs:List Value} (hw:wr h a vs=some h') (h1:vs.all one=true) :
  ∃ w',(storeCells a vs).run P w=.ok () w'∧Rel h' w'∧Frame h w h' w':=by
 obtain ⟨b,o,s⟩:=a
 unfold wr at hw
 split at hw
 ·rename_i l hs hb
  obtain rfl:s=none:=hs
  simp only [Option.ite_none_right_eq_some,Option.some.injEq] at hw
  obtain ⟨hle,rfl⟩:=hw
  obtain ⟨t,fz,hm,hf⟩:=r _ _ hb
  obtain ⟨w',hr,hu⟩:=qYz (P:=P) (o:=o) vs 0 w l hm hle (fun j hj=>hf j (Nat.le_of_lt hj)) h1
  refine ⟨w',hr,r.upd hu ⟨t,fz,rfl,?_⟩,Frame.upd hu hb rfl⟩
  rw [qEr l o vs hle]; exact hf
 ·rename_i t l hs hb
  obtain rfl:s=none:=hs
  simp only [Option.ite_none_right_eq_some,Option.some.injEq] at hw
  obtain ⟨hle,rfl⟩:=hw
  obtain ⟨fz,hm,hf⟩:=r _ _ hb
  obtain ⟨w',hr,hu⟩:=qYz (P:=P) (o:=o) vs 0 w l hm hle (fun j hj=>hf j (Nat.le_of_lt hj)) h1
  refine ⟨w',hr,r.upd hu ⟨fz,rfl,?_⟩,Frame.upd hu hb rfl⟩
  rw [qEr l o vs hle]; exact hf
 ·simp at hw
theorem xWs {P:Program} {h h':H} {w:World} (r:Rel h w) {a:Addr} {v:Value} (hw:wr1 h a v=some h') (h1:one v=true) :
  ∃ w',(store a v).run P w=.ok () w'∧Rel h' w'∧Frame h w h' w':=by
 obtain ⟨b,o,s⟩:=a
 unfold wr1 at hw
 split at hw
 ·rename_i l hs hb
  obtain rfl:s=none:=hs
  simp only [Option.ite_none_right_eq_some,Option.some.injEq] at hw
  obtain ⟨hle,rfl⟩:=hw
  obtain ⟨t,fz,hm,hf⟩:=r _ _ hb
  obtain ⟨w',hr,hu⟩:=qFi (P:=P) hm (o:=o) (by simpa using hle) (hf _ (Nat.le_of_lt hle)) h1
  refine ⟨w',hr,r.upd hu ⟨t,fz,by simp,?_⟩,Frame.upd hu hb rfl⟩
  simpa using hf
 ·rename_i t l hs hb
  obtain rfl:s=none:=hs
  simp only [Option.ite_none_right_eq_some,Option.some.injEq] at hw
  obtain ⟨hle,rfl⟩:=hw
  obtain ⟨fz,hm,hf⟩:=r _ _ hb
  obtain ⟨w',hr,hu⟩:=qFi (P:=P) hm (o:=o) (by simpa using hle) (hf _ (Nat.le_of_lt hle)) h1
  refine ⟨w',hr,r.upd hu ⟨fz,by simp,?_⟩,Frame.upd hu hb rfl⟩
  simpa using hf
 ·simp at hw
def Good (h:H) (w:World) (r:Result Value) (k:Kv):Prop:=∃ v w' h',r=.ok v w'∧k v h'∧Rel h' w'∧Frame h w h' w'
theorem Good.pure {h:H} {w:World} (r:Rel h w) {v:Value} {k:Kv} (hk:k v h):Good h w (.ok v w) k:=⟨v,w,h,rfl,hk,r,Frame.refl h w⟩
theorem Good.same {h:H} {w w':World} (r:Rel h w) (s:SameHeap w w') {v:Value} {k:Kv} (hk:k v h):Good h w (.ok v w') k:=⟨v,w',h,rfl,hk,r.same s,Frame.same s⟩
theorem Good.mono {h:H} {w:World} {r:Result Value} {k k':Kv} (g:Good h w r k) (hk:∀ v h,k v h→k' v h):Good h w r k' :=
 let ⟨v,w',h',e,hv,r,f⟩:=g; ⟨v,w',h',e,hk _ _ hv,r,f⟩
section types
variable {P:Program} {w:World}
theorem qQo {t:TypeId} {d:TypeDesc} (h:P.underlying t=some d):(underlying t).run P w=.ok d w:=by simp [underlying,h]
theorem qSs {t:TypeId} {d:TypeDesc} (h:P.underlying t=some d):∃ i,P.info? t=some i:=by
 unfold Program.underlying at h
 cases hi:P.info? t with
 | none=>simp [hi] at h
 | some i=>exact ⟨i,rfl⟩
theorem qDh {t:TypeId} {d:TypeDesc} (h:P.underlying t=some d):(sizeOf t).run P w=.ok (szOf P t) w:=by
 obtain ⟨i,hi⟩:=qSs h
 simp [sizeOf,typeInfo,hi,szOf,Program.cellsOf]
theorem qFl {t:TypeId} {d:TypeDesc} (h:P.underlying t=some d):(isAgg t).run P w=.ok (aggB P t) w:=by
 unfold isAgg aggB
 simp only [Sem.run_bind,qQo h,Result.andThen_ok]
 cases d <;> simp [h]
theorem qVy {t:TypeId} {z:Value} (h:qAp P t=some z):(zeroValue t).run P w=.ok z w:=by
 unfold qAp at h
 cases hi:P.info? t with
 | none=>simp [hi] at h
 | some i=>simp [hi] at h; simp [zeroValue,typeInfo,hi,h]
theorem qJu {t:TypeId} (h:zOk P t=true):∃ z,qAp P t=some z∧qZz P t=z.cells.toList∧z.cells.size=szOf P t∧0<szOf P t:=by
 unfold zOk at h
 cases hz:qAp P t with
 | none=>simp [hz] at h
 | some z =>
  simp [hz,qZz] at h
  exact ⟨z,rfl,by simp [qZz,hz],h⟩
theorem qPz {t:TypeId} {z:Value} (h:qAp P t=some z):∃ i,P.info? t=some i:=by
 unfold qAp at h
 cases hi:P.info? t with
 | none=>simp [hi] at h
 | some i=>exact ⟨i,rfl⟩
theorem qEs {t:TypeId} {z:Value} (h:qAp P t=some z):(sizeOf t).run P w=.ok (szOf P t) w:=by
 obtain ⟨i,hi⟩:=qPz h
 simp [sizeOf,typeInfo,hi,szOf,Program.cellsOf]
theorem xJg {t:TypeId} {z:Value} (h:qAp P t=some z):∃ i,(typeInfo t).run P w=.ok i w∧i.bytes=qVp P t:=by
 obtain ⟨i,hi⟩:=qPz h
 exact ⟨i,by simp [typeInfo,hi],by simp [qVp,Program.bytesOf,hi]⟩
end types
section mem
variable {P:Program} {h:H} {w:World}
theorem xQr (r:Rel h w) {vs:List Value} {t:TypeId} {k:Kv} (hk:newW h vs k) :
  Good h w (.ok (.pointer (some ⟨w.heap.size,0,none⟩)) (w.alloc (.cells vs.toArray t))) k :=
 have n:=New.alloc w (.cells vs.toArray t)
 ⟨_,_,h.set w.heap.size (.cells vs),rfl,hk _ r.fresh,r.new n ⟨t,(0,0),rfl,by simp⟩,Frame.new r n⟩
theorem qOh (r:Rel h w) {vs:List Value} {t:TypeId} {k:Kv} (hk:newA P t h vs k) :
  Good h w (.ok (.pointer (some ⟨w.heap.size,0,none⟩)) (w.alloc (.cells vs.toArray t))) k:=by
 unfold newA at hk
 split at hk
 ·have n:=New.alloc w (.cells vs.toArray t)
  exact ⟨_,_,h.set w.heap.size (.brow t vs),rfl,hk _ r.fresh,r.new n ⟨(0,0),rfl,by simp⟩,Frame.new r n⟩
 ·exact xQr r hk
theorem qTp (r:Rel h w) {t:TypeId} {k:Kv} (hz:zOk P t=true) (hk:newA P t h (qZz P t) k):Good h w ((Instr.alloc t true (.tuple #[])).run P w) k:=by
 obtain ⟨z,h1,h2,_,_⟩:=qJu hz
 have e:(Instr.alloc t true (.tuple #[])).run P w=.ok (.pointer (some ⟨w.heap.size,0,none⟩)) (w.alloc (.cells (qZz P t).toArray t)):=by
  simp [Instr.alloc,qVy h1,newVar,newRow,h2]
 rw [e]; exact qOh r hk
theorem xAz (r:Rel h w) {t:TypeId} {v:Value} {vs:List Value} {k:Kv} (hv:v.cells.toList=vs) (hk:newW h vs k):Good h w ((Instr.box t v).run P w) k:=by
 have e:(Instr.box t v).run P w=.ok (.pointer (some ⟨w.heap.size,0,none⟩)) (w.alloc (.cells vs.toArray t)):=by
  simp [Instr.box,newVar,newRow,← hv]
 rw [e]; exact xQr r hk
theorem xWc (r:Rel h w) {t:TypeId} {v:Value} {vs:List Value} {k:Kv} (hv:v.cells.toList=vs) (hk:newA P t h vs k):Good h w ((Instr.box t v).run P w) k:=by
 have e:(Instr.box t v).run P w=.ok (.pointer (some ⟨w.heap.size,0,none⟩)) (w.alloc (.cells vs.toArray t)):=by
  simp [Instr.box,newVar,newRow,← hv]
 rw [e]; exact qOh r hk
theorem qAm (r:Rel h w) {t:TypeId} {a:Addr} {vs:List Value} (ht:aggB P t=true) (hv:rdN h a (szOf P t)=some vs) :
  (Instr.loadAt t (.pointer (some a))).run P w=.ok (.agg vs.toArray) w:=by
 have hd:∃ d,P.underlying t=some d:=by
  unfold aggB at ht; cases hu:P.underlying t with
  | none=>simp [hu] at ht
  | some d=>exact ⟨d,rfl⟩
 obtain ⟨d,hd⟩:=hd
 simp [Instr.loadAt,Instr.sureAddr,loadVar,qFl hd,ht,qDh hd,qPx r hv]
theorem qAl (r:Rel h w) {t:TypeId} {a:Addr} {v:Value} {d:TypeDesc} (hd:P.underlying t=some d) (ht:aggB P t=false) (hv:rd h a=some v) :
  (Instr.loadAt t (.pointer (some a))).run P w=.ok v w:=by
 simp [Instr.loadAt,Instr.sureAddr,loadVar,qFl hd,ht,xKr r hv]
theorem qMi (a:Addr):a.add 0=a:=by simp [Addr.add]
theorem qFh (r:Rel h w) {t:TypeId} {a:Addr} {u:Value} {cs:List Value} {h':H} {d:TypeDesc} (hd:P.underlying t=some d) (hu:u=.agg cs.toArray) (hl:cs.length=szOf P t)
  (h1:cs.all one=true) (hw:wr h a cs=some h'):∃ w',(Instr.storeAt t (.pointer (some a)) u).run P w=.ok () w'∧Rel h' w'∧Frame h w h' w':=by
 subst hu
 obtain ⟨w',e,r',f⟩:=qDb (P:=P) r hw h1
 refine ⟨w',?_,r',f⟩
 simp [Instr.storeAt,Instr.sureAddr,storeVar,Value.cells,qDh hd,hl,e]
theorem qFg (r:Rel h w) {t:TypeId} {a:Addr} {u:Value} {h':H} {d:TypeDesc} (hd:P.underlying t=some d) (h1:one u=true) (hs:szOf P t=1)
  (hw:wr1 h a u=some h'):∃ w',(Instr.storeAt t (.pointer (some a)) u).run P w=.ok () w'∧Rel h' w'∧Frame h w h' w':=by
 obtain ⟨w',e,r',f⟩:=xWs (P:=P) r hw h1
 refine ⟨w',?_,r',f⟩
 have e2:(storeCells a [u]).run P w=.ok () w':=by simp only [storeCells,Sem.run_bind,qMi,e,Result.andThen_ok,Sem.run_pure]
 simp [Instr.storeAt,Instr.sureAddr,storeVar,qFt h1,qDh hd,hs,e2]
theorem xUj (vs:List Value):∀ (j off:Nat) (cs:Array Value),off+j+vs.length≤cs.size →
  ((vs.zipIdx j).foldl (fun (cs:Array Value) (x:Value × Nat)=>cs.setIfInBounds (off+x.2) x.1) cs).toList=splice cs.toList (off+j) vs:=by
 induction vs with
 | nil=>intro j off cs _; simp [qHs]
 | cons v vs ih =>
  intro j off cs hl
  simp only [List.length_cons] at hl
  rw [List.zipIdx_cons,List.foldl_cons,ih (j+1) off _ (by simp; omega)]
  rw [Array.toList_setIfInBounds,show off+(j+1)=off+j+1 by omega]
  exact qFk _ _ _ _ (by simp; omega)
theorem qOr {place:Nat→Option (Nat × Nat)} {cs:List Value} {i:Nat} {v:Value} {vs:List Value} {ps:List (Nat × Value)} {off n:Nat}
  (hp:place i=some (off,n)) (hv:v.cells.toList=vs) (hn:vs.length=n) (hl:off+n≤cs.length) :
  Instr.fill place cs.toArray ((i,v)::ps)=Instr.fill place (splice cs off vs).toArray ps:=by
 have hs:v.cells.size=vs.length:=by rw [← hv]; simp
 have e:(v.cells.zipIdx.foldl (fun (cs:Array Value) (x:Value × Nat)=>cs.setIfInBounds (off+x.2) x.1) cs.toArray)=(splice cs off vs).toArray:=by
  apply Array.toList_inj.mp
  rw [← Array.foldl_toList,Array.toList_zipIdx,hv]
  have:=xUj vs 0 off cs.toArray (by simp; omega)
  simpa using this
 simp only [Instr.fill,hp,hs,hn,List.size_toArray]
 rw [if_neg (by simp; omega)]
 rw [← e]
theorem qYe {place:Nat→Option (Nat × Nat × Bool)} {pl:Nat→Option (Nat × Nat)} {e:Env} {ρ:Operand→Value} (hev:∀ x k,ev e x k→k (ρ x))
  (hpl:∀ i off n b,place i=some (off,n,b)→pl i=some (off,n)∧(b=false→n=1)) :
  ∀ (ps:List (Nat × Operand)) (cs:List Value) (k:List Value→Prop),qJb place e ps cs k →
   ∃ out,Instr.fill pl cs.toArray (ps.map fun x=>(x.1,ρ x.2))=some out.toArray∧k out
 | [],cs,k,hk=>⟨cs,by simp [Instr.fill],hk⟩
 | (i,x)::ps,cs,k,hk=>by
  simp only [qJb] at hk
  have hk:=hev _ _ hk
  split at hk
  ·exact hk.elim
  ·rename_i off n hp
   unfold aggW at hk
   split at hk
   ·rename_i vs hv
    obtain ⟨hn,hl,hk⟩:=hk
    obtain ⟨out,he,hko⟩:=qYe hev hpl ps _ k hk
    refine ⟨out,?_,hko⟩
    rw [List.map_cons,qOr (hpl _ _ _ _ hp).1 (vs:=vs.toList) (by rw [hv]; rfl) hn hl]; exact he
   ·exact hk.elim
  ·rename_i off n hp
   obtain ⟨h1,hl,hk⟩:=hk
   obtain ⟨out,he,hko⟩:=qYe hev hpl ps _ k hk
   obtain ⟨hp1,hp2⟩:=hpl _ _ _ _ hp
   refine ⟨out,?_,hko⟩
   have:=hp2 rfl
   rw [List.map_cons,qOr hp1 (vs:=[ρ x]) (by rw [qFt h1]) (by simp [this]) (by omega)]; exact he
end mem
variable {P:Program} {h:H} {w:World}
theorem qLd {off i n:Nat} {t:TypeId} {b:Bool} (hp:plc P off t=some (i,n,b)):i=off∧n=szOf P t∧(b=false→n=1):=by
 unfold plc at hp
 split at hp <;> simp at hp
 ·exact ⟨hp.1.symm,hp.2.1.symm,fun h=>by simp [h] at hp⟩
 ·rename_i hs
  exact ⟨hp.1.symm,by rw [hs]; exact hp.2.1.symm,fun _=>hp.2.1.symm⟩
theorem qHz (w:World):∀ (fs:List Field),(∀ f∈fs,∃ i,P.info? f.type=some i) →
  (fs.mapM (m:=Sem) fun f=>do pure (f.offset,← sizeOf f.type)).run P w=.ok (fs.map fun f=>(f.offset,szOf P f.type)) w
 | [],_=>by simp
 | f::fs,hf=>by
  obtain ⟨i,hi⟩:=hf f (by simp)
  have ih:=qHz w fs fun g hg=>hf g (by simp [hg])
  simp [sizeOf,typeInfo,hi,szOf,Program.cellsOf] at ih ⊢
  rw [ih]
  simp
theorem qTl {t:TypeId} {e:Env} {ρ:Operand→Value} (hev:∀ x k,ev e x k→k (ρ x)) (hz:zOk P t=true) (hf:qDq P t=true) {ps:List (Nat × Operand)} {k:List Value→Prop}
  (hk:qJb (qZi P t) e ps (qZz P t) k) :
  ∃ out,(Instr.build t ((ps.map fun x=>(x.1,ρ x.2)).toArray)).run P w=.ok (.agg out.toArray) w∧k out:=by
 obtain ⟨z,h1,h2,_,_⟩:=qJu hz
 unfold qDq at hf
 unfold Instr.build
 split at hf
 ·rename_i fs hu
  have hpl:∀ i off n b,qZi P t i=some (off,n,b)→((fs.toList.map fun f=>(f.offset,szOf P f.type)).toArray)[i]?=some (off,n)∧(b=false→n=1):=by
   intro i off n b hp
   simp only [qZi,hu] at hp
   cases hfi:fs[i]? with
   | none=>simp [hfi] at hp
   | some f =>
    simp only [hfi] at hp
    obtain ⟨rfl,rfl,hb⟩:=qLd hp
    refine ⟨?_,hb⟩
    simp [hfi]
  obtain ⟨out,he,hko⟩:=qYe hev hpl ps _ k hk
  refine ⟨out,?_,hko⟩
  have hpr:=qHz (P:=P) w fs.toList (fun f hf'=>Option.isSome_iff_exists.mp (by simp only [List.all_eq_true] at hf; exact hf f hf'))
  have hpa:(fs.mapM (m:=Sem) fun f=>do pure (f.offset,← sizeOf f.type)).run P w=.ok ((fs.toList.map fun f=>(f.offset,szOf P f.type)).toArray) w:=by
   rw [Array.mapM_eq_mapM_toList]
   simp only [Sem.run_map,hpr,Result.andThen_ok]
  have hc:z.cells=(qZz P t).toArray:=by rw [h2]
  simp only [Sem.run_bind,qVy h1,Result.andThen_ok,qQo hu,hpa,hc,he]
  rfl
 ·rename_i m el hu
  obtain ⟨i,hi⟩:=Option.isSome_iff_exists.mp hf
  have hpl:∀ i off n b,qZi P t i=some (off,n,b)→(some (i*szOf P el,szOf P el))=some (off,n)∧(b=false→n=1):=by
   intro i off n b hp
   simp only [qZi,hu] at hp
   obtain ⟨rfl,rfl,hb⟩:=qLd hp
   exact ⟨rfl,hb⟩
  obtain ⟨out,he,hko⟩:=qYe (pl:=fun i=>some (i*szOf P el,szOf P el)) hev hpl ps _ k hk
  refine ⟨out,?_,hko⟩
  have hc:z.cells=(qZz P t).toArray:=by rw [h2]
  have hsz:(sizeOf el).run P w=.ok (szOf P el) w:=by simp [sizeOf,typeInfo,hi,szOf,Program.cellsOf]
  simp only [Sem.run_bind,qVy h1,Result.andThen_ok,qQo hu,hsz,hc,he]
  rfl
 ·simp at hf
theorem xEx (z:List Value) (n:Nat):(List.range (n*z.length)).map (fun i=>z.toArray[i % z.length]!)=(List.replicate n z).flatten:=by
 induction n with
 | zero=>simp
 | succ n ih =>
  rw [List.replicate_succ',List.flatten_append,← ih,Nat.succ_mul,List.range_add,List.map_append]
  congr 1
  simp only [List.map_map,List.flatten_cons,List.flatten_nil,List.append_nil]
  apply List.ext_getElem?
  intro i
  simp only [List.getElem?_map,List.getElem?_range]
  by_cases hi:i<z.length
  ·simp [hi,List.getElem?_range,Nat.add_mod,Nat.mul_mod_left,Nat.mod_eq_of_lt hi]
  ·simp [hi]
theorem qPr (z:Array Value) (n:Nat):((Array.range (n*z.size)).map (fun i=>z[i % z.size]!))=((List.replicate n z.toList).flatten).toArray:=by
 apply Array.toList_inj.mp
 have:=xEx z.toList n
 simpa [Array.toList_map,Array.toList_range] using this
theorem qGt (n:Nat):(askRoom n).run P w=.ok () w:=by unfold askRoom; split <;> rfl
theorem slEl {t el:TypeId} (h:qXr P t=some el):P.underlying t=some (.slice el):=by
 unfold qXr at h
 split at h
 ·rename_i e hu; rw [hu]; simp at h; rw [h]
 ·simp at h
theorem qCy (r:Rel h w) {t el:TypeId} {n:Nat} {e:Env} {ρ:Operand→Value} (hev:∀ x k,ev e x k→k (ρ x)) (he:qXr P t=some el) (hz:zOk P el=true)
  (hn:n*szOf P el≤2 ^ 24) {ps:List (Nat × Operand)} {k:Kv}
  (hk:qJb (qWu P t) e ps (List.replicate n (qZz P el)).flatten fun cs=>∀ b,h b=none→k (.slice (some ⟨b,0,none⟩) n n) (h.set b (.cells cs))) :
  Good h w ((Instr.buildSlice t n ((ps.map fun x=>(x.1,ρ x.2)).toArray)).run P w) k:=by
 have hu:=slEl he
 obtain ⟨z,h1,h2,h3,h4⟩:=qJu hz
 have hpl:∀ i off m b,qWu P t i=some (off,m,b)→(some (i*szOf P el,szOf P el))=some (off,m)∧(b=false→m=1):=by
  intro i off m b hp
  simp only [qWu,hu] at hp
  obtain ⟨rfl,rfl,hb⟩:=qLd hp
  exact ⟨rfl,hb⟩
 obtain ⟨out,hf,hko⟩:=qYe (pl:=fun i=>some (i*szOf P el,szOf P el)) hev hpl ps _ _ hk
 have hzz:((Array.range (n*szOf P el)).map ((if n*szOf P el=0 then #[] else z.cells)[· % (if n*szOf P el=0 then (#[]:Array Value) else z.cells).size]!))=((List.replicate n (qZz P el)).flatten).toArray:=by
  by_cases h0:n*szOf P el=0
  ·have:n=0:=by
    rcases Nat.mul_eq_zero.mp h0 with h | h
    ·exact h
    ·omega
   subst this
   simp
  ·simp only [h0,if_false]
   rw [h2,← h3]
   exact qPr z.cells n
 have hrun:(Instr.buildSlice t n ((ps.map fun x=>(x.1,ρ x.2)).toArray)).run P w=.ok (.slice (some ⟨w.heap.size,0,none⟩) n n) (w.alloc (.cells out.toArray el)):=by
  unfold Instr.buildSlice
  simp only [Sem.run_bind,qQo hu,Result.andThen_ok,qEs h1]
  rw [if_neg (by omega)]
  by_cases h0:n*szOf P el=0
  ·simp only [h0,if_true] at hzz ⊢
   simp only [Sem.run_bind,Sem.run_pure,Result.andThen_ok]
   simp only [hzz,hf]
   simp only [newRow,Sem.run_bind,run_newObj_alloc,Result.andThen_ok,Sem.run_pure]
  ·simp only [h0,if_false] at hzz ⊢
   simp only [Sem.run_bind,Sem.run_pure,Result.andThen_ok,qVy h1]
   simp only [hzz,hf]
   simp only [newRow,Sem.run_bind,run_newObj_alloc,Result.andThen_ok,Sem.run_pure]
 rw [hrun]
 have nw:=New.alloc w (.cells out.toArray el)
 exact ⟨_,_,h.set w.heap.size (.cells out),rfl,hko _ r.fresh,r.new nw ⟨el,(0,0),rfl,by simp⟩,Frame.new r nw⟩
variable {P:Program} {h:H} {w:World}
theorem qRy {op:BinOp} {j yk:IntKind} {a b:Int} {k:Value→Prop} (hk:xZj op j a b k):∃ v,(Op.shift op j a yk b).run P w=.ok v w∧k v:=by
 unfold xZj at hk
 split at hk
 ·obtain ⟨h0,hk⟩:=hk
  exact ⟨_,by simp [Op.shift,show ¬ b<0 by omega],hk⟩
 ·obtain ⟨h0,hk⟩:=hk
  exact ⟨_,by simp [Op.shift,show ¬ b<0 by omega],hk⟩
 ·exact hk.elim
theorem qRe {op:BinOp} {j:IntKind} {a b:Int} {k:Value→Prop} {t:TypeId} (hs:qLq op=false) (hk:qIp op j a b k) :
  ∃ v,(Go.binOp op t (.int j a) (.int j b)).run P w=.ok v w∧k v:=by
 unfold qIp at hk
 split at hk
 all_goals first
  | exact hk.elim
  | exact ⟨_,by simp [Go.binOp,Op.intArith,Op.intCmp,Op.intBits],hk⟩
  | exact ⟨_,by simp [Go.binOp,Op.intDiv,hk.1],hk.2⟩
theorem qRb {op:BinOp} {a b:ByteArray} {k:Value→Prop} {t:TypeId} (hk:qIo op a b k) :
  ∃ v,(Go.binOp op t (.string a) (.string b)).run P w=.ok v w∧k v:=by
 unfold qIo at hk
 split at hk
 ·obtain ⟨hb,hk⟩:=hk
  refine ⟨_,?_,hk⟩
  have:¬ ((a.size+b.size:Nat):Int)>IntKind.i64.max:=by
   have:IntKind.i64.max=9223372036854775807:=rfl
   rw [this]; omega
  simp [Go.binOp,Op.stringOp,this]
  omega
 all_goals first
  | exact hk.elim
  | exact ⟨_,by simp [Go.binOp,Op.stringOp],hk⟩
theorem xKt {t:TypeId} {d:TypeDesc} {cs:List Value} {off:Nat} {k:Value→Prop} (hd:P.underlying t=some d) (hk:qEu (aggB P t) cs off (szOf P t) k) :
  ∃ v,(part t cs.toArray off).run P w=.ok v w∧k v:=by
 unfold qEu at hk
 unfold part
 split at hk
 ·rename_i ha
  refine ⟨_,?_,hk⟩
  simp only [Sem.run_bind,qFl hd,Result.andThen_ok,ha,if_true,qDh hd,Sem.run_pure]
  congr 2
  apply Array.toList_inj.mp
  simp [List.extract_eq_take_drop]
 ·rename_i ha
  split at hk
  ·rename_i v vs hv
   refine ⟨v,?_,hk⟩
   have:cs.toArray[off]?=some v:=by
    have:=congrArg (·[0]?) hv
    simpa using this
   simp [qFl hd,ha,this]
  ·exact hk.elim
theorem qXw {v:Value} {k:Bool→Prop} (hk:qQp v k):∃ b,v=.bool b∧k b:=by
 unfold qQp at hk; split at hk
 ·exact ⟨_,rfl,hk⟩
 ·exact hk.elim
theorem qWr {v:Value} {k:IntKind→Int→Prop} (hk:intW v k):∃ j n,v=.int j n∧k j n:=by
 unfold intW at hk; split at hk
 ·exact ⟨_,_,rfl,hk⟩
 ·exact hk.elim
theorem qVm {v:Value} {k:ByteArray→Prop} (hk:strW v k):∃ s,v=.string s∧k s:=by
 unfold strW at hk; split at hk
 ·exact ⟨_,rfl,hk⟩
 ·exact hk.elim
theorem qJy {v:Value} {k:Addr→Prop} (hk:ptrW v k):∃ a,v=.pointer (some a)∧k a:=by
 unfold ptrW at hk; split at hk
 ·exact ⟨_,rfl,hk⟩
 ·exact hk.elim
theorem qPi {v:Value} {k:List Value→Prop} (hk:aggW v k):∃ cs:List Value,v=.agg cs.toArray∧k cs:=by
 unfold aggW at hk; split at hk
 ·rename_i cs; exact ⟨cs.toList,rfl,hk⟩
 ·exact hk.elim
theorem xBe {v:Value} {k:Nat→Prop} (hk:lenW v k):∃ a n c,v=.slice a n c∧k n:=by
 unfold lenW at hk; split at hk
 ·exact ⟨_,_,_,rfl,hk⟩
 ·exact hk.elim
theorem qPt {v:Value} {k:Nat→Prop} (hk:qXi v k):(∃ a n c,v=.slice a n c∧k n)∨(∃ s,v=.string s∧k s.size):=by
 unfold qXi at hk; split at hk
 ·exact .inl ⟨_,_,_,rfl,hk⟩
 ·exact .inr ⟨_,rfl,hk⟩
 ·exact hk.elim
theorem qSz {c:Bool} {t:TypeId} {x y:Value} {k:Bool→Prop} (hs:aggB P t=false) (hk:eqW P c t x y k) :
  ∃ r,(Op.equal t x y).run P w=.ok r w∧k r:=by
 unfold eqW at hk
 unfold Op.equal Op.maxDepth Op.equalIn
 split at hk
 ·rename_i hu
  obtain ⟨a,rfl,hk1⟩:=qXw hk
  obtain ⟨b,rfl,hk2⟩:=qXw hk1
  exact ⟨_,by simp [qQo hu],hk2⟩
 all_goals first
  | (exact hk.elim)
  | (rename_i hu; split at hk <;> first | exact hk.elim | exact ⟨_,by simp [qQo hu],hk⟩ | exact ⟨_,by simp [qQo hu],hk.2⟩)
  | (rename_i hu; simp [aggB,hu] at hs)
  | exact hk.elim
def qBf:Value→Value→Bool
 | .int _ _,.int _ _=>false
 | .float _ _,.float _ _=>false
 | .complex _ _ _,.complex _ _ _=>false
 | .string _,.string _=>false
 | _,_=>true
theorem qOu {c:Bool} {t:TypeId} {x y:Value} {k:Bool→Prop} (hs:aggB P t=false) (hk:eqW P c t x y k):qBf x y=true:=by
 unfold eqW at hk
 split at hk
 ·obtain ⟨a,rfl,hk1⟩:=qXw hk
  obtain ⟨b,rfl,_⟩:=qXw hk1
  rfl
 all_goals first
  | (exact hk.elim)
  | (split at hk <;> first | rfl | exact hk.elim)
  | (rename_i hu; simp [aggB,hu] at hs)
  | exact hk.elim
theorem qRd {t:TypeId} {a b:Value} (h:qBf a b=true):Go.binOp .eql t a b=(do pure (.bool (← Op.equal t a b)):Sem Value):=by
 cases a <;> cases b <;> first | rfl | simp [qBf] at h
theorem qRc {t:TypeId} {a b:Value} (h:qBf a b=true):Go.binOp .neq t a b=(do pure (.bool (!(← Op.equal t a b))):Sem Value):=by
 cases a <;> cases b <;> first | rfl | simp [qBf] at h
theorem qEh {op:BinOp} {t:TypeId} {x y:Operand} {a b:Value} (hab:∀ cs ds,¬ (a=.agg cs∧b=.agg ds))
    (hc:a=.nilIface→b=.nilIface→(op=.eql∨op=.neq)→(qXj x || qXj y)=true) :
    (eqGuard op t x y a b).run P w=.ok () w:=by
  unfold eqGuard
  by_cases ho:op=.eql∨op=.neq
  · cases a <;> cases b <;> first
      | (rcases ho with rfl | rfl <;> simp; done)
      | (rename_i cs ds; exact absurd ⟨rfl,rfl⟩ (hab cs ds))
      | (have h1 := hc rfl rfl ho
         clear hc
         cases x <;> cases y <;> first | (simp [qXj] at h1; done) | (rcases ho with rfl | rfl <;> simp))
  · cases op <;> first | exact absurd (Or.inl rfl) ho | exact absurd (Or.inr rfl) ho | simp
theorem xWi {op:BinOp} {t:TypeId} {x y:Operand} {a b:Value} {k:Value→Prop} (hs:aggB P t=false) (hk:binV P op (qXj x || qXj y) t a b k) :
  ∃ v,(do eqGuard op t x y a b; Go.binOp op t a b:Sem Value).run P w=.ok v w∧k v:=by
 have red:(∀ cs ds,¬ (a=.agg cs∧b=.agg ds))→(a=.nilIface→b=.nilIface→(op=.eql∨op=.neq)→(qXj x || qXj y)=true) →
   (∃ v,(Go.binOp op t a b).run P w=.ok v w∧k v)→∃ v,(do eqGuard op t x y a b; Go.binOp op t a b:Sem Value).run P w=.ok v w∧k v:=by
  intro h1 h2 ⟨v,hv,hkv⟩
  exact ⟨v,by simp only [Sem.run_bind,qEh h1 h2,Result.andThen_ok,hv],hkv⟩
 unfold binV at hk
 split at hk
 ·rename_i j u j' v
  refine red (by simp) (by simp) ?_
  split at hk
  ·rename_i hsh
   obtain ⟨r,hr,hkr⟩:=qRy (P:=P) (w:=w) (yk:=j') hk
   refine ⟨r,?_,hkr⟩
   rw [← hr]
   cases op <;> simp [qLq] at hsh <;> rfl
  ·rename_i hsh
   obtain ⟨rfl,hk⟩:=hk
   exact qRe hsh hk
 ·exact red (by simp) (by simp) (qRb hk)
 ·rename_i hni hns
  have core:∀ {q:Bool→Prop},(op=.eql∨op=.neq)→eqW P (qXj x || qXj y) t a b q →
    (∀ cs ds,¬ (a=.agg cs∧b=.agg ds))∧(a=.nilIface→b=.nilIface→(op=.eql∨op=.neq)→(qXj x || qXj y)=true)∧∃ r,(Op.equal t a b).run P w=.ok r w∧q r:=by
   intro q _ hq
   refine ⟨fun cs ds=>?_,fun ha hb _=>?_,qSz hs hq⟩
   ·rintro ⟨rfl,rfl⟩
    unfold eqW at hq
    split at hq
    ·obtain ⟨_,h1,_⟩:=qXw hq; cases h1
    all_goals first
     | (exact hq.elim)
     | (split at hq <;> simp_all; done)
     | (rename_i hu; simp [aggB,hu] at hs)
     | exact hq.elim
   ·subst ha hb
    unfold eqW at hq
    split at hq
    ·obtain ⟨_,h1,_⟩:=qXw hq; cases h1
    all_goals first
     | exact hq.1
     | exact hq.elim
     | (split at hq <;> simp_all; done)
     | (rename_i hu; simp [aggB,hu] at hs)
  split at hk
  ·obtain ⟨h1,h2,r,hr,hkr⟩:=core (.inl rfl) hk
   refine red h1 h2 ⟨.bool r,?_,hkr⟩
   rw [qRd (qOu hs hk)]
   simp only [Sem.run_bind,hr,Result.andThen_ok,Sem.run_pure]
  ·obtain ⟨h1,h2,r,hr,hkr⟩:=core (.inr rfl) hk
   refine red h1 h2 ⟨.bool (!r),?_,hkr⟩
   rw [qRc (qOu hs hk)]
   simp only [Sem.run_bind,hr,Result.andThen_ok,Sem.run_pure]
  ·exact hk.elim
theorem xGc {a b:IntKind} (h:ikEq a b=true):a=b:=by
 unfold ikEq at h
 cases a <;> cases b <;> first | rfl | (exact absurd h (by decide))
theorem qYs {j:IntKind} {v:Value} {k:Int→Prop} (hk:intK j v k):∃ n,v=.int j n∧k n:=by
 unfold intK at hk
 cases v <;> try exact hk.elim
 rename_i j' n
 dsimp only at hk
 split at hk
 ·rename_i h1
  obtain rfl:=xGc h1
  exact ⟨n,rfl,hk⟩
 ·exact hk.elim
theorem xGw {op:BinOp} {c:Bool} {t:TypeId} {a b:Value} {k:Value→Prop} (hk:binW P op c t a b k):binV P op c t a b k:=by
  unfold binW at hk
  split at hk
  · split at hk
    · rename_i hs
      obtain ⟨x,rfl,hk1⟩:=qYs hk
      obtain ⟨j',y,rfl,hk2⟩:=qWr hk1
      simp only [binV,hs]
      exact hk2
    · rename_i hs
      obtain ⟨x,rfl,hk1⟩:=qYs hk
      obtain ⟨y,rfl,hk2⟩:=qYs hk1
      simp only [binV,hs,true_and]
      exact hk2
  · obtain ⟨x,rfl,hk1⟩:=qVm hk
    obtain ⟨y,rfl,hk2⟩:=qVm hk1
    exact hk2
  · rename_i hu
    unfold eqn at hk
    split at hk
    all_goals first
      | exact hk.elim
      | (obtain ⟨x, rfl, hk1⟩ := qXw hk
         obtain ⟨y,rfl,hk2⟩:=qXw hk1
         simpa [binV,eqW,hu,qQp] using hk2)
  all_goals first
    | exact hk.elim
    | (rename_i hu
       unfold eqn at hk
       split at hk
       all_goals first
         | exact hk.elim
         | (unfold eqSl at hk; split at hk <;> first | exact hk.elim | simpa [binV,eqW,hu] using hk)
         | (unfold xGk at hk; split at hk <;> first | exact hk.elim | simpa [binV,eqW,hu] using hk)
         | (unfold eqFn at hk; split at hk <;> first | exact hk.elim | simpa [binV,eqW,hu] using hk)
         | (unfold eqIf at hk; split at hk <;> first | exact hk.elim | simpa [binV,eqW,hu] using hk)
         | (unfold xGj at hk; split at hk <;> first | exact hk.elim | simpa [binV,eqW,hu] using hk))
theorem xWh {op:BinOp} {t:TypeId} {x y:Operand} {a b:Value} {k:Value→Prop} (hs:aggB P t=false) (hk:binW P op (qXj x || qXj y) t a b k) :
  ∃ v,(do eqGuard op t x y a b; Go.binOp op t a b:Sem Value).run P w=.ok v w∧k v:=xWi hs (xGw hk)
variable {P:Program} {h:H} {w:World}
theorem xYd {op:UnOp} {x:Value} {k:Value→Prop} (hk:unW op x k):∃ v,(Op.unary op x).run P w=.ok v w∧k v:=by
 unfold unW at hk
 split at hk
 ·obtain ⟨j,n,rfl,hk1⟩:=qWr hk
  exact ⟨_,by simp [Op.unary,Op.intArith],hk1⟩
 ·obtain ⟨j,n,rfl,hk1⟩:=qWr hk
  exact ⟨_,by simp [Op.unary,Op.intBits],hk1⟩
 ·obtain ⟨b,rfl,hk1⟩:=qXw hk
  exact ⟨_,by simp [Op.unary],hk1⟩
 ·exact hk.elim
theorem qBv {s d:TypeId} {c:Cv} (h:cvOf P s d=c):match c with
  | .ints k=>(∃ j,P.underlying s=some (.int j))∧P.underlying d=some (.int k)
  | .same=>P.underlying s=some .string∧P.underlying d=some .string
  | .rs=>(∃ j,P.underlying s=some (.int j))∧P.underlying d=some .string
  | .bs=>∃ e,P.underlying s=some (.slice e)∧P.underlying e=some (.int .u8)∧P.underlying d=some .string
  | .sb=>∃ e,P.underlying s=some .string∧P.underlying e=some (.int .u8)∧P.underlying d=some (.slice e)
  | .mark=>∃ e,s=d∧P.underlying s=some (.slice e)∧P.underlying e=some (.int .u8)
  | .no=>True:=by
 unfold cvOf at h
 split at h
 ·rename_i h1 h2; subst h; exact ⟨⟨_,h1⟩,h2⟩
 ·rename_i h1 h2; subst h; exact ⟨h1,h2⟩
 ·rename_i h1 h2; subst h; exact ⟨⟨_,h1⟩,h2⟩
 ·rename_i e h1 h2
  split at h
  ·rename_i h3; subst h; exact ⟨e,h1,h3,h2⟩
  ·subst h; trivial
 ·rename_i e h1 h2
  split at h
  ·rename_i h3; subst h; exact ⟨e,h1,h3,h2⟩
  ·subst h; trivial
 ·rename_i e e2 h1 h2
  split at h
  ·rename_i hq h3; subst h; exact ⟨e,eq_of_beq hq,h1,h3⟩
  ·subst h; trivial
 ·subst h; trivial
theorem xVa (r:Rel h w) {a:Addr} {l:List Value} (hb:h a.block=some (.cells l)):∃ w',(markStringish a).run P w=.ok () w'∧Rel (h.set a.block (.ro l)) w'∧Frame h w (h.set a.block (.ro l)) w':=by
 obtain ⟨t,fz,hm,hf⟩:=r _ _ hb
 have hsh:w.shape? a.block=some (t,l.length):=by
  unfold World.shape?
  rw [hm]; simp
 have hlt:=qAz (r _ _ hb)
 obtain ⟨lo,hi⟩:=fz
 have hu:Upd w a.block (.cells l.toArray t (if lo==hi then (l.length,l.length+1) else (min lo l.length,max hi (l.length+1)))) (w.freeze ⟨a.block,l.length,none⟩ 1):=by
  unfold World.freeze
  rw [if_neg (show ¬ (1:Nat)=0 by decide)]
  refine ⟨rfl,rfl,rfl,by simp,?_,fun c hc=>?_⟩
  ·show (w.heap.modify a.block _)[a.block]?=_
   rw [Array.getElem?_modify,if_pos rfl,hm]; rfl
  ·show (w.heap.modify a.block _)[c]?=_
   rw [Array.getElem?_modify,if_neg (fun e=>hc e.symm)]
 refine ⟨_,?_,r.upd hu ⟨t,_,rfl⟩,Frame.upd hu hb rfl⟩
 simp [markStringish,hsh]
theorem xVz (r:Rel h w) {s d:TypeId} {v:Value} {k:Kv} (hk:xAh P s d v h k):Good h w ((convert s d v).run P w) k:=by
 unfold xAh at hk
 split at hk
 ·rename_i j hc
  obtain ⟨⟨_,h1⟩,h2⟩:=qBv hc
  obtain ⟨j2,n,rfl,hk⟩:=qWr hk
  have e:(convert s d (.int j2 n)).run P w=.ok (.int j (j.wrap n)) w:=by simp [convert,qQo h1,qQo h2,Conv.intToInt]
  rw [e]; exact Good.pure r hk
 ·rename_i hc
  obtain ⟨h1,h2⟩:=qBv hc
  obtain ⟨x,rfl,hk⟩:=qVm hk
  have e:(convert s d (.string x)).run P w=.ok (.string x) w:=by simp [convert,qQo h1,qQo h2]
  rw [e]; exact Good.pure r hk
 ·rename_i hc
  obtain ⟨⟨_,h1⟩,h2⟩:=qBv hc
  obtain ⟨j2,n,rfl,hk⟩:=qWr hk
  have e:(convert s d (.int j2 n)).run P w=.ok (.string (Utf8.encode n)) w:=by simp [convert,qQo h1,qQo h2,Conv.intToString]
  rw [e]; exact Good.pure r hk
 ·rename_i hc
  obtain ⟨el,h1,h3,h2⟩:=qBv hc
  unfold bsW at hk
  split at hk
  ·rename_i l c
   rw [run_convert_bytes_string w s d el none l c h1 h3 h2]
   have e:(Conv.bytesToString (.slice none l c)).run P w=.ok (.string .empty) w:=by simp [Conv.bytesToString]
   rw [e]; exact Good.pure r hk
  ·rename_i a n c
   obtain ⟨ns,hv,hk⟩:=hk
   rw [run_convert_bytes_string w s d el (some a) n c h1 h3 h2,run_bytesToString w a n c ns (qEb r hv),foldl_push_bytes]
   have e:(⟨ByteArray.empty.data++(ns.map fun n=>UInt8.ofNat n.toNat).toArray⟩:ByteArray)=xYt ns:=by
    unfold xYt
    congr 1
    simp [ByteArray.empty,ByteArray.emptyWithCapacity]
    rfl
   rw [e]; exact Good.pure r hk
  ·exact hk.elim
 ·rename_i hc
  obtain ⟨el,h1,h3,h2⟩:=qBv hc
  obtain ⟨x,rfl,hk⟩:=qVm hk
  rw [run_bytes_of_string w s d el x h1 h2 h3]
  have hle:x.size≤grownCap w x.size 0 el:=by unfold grownCap; simp [Question.cut]
  have hrow:(bytesRow x (grownCap w x.size 0 el)).toList=(x.data.toList.map fun y=>Value.int .u8 y.toNat)++List.replicate (grownCap w x.size 0 el - x.size) (.int .u8 0):=by
   simp [bytesRow]
  have n:=(New.alloc w.drew (.cells (bytesRow x (grownCap w x.size 0 el)) el ((bytesRow x (grownCap w x.size 0 el)).size,(bytesRow x (grownCap w x.size 0 el)).size+1))).of_drew
  refine ⟨_,_,_,rfl,hk w.heap.size _ r.fresh hle,r.new n ⟨el,_,by rw [← hrow]⟩,Frame.new r n⟩
 ·rename_i hc
  obtain ⟨el,rfl,h1,h3⟩:=qBv hc
  unfold xBb at hk
  split at hk
  ·rename_i a n c
   obtain ⟨l,hb,hk⟩:=hk
   obtain ⟨w',e1,r',f⟩:=xVa (P:=P) r hb
   have e:(convert s s (.slice (some a) n c)).run P w=.ok (.slice (some a) n c) w':=by simp [convert,qQo h1,qQo h3,e1]
   exact ⟨_,_,_,e,hk,r',f⟩
  ·exact hk.elim
 ·exact hk.elim
theorem xKu {v:Option Value} {k:Option Int→Prop} (hk:optI v k):(v=none∧k none)∨∃ j n,v=some (.int j n)∧k (some n):=by
 unfold optI at hk
 split at hk
 ·exact .inr ⟨_,_,rfl,hk⟩
 ·exact hk.elim
 ·exact .inl ⟨rfl,hk⟩
theorem qJo {v:Value} {j:IntKind} {n:Int} {y:Nat} {c:BoundsCode} (hv:v=.int j n) (h0:0≤n) (h1:n≤y):(Instr.sliceBound v y c).run P w=.ok n.toNat w:=by
 subst hv; simp [Instr.sliceBound,asIntOf,h0,h1]
theorem qCa {sl:Bool} {len cap:Nat} {lo hi mx:Option Value} {l hh m:Option Int}
  (e1:(lo=none∧l=none)∨∃ j n,lo=some (.int j n)∧l=some n) (e2:(hi=none∧hh=none)∨∃ j n,hi=some (.int j n)∧hh=some n)
  (e3:(mx=none∧m=none)∨∃ j n,mx=some (.int j n)∧m=some n)
  (h0:0≤l.getD 0) (h1:l.getD 0≤hh.getD len) (h2:hh.getD len≤m.getD cap) (h3:m.getD cap≤(cap:Int)) (h4:m.isSome→hh.isSome) :
  (Instr.sliceBounds sl len cap lo hi mx).run P w=.ok ((l.getD 0).toNat,(hh.getD len).toNat,(m.getD cap).toNat) w:=by
 unfold Instr.sliceBounds
 rcases e3 with ⟨rfl,rfl⟩ | ⟨j3,n3,rfl,rfl⟩
 ·simp only [Option.getD_none] at h2 h3 ⊢
  rcases e2 with ⟨rfl,rfl⟩ | ⟨j2,n2,rfl,rfl⟩
  ·simp only [Option.getD_none] at h1 h2 ⊢
   rcases e1 with ⟨rfl,rfl⟩ | ⟨j1,n1,rfl,rfl⟩
   ·simp
   ·simp only [Option.getD_some] at h0 h1 ⊢
    simp [qJo (P:=P) (w:=w) rfl h0 h1]
  ·simp only [Option.getD_some] at h1 h2 ⊢
   have hb:=fun c=>qJo (P:=P) (w:=w) (c:=c) (v:=.int j2 n2) rfl (by omega:(0:Int)≤n2) h2
   rcases e1 with ⟨rfl,rfl⟩ | ⟨j1,n1,rfl,rfl⟩
   ·simp [hb]
   ·simp only [Option.getD_some] at h0 h1 ⊢
    have hb1:=fun c=>qJo (P:=P) (w:=w) (c:=c) (v:=.int j1 n1) (y:=n2.toNat) rfl h0 (by omega)
    simp [hb,hb1]
 ·obtain ⟨j2,n2,rfl,rfl⟩:∃ j n,hi=some (.int j n)∧hh=some n:=by
   rcases e2 with ⟨rfl,rfl⟩ | e2
   ·simp at h4
   ·exact e2
  simp only [Option.getD_some] at h1 h2 h3 ⊢
  have hb3:=fun c=>qJo (P:=P) (w:=w) (c:=c) (v:=.int j3 n3) (y:=cap) rfl (by omega:(0:Int)≤n3) h3
  have hb:=fun c=>qJo (P:=P) (w:=w) (c:=c) (v:=.int j2 n2) (y:=n3.toNat) rfl (by omega:(0:Int)≤n2) (by omega)
  rcases e1 with ⟨rfl,rfl⟩ | ⟨j1,n1,rfl,rfl⟩
  ·simp [hb3,hb]
  ·simp only [Option.getD_some] at h0 h1 ⊢
   have hb1:=fun c=>qJo (P:=P) (w:=w) (c:=c) (v:=.int j1 n1) (y:=n2.toNat) rfl h0 (by omega)
   simp [hb3,hb,hb1]
theorem qLk (r:Rel h w) {t el:TypeId} {n m:Int} {k:Kv} (he:qXr P t=some el) (hz:zOk P el=true) {j j':IntKind}
  (hk:qKa h (qVp P el) (qZz P el) n m k):Good h w ((Instr.makeSlice t (.int j n) (.int j' m)).run P w) k:=by
 obtain ⟨hn,hnm,hb,hm,hk⟩:=hk
 obtain ⟨z,h1,h2,h3,h4⟩:=qJu hz
 obtain ⟨i,hi,hib⟩:=xJg (P:=P) (w:=w) h1
 have wn:IntKind.i64.wrap n=n:=by
  simp [IntKind.wrap,IntKind.bits,IntKind.signed]; omega
 have wm:IntKind.i64.wrap m=m:=by
  simp [IntKind.wrap,IntKind.bits,IntKind.signed]; omega
 have hrow:(Array.range (m.toNat*szOf P el)).map ((if m.toNat*szOf P el=0 then (#[]:Array Value) else z.cells)[· % (if m.toNat*szOf P el=0 then (#[]:Array Value) else z.cells).size]!)=((List.replicate m.toNat (qZz P el)).flatten).toArray:=by
  by_cases h0:m.toNat*szOf P el=0
  ·have:m.toNat=0:=by
    rcases Nat.mul_eq_zero.mp h0 with h | h
    ·exact h
    ·omega
   simp [this]
  ·simp only [h0,if_false]
   rw [h2,← h3]
   exact qPr z.cells m.toNat
 have e:(Instr.makeSlice t (.int j n) (.int j' m)).run P w=.ok (.slice (some ⟨w.heap.size,0,none⟩) n.toNat m.toNat) (w.alloc (.cells ((List.replicate m.toNat (qZz P el)).flatten).toArray el)):=by
  unfold Instr.makeSlice
  simp only [Sem.run_bind,qQo (slEl he),Result.andThen_ok,asInt,asIntOf,Sem.run_pure,hi,hib,wn,wm]
  rw [if_neg (by simp; omega)]
  simp only [Sem.run_bind,qGt,Result.andThen_ok,qEs h1]
  by_cases h0:m.toNat*szOf P el=0
  ·simp only [h0,if_true] at hrow ⊢
   simp only [Sem.run_bind,Sem.run_pure,Result.andThen_ok,hrow,newRow,run_newObj_alloc]
  ·simp only [h0,if_false] at hrow ⊢
   simp only [Sem.run_bind,Sem.run_pure,Result.andThen_ok,qVy h1,hrow,newRow,run_newObj_alloc]
 rw [e]
 have nw:=New.alloc w (.cells ((List.replicate m.toNat (qZz P el)).flatten).toArray el)
 exact ⟨_,_,h.set w.heap.size (.cells _),rfl,hk _ r.fresh,r.new nw ⟨el,(0,0),rfl,by simp⟩,Frame.new r nw⟩
variable {P:Program} {h:H} {w:World}
theorem xQe {sz n:Nat} {x:Value} {k:List Value→Prop} (hk:srcW h sz x n k):∃ ws,(∀ w,Rel h w→(Builtin.firstCells sz n x).run P w=.ok ws.toArray w)∧k ws:=by
 unfold srcW at hk
 split at hk
 ·exact ⟨[],fun w _=>by simp [Builtin.firstCells],hk⟩
 ·obtain ⟨ws,hr,hk⟩:=hk
  exact ⟨ws,fun w r=>by simp [Builtin.firstCells,qEb r hr],hk⟩
 ·rename_i s
  refine ⟨_,fun w _=>?_,hk⟩
  simp only [Builtin.firstCells,Sem.run_pure]
  congr 1
  apply Array.toList_inj.mp
  simp
 ·exact hk.elim
theorem qEm (z:List Value) (n:Nat):Builtin.zeroCells z.toArray n=(List.replicate n z).flatten.toArray:=by
 unfold Builtin.zeroCells
 exact qPr z.toArray n
theorem qTo {t u el ty:TypeId} {base:Option Addr} {len cap n:Nat} {x:Value} (he:qXr P t=some el) (hs:(sizeOf el).run P w=.ok (szOf P el) w) (hu:xYu P u=true)
    (hlen:(Builtin.lenOf x).run P w=.ok n w) :
    (Builtin.append_ #[t,u] ty #[.slice base len cap,x]).run P w =
      (if len+n≤cap then (do
          let new ← Builtin.firstCells (szOf P el) n x
          if let some a:=base then storeCells (a.add (len*szOf P el)) new.toList
          pure (.slice base (len+n) cap):Sem Value)
        else (do
          if ((len+n:Nat):Int)>IntKind.i64.max∧(false=true∨(← typeInfo el).bytes=0) then runtimePanic (.error "growslice: len out of range")
          if Builtin.nextslicecap (len+n) cap*(← typeInfo el).bytes>2 ^ 48 then (do
            if !(← Builtin.mayShare (szOf P el) len n base x) then mark .noRoom
            unsupported (.resourceLimit "append: a slice or a string whose bytes no memory bears"))
          let newCap ← choose (.appendCap (len+n) cap el)
          askRoom (newCap*(← typeInfo el).bytes)
          let old ← Builtin.firstCells (szOf P el) len (.slice base len cap)
          let new ← Builtin.firstCells (szOf P el) n x
          let rest:=Builtin.zeroCells (← zeroValue el).cells (newCap - (len+n))
          pure (.slice (some (← newRow el (old++new++rest))) (len+n) newCap):Sem Value)).run P w:=by
  unfold xYu at hu
  cases hd:P.underlying u with
  | none=>simp [hd] at hu
  | some d =>
    cases d <;> first
      | (simp [hd] at hu; done)
      | (unfold Builtin.append_
         simp only [Sem.run_bind,qQo (slEl he),Result.andThen_ok,hs,qQo hd,hlen,Sem.run_pure,List.getElem?_toArray,List.getElem?_cons_zero,List.getElem?_cons_succ]
         by_cases hc:len+n≤cap
         · simp [hc,hlen]
           congr 1 <;> (funext a w'; cases base <;> rfl)
         · simp [hc,hlen])
theorem qKp (tg:Bool) (r:Rel h w) {t u el ty:TypeId} {s x:Value} {n:Nat} {k:Kv} (he:qXr P t=some el) (hz:zOk P el=true) (hu:xYu P u=true)
  (hn:qXi x (·=n)) (hk:srcW h (szOf P el) x n fun ws=>apG tg el h (szOf P el) (qVp P el) (qZz P el) s n ws k) :
  Good h w ((Builtin.append_ #[t,u] ty #[s,x]).run P w) k:=by
 obtain ⟨z,hz1,hz2,hz3,hz4⟩:=qJu hz
 obtain ⟨i,hii⟩:=qPz hz1
 have hi:∀ w':World,(typeInfo el).run P w'=.ok i w':=fun w'=>by simp [typeInfo,hii]
 have hib:i.bytes=qVp P el:=by simp [qVp,Program.bytesOf,hii]
 obtain ⟨ws,hws,hk0⟩:=xQe (P:=P) hk
 have hlen:(Builtin.lenOf x).run P w=.ok n w:=by
  rcases qPt hn with ⟨a,m,c,rfl,hm⟩ | ⟨b,rfl,hm⟩
  ·simp [Builtin.lenOf,hm]
  ·simp [Builtin.lenOf,hm]
 unfold apG at hk0
 split at hk0
 ·rename_i base len cap
  obtain ⟨hk1,hk2⟩:=hk0
  rw [qTo he (qEs hz1) hu hlen]
  by_cases hc:len+n≤cap
  ·have hk1:=hk1 hc
   rw [if_pos hc]
   cases base with
   | none =>
    simp only at hk1
    simp only [Sem.run_bind,hws w r,Result.andThen_ok,Sem.run_pure]
    exact Good.pure r hk1
   | some a =>
    obtain ⟨hka,hkb⟩:=hk1
    by_cases hw0:ws=[]
    ·have hws':=hws w r
     rw [hw0] at hws'
     simp only [Sem.run_bind,hws',Result.andThen_ok,Sem.run_pure,storeCells]
     exact Good.pure r (hka hw0)
    ·obtain ⟨hone,h',hwr,hk⟩:=hkb hw0
     obtain ⟨w',hst,r',f⟩:=qDb (P:=P) r hwr hone
     simp only [Sem.run_bind,hws w r,Result.andThen_ok,Sem.run_pure,hst]
     exact ⟨_,w',h',rfl,hk,r',f⟩
  ·obtain ⟨hb,hmax,old,hold,hk⟩:=hk2 (by omega)
   rw [if_neg hc]
   have hr:Rel h w.drew:=r.same (SameHeap.refl w).drew
   have hol:(Builtin.firstCells (szOf P el) len (.slice base len cap)).run P w.drew=.ok old.toArray w.drew:=by
    cases base with
    | none=>simp [qBh] at hold; subst hold; simp [Builtin.firstCells]
    | some a=>simp only [qBh] at hold; simp [Builtin.firstCells,qEb hr hold]
   obtain ⟨c,hc1,hc2⟩:∃ c,len+n≤c∧(Question.appendCap (len+n) cap el).cut (w.tape w.drawn (.appendCap (len+n) cap el))=c:=⟨_,by simp [Question.cut],rfl⟩
   have nw:=(New.alloc w.drew (.cells (old++(ws++(List.replicate (c - (len+n)) (qZz P el)).flatten)).toArray el)).of_drew
   have hzc:Builtin.zeroCells z.cells (c - (len+n))=((List.replicate (c - (len+n)) (qZz P el)).flatten).toArray:=by
    have:=qEm z.cells.toList (c - (len+n))
    rw [hz2]
    simpa using this
   have hmx:¬ ((len+n:Nat):Int)>IntKind.i64.max:=by omega
   have hbb:¬ Builtin.nextslicecap (len+n) cap*i.bytes>2 ^ 48:=by rw [hib]; omega
   have hch:(choose (.appendCap (len+n) cap el)).run P w=.ok c w.drew:=by rw [run_choose_drew,hc2]; simp [Question.forced]
   have harr:old.toArray++ws.toArray++((List.replicate (c - (len+n)) (qZz P el)).flatten).toArray=(old++(ws++(List.replicate (c - (len+n)) (qZz P el)).flatten)).toArray:=by simp
   simp only [Sem.run_bind,hi,Result.andThen_ok,hmx,false_and,if_false,hbb,Sem.run_pure,hch,qGt,hol,hws w.drew hr,qVy hz1,hzc,newRow,run_newObj_alloc,harr]
   cases tg with
   | false=>exact ⟨_,_,h.set w.heap.size (.cells _),rfl,hk _ _ r.fresh hc1,r.new nw ⟨el,(0,0),rfl,by simp⟩,Frame.new r nw⟩
   | true=>exact ⟨_,_,h.set w.heap.size (.brow el _),rfl,hk _ _ r.fresh hc1,r.new nw ⟨(0,0),rfl,by simp⟩,Frame.new r nw⟩
 ·exact hk0.elim
theorem qCu (r:Rel h w) {t u el ty:TypeId} {s x:Value} {n:Nat} {k:Kv} (he:qXr P t=some el) (hz:zOk P el=true) (hu:xYu P u=true)
  (hn:qXi x (·=n)) (hk:srcW h (szOf P el) x n fun ws=>match isU8 P el && (szOf P el==1) with
   | true=>apX (xUb P u) el h (qVp P el) (qZz P el) s n ws k
   | false=>apW h (szOf P el) (qVp P el) (qZz P el) s n ws k) :
  Good h w ((Builtin.append_ #[t,u] ty #[s,x]).run P w) k:=by
 split at hk
 ·rename_i h1
  simp only [Bool.and_eq_true,beq_iff_eq] at h1
  refine qKp (qMf (xUb P u) el h s) r he hz hu hn ?_
  rw [h1.2] at hk ⊢
  exact hk
 ·exact qKp false r he hz hu hn hk
theorem xVy (r:Rel h w) {t u el ty:TypeId} {d x:Value} {n m:Nat} {k:Kv} (he:qXr P t=some el) (hz:zOk P el=true)
  (hn:qXi x (·=n)) (hm:qXi d (·=m)) (hk:srcW h (szOf P el) x (min n m) fun ws=>cpW h d n ws k) :
  Good h w ((Builtin.copy_ #[t,u] ty #[d,x]).run P w) k:=by
 obtain ⟨z,hz1,hz2,hz3,hz4⟩:=qJu hz
 obtain ⟨ws,hws,hk0⟩:=xQe (P:=P) hk
 have hlen:(Builtin.lenOf x).run P w=.ok n w:=by
  rcases qPt hn with ⟨a,m,c,rfl,hm⟩ | ⟨b,rfl,hm⟩
  ·simp [Builtin.lenOf,hm]
  ·simp [Builtin.lenOf,hm]
 unfold cpW at hk0
 split at hk0
 ·rename_i base len cap
  obtain rfl:len=m:=by simpa [qXi] using hm
  obtain ⟨hk1,hk2⟩:=hk0
  have hmin:Nat.min n len=min n len:=rfl
  unfold Builtin.copy_
  simp only [Sem.run_bind,qQo (slEl he),Result.andThen_ok,List.getElem?_toArray,List.getElem?_cons_zero,List.getElem?_cons_succ,Sem.run_pure,hlen,qEs hz1,hmin,hws w r]
  by_cases h0:ws=[]
  ·subst h0
   have hk1:=hk1 rfl
   cases base with
   | none=>simp only [Sem.run_bind,Sem.run_pure,Result.andThen_ok]; exact Good.pure r hk1
   | some a=>simp only [Sem.run_bind,Sem.run_pure,Result.andThen_ok,storeCells]; exact Good.pure r hk1
  ·have hk2:=hk2 h0
   cases base with
   | none=>simp only [Sem.run_bind,Sem.run_pure,Result.andThen_ok]; exact Good.pure r hk2
   | some a =>
    obtain ⟨h1,h',hw,hk⟩:=hk2
    obtain ⟨w',hst,r',f⟩:=qDb (P:=P) r hw h1
    simp only [Sem.run_bind,Sem.run_pure,Result.andThen_ok,hst]
    exact ⟨_,w',h',rfl,hk,r',f⟩
 ·exact hk0.elim
theorem qPw {mx:Bool} {j:IntKind}:∀ (vs:List Value) (a:Int) (k:Value→Prop),qPa mx j a vs k →
  ∃ v,(vs.foldlM (m:=Sem) (if mx then Builtin.max2 else Builtin.min2) (.int j a)).run P w=.ok v w∧k v
 | [],a,k,hk=>⟨_,by simp,hk⟩
 | v::vs,a,k,hk=>by
  unfold qPa at hk
  split at hk
  ·exact absurd ‹_=[]› (by simp)
  ·rename_i j' b vs' heq
   obtain ⟨rfl,rfl⟩:=List.cons.inj heq
   obtain ⟨rfl,hk⟩:=hk
   obtain ⟨v,hv,hkv⟩:=qPw vs _ _ hk
   refine ⟨v,?_,hkv⟩
   rw [← hv]
   cases mx <;> simp [List.foldlM_cons,Builtin.max2,Builtin.min2]
  ·exact hk.elim
theorem qRf {x:Value} {xt t:TypeId} {ok:Bool} {k:Value→Prop} (hk:qUk P x t ok k):∃ v,(Instr.typeAssert x xt t ok).run P w=.ok v w∧k v:=by
 unfold qUk at hk
 split at hk
 ·exact hk.elim
 ·rename_i d hni hd
  have hnot:∀ ms,d≠.interface ms:=fun ms e=>hni ms e
  unfold Instr.typeAssert
  split at hk
  ·split at hk
   ·split at hk
    ·rename_i z hz
     refine ⟨_,?_,hk⟩
     cases d <;> first
      | (exact absurd rfl (hnot _))
      | simp [qQo hd,qVy hz]
    ·exact hk.elim
   ·rename_i u v
    split at hk
    ·rename_i z hz
     by_cases e:u=t
     ·refine ⟨_,?_,hk.1 e⟩
      cases d <;> first
       | (exact absurd rfl (hnot _))
       | simp [qQo hd,e]
     ·refine ⟨_,?_,hk.2 e⟩
      cases d <;> first
       | (exact absurd rfl (hnot _))
       | simp [qQo hd,e,qVy hz]
    ·exact hk.elim
   ·exact hk.elim
  ·split at hk
   ·rename_i u v
    obtain ⟨rfl,hk⟩:=hk
    refine ⟨_,?_,hk⟩
    cases d <;> first
     | (exact absurd rfl (hnot _))
     | simp [qQo hd]
   ·exact hk.elim
 ·exact hk.elim
theorem qPy {t:TypeId} (hk:known P t=true):(sizeOf t).run P w=.ok (szOf P t) w:=by
 obtain ⟨i,hi⟩:=Option.isSome_iff_exists.mp hk
 simp [sizeOf,typeInfo,hi,szOf,Program.cellsOf]
theorem qNe {t:TypeId} {lo hi:Option Value} {l hh:Option Int} {s:ByteArray} {k:ByteArray→Prop} (hu:P.underlying t=some .string)
  (e1:(lo=none∧l=none)∨∃ j n,lo=some (.int j n)∧l=some n) (e2:(hi=none∧hh=none)∨∃ j n,hi=some (.int j n)∧hh=some n) (hk:qXm s l hh k) :
  ∃ v,(Instr.sliceAt t (.string s) lo hi none).run P w=.ok (.string v) w∧k v:=by
 obtain ⟨h0,h1,h2,hk⟩:=hk
 refine ⟨_,?_,hk⟩
 have hb:=qCa (P:=P) (w:=w) (sl:=false) (len:=s.size) (cap:=s.size) (mx:=none) (m:=none) e1 e2 (.inl ⟨rfl,rfl⟩) h0 h1 h2 (by simp) (by simp)
 simp only [Instr.sliceAt,Instr.slice,Sem.run_bind,qQo hu,Result.andThen_ok,Option.isSome_none,Bool.false_eq_true,if_false,hb,Sem.run_pure]
theorem qRw {t el:TypeId} {lo hi mx:Option Value} {l hh m:Option Int} {s:Value} {k:Value→Prop} (hu:P.underlying t=some (.slice el)) (hkn:known P el=true)
  (e1:(lo=none∧l=none)∨∃ j n,lo=some (.int j n)∧l=some n) (e2:(hi=none∧hh=none)∨∃ j n,hi=some (.int j n)∧hh=some n)
  (e3:(mx=none∧m=none)∨∃ j n,mx=some (.int j n)∧m=some n) (hk:qXy s l hh m (szOf P el) k) :
  ∃ v,(Instr.sliceAt t s lo hi mx).run P w=.ok v w∧k v:=by
 unfold qXy at hk
 split at hk
 ·rename_i b len cap
  obtain ⟨h0,h1,h2,h3,h4,hk⟩:=hk
  refine ⟨_,?_,hk⟩
  have hb:=qCa (P:=P) (w:=w) (sl:=true) (len:=len) (cap:=cap) e1 e2 e3 h0 h1 h2 h3 h4
  simp only [Instr.sliceAt,Instr.slice,Sem.run_bind,qQo hu,Result.andThen_ok,hb,Sem.run_pure,qPy hkn]
 ·exact hk.elim
theorem qRx {t el:TypeId} {n:Nat} {a:Addr} {lo hi:Option Value} {l hh:Option Int} {k:Value→Prop} (hu:P.underlying t=some (.array n el)) (hkn:known P el=true)
  (e1:(lo=none∧l=none)∨∃ j n,lo=some (.int j n)∧l=some n) (e2:(hi=none∧hh=none)∨∃ j n,hi=some (.int j n)∧hh=some n) (hk:qXy (.slice (some a) n n) l hh none (szOf P el) k) :
  ∃ v,(Instr.sliceAt t (.pointer (some a)) lo hi none).run P w=.ok v w∧k v:=by
 unfold qXy at hk
 obtain ⟨h0,h1,h2,h3,h4,hk⟩:=hk
 refine ⟨_,?_,hk⟩
 have hb:=qCa (P:=P) (w:=w) (sl:=false) (len:=n) (cap:=n) e1 e2 (.inl ⟨rfl,rfl⟩) h0 h1 h2 h3 h4
 simp only [Instr.sliceAt,Sem.run_bind,qQo hu,Result.andThen_ok,Instr.sureAddr,hb,Sem.run_pure,qPy hkn]
 split <;> simp [*]
theorem xZg {t el:TypeId} {s:Value} {j:IntKind} {n:Int} {k:Addr→Prop} (hu:P.underlying t=some (.slice el)) (hkn:known P el=true) (hk:qQm s n (szOf P el) k) :
  ∃ a,(Instr.indexAt t s (.int j n)).run P w=.ok (.pointer (some a)) w∧k a:=by
 unfold qQm at hk
 split at hk
 ·obtain ⟨h0,h1,hk⟩:=hk
  refine ⟨_,?_,hk⟩
  simp [Instr.indexAt,asIntOf,qQo hu,h0,h1,qPy hkn]
 ·exact hk.elim
theorem xWn {t el:TypeId} {len:Nat} {p:Addr} {j:IntKind} {n:Int} (hu:P.underlying t=some (.array len el)) (hkn:known P el=true) (h2:2≤len) (h0:0≤n) (h1:n<(len:Int)) :
  (Instr.indexAt t (.pointer (some p)) (.int j n)).run P w=.ok (.pointer (some (p.add (n.toNat*szOf P el)))) w:=by
 simp [Instr.indexAt,asIntOf,qQo hu,h0,h1,qPy hkn,Instr.sureAddr]
variable {P:Program} {h:H} {w:World}
theorem qYt:∀ {e:Env} {s:Nat} {k:Value→Prop},getk e s k→∃ v,e[s]?=some (some v)∧k v
 | some v::_,0,k,hk=>⟨v,rfl,hk⟩
 | none::_,0,k,hk=>hk.elim
 | [],_,k,hk=>by simp [getk] at hk
 | x::e,n+1,k,hk=>by
  have:getk e n k:=by cases x <;> exact hk
  obtain ⟨v,hv,hkv⟩:=qYt this
  exact ⟨v,by simpa using hv,hkv⟩
theorem qJx:∀ {e:Env} {d:Nat} {v:Option Value} {k:Env→Prop},setk e d v k↔k (e.set d v)
 | [],_,v,k=>by simp [setk]
 | x::e,0,v,k=>by simp [setk]
 | x::e,n+1,v,k=>by simp only [setk,List.set_cons_succ]; exact qJx
theorem EnvR.set {e:Env} {tmps:Array Value} (r:EnvR e tmps) (d:Nat) (v:Value):EnvR (e.set d (some v)) (tmps.setIfInBounds d v):=by
 refine ⟨by simp [r.1],fun s u hs=>?_⟩
 rw [List.getElem?_set] at hs
 split at hs
 ·rename_i e1
  subst e1
  split at hs
  ·simp at hs; subst hs
   rename_i hlt
   simp [show d<tmps.size by rw [← r.1]; exact hlt]
  ·simp at hs
 ·rename_i e1
  rw [Array.getElem?_setIfInBounds_ne (by simpa using e1)]
  exact r.2 s u hs
theorem EnvR.forget {e:Env} {tmps:Array Value} (r:EnvR e tmps) (d:Nat) (v:Value):EnvR (e.set d none) (tmps.setIfInBounds d v):=by
 refine ⟨by simp [r.1],fun s u hs=>?_⟩
 rw [List.getElem?_set] at hs
 split at hs
 ·split at hs <;> simp at hs
 ·rename_i e1
  rw [Array.getElem?_setIfInBounds_ne (by simpa using e1)]
  exact r.2 s u hs
theorem EnvR.put {e:Env} {a:Act} (r:EnvR e a.tmps) (d:Option Nat) (v:Value):EnvR (match d with | some d=>e.set d (some v) | none=>e) (a.put d v).tmps:=by
 cases d with
 | none=>exact r
 | some d=>exact r.set d v
theorem EnvR.drop {e:Env} {a:Act} (r:EnvR e a.tmps) (d:Option Nat) (v:Value):EnvR (match d with | some d=>e.set d none | none=>e) (a.put d v).tmps:=by
 cases d with
 | none=>exact r
 | some d=>exact r.forget d v
theorem qCp {e:Env} {a:Act} (r:EnvR e a.tmps) {x:Operand} {k:Value→Prop} (hk:ev e x k):k (a.eval x):=by
 unfold ev at hk
 split at hk
 ·obtain ⟨v,hv,hk⟩:=qYt hk
  have:=r.2 _ _ hv
  simpa [Act.eval,this] using hk
 ·exact hk
 ·exact hk
 ·exact hk
theorem qUd {e:Env} {a:Act} (r:EnvR e a.tmps):∀ {xs:List Operand} {k:List Value→Prop},evs e xs k→k (xs.map a.eval)
 | [],_,hk=>hk
 | x::xs,k,hk=>by
  have:=qCp r hk
  have:=qUd r this
  simpa using this
theorem qLw {e:Env} {a:Act} (r:EnvR e a.tmps) {x:Option Operand} {k:Option Value→Prop} (hk:evo e x k):k (x.map a.eval):=by
 cases x with
 | none=>exact hk
 | some x=>exact qCp r hk
theorem qUy {t:TypeId} {φ:Value→Prop} (hk:qUc P t φ):∃ v,φ v:=by
 unfold qUc at hk
 split at hk <;> obtain ⟨x,hx⟩:=hk <;> exact ⟨_,hx⟩
theorem xXb:∀ {ts:List TypeId} {φ:List Value→Prop},exLr P ts φ→∃ vs,φ vs
 | [],_,hk=>⟨[],hk⟩
 | t::ts,φ,hk=>by
  obtain ⟨v,hk⟩:=qUy hk
  obtain ⟨vs,hk⟩:=xXb hk
  exact ⟨_,hk⟩
theorem qSy {ts:List TypeId} {φ:List Value→Prop} (hk:exL P ts φ):∃ vs,φ vs:=by
 unfold exL at hk
 split at hk
 ·exact xXb hk
 ·exact hk
theorem qSx {t:TypeId} {φ:Value→Prop} (hk:exT P t φ):∃ v,φ v:=by
 unfold exT at hk
 split at hk
 ·split at hk
  ·obtain ⟨vs,hk⟩:=qSy hk; exact ⟨_,hk⟩
  ·exact hk.elim
 ·exact qUy hk
theorem xXa:∀ {ts:List TypeId} {φ:List Value→Prop},exTs P ts φ→∃ vs,φ vs
 | [],_,hk=>⟨[],hk⟩
 | t::ts,φ,hk=>by
  obtain ⟨v,hk⟩:=qSx hk
  obtain ⟨vs,hk⟩:=xXa hk
  exact ⟨_,hk⟩
theorem xGh {ts:List TypeId} {φ:Value→Prop} (hk:exR P ts φ):∃ v,φ v:=by
 unfold exR at hk
 split at hk
 ·exact qSx hk
 ·obtain ⟨vs,hk⟩:=xXa hk; exact ⟨_,hk⟩
def Fo (ro:Option Nat):Fence:={ Fence.wide with round:=ro }
def Yld (P:Program) (l:Nat) (args:Array Value) (w:World) (R:Ending→World→Prop):Prop :=
 ∃ fn tmps assign body,(Instr.yield l args).run P w=.ok (.round l fn tmps assign body) w∧RoundIn Fence.wide 0 P l fn tmps assign body w R
def Sound (P:Program) (C:Orc):Prop:=∀ f args h k kp,C f args h k kp→∀ w R,Rel h w →
 (∀ v h' w',k v h'→Rel h' w'→Frame h w h' w'→R (.returned v) w')→(∀ c h' w',kp c h'→Rel h' w'→Frame h w h' w'→R (.panicked c) w') →
 (f<P.funcs.size→Calls P f args.toArray w R)∧(P.funcs.size≤f→Yld P (f - P.funcs.size) args.toArray w R)
theorem Sound.fn {C:Orc} (hC:Sound P C) {f:FuncId} (hf:f<P.funcs.size) {args:List Value} {h:H} {k:Kv} {kp:Kp} (hk:C f args h k kp) {w:World} {R:Ending→World→Prop} (r:Rel h w)
  (hv:∀ v h' w',k v h'→Rel h' w'→Frame h w h' w'→R (.returned v) w') (hp:∀ c h' w',kp c h'→Rel h' w'→Frame h w h' w'→R (.panicked c) w'):Calls P f args.toArray w R:=(hC _ _ _ _ _ hk w R r hv hp).1 hf
structure Ups (P:Program) (o:Oper) (a:Act) (next:Act→World→Prop) (Q:Exit→Act→World→Prop) (yl:Prop) (U:Result Next→Prop):Prop where
 val:∀ v w,next (a.put o.dst v) w→U (.ok (.value v) w)
 skp:∀ w,next (a.put o.dst undef) w→U (.ok .skip w)
 ent:∀ f args w,Calls P f args w (fun
   | .returned v,w''=>next (a.put o.dst v) w''
   | .panicked chain,w''=>Q (.panic chain) a w''
   | .outgrown,_=>LetsOut Q)→U (.ok (.enter f args) w)
 pan:∀ v w,Q (.panic [{ v,recovered:=false }]) a w→U (.halt (.panic v) w)
 rnd:yl→∀ l fn tmps assign body w,RoundIn Fence.wide 0 P l fn tmps assign body w (fun
   | .returned v,w''=>next (a.put o.dst v) w''
   | .panicked chain,w''=>Q (.panic chain) a w''
   | .outgrown,_=>LetsOut Q)→U (.ok (.round l fn tmps assign body) w)
theorem xYc {o:Oper} {a:Act} {next:Act→World→Prop} {Q:Exit→Act→World→Prop}:Ups P o a next Q False (o.upon P a next Q) :=
 ⟨fun _ _ h=>h,fun _ h=>h,fun _ _ _ h=>h,fun _ _ h=>h,fun h=>h.elim⟩
theorem xQv {ro:Option Nat} {x:Prop} (h:(Fo ro).depth.isSome=true):x:=by cases h
theorem xBm {ro:Option Nat} {f:FuncId} {args:Array Value} {w:World} {R:Ending→World→Prop} (h:Calls P f args w R):CallsIn (Fo ro) 0 P f args w R :=
 (callsIn_wide (n:=0)).2 h
theorem xHa {ro:Option Nat} {o:Oper} {a:Act} {next:Act→World→Prop} {Q:Exit→Act→World→Prop}:Ups P o a next Q True (o.uponIn (Fo ro) 0 P a next Q) where
 val _ _ h:=h
 skp _ h:=h
 ent _ _ _ h:=⟨xQv,xBm h⟩
 pan _ _ h:=h
 rnd:=fun _ _ _ _ _ _ _ h=>⟨xQv,h⟩
theorem qUj {f:FuncId} {args:Array Value} (hb:qZr P f=true):(callFunc f args).run P w=.ok (.enter f args) w:=by
 unfold qZr at hb
 cases hf:P.funcs[f]? with
 | none=>simp [hf] at hb
 | some fn =>
  simp only [hf,Bool.and_eq_true,bne_iff_ne,ne_eq] at hb
  have hn:¬ fn.name = "runtime.NumGoroutine":=hb.1
  cases hbd:fn.body with
  | none=>simp [hbd] at hb
  | some c=>simp [callFunc,hf,hn,hbd]
theorem qIi {f:FuncId} (hb:qZr P f=true):f<P.funcs.size:=by
 unfold qZr at hb
 rcases Nat.lt_or_ge f P.funcs.size with h | h
 ·exact h
 ·rw [Array.getElem?_eq_none h] at hb; cases hb
section step
variable {C:Orc} {o:Oper} {a:Act} {k:Kv} {kp:Kp} {next:Act→World→Prop} {Q:Exit→Act→World→Prop} {yl:Prop} {U:Result Next→Prop}
theorem qZa (hU:Ups P o a next Q yl U) {s:Sem Value} (g:Good h w (s.run P w) k) (hn:∀ v h' w',k v h'→Rel h' w'→Frame h w h' w'→next (a.put o.dst v) w') :
  U ((do pure (Next.value (← s)):Sem Next).run P w):=by
 obtain ⟨v,w',h',e,hk,r,f⟩:=g
 simp only [Sem.run_bind,e,Result.andThen_ok,Sem.run_pure]
 exact hU.val _ _ (hn v h' w' hk r f)
theorem qXc (hU:Ups P o a next Q yl U) (r:Rel h w) {s:Sem Value} (g:∃ v,s.run P w=.ok v w∧k v h) (hn:∀ v h' w',k v h'→Rel h' w'→Frame h w h' w'→next (a.put o.dst v) w') :
  U ((do pure (Next.value (← s)):Sem Next).run P w):=by
 obtain ⟨v,e,hk⟩:=g
 exact qZa hU (by rw [e]; exact Good.pure r hk) hn
theorem qEj (hU:Ups P o a next Q yl U) (hC:Sound P C) (r:Rel h w) {t:TypeId} {f:FuncId} {args:List Value} (hk:qGo P C t f args h k kp)
  (hn:∀ v h' w',k v h'→Rel h' w'→Frame h w h' w'→next (a.put o.dst v) w') (hp:∀ c h' w',kp c h'→Rel h' w'→Frame h w h' w'→Q (.panic c) a w') :
  U ((callFunc f args.toArray).run P w):=by
 unfold qGo at hk
 split at hk
 ·rename_i hb
  rw [qUj hb]
  refine hU.ent _ _ _ (hC.fn (qIi hb) hk r ?_ ?_)
  ·intro v h' w' hv r' f'
   obtain ⟨v',rfl,hv⟩:=xGh hv
   exact hn _ _ _ hv r' f'
  ·intro c h' w' hc r' f'
   exact hp _ _ _ hc r' f'
 ·exact hk.elim
theorem qMw (hU:Ups P o a next Q yl U) (hyl:yl) (hC:Sound P C) (r:Rel h w) {l:Nat} {args:List Value} (hk:C (P.funcs.size+l) args h k kp)
  (hn:∀ v h' w',k v h'→Rel h' w'→Frame h w h' w'→next (a.put o.dst v) w') (hp:∀ c h' w',kp c h'→Rel h' w'→Frame h w h' w'→Q (.panic c) a w') :
  U ((Instr.yield l args.toArray).run P w):=by
 obtain ⟨fn,tmps,as,body,h1,h2⟩:=(hC _ _ _ _ _ hk w (fun
   | .returned v,w''=>next (a.put o.dst v) w''
   | .panicked chain,w''=>Q (.panic chain) a w''
   | .outgrown,_=>LetsOut Q) r hn hp).2 (Nat.le_add_right _ _)
 rw [Nat.add_sub_cancel_left] at h1 h2
 rw [h1]
 exact hU.rnd hyl _ _ _ _ _ _ h2
end step
variable {P:Program} {h:H} {w:World}
theorem qLp {t:TypeId} {d:TypeDesc} (hd:keyD P t=some d):P.underlying t=some d∧((∃ j,d=.int j)∨d=.string):=by
 unfold keyD at hd
 split at hd
 ·rename_i j hu; cases hd; exact ⟨hu,.inl ⟨j,rfl⟩⟩
 ·rename_i hu; cases hd; exact ⟨hu,.inr rfl⟩
 ·cases hd
theorem qUi {t:TypeId} {d:TypeDesc} (hd:keyD P t=some d) (b:Bool) (v:Value):(Instr.checkKey b 10000 t v).run P w=.ok () w:=by
 obtain ⟨hu,hj⟩:=qLp hd
 show (Instr.checkKey b (9999+1) t v).run P w=.ok () w
 rw [Instr.checkKey]
 rcases hj with ⟨j,rfl⟩ | rfl <;> simp [qQo hu]
theorem qEg {t:TypeId} {d:TypeDesc} (hd:keyD P t=some d) {v:Value} {es:List MapEntry} {r:Option (Nat × Value)} (hr:Instr.findNow d v es 0=some r):(Instr.findKey t v es).run P w=.ok r w:=by
 obtain ⟨hu,_⟩:=qLp hd
 simp [Instr.findKey,qQo hu,hr]
theorem xCw {b:Nat} {es:List MapEntry} {c:Nat} (r:Rel h w) (hb:h b=some (.map es c)):w.heap[b]?=some (.map es.toArray c):=r b _ hb
theorem qLm (r:Rel h w) {t:TypeId} {x:Option Value} {l:Option Int} {ke el:TypeId} (ht:P.underlying t=some (.map ke el)) (hx:(x=none∧l=none)∨∃ j n,x=some (.int j n)∧l=some n) {k:Kv} (hk:xCv h k) :
  Good h w ((Instr.makeMap t x).run P w) k:=by
 have nw:=New.alloc w (.map #[] 0)
 refine ⟨.map (some w.heap.size),_,h.set w.heap.size (.map [] 0),?_,hk _ r.fresh,r.new nw rfl,Frame.new r nw⟩
 rcases hx with ⟨rfl,_⟩ | ⟨j,n,rfl,_⟩
 ·simp [Instr.makeMap]
 ·simp [Instr.makeMap,qQo ht,asInt,asIntOf]
theorem qOk (r:Rel h w) {t key el:TypeId} {d:TypeDesc} {z x n:Value} {ok:Bool} {k:Kv} (ht:P.underlying t=some (.map key el)) (hd:keyD P key=some d) (hz:qAp P el=some z)
  (hk:mapK h x fun es=>qSn d n es z fun u b=>exT P el fun u'=>u=u'∧k (bif ok then .tuple #[u',.bool b] else u') h):∃ v,(Instr.lookup t x n ok).run P w=.ok v w∧k v h:=by
 obtain ⟨es,hes,hk⟩:∃ es:List MapEntry,(∀ (g:Array MapEntry→Sem Value),(do
   let es ← match x with
    | .map none=>pure #[]
    | .map (some r)=>do
     let .map es _ ← getObj r | stuck "Lookup: map expected"
     pure es
    | _=>stuck "Lookup: map expected"
   g es).run P w=(g es.toArray).run P w)∧qSn d n es z fun u b=>exT P el fun u'=>u=u'∧k (bif ok then .tuple #[u',.bool b] else u') h:=by
  unfold mapK at hk
  split at hk
  ·exact ⟨[],fun g=>by simp,hk⟩
  ·rename_i b
   obtain ⟨es,c,hb,hk⟩:=hk
   have hm:=xCw r hb
   refine ⟨es,fun g=>?_,hk⟩
   simp [getObj,Sem.run,hm]
  ·exact hk.elim
 have key:∀ u b,(∀ r,Instr.findNow d n es 0=some r→(match r with | some (_,v)=>(v,true) | none=>(z,false))=(u,b))→(Instr.findNow d n es 0).isSome→(Instr.lookup t x n ok).run P w=.ok (bif ok then .tuple #[u,.bool b] else u) w:=by
  intro u b hub hs
  obtain ⟨q,hq⟩:=Option.isSome_iff_exists.mp hs
  have hub:=hub q hq
  unfold Instr.lookup
  simp only [Sem.run_bind,qQo ht,Result.andThen_ok]
  have e:=hes fun es=>do
   Instr.checkKey es.isEmpty 10000 key n
   let (v,ok') ← match ← Instr.findKey key n es.toList with
    | some (_,v)=>pure (v,true)
    | none=>pure (← zeroValue el,false)
   pure (if ok then .tuple #[v,.bool ok'] else v)
  simp only [Sem.run_bind] at e
  refine Eq.trans ?_ (e.trans ?_)
  ·rfl
  ·simp only [qUi hd,Result.andThen_ok,qEg hd hq]
   cases q with
   | none =>
    simp only [Prod.mk.injEq] at hub
    obtain ⟨rfl,rfl⟩:=hub
    cases ok <;> simp [qVy hz]
   | some iv =>
    obtain ⟨i,v⟩:=iv
    simp only [Prod.mk.injEq] at hub
    obtain ⟨rfl,rfl⟩:=hub
    cases ok <;> simp
 have fin:∀ u b,exT P el (fun u'=>u=u'∧k (bif ok then .tuple #[u',.bool b] else u') h)→k (bif ok then .tuple #[u,.bool b] else u) h:=by
  intro u b hx
  obtain ⟨u',rfl,hk⟩:=qSx hx
  exact hk
 unfold qSn at hk
 split at hk
 ·rename_i i v hq
  exact ⟨_,key v true (fun r hr=>by rw [hq] at hr; cases hr; rfl) (by rw [hq]; rfl),fin _ _ hk⟩
 ·rename_i hq
  exact ⟨_,key z false (fun r hr=>by rw [hq] at hr; cases hr; rfl) (by rw [hq]; rfl),fin _ _ hk⟩
 ·exact hk.elim
theorem qCo {d:TypeDesc} {v:Value}:∀ {es:List MapEntry} {n i:Nat} {u:Value},Instr.findNow d v es n=some (some (i,u))→∃ e,n≤i∧es[i - n]?=some e∧Instr.sameNow d v e.key=some true∧u=e.val
 | [],n,i,u,hf=>by simp [Instr.findNow] at hf
 | e::es,n,i,u,hf=>by
  unfold Instr.findNow at hf
  split at hf
  ·rename_i hs
   simp only [Option.some.injEq,Prod.mk.injEq] at hf
   obtain ⟨rfl,rfl⟩:=hf
   exact ⟨e,Nat.le_refl _,by simp,hs,rfl⟩
  ·obtain ⟨e',h1,h2,h3⟩:=qCo hf
   refine ⟨e',by omega,?_,h3⟩
   rw [show i - n=(i - (n+1))+1 by omega,List.getElem?_cons_succ]; exact h2
  ·cases hf
theorem xDb {a b:ByteArray}:(a==b)=true↔a=b:=by
 cases a with | mk x=>cases b with | mk y =>
 show (x==y)=true↔_
 simp
theorem xJe {d:TypeDesc} {a b:Value} (hd:(∃ j,d=.int j)∨d=.string) (hs:Instr.sameNow d a b=some true):Instr.sameBits 10000 b a=true:=by
 rcases hd with ⟨j,rfl⟩ | rfl
 ·cases a <;> cases b <;> simp [Instr.sameNow] at hs
  rename_i k x k' y
  obtain ⟨rfl,rfl⟩:=hs
  simp [Instr.sameBits]
 ·cases a <;> cases b <;> simp [Instr.sameNow] at hs
  obtain rfl:=xDb.mp hs
  exact xDb.mpr rfl
theorem xPq (r:Rel h w) {t key el:TypeId} {d:TypeDesc} {b:Nat} {n x:Value} {k:H→Prop} (ht:P.underlying t=some (.map key el)) (hd:keyD P key=some d)
  (hk:∃ es c,h b=some (.map es c)∧match Instr.findNow d n es 0 with
   | some (some (i,_))=>k (h.set b (.map (es.modify i fun e=>{ e with key:=n,val:=x }) c))
   | some none=>k (h.set b (.map (es++[{ key:=n,val:=x,born:=c }]) (c+1)))
   | none=>False) :
  ∃ w' h',(Instr.mapUpdate t (.map (some b)) n x).run P w=.ok () w'∧k h'∧Rel h' w'∧Frame h w h' w':=by
 obtain ⟨es,c,hb,hk⟩:=hk
 have hm:=xCw r hb
 have hlt:b<w.heap.size:=r.lt hb
 have hupd:∀ o,Upd w b o { w with heap:=w.heap.setIfInBounds b o }:=fun o =>
  ⟨rfl,rfl,rfl,by simp,by simp [hlt],fun c hc=>by simp [Array.getElem?_setIfInBounds_ne (Ne.symm hc)]⟩
 have hget:(getObj b).run P w=.ok (.map es.toArray c) w:=by simp [getObj,Sem.run,hm]
 have hset:∀ o,(setObj b o).run P w=.ok () { w with heap:=w.heap.setIfInBounds b o }:=fun o=>by simp [setObj,Sem.run,hm]
 split at hk
 ·rename_i i v hf
  obtain ⟨e,_,he,hs,_⟩:=qCo hf
  have hbits:=xJe (qLp hd).2 hs
  have nu:=hupd (Obj.map (es.modify i fun (e:MapEntry)=>{ e with key:=n,val:=x }).toArray c)
  refine ⟨_,h.set b (VObj.map (es.modify i fun (e:MapEntry)=>{ e with key:=n,val:=x }) c),?_,hk,r.upd nu rfl,Frame.upd nu hb rfl⟩
  have hei:es.toArray[i]?=some e:=by simpa using he
  have hmod:(es.toArray.modify i fun (e:MapEntry)=>{ e with key:=n,val:=x })=(es.modify i fun (e:MapEntry)=>{ e with key:=n,val:=x }).toArray:=by simp
  simp only [Instr.mapUpdate,Sem.run_bind,qQo ht,Result.andThen_ok,hget,qUi hd,qEg hd hf,hei,Option.map_some,Option.getD_some,Instr.keyThatStays,hbits,if_true,Sem.run_pure,hmod,hset]
 ·rename_i hf
  have nu:=hupd (Obj.map (es++[({ key:=n,val:=x,born:=c }:MapEntry)]).toArray (c+1))
  refine ⟨_,h.set b (VObj.map (es++[({ key:=n,val:=x,born:=c }:MapEntry)]) (c+1)),?_,hk,r.upd nu rfl,Frame.upd nu hb rfl⟩
  have hp:es.toArray.push ({ key:=n,val:=x,born:=c }:MapEntry)=(es++[({ key:=n,val:=x,born:=c }:MapEntry)]).toArray:=by simp
  simp only [Instr.mapUpdate,Sem.run_bind,qQo ht,Result.andThen_ok,hget,qUi hd,qEg hd hf,hp,hset]
 ·exact hk.elim
theorem xVb (r:Rel h w) {t key el:TypeId} {d:TypeDesc} {m n x:Value} {k:H→Prop} (ht:P.underlying t=some (.map key el)) (hd:keyD P key=some d) (hk:mapU h m d n x k) :
  ∃ w' h',(Instr.mapUpdate t m n x).run P w=.ok () w'∧k h'∧Rel h' w'∧Frame h w h' w':=by
 unfold mapU at hk
 cases m with
 | map b =>
  cases b with
  | none=>exact hk.elim
  | some b=>exact xPq r ht hd hk
 | _=>exact hk.elim
theorem qTg (r:Rel h w) {t el ty:TypeId} {s:Value} {k:H→Prop} (ht:qXr P t=some el) (hz:zOk P el=true) (hk:clW h (qZz P el) s k) :
  Good h w ((Builtin.clear_ #[t] ty #[s]).run P w) fun v h'=>v=.tuple #[]∧k h':=by
 have hu:P.underlying t=some (.slice el):=by
  unfold qXr at ht
  split at ht
  ·rename_i e hu; cases ht; exact hu
  ·cases ht
 obtain ⟨z,hz1,hz2,hz3,hz4⟩:=qJu hz
 unfold clW at hk
 split at hk
 ·exact ⟨.tuple #[],w,h,by simp [Builtin.clear_,qQo hu],⟨rfl,hk⟩,r,Frame.refl _ _⟩
 ·rename_i a n c
  by_cases h0:n=0
  ·subst h0
   exact ⟨.tuple #[],w,h,by simp [Builtin.clear_,qQo hu],⟨rfl,hk.1 rfl⟩,r,Frame.refl _ _⟩
  ·obtain ⟨h1,h',hw,hk⟩:=hk.2 h0
   obtain ⟨w',e,r',f⟩:=qDb (P:=P) r hw h1
   refine ⟨.tuple #[],w',h',?_,⟨rfl,hk⟩,r',f⟩
   have hzc:(Builtin.zeroCells z.cells n).toList=(List.replicate n (qZz P el)).flatten:=by
    have:=qEm (qZz P el) n
    rw [hz2] at this ⊢
    simp only [Array.toArray_toList] at this
    rw [this]
   obtain ⟨m,rfl⟩:∃ m,n=m+1:=⟨n - 1,by omega⟩
   simp [Builtin.clear_,qQo hu,qVy hz1,hzc,e]
 ·exact hk.elim
theorem qJi {cs:List Value} {off:Nat} {k:Value→Prop} (hk:qEu false cs off 1 k):∃ v,cs[off]?=some v∧k v:=by
 unfold qEu at hk
 simp only at hk
 split at hk
 ·rename_i v vs hv
  exact ⟨v,by have:=congrArg (·[0]?) hv; simpa using this,hk⟩
 ·exact hk.elim
theorem qUv {t:TypeId} {d:TypeDesc} {cs:List Value} {off:Nat} {v:Value} (hd:P.underlying t=some d) (ha:aggB P t=false) (hv:cs[off]?=some v):(part t cs.toArray off).run P w=.ok v w:=by
 unfold part
 simp [qFl hd,ha,hv]
theorem xXd {n:Nat} {xs ys:List Value}:∀ {fs:List Field} {k:Bool→Prop},
  (fs.all fun f=>f.name != "_" && !aggB P f.type)=true→eqFs P fs xs ys k→∃ b,(Op.eqFields (n+1) xs.toArray ys.toArray fs).run P w=.ok b w∧k b
 | [],k,_,hk=>⟨true,by simp [Op.eqFields],hk⟩
 | f::fs,k,hn,hk=>by
  simp only [List.all_cons,Bool.and_eq_true] at hn
  have hn1:f.name ≠ "_":=by simpa using hn.1.1
  have hag:aggB P f.type=false:=by simpa using hn.1.2
  have step:∀ v u b d,P.underlying f.type=some d→xs[f.offset]?=some v→ys[f.offset]?=some u→(Op.equalIn (n+1) f.type v u).run P w=.ok b w→(eqFs P fs xs ys fun r=>k (b && r))→∃ b,(Op.eqFields (n+1) xs.toArray ys.toArray (f::fs)).run P w=.ok b w∧k b:=by
   intro v u b d hu hv hu' hb hk
   obtain ⟨b',h1,h2⟩:=xXd (n:=n) (fs:=fs) hn.2 hk
   have e:(Op.eqFields (n+1) xs.toArray ys.toArray (f::fs)).run P w=(if (!b)=true then (pure false:Sem Bool) else Op.eqFields (n+1) xs.toArray ys.toArray fs).run P w:=by
    simp only [Op.eqFields,Sem.run_ite,if_pos hn1,Sem.run_bind,qUv hu hag hv,qUv hu hag hu',hb,Result.andThen_ok]
   rw [e]
   cases b with
   | false=>exact ⟨false,by simp,by simpa using h2⟩
   | true=>exact ⟨b',by simpa using h1,by simpa using h2⟩
  unfold eqFs at hk
  split at hk
  ·rename_i j hu
   obtain ⟨v,hv,hk1⟩:=qJi hk
   obtain ⟨u,hu',hk2⟩:=qJi hk1
   obtain ⟨x,hx,hk3⟩:=qYs hk2
   obtain ⟨y,hy,hk4⟩:=qYs hk3
   exact step _ _ _ _ hu hv hu' (by rw [hx,hy]; exact run_equalIn_int w n f.type j j x y hu) hk4
  ·rename_i hu
   obtain ⟨v,hv,hk1⟩:=qJi hk
   obtain ⟨u,hu',hk2⟩:=qJi hk1
   obtain ⟨x,hx,hk3⟩:=qVm hk2
   obtain ⟨y,hy,hk4⟩:=qVm hk3
   exact step _ _ _ _ hu hv hu' (by rw [hx,hy]; exact run_equalIn_string w n f.type x y hu) hk4
  ·rename_i hu
   obtain ⟨v,hv,hk1⟩:=qJi hk
   obtain ⟨u,hu',hk2⟩:=qJi hk1
   obtain ⟨x,hx,hk3⟩:=qXw hk2
   obtain ⟨y,hy,hk4⟩:=qXw hk3
   exact step _ _ _ _ hu hv hu' (by rw [hx,hy]; exact run_equalIn_bool' w n f.type x y hu) hk4
  ·exact hk.elim
theorem xXc {j:IntKind} {el:TypeId} {d:Nat} (hel:P.underlying el=some (.int j)) (hag:aggB P el=false) (hc:P.cellsOf el=1):∀ (n:Nat) (xs ys p q:List Value) (k:Bool→Prop),p.length=q.length→eqIs j n xs ys k →
  ∃ b,(Op.eqItems (d+1) el (P.cellsOf el) (p++xs).toArray (q++ys).toArray (List.range' p.length n)).run P w=.ok b w∧k b
 | 0,[],[],p,q,k,_,hk=>⟨true,by simp [Op.eqItems],hk⟩
 | 0,[],_::_,_,_,_,_,hk=>hk.elim
 | 0,_::_,_,_,_,_,_,hk=>hk.elim
 | n+1,[],_,_,_,_,_,hk=>hk.elim
 | n+1,_::_,[],_,_,_,_,hk=>hk.elim
 | n+1,x::xs,y::ys,p,q,k,hpq,hk=>by
  unfold eqIs at hk
  obtain ⟨a,rfl,hk1⟩:=qYs hk
  obtain ⟨b,rfl,hk2⟩:=qYs hk1
  obtain ⟨r,hr,hkr⟩:=xXc (d:=d) hel hag hc n xs ys (p++[.int j a]) (q++[.int j b]) _ (by simp [hpq]) hk2
  have h1:(part el (p++Value.int j a::xs).toArray (p.length*P.cellsOf el)).run P w=.ok (.int j a) w:=qUv hel hag (by rw [hc,Nat.mul_one]; simp)
  have h2:(part el (q++Value.int j b::ys).toArray (p.length*P.cellsOf el)).run P w=.ok (.int j b) w:=qUv hel hag (by rw [hc,Nat.mul_one,hpq]; simp)
  have h3:=run_equalIn_int (P:=P) w d el j j a b hel
  have e:List.range' p.length (n+1)=p.length::List.range' (p++[Value.int j a]).length n:=by simp [List.range']
  rw [e]
  simp only [Op.eqItems,Sem.run_bind,h1,h2,h3,Result.andThen_ok]
  rw [List.append_assoc,List.append_assoc] at hr
  cases hab:(a==b) with
  | false =>
   refine ⟨false,?_,?_⟩
   ·simp
   ·simpa [hab] using hkr
  | true =>
   refine ⟨r,?_,?_⟩
   ·simpa using hr
   ·simpa [hab] using hkr
theorem xWj {op:BinOp} {t:TypeId} {ox oy:Operand} {x y:Value} {k:Value→Prop} (hk:binA P op t x y k):∃ v,(do eqGuard op t ox oy x y; Go.binOp op t x y:Sem Value).run P w=.ok v w∧k v:=by
 unfold binA at hk
 split at hk
 ·rename_i n el ht
  split at hk
  ·rename_i j hok
   unfold xUr at hok
   split at hok
   ·rename_i j' hel
    split at hok
    ·rename_i hb
     obtain rfl:=Option.some.inj hok
     simp only [Bool.and_eq_true,Bool.not_eq_true'] at hb
     obtain ⟨hi,h1,hag,hc⟩:=hb
     obtain ⟨i,hi⟩:=Option.isSome_iff_exists.mp hi
     have hc:=Nat.eq_of_beq_eq_true hc
     have go:∀ q:Bool→Prop,(aggW x fun xs=>aggW y fun ys=>eqIs j' n xs ys q)→∃ xs ys:Array Value,x=.agg xs∧y=.agg ys∧∃ b,(Op.equalIn 10000 t (.agg xs) (.agg ys)).run P w=.ok b w∧q b:=by
      intro q hq
      obtain ⟨xs,hx,hq⟩:=qPi hq
      obtain ⟨ys,hy,hq⟩:=qPi hq
      obtain ⟨b,hb,hq⟩:=xXc (P:=P) (w:=w) (d:=9998) hel hag hc n xs ys [] [] _ rfl hq
      refine ⟨xs.toArray,ys.toArray,hx,hy,b,?_,hq⟩
      rw [run_equalIn_array (P:=P) (w:=w) 9999 xs.toArray ys.toArray ht hi,List.range_eq_range']
      exact hb
     unfold eqn at hk
     split at hk
     ·obtain ⟨xs,ys,rfl,rfl,b,hb,hk⟩:=go _ hk
      refine ⟨_,?_,hk⟩
      simp only [Sem.run_bind,run_eqGuard_agg (P:=P) w .eql t ox oy xs ys h1,Result.andThen_ok,run_eql_struct,hb]
     ·obtain ⟨xs,ys,rfl,rfl,b,hb,hk⟩:=go _ hk
      refine ⟨_,?_,hk⟩
      simp only [Sem.run_bind,run_eqGuard_agg (P:=P) w .neq t ox oy xs ys h1,Result.andThen_ok,run_neq_struct,hb]
     ·exact hk.elim
    ·cases hok
   ·cases hok
  ·exact hk.elim
 ·rename_i fs ht
  split at hk
  ·rename_i hok
   simp only [xUs,Bool.and_eq_true,Bool.not_eq_true'] at hok
   obtain ⟨h1,h2,h3⟩:=hok
   have hf:P.fieldsOf t=fs:=by simp [Program.fieldsOf,ht]
   have go:∀ q:Bool→Prop,(aggW x fun xs=>aggW y fun ys=>eqFs P fs.toList xs ys q)→∃ xs ys:Array Value,x=.agg xs∧y=.agg ys∧∃ b,(Op.equalIn 10000 t (.agg xs) (.agg ys)).run P w=.ok b w∧q b:=by
    intro q hq
    obtain ⟨xs,hx,hq⟩:=qPi hq
    obtain ⟨ys,hy,hq⟩:=qPi hq
    obtain ⟨b,hb,hq⟩:=xXd (P:=P) (w:=w) (n:=9998) h3 hq
    refine ⟨xs.toArray,ys.toArray,hx,hy,b,?_,hq⟩
    have:=run_equalIn_struct (P:=P) w 9999 t xs.toArray ys.toArray (by rw [hf]; exact ht) h2
    rw [hf] at this
    exact this.trans hb
   unfold eqn at hk
   split at hk
   ·obtain ⟨xs,ys,rfl,rfl,b,hb,hk⟩:=go _ hk
    refine ⟨_,?_,hk⟩
    simp only [Sem.run_bind,run_eqGuard_agg (P:=P) w .eql t ox oy xs ys h1,Result.andThen_ok,run_eql_struct,hb]
   ·obtain ⟨xs,ys,rfl,rfl,b,hb,hk⟩:=go _ hk
    refine ⟨_,?_,hk⟩
    simp only [Sem.run_bind,run_eqGuard_agg (P:=P) w .neq t ox oy xs ys h1,Result.andThen_ok,run_neq_struct,hb]
   ·exact hk.elim
  ·exact hk.elim
 ·exact hk.elim
variable {P:Program} {h:H} {w:World}
theorem qNj (r:Rel h w) {a b:Addr} (ha:qLr h a) (hb:qLr h b):(sameAddr a b).run P w=.ok (decide (a=b)) w:=by
 obtain ⟨sa,la,ha,oa⟩:=ha
 obtain ⟨sb,lb,hb,ob⟩:=hb
 by_cases hbl:a.block=b.block
 ·by_cases hab:a=b
  ·subst hab; simp [sameAddr]
  ·simp [sameAddr,hbl,hab]
 ·have hab:a≠b:=fun e=>hbl (by rw [e])
  obtain ⟨ta,fa,ma,za⟩:=r _ _ ha
  obtain ⟨tb,fb,mb,zb⟩:=r _ _ hb
  have z1:=za a.off (by omega)
  have z2:=za la.length (by omega)
  have z3:=zb b.off (by omega)
  have z4:=zb lb.length (by omega)
  simp [sameAddr,hbl,hab,World.frozen?,ma,mb,noView,viewAt,World.shape?,mayBeOne,stringish,sa,sb,z1,z2,z3,z4]
theorem qHx (r:Rel h w) {t:TypeId} {a b:Addr} {k:Bool→Prop} (hk:ptrE P h t a b k) (d:Nat):∃ x,(Op.equalIn (d+1) t (.pointer (some a)) (.pointer (some b))).run P w=.ok x w∧k x:=by
 unfold ptrE at hk
 split at hk
 ·rename_i el hu
  obtain ⟨⟨hi,hs⟩,ha,hb,hk⟩:=hk
  refine ⟨_,?_,hk⟩
  obtain ⟨i,hi⟩:=Option.isSome_iff_exists.mp hi
  have hsz:(sizeOf el).run P w=.ok (szOf P el) w:=by simp [sizeOf,typeInfo,hi,szOf,Program.cellsOf]
  unfold Op.equalIn
  simp [qQo hu,hsz,hs,qNj r ha hb]
 ·exact hk.elim
theorem qHv (r:Rel h w) {t:TypeId} {x y:Value} {k:Bool→Prop} (hk:refE P h t x y k):∃ v,(Op.equal t x y).run P w=.ok v w∧k v:=by
 unfold refE at hk
 unfold Op.equal Op.maxDepth
 split at hk
 ·rename_i hu; exact ⟨_,by unfold Op.equalIn; simp [qQo hu],hk⟩
 ·rename_i hu; exact ⟨_,by unfold Op.equalIn; simp [qQo hu],hk⟩
 ·exact qHx r hk _
 ·rename_i hu; exact ⟨_,by unfold Op.equalIn; simp [qQo hu],hk⟩
 ·rename_i hu; exact ⟨_,by unfold Op.equalIn; simp [qQo hu],hk⟩
 ·rename_i t1 a t2 b hu
  split at hk
  ·rename_i hne
   have hne:t1≠t2:=fun e=>by rw [e] at hne; simp at hne
   exact ⟨_,by unfold Op.equalIn; simp [qQo hu,hne],hk⟩
  ·rename_i he
   have he:t1=t2:=Nat.eq_of_beq_eq_true he
   subst he
   obtain ⟨hc,hk⟩:=hk
   obtain ⟨v,hv,hkv⟩:=qHx r hk 9998
   refine ⟨v,?_,hkv⟩
   unfold xAm at hc
   split at hc
   ·rename_i i hi
    unfold Op.equalIn
    simp [qQo hu,typeInfo,hi,hc,hv]
   ·cases hc
 ·rename_i t1 i a t2 j b hu
  split at hk
  ·rename_i hne
   have hne:t1≠t2:=fun e=>by rw [e] at hne; simp at hne
   exact ⟨_,by unfold Op.equalIn; simp [qQo hu,hne],hk⟩
  ·rename_i he
   have he:t1=t2:=Nat.eq_of_beq_eq_true he
   subst he
   obtain ⟨hc,hint,rfl,hk⟩:=hk
   refine ⟨_,?_,hk⟩
   unfold xAm at hc
   unfold xUd at hint
   split at hc
   ·rename_i x hi
    split at hint
    ·rename_i y hi2
     have hv:(Op.equalIn 9999 t1 (.int i a) (.int i b)).run P w=.ok (a==b) w:=by
      unfold Op.equalIn
      simp [qQo hi2]
     unfold Op.equalIn
     simp [qQo hu,typeInfo,hi,hc,hv]
    ·cases hint
   ·cases hc
 ·exact hk.elim
theorem qHw {t:TypeId} {x y:Value} {k:Bool→Prop} (hk:refE P h t x y k):qBf x y=true∧(∀ cs ds,¬ (x=.agg cs∧y=.agg ds))∧¬ (x=.nilIface∧y=.nilIface):=by
 unfold refE at hk
 split at hk <;> first
  | exact hk.elim
  | exact ⟨rfl,fun cs ds hh=>by simp at hh,fun hh=>by simp at hh⟩
theorem xZp (r:Rel h w) {op:BinOp} {t:TypeId} {ox oy:Operand} {x y:Value} {k:Value→Prop} (hk:refW P h op t x y k):∃ v,(do eqGuard op t ox oy x y; Go.binOp op t x y:Sem Value).run P w=.ok v w∧k v:=by
 unfold refW eqn at hk
 split at hk
 ·obtain ⟨v,hv,hkv⟩:=qHv r hk
  obtain ⟨h1,h2,h3⟩:=qHw hk
  refine ⟨_,?_,hkv⟩
  simp only [Sem.run_bind,qEh h2 (fun a b=>absurd ⟨a,b⟩ h3),Result.andThen_ok]
  rw [qRd h1]
  simp only [Sem.run_bind,hv,Result.andThen_ok,Sem.run_pure]
 ·obtain ⟨v,hv,hkv⟩:=qHv r hk
  obtain ⟨h1,h2,h3⟩:=qHw hk
  refine ⟨_,?_,hkv⟩
  simp only [Sem.run_bind,qEh h2 (fun a b=>absurd ⟨a,b⟩ h3),Result.andThen_ok]
  rw [qRc h1]
  simp only [Sem.run_bind,hv,Result.andThen_ok,Sem.run_pure]
 ·exact hk.elim
variable {P:Program} {h:H} {w:World} {C:Orc} {k:Kv} {kp:Kp} {next:Act→World→Prop} {Q:Exit→Act→World→Prop} {yl:Prop} {U:Result Next→Prop}
theorem xXw {t:TypeId} (ht:aggB P t=true):∃ d,P.underlying t=some d:=by
 unfold aggB at ht
 cases hu:P.underlying t with
 | none=>simp [hu] at ht
 | some d=>exact ⟨d,rfl⟩
theorem qEv {v:Option Value} {k:Option Int→Prop} (hk:optI v k):∃ l,((v=none∧l=none)∨∃ j n,v=some (.int j n)∧l=some n)∧k l:=by
 rcases xKu hk with ⟨e,hk⟩ | ⟨j,n,e,hk⟩
 ·exact ⟨none,.inl ⟨e,rfl⟩,hk⟩
 ·exact ⟨some n,.inr ⟨j,n,e,rfl⟩,hk⟩
theorem xDk (s:ByteArray) (i:Nat) (hi:i<s.size):s[i]?=some (s.get! i):=by
 have h1:i<s.data.size:=hi
 rw [getElem?_pos s i hi]
 congr 1
 show s.data[i]=s.data[i]!
 exact (getElem!_pos s.data i h1).symm
theorem xPn {u:TypeId} {x:Value} {name:String} {f:FuncId} (hm:xPo P u name=some f) (n:Nat):(method (n+1) u x name).run P w=.ok (f,x) w:=by
  unfold xPo at hm
  cases hi:P.info? u with
  | none=>simp [hi] at hm
  | some i =>
    simp only [hi,Option.bind_some] at hm
    cases hf:i.methods.find? (·.name==name) with
    | none=>simp [hf] at hm
    | some m =>
      obtain ⟨mn,sig,path,func⟩:=m
      simp only [hf] at hm
      cases func with
      | none=>simp at hm
      | some fp =>
        obtain ⟨g,ptr⟩:=fp
        simp only at hm
        have hinfo:(typeInfo u).run P w=.ok i w:=by simp [typeInfo,hi]
        cases hp:path.isEmpty with
        | false=>simp [hp] at hm
        | true =>
          have hpe:path.toList=[]:=by
            have:=Array.isEmpty_iff.mp hp
            simp [this]
          cases hu:P.underlying u with
          | none=>simp [hp,hu] at hm
          | some d =>
            cases ptr with
            | true =>
              cases d <;> simp [hp,hu] at hm
              subst hm
              unfold method
              simp only [Sem.run_bind,hinfo,Result.andThen_ok,hf,hpe,follow,Sem.run_pure,receiverAt,qQo hu,Place.get]
            | false =>
              cases d <;> simp [hp,hu] at hm <;>
                (subst hm
                 unfold method
                 simp only [Sem.run_bind,hinfo,Result.andThen_ok,hf,hpe,follow,Sem.run_pure,receiverAt,qQo hu,Place.get])
theorem xEc {o:Oper} {a:Act} (hU:Ups P o a next Q yl U) (r:Rel h w) {b:Builtin} {ts:List TypeId} {vs:List Value} {consts:Array Bool} (hk:bltW P b ts vs h k kp)
  (hn:∀ v h' w',k v h'→Rel h' w'→Frame h w h' w'→next (a.put o.dst v) w') (hp:∀ c h' w',kp c h'→Rel h' w'→Frame h w h' w'→Q (.panic c) a w') :
  U ((builtin b ts.toArray o.type consts vs.toArray).run P w):=by
 unfold bltW at hk
 split at hk
 ·rename_i t v
  refine qXc hU r (s:=Builtin.len_ #[t] o.type #[v]) ?_ hn
  split at hk
  ·rename_i hu; obtain ⟨s,rfl,hk⟩:=qVm hk; exact ⟨_,by simp [Builtin.len_,qQo hu,goInt],hk⟩
  ·rename_i hu; obtain ⟨_,_,_,rfl,hk⟩:=xBe hk; exact ⟨_,by simp [Builtin.len_,qQo hu,goInt],hk⟩
  ·rename_i hu; exact ⟨_,by simp [Builtin.len_,qQo hu,goInt],hk⟩
  ·rename_i hu
   split at hk
   ·exact ⟨_,by simp [Builtin.len_,qQo hu,goInt],hk⟩
   ·rename_i m
    obtain ⟨es,cl,hm,hk⟩:=hk
    have hw:=r _ _ hm
    simp only [qAo] at hw
    refine ⟨_,?_,hk⟩
    simp [Builtin.len_,qQo hu,goInt,getObj,Sem.run,hw]
   ·exact hk.elim
  ·exact hk.elim
 ·rename_i t u s x
  split at hk
  ·rename_i el hel hz
   simp only [hel,Option.getD_some,Bool.and_eq_true] at hz
   rcases qPt hk with ⟨_,n,_,hx,hk⟩ | ⟨st,hx,hk⟩
   ·exact qZa hU (s:=Builtin.append_ #[t,u] o.type #[s,x]) (qCu r hel hz.1 hz.2 (by rw [hx]; rfl) hk) hn
   ·exact qZa hU (s:=Builtin.append_ #[t,u] o.type #[s,x]) (qCu r hel hz.1 hz.2 (by rw [hx]; rfl) hk) hn
  ·exact hk.elim
 ·rename_i t u d x
  split at hk
  ·rename_i el hel hz
   simp only [hel,Option.getD_some] at hz
   obtain ⟨n,hx,hk⟩:∃ n,qXi x (·=n)∧qXi d fun m=>srcW h (szOf P el) x (min n m) fun ws=>cpW h d n ws k:=by
    rcases qPt hk with ⟨_,n,_,hx,hk⟩ | ⟨st,hx,hk⟩
    ·exact ⟨n,by rw [hx]; rfl,hk⟩
    ·exact ⟨_,by rw [hx]; rfl,hk⟩
   obtain ⟨m,hd,hk⟩:∃ m,qXi d (·=m)∧srcW h (szOf P el) x (min n m) fun ws=>cpW h d n ws k:=by
    rcases qPt hk with ⟨_,n,_,hx,hk⟩ | ⟨st,hx,hk⟩
    ·exact ⟨_,by rw [hx]; rfl,hk⟩
    ·exact ⟨_,by rw [hx]; rfl,hk⟩
   exact qZa hU (s:=Builtin.copy_ #[t,u] o.type #[d,x]) (xVy r hel hz hx hd hk) hn
  ·exact hk.elim
 ·rename_i t s
  split at hk
  ·rename_i el hel hz
   simp only [hel,Option.getD_some] at hz
   exact qZa hU (s:=Builtin.clear_ #[t] o.type #[s]) (qTg r hel hz hk) (fun v h' w' hv=>by obtain ⟨rfl,hk⟩:=hv; exact hn _ _ _ hk)
  ·exact hk.elim
 ·refine qXc hU r (s:=Builtin.min_ ts.toArray o.type vs.toArray) ?_ hn
  unfold qKb at hk
  split at hk
  ·obtain ⟨v,hv,hk⟩:=qPw (P:=P) (w:=w) _ _ _ hk
   exact ⟨v,by simpa [Builtin.min_] using hv,hk⟩
  ·exact hk.elim
 ·refine qXc hU r (s:=Builtin.max_ ts.toArray o.type vs.toArray) ?_ hn
  unfold qKb at hk
  split at hk
  ·obtain ⟨v,hv,hk⟩:=qPw (P:=P) (w:=w) _ _ _ hk
   exact ⟨v,by simpa [Builtin.max_] using hv,hk⟩
  ·exact hk.elim
 ·rename_i t v
  have e:(builtin .panic ts.toArray o.type consts #[.iface t v]).run P w=.halt (.panic (.iface t v)) w:=by simp [builtin,Instr.panic]
  refine (congrArg U e).mpr ?_
  exact hU.pan _ _ (hp _ _ _ hk r (Frame.refl _ _))
 ·exact hk.elim
theorem qOb {o:Oper} {e:Env} {a:Act} (hU:Ups P o a next Q yl U) (hC:Sound P C) (hy:∀ l args h k kp,C (P.funcs.size+l) args h k kp→yl) (he:EnvR e a.tmps) (r:Rel h w) (hk:opW P C o e h k kp)
  (hn:∀ v h' w',k v h'→Rel h' w'→Frame h w h' w'→next (a.put o.dst v) w') (hp:∀ c h' w',kp c h'→Rel h' w'→Frame h w h' w'→Q (.panic c) a w') :
  U ((execOp a.eval o).run P w):=by
 have hev:∀ x k,ev e x k→k (a.eval x):=fun x k hk=>qCp he hk
 unfold opW at hk
 unfold execOp
 cases ho:o.op <;> simp only [ho] at hk ⊢ <;> try (exact hk.elim)
 case move x=>exact hU.val _ _ (hn _ _ _ (hev _ _ hk) r (Frame.refl _ _))
 case assign x=>exact hU.val _ _ (hn _ _ _ (hev _ _ hk) r (Frame.refl _ _))
 case pick c x y =>
  obtain ⟨t,hc,hk⟩:=qXw (hev _ _ hk)
  cases t
  ·simp only [cond_false] at hk
   simp only [hc,asBool,Sem.run_bind,Sem.run_pure,Result.andThen_ok,Bool.false_eq_true,if_false]
   exact hU.val _ _ (hn _ _ _ (hev _ _ hk) r (Frame.refl _ _))
  ·simp only [cond_true] at hk
   simp only [hc,asBool,Sem.run_bind,Sem.run_pure,Result.andThen_ok,if_true]
   exact hU.val _ _ (hn _ _ _ (hev _ _ hk) r (Frame.refl _ _))
 case alloc t =>
  split at hk
  ·rename_i hz; exact qZa hU (qTp r hz hk) hn
  ·exact hk.elim
 case box t x =>
  have hk:=hev _ _ hk
  split at hk
  ·obtain ⟨cs,hv,hk⟩:=qPi hk
   exact qZa hU (xWc r (by rw [hv]; simp [Value.cells]) hk) hn
  ·exact qZa hU (xAz r (by rw [qFt hk.1]) hk.2) hn
 case build t ps =>
  split at hk
  ·rename_i hz hf
   obtain ⟨out,hr,hko⟩:=qTl (w:=w) hev hz hf hk
   refine qXc hU r (s:=Instr.build t (ps.map fun (i,x)=>(i,a.eval x))) ⟨.agg out.toArray,?_,hko⟩ hn
   have hpe:(ps.map fun (i,x)=>(i,a.eval x))=((ps.toList.map fun x=>(x.1,a.eval x.2)).toArray):=by
    apply Array.toList_inj.mp; simp
   rw [hpe]; exact hr
  ·exact hk.elim
 case buildSlice t n ps =>
  split at hk
  ·rename_i el hel hz hn'
   simp only [hel,Option.getD_some,decide_eq_true_eq] at hz hn'
   have hpe:(ps.map fun (i,x)=>(i,a.eval x))=((ps.toList.map fun x=>(x.1,a.eval x.2)).toArray):=by
    apply Array.toList_inj.mp; simp
   rw [hpe]
   exact qZa hU (qCy r hev hel hz hn' hk) hn
  ·exact hk.elim
 case load t x =>
  obtain ⟨ad,hx,hk⟩:=qJy (hev _ _ hk)
  rw [hx]
  split at hk
  ·rename_i ht
   split at hk
   ·obtain ⟨vs,hv,hk⟩:=qSy hk
    exact qXc hU r (s:=Instr.loadAt t (.pointer (some ad))) ⟨_,qAm r ht hv,hk⟩ hn
   ·exact hk.elim
  ·rename_i ht
   split at hk
   ·rename_i d hd
    obtain ⟨v,hv,hk⟩:=qUy hk
    exact qXc hU r (s:=Instr.loadAt t (.pointer (some ad))) ⟨_,qAl r hd ht hv,hk⟩ hn
   ·exact hk.elim
 case store t x y =>
  obtain ⟨ad,hx,hk⟩:=qJy (hev _ _ hk)
  have hk:=hev _ _ hk
  rw [hx]
  split at hk
  ·rename_i ht
   obtain ⟨cs,hv,hl,h1,h',hw,hk⟩:=qPi hk
   obtain ⟨d,hd⟩:=xXw ht
   obtain ⟨w',hr,r',f⟩:=qFh r hd hv hl h1 hw
   simp only [Sem.run_bind,hr,Result.andThen_ok,Sem.run_pure]
   exact hU.skp _ (hn _ _ _ hk r' f)
  ·split at hk
   ·rename_i d hd
    obtain ⟨h1,hs,h',hw,hk⟩:=hk
    obtain ⟨w',hr,r',f⟩:=qFg r hd h1 hs hw
    simp only [Sem.run_bind,hr,Result.andThen_ok,Sem.run_pure]
    exact hU.skp _ (hn _ _ _ hk r' f)
   ·exact hk.elim
 case nilCheck x =>
  obtain ⟨h1,hk⟩:=hev _ _ hk
  have hr:(match a.eval x with
   | .pointer none | .nilIface | .nilFunc=>runtimePanic .nilDeref
   | .func (.method name) first captured=>match (first[0]? : Option Value) with
    | some .nilIface=>runtimePanic .nilDeref
    | some (.iface t w)=>do
     if (← nilAhead ((← program).types.size+Made.depth) t w name) != some false then
      unsupported (.noEntry "op/nilCheck.the method's receiver behind this interface value is a nil pointer, or cannot be seen to be none, and the arguments act or may panic (ledger 612)")
     pure (Next.value (.func (.method name) first captured))
    | _=>pure (Next.value (.func (.method name) first captured))
   | x=>pure (Next.value x):Sem Next).run P w=.ok (.value (a.eval x)) w:=by
   revert h1
   cases hv:a.eval x <;> intro h1 <;> simp [qQh] at h1 ⊢
   ·rename_i p; cases p <;> simp [qQh] at h1 ⊢
   ·rename_i fn first cap; cases fn <;> simp [qQh] at h1 ⊢
  refine (congrArg U hr).mpr ?_
  exact hU.val _ _ (hn _ _ _ hk r (Frame.refl _ _))
 case binOp op t x y yt =>
  have hk:=hev _ _ (hev _ _ hk)
  split at hk
  ·exact qXc hU r (s:=do eqGuard op t x y (a.eval x) (a.eval y); Go.binOp op t (a.eval x) (a.eval y)) (xZp r hk) hn
  split at hk
  ·rename_i ht
   exact qXc hU r (s:=do eqGuard op t x y (a.eval x) (a.eval y); Go.binOp op t (a.eval x) (a.eval y)) (xWh ht hk) hn
  ·exact qXc hU r (s:=do eqGuard op t x y (a.eval x) (a.eval y); Go.binOp op t (a.eval x) (a.eval y)) (xWj hk) hn
 case unOp op t x=>exact qXc hU r (xYd (hev _ _ hk)) hn
 case convert s d x=>exact qZa hU (xVz r (hev _ _ hk)) hn
 case makeInterface t x =>
  have hk:=hev _ _ hk
  split at hk
  ·exact hk.elim
  ·rename_i d hni hd
   refine qXc hU r (s:=Instr.makeInterface t (a.eval x)) ⟨_,?_,hk⟩ hn
   unfold Instr.makeInterface
   cases d <;> first
    | (exact absurd rfl (hni _))
    | simp [qQo hd]
  ·exact hk.elim
 case makeFunc fn first cap =>
  cases fn <;> simp only at hk <;> try (exact hk.elim)
  have hk:=qUd he (qUd he hk)
  refine qXc hU r (s:=Instr.makeFunc (.func _) (first.map a.eval) (cap.map a.eval)) ⟨_,rfl,?_⟩ hn
  have e1:(first.toList.map a.eval).toArray=first.map a.eval:=by apply Array.toList_inj.mp; simp
  have e2:(cap.toList.map a.eval).toArray=cap.map a.eval:=by apply Array.toList_inj.mp; simp
  rw [e1,e2] at hk; exact hk
 case makeSlice t l c =>
  obtain ⟨j1,n,h1,hk⟩:=qWr (hev _ _ (hev _ _ hk))
  obtain ⟨j2,m,h2,hk⟩:=qWr hk
  rw [h1,h2]
  split at hk
  ·rename_i el hel hz
   simp only [hel,Option.getD_some] at hz
   exact qZa hU (qLk r hel hz hk) hn
  ·exact hk.elim
 case makeMap t x =>
  obtain ⟨l,hl,hk⟩:=qEv (qLw he hk)
  split at hk
  ·rename_i ke el hu
   exact qZa hU (qLm r hu hl hk) hn
  ·exact hk.elim
 case lookup t x i ok =>
  have hk:=hev _ _ (hev _ _ hk)
  split at hk
  ·rename_i ke el hu
   split at hk
   ·rename_i d z hd hz
    exact qXc hU r (s:=Instr.lookup t (a.eval x) (a.eval i) ok) (qOk r hu hd hz hk) hn
   ·exact hk.elim
  ·exact hk.elim
 case mapUpdate t m n x =>
  have hk:=hev _ _ (hev _ _ (hev _ _ hk))
  split at hk
  ·rename_i ke el hu
   split at hk
   ·rename_i d hd
    obtain ⟨w',h',e,hk,r',f⟩:=xVb r hu hd hk
    simp only [Sem.run_bind,e,Result.andThen_ok,Sem.run_pure]
    exact hU.skp _ (hn _ _ _ hk r' f)
   ·exact hk.elim
  ·exact hk.elim
 case slice t x lo hi mx =>
  have hk:=qLw he (qLw he (qLw he (hev _ _ hk)))
  obtain ⟨l,e1,hk⟩:=qEv hk
  obtain ⟨hh,e2,hk⟩:=qEv hk
  obtain ⟨m,e3,hk⟩:=qEv hk
  split at hk
  ·rename_i hu
   obtain ⟨s,hs,hk⟩:=qVm hk
   have e3':mx.map a.eval=none:=by
    rcases e3 with ⟨e,_⟩ | ⟨_,_,_,e⟩
    ·exact e
    ·cases e
   rw [hs,e3']
   obtain ⟨v,hr,hk⟩:=qNe (P:=P) (w:=w) hu e1 e2 hk
   exact qXc hU r (s:=Instr.sliceAt t (.string s) (lo.map a.eval) (hi.map a.eval) none) ⟨_,hr,hk⟩ hn
  ·rename_i el hu
   split at hk
   ·rename_i hkn
    exact qXc hU r (s:=Instr.sliceAt t (a.eval x) (lo.map a.eval) (hi.map a.eval) (mx.map a.eval)) (qRw hu hkn e1 e2 e3 hk) hn
   ·exact hk.elim
  ·rename_i n el hu
   obtain ⟨ad,hx,hk⟩:=qJy hk
   have e3':mx.map a.eval=none:=by
    rcases e3 with ⟨e,_⟩ | ⟨_,_,_,e⟩
    ·exact e
    ·cases e
   split at hk
   ·rename_i hkn
    rw [hx,e3']
    exact qXc hU r (s:=Instr.sliceAt t (.pointer (some ad)) (lo.map a.eval) (hi.map a.eval) none) (qRx hu hkn e1 e2 hk) hn
   ·exact hk.elim
  ·exact hk.elim
 case fieldAddr s x f =>
  obtain ⟨ad,hx,hk⟩:=qJy (hev _ _ hk)
  rw [hx]
  split at hk
  ·rename_i fs hu
   split at hk
   ·rename_i fd hf
    split at hk
    ·exact hk.elim
    ·rename_i n hsz
     refine qXc hU r (s:=Instr.fieldAt s (.pointer (some ad)) f) ⟨_,?_,hk⟩ hn
     have hkn:known P fd.type=true:=by
      unfold known
      cases hi:P.info? fd.type with
      | some i=>rfl
      | none=>simp [szOf,Program.cellsOf,hi] at hsz
     simp [Instr.fieldAt,qQo hu,hf,Instr.sureAddr,fieldPlace,qPy hkn,hsz]
   ·exact hk.elim
  ·exact hk.elim
 case field t x f =>
  obtain ⟨cs,hx,hk⟩:=qPi (hev _ _ hk)
  rw [hx]
  split at hk
  ·rename_i fs hu
   split at hk
   ·rename_i fd hf
    split at hk
    ·rename_i d hd
     obtain ⟨v,hr,hk⟩:=xKt (P:=P) (w:=w) hd hk
     refine qXc hU r (s:=Instr.field t (.agg cs.toArray) f) ⟨v,?_,hk⟩ hn
     simp only [Instr.field,Sem.run_bind,qQo hu,Result.andThen_ok,hf,asAgg,Sem.run_pure,hr]
    ·exact hk.elim
   ·exact hk.elim
  ·exact hk.elim
 case indexAddr t x i =>
  obtain ⟨j,n,hi,hk⟩:=qWr (hev _ _ (hev _ _ hk))
  rw [hi]
  split at hk
  ·rename_i el hu
   split at hk
   ·rename_i hkn
    obtain ⟨ad,hr,hk⟩:=xZg (P:=P) (w:=w) (j:=j) hu hkn hk
    exact qXc hU r (s:=Instr.indexAt t (a.eval x) (.int j n)) ⟨_,hr,hk⟩ hn
   ·exact hk.elim
  ·rename_i len el hu
   split at hk
   ·exact hk.elim
   ·rename_i hkn
    simp only [Bool.and_eq_true,decide_eq_true_eq] at hkn
    obtain ⟨ad,hx,h0,h1,hk⟩:=qJy hk
    rw [hx]
    exact qXc hU r (s:=Instr.indexAt t (.pointer (some ad)) (.int j n)) ⟨_,xWn hu hkn.1 hkn.2 h0 h1,hk⟩ hn
  ·exact hk.elim
 case index t x i =>
  obtain ⟨j,n,hi,hk⟩:=qWr (hev _ _ (hev _ _ hk))
  rw [hi]
  split at hk
  ·rename_i hu
   obtain ⟨s,hs,h0,h1,hk⟩:=qVm hk
   rw [hs]
   refine qXc hU r (s:=Instr.index t (.string s) (.int j n)) ⟨_,?_,hk⟩ hn
   have hg:s[n.toNat]?=some (s.get! n.toNat):=by
    have hlt:n.toNat<s.size:=by omega
    exact xDk s n.toNat hlt
   simp [Instr.index,asIntOf,qQo hu,h0,hg]
  ·exact hk.elim
 case range t x =>
  have hk:=hev _ _ hk
  split at hk
  ·rename_i hu
   obtain ⟨s,hs,hk⟩:=qVm hk
   rw [hs]
   have nw:=New.alloc w (.stringIter s 0)
   refine qZa hU (s:=Instr.range t (.string s)) ⟨_,_,h.set w.heap.size (.sit s 0),?_,hk _ r.fresh,r.new nw rfl,Frame.new r nw⟩ hn
   simp [Instr.range,qQo hu]
  ·exact hk.elim
 case next x b =>
  cases b with
  | false=>exact hk.elim
  | true =>
   obtain ⟨ad,hx,h0,s,p,hb,hk1,hk2⟩:=qJy (hev _ _ hk)
   rw [hx]
   have hm:=r _ _ hb
   obtain ⟨bl,off,sp⟩:=ad
   simp only at h0 hb hm
   subst h0
   by_cases hp:p<s.size
   ·have nu:Upd w bl (.stringIter s (p+(Utf8.decode s p).2)) { w with heap:=w.heap.setIfInBounds bl (.stringIter s (p+(Utf8.decode s p).2)) }:=by
     have hlt:=qAz (o:=VObj.sit s p) hm
     exact ⟨rfl,rfl,rfl,by simp,by simp [hlt],fun c hc=>by simp [Array.getElem?_setIfInBounds_ne (Ne.symm hc)]⟩
    refine qZa hU (s:=Instr.next (.pointer (some ⟨bl,0,sp⟩)) true o.type) ⟨_,_,h.set bl (.sit s (p+(Utf8.decode s p).2)),?_,hk2 hp,r.upd nu rfl,Frame.upd nu hb rfl⟩ hn
    simp only [qAo] at hm
    simp [Instr.next,getObj,setObj,Sem.run,hm,hp,goInt]
   ·refine qXc hU r (s:=Instr.next (.pointer (some ⟨bl,0,sp⟩)) true o.type) ⟨_,?_,hk1 (by omega)⟩ hn
    simp only [qAo] at hm
    simp [Instr.next,getObj,Sem.run,hm,hp]
 case typeAssert x xt t ok=>exact qXc hU r (qRf (hev _ _ hk)) hn
 case extract x i =>
  have hk:=hev _ _ hk
  unfold qZk at hk
  split at hk
  ·rename_i vs hv
   rw [hv]
   split at hk
   ·rename_i v vs' hd
    refine qXc hU r (s:=Instr.extract (.tuple vs) i) ⟨v,?_,hk⟩ hn
    have:vs[i]?=some v:=by
     have:=congrArg (·[0]?) hd
     simpa using this
    simp [Instr.extract,this]
   ·exact hk.elim
  ·exact hk.elim
 case panic x =>
  have hk:=hev _ _ hk
  unfold panW at hk
  split at hk
  ·rename_i t v hv
   rw [hv]
   have e:(do pure (Next.value (← Instr.panic (.iface t v))):Sem Next).run P w=.halt (.panic (.iface t v)) w:=by simp [Instr.panic]
   rw [e]
   exact hU.pan _ _ (hp _ _ _ hk r (Frame.refl _ _))
  ·exact hk.elim
 case call c =>
  have hargs:(c.args.toList.map a.eval).toArray=c.args.map a.eval:=by apply Array.toList_inj.mp; simp
  cases hc:c.callee with
  | builtin b =>
   simp only [hc] at hk
   have hk:=qUd he hk
   have e:(do let d ← resolve a.eval c o.type; invoke d.target d.args:Sem Next).run P w=(builtin b c.argTypes o.type (c.args.map fun | .const _=>true | _=>false) (c.args.map a.eval)).run P w:=by
    simp only [resolve,hc,Sem.run_bind,Sem.run_pure,Result.andThen_ok,invoke]
    rfl
   rw [e,← hargs,show c.argTypes=c.argTypes.toList.toArray by simp]
   exact xEc hU r hk hn hp
  | invoke rv name =>
   simp only [hc] at hk
   have hk:=qUd he (hev _ _ hk)
   unfold invW at hk
   split at hk
   ·rename_i u x hr
    split at hk
    ·rename_i f hm
     have e:(do let d ← resolve a.eval c o.type; invoke d.target d.args:Sem Next).run P w=(callFunc f ((x::c.args.toList.map a.eval).toArray)).run P w:=by
      have h0:(#[Value.iface u x]++c.args.map a.eval)[0]?=some (.iface u x):=by
       rw [Array.getElem?_append_left (by simp)]; rfl
      have h1:(#[Value.iface u x]++c.args.map a.eval).extract 1 (#[Value.iface u x]++c.args.map a.eval).size=c.args.map a.eval:=by
       apply Array.toList_inj.mp
       rw [Array.toList_extract,List.extract_eq_take_drop]
       simp [List.take_of_length_le]
      simp only [resolve,hc,hr,Sem.run_bind,Sem.run_pure,Result.andThen_ok,invoke,h0,h1,callMethod,run_program]
      rw [show P.types.size+Made.depth=(P.types.size+99)+1 from rfl,xPn hm]
      simp only [Result.andThen_ok]
      congr 2
      apply Array.toList_inj.mp; simp
     rw [e]
     exact qEj hU hC r hk hn hp
    ·exact hk.elim
   ·exact hk.elim
  | value f =>
   cases f with
   | func g =>
    simp only [hc] at hk
    have hk:=qUd he hk
    have e:(do let d ← resolve a.eval c o.type; invoke d.target d.args:Sem Next).run P w=(callFunc g ((c.args.toList.map a.eval).toArray)).run P w:=by
     simp only [resolve,hc,Act.eval,Deferred.ofValue,Sem.run_bind,Sem.run_pure,Result.andThen_ok,invoke,hargs]
     congr 2
     simp
    rw [e]
    exact qEj hU hC r hk hn hp
   | _ =>
    simp only [hc] at hk
    have hk:=qUd he (hev _ _ hk)
    unfold qBz at hk
    split at hk
    ·rename_i g first cap hf
     have e:(do let d ← resolve a.eval c o.type; invoke d.target d.args:Sem Next).run P w=(callFunc g ((first.toList++(c.args.toList.map a.eval++cap.toList)).toArray)).run P w:=by
      simp only [resolve,hc,hf,Deferred.ofValue,Sem.run_bind,Sem.run_pure,Result.andThen_ok,invoke]
      congr 2
      apply Array.toList_inj.mp; simp
     rw [e]
     exact qEj hU hC r hk hn hp
    ·rename_i l first cap hf
     have e:(do let d ← resolve a.eval c o.type; invoke d.target d.args:Sem Next).run P w=(Instr.yield l ((first.toList++c.args.toList.map a.eval).toArray)).run P w:=by
      simp only [resolve,hc,hf,Deferred.ofValue,Sem.run_bind,Sem.run_pure,Result.andThen_ok,invoke]
      congr 2
      apply Array.toList_inj.mp; simp
     rw [e]
     exact qMw hU (hy _ _ _ _ _ hk) hC r hk hn hp
    ·exact hk.elim
theorem qOa (hC:Sound P C) {ro:Option Nat} {o:Oper} {e:Env} {a:Act} (he:EnvR e a.tmps) (r:Rel h w) (hk:opW P C o e h k kp)
  (hn:∀ v h' w',k v h'→Rel h' w'→Frame h w h' w'→next (a.put o.dst v) w') (hp:∀ c h' w',kp c h'→Rel h' w'→Frame h w h' w'→Q (.panic c) a w') :
  o.wpIn (Fo ro) 0 P a w next Q:=by
 have hnd:∀ c,o.op≠.defer c:=fun c hc=>by
  unfold opW at hk
  rw [hc] at hk
  exact hk
 refine ⟨fun _ _=>trivial,?_⟩
 rw [Oper.semAt_eq _ _ _ hnd]
 exact qOb xHa hC (fun _ _ _ _ _ _=>trivial) he r hk hn hp
end Go.Proofs.YtkdneddcocggdaaGreatDoor.Am
