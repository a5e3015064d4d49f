/-
  A weakest-precondition reading of the model's code over a partial view of memory: definitions alone (the operations, a region, code, calls).
  What it says is shown sound against the model in the texts behind it.
-/
import Derived.Calls
import Derived.Below
namespace Go.Proofs.YtkgjpdadeakacaaDoor.Am
open Go

/-- What is known of a block. -/
inductive VObj
  | cells (l : List Value)
  | ro (l : List Value)
  | map (es : List MapEntry) (clock : Nat)
  | sit (s : ByteArray) (pos : Nat)

abbrev H := Nat → Option VObj
def H.set (h : H) (b : Nat) (o : VObj) : H := fun c => if c = b then some o else h c

def rowOf : Option VObj → Option (List Value)
  | some (.cells l) => some l
  | some (.ro l) => some l
  | _ => none

/-- One cell, a row of cells. -/
def rd (h : H) (a : Addr) : Option Value :=
  match a.spot with
  | none => (rowOf (h a.block)).bind (·[a.off]?)
  | some _ => none
def rdN (h : H) (a : Addr) (n : Nat) : Option (List Value) :=
  match a.spot with
  | none => (rowOf (h a.block)).bind fun l => if a.off + n ≤ l.length then some ((l.drop a.off).take n) else none
  | some _ => none
/-- The same, where of no cells nothing is asked. -/
def rdR (h : H) (a : Addr) (n : Nat) : Option (List Value) := if n = 0 then some [] else rdN h a n
def splice (l : List Value) (o : Nat) (vs : List Value) : List Value := l.take o ++ (vs ++ l.drop (o + vs.length))
/-- A store of a row of cells. -/
def wr (h : H) (a : Addr) (vs : List Value) : Option H :=
  match a.spot, h a.block with
  | none, some (.cells l) => if a.off + vs.length ≤ l.length then some (h.set a.block (.cells (splice l a.off vs))) else none
  | _, _ => none
def wr1 (h : H) (a : Addr) (v : Value) : Option H :=
  match a.spot, h a.block with
  | none, some (.cells l) => if a.off < l.length then some (h.set a.block (.cells (l.set a.off v))) else none
  | _, _ => none

/-! ### types -/
def szOf (P : Program) (t : TypeId) : Nat := P.cellsOf t
def bytesOf (P : Program) (t : TypeId) : Nat := P.bytesOf t
def aggB (P : Program) (t : TypeId) : Bool := match P.underlying t with | some (.struct _) | some (.array _ _) => true | _ => false
def zeroV (P : Program) (t : TypeId) : Option Value := (P.info? t).bind (·.zero)
def zeroL (P : Program) (t : TypeId) : List Value := match zeroV P t with | some v => v.cells.toList | none => []
def leafs (P : Program) : Nat → TypeId → Option (List TypeId)
  | 0, _ => none
  | n + 1, t => match P.underlying t with
    | some (.struct fs) => fs.toList.foldr (fun f acc => (leafs P n f.type).bind fun a => acc.map (a ++ ·)) (some [])
    | some (.array k e) => (leafs P n e).map fun a => (List.replicate k a).flatten
    | some _ => some [t]
    | none => none
def exLeaf (P : Program) (t : TypeId) (φ : Value → Prop) : Prop :=
  match P.underlying t with
  | some (.int k) => ∃ x : Int, φ (.int k x)
  | some .bool => ∃ x : Bool, φ (.bool x)
  | some .string => ∃ x : ByteArray, φ (.string x)
  | _ => ∃ x : Value, φ x
def exLr (P : Program) : List TypeId → (List Value → Prop) → Prop
  | [], φ => φ []
  | t :: ts, φ => exLeaf P t fun v => exLr P ts fun vs => φ (v :: vs)
/-- Some cells of these types: laid open, if they are not many. -/
def exL (P : Program) (ts : List TypeId) (φ : List Value → Prop) : Prop := match Nat.ble ts.length 16 with
  | true => exLr P ts φ
  | false => ∃ vs : List Value, φ vs
/-- Some value of a type: its form laid open. -/
def exT (P : Program) (t : TypeId) (φ : Value → Prop) : Prop :=
  match aggB P t with
  | true => match leafs P 20 t with
    | some ts => exL P ts fun vs => φ (.agg vs.toArray)
    | none => False
  | false => exLeaf P t φ
def exTs (P : Program) : List TypeId → (List Value → Prop) → Prop
  | [], φ => φ []
  | t :: ts, φ => exT P t fun v => exTs P ts fun vs => φ (v :: vs)
/-- Some result of a call whose results have these types. -/
def exR (P : Program) (ts : List TypeId) (φ : Value → Prop) : Prop :=
  match ts with
  | [t] => exT P t φ
  | ts => exTs P ts fun vs => φ (.tuple vs.toArray)

/-! ### slots -/
abbrev Env := List (Option Value)
def getk : Env → Nat → (Value → Prop) → Prop
  | [], _, _ => False
  | some v :: _, 0, k => k v
  | none :: _, 0, _ => False
  | _ :: e, n + 1, k => getk e n k
def setk : Env → Nat → Option Value → (Env → Prop) → Prop
  | [], _, _, k => k []
  | _ :: e, 0, v, k => k (v :: e)
  | x :: e, n + 1, v, k => setk e n v fun e' => k (x :: e')
def putk (e : Env) (d : Option Nat) (v : Option Value) (k : Env → Prop) : Prop :=
  match d with
  | some d => setk e d v k
  | none => k e
def ev (e : Env) (x : Operand) (k : Value → Prop) : Prop :=
  match x with
  | .tmp t => getk e t k
  | .const v => k v
  | .global g => k (.pointer (some ⟨g, 0, none⟩))
  | .func f => k (.func (.func f) #[] #[])
def evs (e : Env) : List Operand → (List Value → Prop) → Prop
  | [], k => k []
  | x :: xs, k => ev e x fun v => evs e xs fun vs => k (v :: vs)
def evo (e : Env) (x : Option Operand) (k : Option Value → Prop) : Prop :=
  match x with
  | some x => ev e x fun v => k (some v)
  | none => k none
/-- The form that a slot's value has. -/
inductive Kd | raw | int (k : IntKind) | bool | str
/-- The values of some slots; an environment in which these alone are known. -/
def projk (e : Env) : List (Nat × Kd) → (List Value → Prop) → Prop
  | [], k => k []
  | (s, _) :: ss, k => getk e s fun v => projk e ss fun vs => k (v :: vs)
def nth : List Value → Nat → Value
  | [], _ => undef
  | v :: _, 0 => v
  | _ :: vs, n + 1 => nth vs n
def buildFrom (n : Nat) : List (Nat × Kd) → List Value → Nat → Env
  | [], _, _ => List.replicate n none
  | (s, _) :: ss, vs, j => (buildFrom n ss vs (j + 1)).set s (some (nth vs j))

/-! ### values -/
def intW (v : Value) (k : IntKind → Int → Prop) : Prop := match v with | .int j n => k j n | _ => False
def ikEq (a b : IntKind) : Bool := Nat.beq a.ctorIdx b.ctorIdx
def intK (j : IntKind) (v : Value) (k : Int → Prop) : Prop := match v with | .int j' n => (match ikEq j' j with | true => k n | false => False) | _ => False
def boolW (v : Value) (k : Bool → Prop) : Prop := match v with | .bool b => k b | _ => False
def strW (v : Value) (k : ByteArray → Prop) : Prop := match v with | .string s => k s | _ => False
def ptrW (v : Value) (k : Addr → Prop) : Prop := match v with | .pointer (some a) => k a | _ => False
def aggW (v : Value) (k : List Value → Prop) : Prop := match v with | .agg cs => k cs.toList | _ => False
def lenW (v : Value) (k : Nat → Prop) : Prop := match v with | .slice _ n _ => k n | _ => False
/-- What an operation's guard yields: whether it is done, and what that leaves known. -/
def grdW (c : Value) (t : Bool → Prop) (f : Prop) : Prop := match c with | .bool b => t b | _ => f
def nonNil : Value → Bool
  | .pointer none | .nilIface | .nilFunc => false
  | .func (.func _) _ _ => true
  | .func _ _ _ => false
  | _ => true
def slAtW (s : Value) (i : Int) (sz : Nat) (k : Addr → Prop) : Prop :=
  match s with
  | .slice (some a) len _ => 0 ≤ i ∧ i < (len : Int) ∧ k (a.add (i.toNat * sz))
  | _ => False
def strAtW (s : ByteArray) (i : Int) (k : Int → Prop) : Prop := 0 ≤ i ∧ i < (s.size : Int) ∧ k ((s.get! i.toNat).toNat : Int)
/-- A cut: of a string, of a slice (bounds that are not given: the whole). -/
def strCutW (s : ByteArray) (lo hi : Option Int) (k : ByteArray → Prop) : Prop :=
  0 ≤ lo.getD 0 ∧ lo.getD 0 ≤ hi.getD s.size ∧ hi.getD s.size ≤ (s.size : Int) ∧ k (s.extract (lo.getD 0).toNat (hi.getD s.size).toNat)
def slCutW (s : Value) (lo hi mx : Option Int) (sz : Nat) (k : Value → Prop) : Prop :=
  match s with
  | .slice a len cap =>
    0 ≤ lo.getD 0 ∧ lo.getD 0 ≤ hi.getD len ∧ hi.getD len ≤ mx.getD cap ∧ mx.getD cap ≤ (cap : Int) ∧ (mx.isSome → hi.isSome) ∧
      k (.slice (if (mx.getD cap).toNat = (lo.getD 0).toNat then a else a.map (·.add ((lo.getD 0).toNat * sz))) ((hi.getD len).toNat - (lo.getD 0).toNat) ((mx.getD cap).toNat - (lo.getD 0).toNat))
  | _ => False
def optI (v : Option Value) (k : Option Int → Prop) : Prop :=
  match v with
  | some (.int _ n) => k (some n)
  | some _ => False
  | none => k none

/-- A value is laid open. -/
def tyW (d : Kd) (v : Value) (k : Value → Prop) : Prop := match d with
  | .raw => k v
  | .int j => intK j v fun n => k (.int j n)
  | .bool => boolW v fun b => k (.bool b)
  | .str => strW v fun s => k (.string s)
def openArgs : List Kd → List Value → (List Value → Prop) → Prop
  | d :: ds, v :: vs, k => tyW d v fun v => openArgs ds vs fun vs => k (v :: vs)
  | _, vs, k => k vs
def buildk (n : Nat) : List (Nat × Kd) → List Value → Nat → (Env → Prop) → Prop
  | [], _, _, k => k (List.replicate n none)
  | (s, d) :: ss, vs, j, k => tyW d (nth vs j) fun v => buildk n ss vs (j + 1) fun e => setk e s (some v) k

/-- A part of a value that lies over several cells. -/
def partW (agg : Bool) (cs : List Value) (off n : Nat) (k : Value → Prop) : Prop :=
  match agg with
  | true => k (.agg ((cs.drop off).take n).toArray)
  | false => match cs.drop off with
    | v :: _ => k v
    | [] => False

/-- '==' of values that are no numbers and no strings. -/
def eqL (P : Program) : List TypeId → List Value → List Value → (Bool → Prop) → Prop
  | [], [], [], k => k true
  | t :: ts, x :: xs, y :: ys, k =>
    match P.underlying t, x, y with
    | some (.int j), .int j1 a, .int j2 b => (j = j1 ∧ j = j2) ∧ eqL P ts xs ys fun r => k ((a == b) && r)
    | some .bool, .bool a, .bool b => eqL P ts xs ys fun r => k ((a == b) && r)
    | some .string, .string a, .string b => eqL P ts xs ys fun r => k ((a == b) && r)
    | _, _, _ => False
  | _, _, _, _ => False
def isConst : Operand → Bool
  | .const _ => true
  | _ => false
/-- '==' with what holds no number and no string; c: one side is a constant. -/
def eqW (P : Program) (c : Bool) (t : TypeId) (x y : Value) (k : Bool → Prop) : Prop :=
  match P.underlying t with
  | some .bool => boolW x fun a => boolW y fun b => k (a == b)
  | some (.slice _) => match x, y with
    | .slice none _ _, .slice b _ _ => k b.isNone
    | .slice (some _) _ _, .slice none _ _ => k false
    | _, _ => False
  | some (.map _ _) => match x, y with
    | .map none, .map b => k b.isNone
    | .map (some _), .map none => k false
    | _, _ => False
  | some (.func _ _ _) => match x, y with
    | .nilFunc, .nilFunc => k true
    | .nilFunc, .func _ _ _ => k false
    | .func _ _ _, .nilFunc => k false
    | _, _ => False
  | some (.interface _) => match x, y with
    | .nilIface, .nilIface => c = true ∧ k true
    | .nilIface, .iface _ _ => k false
    | .iface _ _, .nilIface => k false
    | _, _ => False
  | some (.pointer _) => match x, y with
    | .pointer none, .pointer b => k b.isNone
    | .pointer (some _), .pointer none => k false
    | _, _ => False
  | some (.struct _) | some (.array _ _) => match leafs P 20 t with
    | some ts => aggW x fun xs => aggW y fun ys => eqL P ts xs ys k
    | none => False
  | _ => False

def binInt (op : BinOp) (j : IntKind) (a b : Int) (k : Value → Prop) : Prop :=
  match op with
  | .add => k (.int j (j.wrap (a + b)))
  | .sub => k (.int j (j.wrap (a - b)))
  | .mul => k (.int j (j.wrap (a * b)))
  | .quo => b ≠ 0 ∧ k (.int j (j.wrap (a.tdiv b)))
  | .rem => b ≠ 0 ∧ k (.int j (a.tmod b))
  | .and => k (.int j (j.wrap (BitVec.ofInt j.bits a &&& BitVec.ofInt j.bits b).toNat))
  | .or => k (.int j (j.wrap (BitVec.ofInt j.bits a ||| BitVec.ofInt j.bits b).toNat))
  | .xor => k (.int j (j.wrap (BitVec.ofInt j.bits a ^^^ BitVec.ofInt j.bits b).toNat))
  | .andNot => k (.int j (j.wrap (BitVec.ofInt j.bits a &&& ~~~BitVec.ofInt j.bits b).toNat))
  | .eql => k (.bool (a == b))
  | .neq => k (.bool (a != b))
  | .lss => k (.bool (decide (a < b)))
  | .leq => k (.bool (decide (a ≤ b)))
  | .gtr => k (.bool (decide (a > b)))
  | .geq => k (.bool (decide (a ≥ b)))
  | _ => False
def shInt (op : BinOp) (j : IntKind) (a b : Int) (k : Value → Prop) : Prop :=
  match op with
  | .shl => 0 ≤ b ∧ k (.int j (j.wrap (a * 2 ^ (min b.toNat j.bits))))
  | .shr => 0 ≤ b ∧ k (.int j (a.fdiv (2 ^ (min b.toNat j.bits))))
  | _ => False
def binStr (op : BinOp) (a b : ByteArray) (k : Value → Prop) : Prop :=
  match op with
  | .add => a.size + b.size ≤ 9223372036854775807 ∧ k (.string (a ++ b))
  | .eql => k (.bool (a.toList == b.toList))
  | .neq => k (.bool (!(a.toList == b.toList)))
  | .lss => k (.bool (Op.bytesLess a.toList b.toList))
  | .leq => k (.bool (Op.bytesLess a.toList b.toList || a.toList == b.toList))
  | .gtr => k (.bool (!(Op.bytesLess a.toList b.toList || a.toList == b.toList)))
  | .geq => k (.bool (!Op.bytesLess a.toList b.toList))
  | _ => False
def isShift : BinOp → Bool
  | .shl | .shr => true
  | _ => false
def binV (P : Program) (op : BinOp) (c : Bool) (t : TypeId) (x y : Value) (k : Value → Prop) : Prop :=
  match x, y with
  | .int j a, .int j' b => match isShift op with
    | true => shInt op j a b k
    | false => j = j' ∧ binInt op j a b k
  | .string a, .string b => binStr op a b k
  | _, _ => match op with
    | .eql => eqW P c t x y fun r => k (.bool r)
    | .neq => eqW P c t x y fun r => k (.bool (!r))
    | _ => False
def eqSl (x y : Value) (k : Bool → Prop) : Prop := match x, y with
  | .slice none _ _, .slice b _ _ => k b.isNone
  | .slice (some _) _ _, .slice none _ _ => k false
  | _, _ => False
def eqMap (x y : Value) (k : Bool → Prop) : Prop := match x, y with
  | .map none, .map b => k b.isNone
  | .map (some _), .map none => k false
  | _, _ => False
def eqFn (x y : Value) (k : Bool → Prop) : Prop := match x, y with
  | .nilFunc, .nilFunc => k true
  | .nilFunc, .func _ _ _ => k false
  | .func _ _ _, .nilFunc => k false
  | _, _ => False
def eqIf (c : Bool) (x y : Value) (k : Bool → Prop) : Prop := match x, y with
  | .nilIface, .nilIface => c = true ∧ k true
  | .nilIface, .iface _ _ => k false
  | .iface _ _, .nilIface => k false
  | _, _ => False
def eqPtr (x y : Value) (k : Bool → Prop) : Prop := match x, y with
  | .pointer none, .pointer b => k b.isNone
  | .pointer (some _), .pointer none => k false
  | _, _ => False
def eqn (op : BinOp) (q : (Bool → Prop) → Prop) (k : Value → Prop) : Prop := match op with
  | .eql => q fun r => k (.bool r)
  | .neq => q fun r => k (.bool (!r))
  | _ => False
def binW (P : Program) (op : BinOp) (c : Bool) (t : TypeId) (x y : Value) (k : Value → Prop) : Prop :=
  match P.underlying t with
  | some (.int j) => match isShift op with
    | true => intK j x fun a => intW y fun _ b => shInt op j a b k
    | false => intK j x fun a => intK j y fun b => binInt op j a b k
  | some .string => strW x fun a => strW y fun b => binStr op a b k
  | some .bool => eqn op (fun q => boolW x fun a => boolW y fun b => q (a == b)) k
  | some (.slice _) => eqn op (eqSl x y) k
  | some (.map _ _) => eqn op (eqMap x y) k
  | some (.func _ _ _) => eqn op (eqFn x y) k
  | some (.interface _) => eqn op (eqIf c x y) k
  | some (.pointer _) => eqn op (eqPtr x y) k
  | _ => False
def extractW (v : Value) (i : Nat) (k : Value → Prop) : Prop := match v with
  | .tuple vs => match vs.toList.drop i with
    | v :: _ => k v
    | [] => False
  | _ => False
def unW (op : UnOp) (x : Value) (k : Value → Prop) : Prop :=
  match op with
  | .neg => intW x fun j n => k (.int j (j.wrap (0 - n)))
  | .xor => intW x fun j n => k (.int j (j.wrap (BitVec.ofInt j.bits (if j.signed then -1 else j.max) ^^^ BitVec.ofInt j.bits n).toNat))
  | .not => boolW x fun b => k (.bool !b)
  | _ => False

/-- A value of one cell. -/
def one : Value → Bool
  | .agg _ | .tuple _ => false
  | _ => true

/-! ### memory -/
def newSl (h : H) (n : Nat) (cs : List Value) (k : Value → H → Prop) : Prop := ∀ b, h b = none → k (.slice (some ⟨b, 0, none⟩) n n) (h.set b (.cells cs))
def newIt (h : H) (s : ByteArray) (k : Value → H → Prop) : Prop := ∀ b, h b = none → k (.pointer (some ⟨b, 0, none⟩)) (h.set b (.sit s 0))
def sbW (h : H) (x : ByteArray) (k : Value → H → Prop) : Prop := ∀ b c, h b = none → x.size ≤ c →
  k (.slice (some ⟨b, 0, none⟩) x.size c) (h.set b (.cells ((x.data.toList.map fun y => .int .u8 y.toNat) ++ List.replicate (c - x.size) (.int .u8 0))))
/-- Numbers that are bytes, as a string. -/
def strOf (ns : List Int) : ByteArray := ⟨(ns.map fun n => UInt8.ofNat n.toNat).toArray⟩
def bsW (h : H) (v : Value) (k : ByteArray → Prop) : Prop :=
  match v with
  | .slice none _ _ => k ByteArray.empty
  | .slice (some a) n _ => ∃ ns : List Int, rdR h a n = some (ns.map (Value.int .u8)) ∧ k (strOf ns)
  | _ => False
def nextW (h : H) (a : Addr) (k : Value → H → Prop) : Prop := a.off = 0 ∧ ∃ s p, h a.block = some (.sit s p) ∧
  (s.size ≤ p → k (.tuple #[.bool false]) h) ∧
  (p < s.size → k (.tuple #[.bool true, .int .i64 p, .int .i32 (Utf8.decode s p).1]) (h.set a.block (.sit s (p + (Utf8.decode s p).2))))
def newW (h : H) (vs : List Value) (k : Value → H → Prop) : Prop := ∀ b, h b = none → k (.pointer (some ⟨b, 0, none⟩)) (h.set b (.cells vs))
def oldOf (h : H) (base : Option Addr) (n : Nat) : Option (List Value) := match base with
  | none => some []
  | some a => rdR h a n
/-- An append of m elements, whose cells are ws; sz cells an element, z its zero. -/
def apW (h : H) (sz bytes : Nat) (z : List Value) (s : Value) (m : Nat) (ws : List Value) (k : Value → H → Prop) : Prop :=
  match s with
  | .slice base len cap =>
    (len + m ≤ cap → match base with
      | none => k (.slice none (len + m) cap) h
      | some a => (ws = [] → k (.slice base (len + m) cap) h) ∧ (ws ≠ [] → ws.all one = true ∧ ∃ h', wr h (a.add (len * sz)) ws = some h' ∧ k (.slice base (len + m) cap) h')) ∧
    (cap < len + m → Builtin.nextslicecap (len + m) cap * bytes ≤ 2 ^ 48 ∧ ((len + m : Nat) : Int) ≤ IntKind.i64.max ∧
      ∃ old, oldOf h base (len * sz) = some old ∧
        ∀ b c, h b = none → len + m ≤ c → k (.slice (some ⟨b, 0, none⟩) (len + m) c) (h.set b (.cells (old ++ (ws ++ (List.replicate (c - (len + m)) z).flatten)))))
  | _ => False
/-- The cells of what is appended or copied: of a slice, of a string. -/
def srcW (h : H) (sz : Nat) (x : Value) (n : Nat) (k : List Value → Prop) : Prop :=
  match x with
  | .slice none _ _ => k []
  | .slice (some a) _ _ => ∃ ws, rdR h a (n * sz) = some ws ∧ k ws
  | .string s => k ((s.extract 0 n).data.toList.map fun b => .int .u8 b.toNat)
  | _ => False
def slenW (x : Value) (k : Nat → Prop) : Prop :=
  match x with
  | .slice _ n _ => k n
  | .string s => k s.size
  | _ => False
def mkSliceW (h : H) (bytes : Nat) (z : List Value) (n m : Int) (k : Value → H → Prop) : Prop :=
  0 ≤ n ∧ n ≤ m ∧ (bytes : Int) * m ≤ 2 ^ 48 ∧ m ≤ 2 ^ 48 ∧
    ∀ b, h b = none → k (.slice (some ⟨b, 0, none⟩) n.toNat m.toNat) (h.set b (.cells (List.replicate m.toNat z).flatten))
def cpW (h : H) (d : Value) (n : Nat) (ws : List Value) (k : Value → H → Prop) : Prop :=
  match d with
  | .slice base len _ => (ws = [] → k (.int .i64 (min n len : Nat)) h) ∧ (ws ≠ [] → match base with
      | none => k (.int .i64 (min n len : Nat)) h
      | some a => ws.all one = true ∧ ∃ h', wr h a ws = some h' ∧ k (.int .i64 (min n len : Nat)) h')
  | _ => False
end Go.Proofs.YtkgjpdadeakacaaDoor.Am
