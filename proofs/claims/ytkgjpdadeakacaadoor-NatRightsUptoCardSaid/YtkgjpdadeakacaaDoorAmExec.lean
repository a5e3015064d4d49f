/-
  A weakest-precondition reading of the model's code over a partial view of memory: operations, regions, code, a function's body.
-/
import Derived.Test.YtkgjpdadeakacaaDoorAmBase
namespace Go.Proofs.YtkgjpdadeakacaaDoor.Am
open Go

/-- How a piece of code is left. -/
inductive X
  | n
  | e (id : Nat)
  | r
  | p (c : List PanicEntry)

abbrev Kv := Value → H → Prop
abbrev Kp := List PanicEntry → H → Prop
abbrev Kx := X → Env → H → Prop
/-- What is known of calls, and of loops. -/
abbrev Orc := FuncId → List Value → H → Kv → Kp → Prop
abbrev Kl := X → List Value → H → Prop
abbrev Lor := Code → List Value → H → Kl → Prop

/-- Parts laid into a row of cells. -/
def fillW (place : Nat → Option (Nat × Nat × Bool)) (e : Env) : List (Nat × Operand) → List Value → (List Value → Prop) → Prop
  | [], cs, k => k cs
  | (i, x) :: ps, cs, k => ev e x fun v =>
    match place i with
    | none => False
    | some (off, n, true) => aggW v fun vs => vs.length = n ∧ off + n ≤ cs.length ∧ fillW place e ps (splice cs off vs) k
    | some (off, _, false) => one v = true ∧ off < cs.length ∧ fillW place e ps (splice cs off [v]) k
def plc (P : Program) (off : Nat) (t : TypeId) : Option (Nat × Nat × Bool) :=
  match aggB P t, szOf P t with
  | true, n => some (off, n, true)
  | false, 1 => some (off, 1, false)
  | _, _ => none
def structPlace (P : Program) (t : TypeId) (i : Nat) : Option (Nat × Nat × Bool) :=
  match P.underlying t with
  | some (.struct fs) => match fs[i]? with
    | some f => plc P f.offset f.type
    | none => none
  | some (.array _ e) => plc P (i * szOf P e) e
  | _ => none
def slicePlace (P : Program) (t : TypeId) (i : Nat) : Option (Nat × Nat × Bool) :=
  match P.underlying t with
  | some (.slice e) => plc P (i * szOf P e) e
  | _ => none
def known (P : Program) (t : TypeId) : Bool := (P.info? t).isSome
/-- Every field's type is known. -/
def fieldsOk (P : Program) (t : TypeId) : Bool :=
  match P.underlying t with
  | some (.struct fs) => fs.toList.all fun f => (P.info? f.type).isSome
  | some (.array _ e) => (P.info? e).isSome
  | _ => false
/-- A type whose zero is known, and has as many cells as the type. -/
def zOk (P : Program) (t : TypeId) : Bool := (zeroV P t).isSome && ((zeroL P t).length == szOf P t && decide (0 < szOf P t))
def elemOfSl (P : Program) (t : TypeId) : Option TypeId :=
  match P.underlying t with
  | some (.slice e) => some e
  | _ => none

def hasBody (P : Program) (f : FuncId) : Bool :=
  match P.funcs[f]? with
  | some fn => fn.name != "runtime.NumGoroutine" && fn.body.isSome
  | none => false
/-- The types of a call's results. -/
def resTypes (P : Program) (t : TypeId) : List TypeId :=
  match P.underlying t with
  | some (.tuple ts) => ts.toList
  | _ => [t]
def callW (P : Program) (C : Orc) (t : TypeId) (f : FuncId) (args : List Value) (h : H) (k : Kv) (kp : Kp) : Prop :=
  match hasBody P f with
  | true => C f args h (fun v h' => exR P (resTypes P t) fun v' => v = v' ∧ k v' h') kp
  | false => False
def callV (P : Program) (C : Orc) (t : TypeId) (f : Value) (args : List Value) (h : H) (k : Kv) (kp : Kp) : Prop :=
  match f with
  | .func (.func g) first cap => callW P C t g (first.toList ++ (args ++ cap.toList)) h k kp
  | _ => False
/-- A method's function, where it is the type's own and takes what the interface holds. -/
def methF (P : Program) (t : TypeId) (name : String) : Option FuncId :=
  match (P.info? t).bind fun i => i.methods.find? (·.name == name) with
  | some { path, func := some (f, ptr), .. } =>
    match path.isEmpty, P.underlying t, ptr with
    | true, some (.pointer _), true => some f
    | true, some (.pointer _), false => none
    | true, some _, false => some f
    | _, _, _ => none
  | _ => none
def invW (P : Program) (C : Orc) (t : TypeId) (r : Value) (name : String) (args : List Value) (h : H) (k : Kv) (kp : Kp) : Prop :=
  match r with
  | .iface u x => match methF P u name with
    | some f => callW P C t f (x :: args) h k kp
    | none => False
  | _ => False

/-- The kinds of conversions. -/
inductive Cv | ints (k : IntKind) | same | bs | sb | rs | no
def cvOf (P : Program) (s d : TypeId) : Cv :=
  match P.underlying s, P.underlying d with
  | some (.int _), some (.int k) => .ints k
  | some .string, some .string => .same
  | some (.int _), some .string => .rs
  | some (.slice e), some .string => match P.underlying e with
    | some (.int .u8) => .bs
    | _ => .no
  | some .string, some (.slice e) => match P.underlying e with
    | some (.int .u8) => .sb
    | _ => .no
  | _, _ => .no
def convW (P : Program) (s d : TypeId) (v : Value) (h : H) (k : Kv) : Prop :=
  match cvOf P s d with
  | .ints j => intW v fun _ n => k (.int j (j.wrap n)) h
  | .same => strW v fun x => k (.string x) h
  | .rs => intW v fun _ n => k (.string (Utf8.encode n)) h
  | .bs => bsW h v fun x => k (.string x) h
  | .sb => strW v fun x => sbW h x k
  | .no => False

def minMaxGo (mx : Bool) (j : IntKind) : Int → List Value → (Value → Prop) → Prop
  | a, [], k => k (.int j a)
  | a, .int j' b :: vs, k => j = j' ∧ minMaxGo mx j (bif mx then (if a < b then b else a) else (if b < a then b else a)) vs k
  | _, _ :: _, _ => False
def minMax (mx : Bool) (vs : List Value) (k : Value → Prop) : Prop :=
  match vs with
  | .int j a :: vs => minMaxGo mx j a vs k
  | _ => False

/-- A type that is appended or copied from. -/
def srcTy (P : Program) (t : TypeId) : Bool := match P.underlying t with | some (.slice _) | some .string => true | _ => false
def bltW (P : Program) (b : Builtin) (ts : List TypeId) (vs : List Value) (h : H) (k : Kv) (kp : Kp) : Prop :=
  match b, ts, vs with
  | .len, [t], [v] => match P.underlying t with
    | some .string => strW v fun s => k (.int .i64 s.size) h
    | some (.slice _) => lenW v fun n => k (.int .i64 n) h
    | some (.array n _) => k (.int .i64 n) h
    | some (.map _ _) => match v with
      | .map none => k (.int .i64 0) h
      | .map (some r) => ∃ es c, h r = some (.map es c) ∧ k (.int .i64 es.length) h
      | _ => False
    | _ => False
  | .append, [t, u], [s, x] => match elemOfSl P t, zOk P ((elemOfSl P t).getD 0) && srcTy P u with
    | some e, true => slenW x fun n => srcW h (szOf P e) x n fun ws => apW h (szOf P e) (bytesOf P e) (zeroL P e) s n ws k
    | _, _ => False
  | .copy, [t, _], [d, x] => match elemOfSl P t, zOk P ((elemOfSl P t).getD 0) with
    | some e, true => slenW x fun n => slenW d fun m => srcW h (szOf P e) x (min n m) fun ws => cpW h d n ws k
    | _, _ => False
  | .min, _, vs => minMax false vs fun v => k v h
  | .max, _, vs => minMax true vs fun v => k v h
  | .panic, _, [.iface t v] => kp [{ v := .iface t v, recovered := false }] h
  | _, _, _ => False

def assertW (P : Program) (x : Value) (t : TypeId) (ok : Bool) (k : Value → Prop) : Prop :=
  match P.underlying t with
  | some (.interface _) => False
  | some _ => match ok with
    | true => match x with
      | .nilIface => match zeroV P t with
        | some z => k (.tuple #[z, .bool false])
        | none => False
      | .iface u v => match zeroV P t with
        | some z => (u = t → k (.tuple #[v, .bool true])) ∧ (u ≠ t → k (.tuple #[z, .bool false]))
        | none => False
      | _ => False
    | false => match x with
      | .iface u v => u = t ∧ k v
      | _ => False
  | none => False

/-- An operation. -/
def opW (P : Program) (C : Orc) (o : Oper) (e : Env) (h : H) (k : Kv) (kp : Kp) : Prop :=
  match o.op with
  | .move x | .assign x => ev e x fun v => k v h
  | .pick c a b => ev e c fun v => boolW v fun t => bif t then ev e a fun v => k v h else ev e b fun v => k v h
  | .alloc t => match zOk P t with
    | true => newW h (zeroL P t) k
    | false => False
  | .box t x => ev e x fun v => match aggB P t with
    | true => aggW v fun cs => newW h cs k
    | false => one v = true ∧ newW h [v] k
  | .build t ps => match zOk P t, fieldsOk P t with
    | true, true => fillW (structPlace P t) e ps.toList (zeroL P t) fun cs => k (.agg cs.toArray) h
    | _, _ => False
  | .buildSlice t n ps => match elemOfSl P t, zOk P ((elemOfSl P t).getD 0), decide (n * szOf P ((elemOfSl P t).getD 0) ≤ 2 ^ 24) with
    | some el, true, true => fillW (slicePlace P t) e ps.toList (List.replicate n (zeroL P el)).flatten fun cs => newSl h n cs k
    | _, _, _ => False
  | .load t x => ev e x fun v => ptrW v fun a => match aggB P t with
    | true => match leafs P 20 t with
      | some ts => exL P ts fun vs => rdN h a (szOf P t) = some vs ∧ k (.agg vs.toArray) h
      | none => False
    | false => match P.underlying t with
      | some _ => exLeaf P t fun v => rd h a = some v ∧ k v h
      | none => False
  | .store t x y => ev e x fun v => ptrW v fun a => ev e y fun u => match aggB P t with
    | true => aggW u fun cs => cs.length = szOf P t ∧ cs.all one = true ∧ ∃ h', wr h a cs = some h' ∧ k (.tuple #[]) h'
    | false => match P.underlying t with
      | some _ => one u = true ∧ szOf P t = 1 ∧ ∃ h', wr1 h a u = some h' ∧ k (.tuple #[]) h'
      | none => False
  | .nilCheck x => ev e x fun v => nonNil v = true ∧ k v h
  | .binOp op t x y _ => ev e x fun a => ev e y fun b => match aggB P t with
    | false => binW P op (isConst x || isConst y) t a b fun v => k v h
    | true => False
  | .unOp op _ x => ev e x fun a => unW op a fun v => k v h
  | .convert s d x => ev e x fun v => convW P s d v h k
  | .makeInterface t x => ev e x fun v => match P.underlying t with
    | some (.interface _) => False
    | some _ => k (.iface t v) h
    | none => False
  | .makeFunc (.func f) first cap => evs e first.toList fun a => evs e cap.toList fun b => k (.func (.func f) a.toArray b.toArray) h
  | .makeSlice t l c => ev e l fun l => ev e c fun c => intW l fun _ n => intW c fun _ m => match elemOfSl P t, zOk P ((elemOfSl P t).getD 0) with
    | some el, true => mkSliceW h (bytesOf P el) (zeroL P el) n m k
    | _, _ => False
  | .slice t x lo hi mx => ev e x fun v => evo e lo fun lo => evo e hi fun hi => evo e mx fun mx => optI lo fun lo => optI hi fun hi => optI mx fun mx =>
    match P.underlying t, mx with
    | some .string, none => strW v fun s => strCutW s lo hi fun s => k (.string s) h
    | some (.slice el), mx => match known P el with
      | true => slCutW v lo hi mx (szOf P el) fun s => k s h
      | false => False
    | _, _ => False
  | .fieldAddr s x f => ev e x fun v => ptrW v fun a => match P.underlying s with
    | some (.struct fs) => match fs[f]? with
      | some fd => match szOf P fd.type with
        | 0 => False
        | _ + 1 => k (.pointer (some (a.add fd.offset))) h
      | none => False
    | _ => False
  | .field t x f => ev e x fun v => aggW v fun cs => match P.underlying t with
    | some (.struct fs) => match fs[f]? with
      | some fd => match P.underlying fd.type with
        | some _ => partW (aggB P fd.type) cs fd.offset (szOf P fd.type) fun v => k v h
        | none => False
      | none => False
    | _ => False
  | .indexAddr t x i => ev e x fun v => ev e i fun i => intW i fun _ n => match P.underlying t with
    | some (.slice el) => match known P el with
      | true => slAtW v n (szOf P el) fun a => k (.pointer (some a)) h
      | false => False
    | some (.array len el) => match known P el && decide (2 ≤ len) with
      | false => False
      | true => ptrW v fun a => 0 ≤ n ∧ n < (len : Int) ∧ k (.pointer (some (a.add (n.toNat * szOf P el)))) h
    | _ => False
  | .index t x i => ev e x fun v => ev e i fun i => intW i fun _ n => match P.underlying t with
    | some .string => strW v fun s => strAtW s n fun b => k (.int .u8 b) h
    | _ => False
  | .range t x => ev e x fun v => match P.underlying t with
    | some .string => strW v fun s => newIt h s k
    | _ => False
  | .next x true => ev e x fun v => ptrW v fun a => nextW h a k
  | .typeAssert x _ t ok => ev e x fun v => assertW P v t ok fun v => k v h
  | .extract x i => ev e x fun v => extractW v i fun v => k v h
  | .call c => match c.callee with
    | .builtin b => evs e c.args.toList fun vs => bltW P b c.argTypes.toList vs h k kp
    | .value (.func f) => evs e c.args.toList fun vs => callW P C o.type f vs h k kp
    | .value f => ev e f fun f => evs e c.args.toList fun vs => callV P C o.type f vs h k kp
    | .invoke r name => ev e r fun r => evs e c.args.toList fun vs => invW P C o.type r name vs h k kp
  | .panic x => ev e x fun v => match v with
    | .iface t w => kp [{ v := .iface t w, recovered := false }] h
    | _ => False
  | _ => False

/-! ### regions -/
/-- A reading operation done again: it reads as it did. -/
def again (P : Program) (r : Oper) (e : Env) (h : H) : Prop :=
  match r.op, r.dst with
  | .load t x, some d => ev e x fun v => ptrW v fun a => getk e d fun w => match aggB P t with
    | true => aggW w fun cs => rdN h a (szOf P t) = some cs
    | false => rd h a = some w
  | _, _ => False
def againAll (P : Program) : List Oper → Env → H → Prop → Prop
  | [], _, _, k => k
  | r :: rs, e, h, k => again P r e h ∧ againAll P rs e h k
def slotOf (ops : Array Oper) (j : Nat) : Option Nat := (ops[j]?).bind (·.dst)
/-- Operations, each with what is to be read again behind it. -/
def rgn (P : Program) (C : Orc) (ops : Array Oper) : List (Oper × List Oper) → Env → H → (Env → H → Prop) → Kp → Prop
  | [], e, h, k, _ => k e h
  | (o, chk) :: rest, e, h, k, kp =>
    match o.guard with
    | none => opW P C o e h (fun v h' => putk e o.dst (some v) fun e' => againAll P chk e' h' (rgn P C ops rest e' h' k kp)) kp
    | some (j, want) => match slotOf ops j with
      | none => False
      | some s => getk e s fun c => grdW c (fun t =>
        bif (bif want then t else !t)
        then setk e s (some (.bool want)) fun e => opW P C o e h (fun v h' => putk e o.dst (some v) fun e' => againAll P chk e' h' (rgn P C ops rest e' h' k kp)) kp
        else setk e s (some (.bool (!want))) fun e => putk e o.dst (some undef) fun e' => rgn P C ops rest e' h k kp)
        (putk e o.dst (some undef) fun e' => rgn P C ops rest e' h k kp)

/-- The classes of operations: pure ones, reading ones, ones that make memory, all others. -/
inductive Cl | p | r | a | e
  deriving DecidableEq
def clOf (P : Program) (o : Op) : Cl :=
  match o with
  | .move _ | .assign _ | .pick .. | .build .. | .nilCheck _ | .binOp .. | .unOp .. | .makeInterface .. | .makeFunc .. | .slice .. | .fieldAddr .. | .field ..
  | .indexAddr .. | .index .. | .typeAssert .. | .extract .. => .p
  | .convert s d _ => match cvOf P s d with
    | .ints _ | .same | .rs => .p
    | _ => .e
  | .load .. => .r
  | .alloc _ | .box .. | .buildSlice .. | .makeSlice .. => .a
  | .call { callee := .builtin .len, argTypes, .. } => match (argTypes.toList.head?).bind P.underlying with
    | some .string | some (.slice _) | some (.array _ _) => .p
    | _ => .e
  | .call { callee := .builtin .min, .. } | .call { callee := .builtin .max, .. } => .p
  | _ => .e
/-- What must come ahead of operation i, by its edges. -/
def edges (o : Oper) : List Nat := o.after.toList.filterMap fun x => if Region.binds .any x then some x.on else none
def readyIn (ops : List Oper) (done : List Nat) (i : Nat) : Bool := match ops[i]? with
  | some o => (edges o).all done.contains
  | none => false
/-- An order in which what only reads comes as early as it may. -/
def orderOf (P : Program) (ops : List Oper) : Nat → List Nat → List Nat → List Nat
  | 0, _, acc => acc.reverse
  | n + 1, left, acc =>
    match (left.find? fun i => readyIn ops acc i && (clOf P ((ops[i]?).map (·.op) |>.getD (.ready 0)) != .e)) with
    | some i => orderOf P ops n (left.filter (· != i)) (i :: acc)
    | none => match left.find? fun i => readyIn ops acc i with
      | some i => orderOf P ops n (left.filter (· != i)) (i :: acc)
      | none => acc.reverse
/-- All that must come ahead of each operation. -/
def ancs (ops : List Oper) : List Nat → List (Nat × List Nat) → List (Nat × List Nat)
  | [], acc => acc
  | i :: is, acc => ancs ops is ((i, match ops[i]? with
    | some o => (edges o).flatMap fun j => j :: (((acc.find? fun x => x.1 == j).map (·.2)).getD [])
    | none => []) :: acc)
def ancOf (an : List (Nat × List Nat)) (i : Nat) : List Nat := ((an.find? fun x => x.1 == i).map (·.2)).getD []
/-- What an operation of the last class must find as it was: what was read ahead of it, and need not have been. -/
def chkOf (P : Program) (ops : List Oper) (an : List (Nat × List Nat)) (ahead : List Nat) (i : Nat) : List Nat := match ops[i]? with
  | some o => match clOf P o.op with
    | .e => ahead.filter fun j => match ops[j]? with
      | some r => clOf P r.op == .r && !(ancOf an i).contains j
      | none => false
    | _ => []
  | none => []
def idxOf (P : Program) (ops : List Oper) (an : List (Nat × List Nat)) : List Nat → List Nat → List (Nat × List Nat)
  | _, [] => []
  | ahead, i :: is => (i, chkOf P ops an ahead i) :: idxOf P ops an (i :: ahead) is
def item (ops : List Oper) (x : Nat × List Nat) : Option (Oper × List Oper) := (ops[x.1]?).map fun o => (o, x.2.filterMap (ops[·]?))
def canon (P : Program) (ops : List Oper) : List (Nat × List Nat) :=
  let order := orderOf P ops ops.length (List.range ops.length) []
  idxOf P ops (ancs ops order []) [] order

/-- What a function's code is read with: how many slots there are; which are wanted at a loop's head, where a loop is left, at the end, where branches meet. -/
structure Lv where
  n : Nat
  par : List Kd
  head : Nat → List (Nat × Kd)
  ext : Nat → List (Nat × List (Nat × Kd))
  ret : List (Nat × Kd)
  mid : Nat → Option (List (Nat × Kd))

def firstId : Code → Option Nat
  | .region id _ _ => some id
  | .seq a b => match firstId a with
    | some i => some i
    | none => firstId b
  | .cond _ a b => match firstId a with
    | some i => some i
    | none => firstId b
  | .block _ a => firstId a
  | .loop a => firstId a
  | .scope a => firstId a
  | _ => none

def fits (n : Nat) (e : Env) (k : Prop) : Prop := match Nat.beq e.length n with
  | true => k
  | false => False
/-- Only some slots are kept. -/
def keepk (n : Nat) (l : List (Nat × Kd)) (e : Env) (k : Env → Prop) : Prop := fits n e (projk e l fun vs => buildk n l vs 0 k)

/-- Branches meet: only some slots are kept. -/
def jump (_id : Nat) (n : Nat) (l : List (Nat × Kd)) (e : Env) (h : H) (F : Env → H → Prop) : Prop := keepk n l e fun e => F e h
def meet (lv : Lv) (b : Code) (e : Env) (h : H) (F : Env → H → Prop) : Prop :=
  match firstId b with
  | some i => match lv.mid i with
    | some l => jump i lv.n l e h F
    | none => F e h
  | none => F e h

def pick (i : Nat) (f : Nat → List (Nat × Kd) → Prop) : List (Nat × List (Nat × Kd)) → Prop
  | [] => False
  | (j, l) :: r => bif Nat.beq i j then f j l else pick i f r
def xs (x : X) (r : Prop) (e : Nat → Prop) (p : List PanicEntry → Prop) : Prop := match x with
  | .n => False
  | .r => r
  | .e i => e i
  | .p c => p c
/-- What comes behind a loop (id) that is left. -/
def leave (lv : Lv) (id : Nat) (K : Kx) : Kl := fun x vs h =>
  xs x (buildk lv.n lv.ret vs 0 fun e => K .r e h) (fun i => pick i (fun j l => buildk lv.n l vs 0 fun e => K (.e j) e h) (lv.ext id)) (fun c => K (.p c) [] h)
/-- A loop is left, from within. -/
def quit (lv : Lv) (id : Nat) (K : Kl) (x : X) (e : Env) (h : H) : Prop :=
  match x with
  | .n => False
  | .r => fits lv.n e (projk e lv.ret fun vs => K .r vs h)
  | .e i => fits lv.n e (pick i (fun j l => projk e l fun vs => K (.e j) vs h) (lv.ext id))
  | .p c => K (.p c) [] h

def exec (P : Program) (C : Orc) (L : Lor) (lv : Lv) : Code → Env → H → Kx → Prop
  | .skip, e, h, K => K .n e h
  | .region _ ops draw, e, h, K => match draw with
    | false => rgn P C ops (ops.toList.map fun o => (o, [])) e h (K .n) (fun c h => K (.p c) [] h)
    | true => rgn P C ops ((canon P ops.toList).filterMap (item ops.toList)) e h (K .n) (fun c h => K (.p c) [] h)
  | .seq a b, e, h, K => exec P C L lv a e h fun x e h => match x with
    | .n => meet lv b e h fun e h => exec P C L lv b e h K
    | .e i => K (.e i) e h
    | .r => K .r e h
    | .p c => K (.p c) e h
  | .cond c a b, e, h, K => ev e c fun v => boolW v fun t => bif t then exec P C L lv a e h K else exec P C L lv b e h K
  | .block id a, e, h, K => exec P C L lv a e h fun x e h => match x with
    | .n => K .n e h
    | .e i => match Nat.beq i id with
      | true => K .n e h
      | false => K (.e i) e h
    | .r => K .r e h
    | .p c => K (.p c) e h
  | .loop a, e, h, K => match firstId a with
    | some i => fits lv.n e (projk e (lv.head i) fun vs => L a vs h (leave lv i K))
    | none => False
  | .exit id, e, h, K => K (.e id) e h
  | .ret, e, h, K => K .r e h
  | _, _, _, _ => False

/-- A loop's round. -/
def round (P : Program) (C : Orc) (L : Lor) (lv : Lv) (a : Code) (again : List Value → H → Prop) (K : Kl) (vs : List Value) (h : H) : Prop :=
  match firstId a with
  | some i => buildk lv.n (lv.head i) vs 0 fun e => exec P C L lv a e h fun x e h => match x with
    | .n => fits lv.n e (projk e (lv.head i) fun vs => again vs h)
    | .e j => quit lv i K (.e j) e h
    | .r => quit lv i K .r e h
    | .p c => quit lv i K (.p c) e h
  | none => False

def resW (P : Program) (h : H) (e : Env) : List ResultVar → (List Value → Prop) → Prop
  | [], k => k []
  | .tmp t :: rs, k => getk e t fun v => resW P h e rs fun vs => k (v :: vs)
  | .cell t ty :: rs, k => getk e t fun v => ptrW v fun a => match aggB P ty with
    | true => match leafs P 20 ty with
      | some ts => exL P ts fun cs => rdN h a (szOf P ty) = some cs ∧ resW P h e rs fun vs => k (.agg cs.toArray :: vs)
      | none => False
    | false => match P.underlying ty with
      | some _ => exLeaf P ty fun v => rd h a = some v ∧ resW P h e rs fun vs => k (v :: vs)
      | none => False
def tupOf : List Value → Value
  | [v] => v
  | vs => .tuple vs.toArray
def startEnv (n : Nat) (args : List Value) : Env := args.map some ++ List.replicate (n - args.length) none
/-- A function's body, called. -/
def bodyW (P : Program) (C : Orc) (L : Lor) (lv : Lv) (fn : Func) (args : List Value) (h : H) (k : Kv) (kp : Kp) : Prop :=
  match fn.body with
  | some c => openArgs lv.par args fun args => exec P C L lv c (startEnv fn.ntmps args) h fun x e h => match x with
    | .n | .r => resW P h e fn.results.toList fun vs => k (tupOf vs) h
    | .p c => kp c h
    | .e _ => False
  | none => False
end Go.Proofs.YtkgjpdadeakacaaDoor.Am
