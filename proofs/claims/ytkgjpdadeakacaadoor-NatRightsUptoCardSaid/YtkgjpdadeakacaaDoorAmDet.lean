/-
  What an operation that writes nothing comes to: a value that hangs on the slots alone, a value read, a new block.
-/
import Derived.Test.YtkgjpdadeakacaaDoorAmRgn
namespace Go.Proofs.YtkgjpdadeakacaaDoor.Am
open Go
set_option linter.unusedSimpArgs false
variable {P : Program} {C : Orc} {ops : Array Oper}

/-- Either never, or at one value. -/
def Det {α : Type} (W : (α → Prop) → Prop) : Prop := (∀ φ, ¬ W φ) ∨ ∃ v, ∀ φ, W φ ↔ φ v
theorem Det.pt {α : Type} (v : α) : Det (fun φ : α → Prop => φ v) := .inr ⟨v, fun _ => Iff.rfl⟩
theorem Det.no {α : Type} : Det (fun _ : α → Prop => False) := .inl fun _ h => h
theorem Det.bind {α β : Type} {W : (α → Prop) → Prop} {V : α → (β → Prop) → Prop} (hW : Det W) (hV : ∀ a, Det (V a)) : Det (fun φ => W fun a => V a φ) := by
  rcases hW with hW | ⟨v, hW⟩
  · exact .inl fun φ h => hW _ h
  · rcases hV v with hV | ⟨u, hV⟩
    · exact .inl fun φ h => hV φ ((hW _).mp h)
    · exact .inr ⟨u, fun φ => (hW _).trans (hV φ)⟩
theorem Det.and {α : Type} {p : Prop} {W : (α → Prop) → Prop} (hW : Det W) : Det (fun φ => p ∧ W φ) := by
  rcases hW with hW | ⟨v, hW⟩
  · exact .inl fun φ h => hW φ h.2
  · by_cases hp : p
    · exact .inr ⟨v, fun φ => by simp [hp, hW]⟩
    · exact .inl fun φ h => hp h.1
theorem Det.map {α β : Type} {W : (α → Prop) → Prop} (hW : Det W) (f : α → β) : Det (fun φ => W fun a => φ (f a)) := hW.bind fun a => Det.pt (f a)

theorem det_getk : ∀ (e : Env) (s : Nat), Det (getk e s)
  | [], s => .inl fun φ h => by cases s <;> exact h
  | some v :: _, 0 => .inr ⟨v, fun _ => Iff.rfl⟩
  | none :: _, 0 => .inl fun _ h => h
  | some _ :: e, n + 1 => det_getk e n
  | none :: e, n + 1 => det_getk e n
theorem det_ev (e : Env) (x : Operand) : Det (ev e x) := by
  cases x
  · exact det_getk e _
  · exact Det.pt _
  · exact Det.pt _
  · exact Det.pt _
theorem det_evs (e : Env) : ∀ xs, Det (evs e xs)
  | [] => Det.pt _
  | x :: xs => (det_ev e x).bind fun v => (det_evs e xs).map _
theorem det_evo (e : Env) (x : Option Operand) : Det (evo e x) := by
  cases x with
  | none => exact Det.pt _
  | some x => exact (det_ev e x).map _
theorem det_int (v : Value) : Det (fun φ : IntKind × Int → Prop => intW v fun j n => φ (j, n)) := by
  unfold intW; cases v <;> first | exact Det.no | exact Det.pt _
theorem det_bool (v : Value) : Det (boolW v) := by
  unfold boolW; cases v <;> first | exact Det.no | exact Det.pt _
theorem det_str (v : Value) : Det (strW v) := by
  unfold strW; cases v <;> first | exact Det.no | exact Det.pt _
theorem det_ptr (v : Value) : Det (ptrW v) := by
  unfold ptrW
  cases v <;> first | exact Det.no | skip
  rename_i a; cases a <;> first | exact Det.no | exact Det.pt _
theorem det_agg (v : Value) : Det (aggW v) := by
  unfold aggW; cases v <;> first | exact Det.no | exact Det.pt _
theorem det_len (v : Value) : Det (lenW v) := by
  unfold lenW; cases v <;> first | exact Det.no | exact Det.pt _
theorem det_optI (v : Option Value) : Det (optI v) := by
  unfold optI
  cases v with
  | none => exact Det.pt _
  | some v => cases v <;> first | exact Det.no | exact Det.pt _
theorem det_fill (place : Nat → Option (Nat × Nat × Bool)) (e : Env) : ∀ (ps : List (Nat × Operand)) (cs : List Value), Det (fillW place e ps cs)
  | [], cs => Det.pt _
  | (i, x) :: ps, cs => by
    change Det fun k => ev e x fun v =>
      match place i with
      | none => False
      | some (off, n, true) => aggW v fun vs => vs.length = n ∧ off + n ≤ cs.length ∧ fillW place e ps (splice cs off vs) k
      | some (off, _, false) => one v = true ∧ off < cs.length ∧ fillW place e ps (splice cs off [v]) k
    refine (det_ev e x).bind fun v => ?_
    split
    · exact Det.no
    · exact (det_agg v).bind fun vs => (Det.and (Det.and (det_fill place e ps _)))
    · exact Det.and (Det.and (det_fill place e ps _))
theorem det_part (agg : Bool) (cs : List Value) (off n : Nat) : Det (partW agg cs off n) := by
  unfold partW
  split
  · exact Det.pt _
  · split <;> first | exact Det.pt _ | exact Det.no
theorem det_shInt (op : BinOp) (j : IntKind) (a b : Int) : Det (shInt op j a b) := by
  unfold shInt; split <;> first | exact Det.no | exact Det.and (Det.pt _)
theorem det_binInt (op : BinOp) (j : IntKind) (a b : Int) : Det (binInt op j a b) := by
  unfold binInt; split <;> first | exact Det.no | exact Det.pt _ | exact Det.and (Det.pt _)
theorem det_binStr (op : BinOp) (a b : ByteArray) : Det (binStr op a b) := by
  unfold binStr; split <;> first | exact Det.no | exact Det.pt _ | exact Det.and (Det.pt _)
theorem det_eqL : ∀ (ts : List TypeId) (xs ys : List Value), Det (eqL P ts xs ys)
  | [], [], [] => Det.pt _
  | t :: ts, x :: xs, y :: ys => by
    unfold Det
    simp only [eqL]
    split <;> first
      | exact Det.no
      | exact Det.and ((det_eqL ts xs ys).map _)
      | exact (det_eqL ts xs ys).map _
  | [], [], _ :: _ => Det.no
  | [], _ :: _, [] => Det.no
  | [], _ :: _, _ :: _ => Det.no
  | _ :: _, [], [] => Det.no
  | _ :: _, [], _ :: _ => Det.no
  | _ :: _, _ :: _, [] => Det.no
theorem det_eqW (c : Bool) (t : TypeId) (x y : Value) : Det (eqW P c t x y) := by
  unfold eqW
  split
  · exact (det_bool x).bind fun a => (det_bool y).map _
  all_goals first
    | exact Det.no
    | (split <;> first | exact Det.no | exact Det.pt _ | exact Det.and (Det.pt _) | exact (det_agg x).bind fun xs => (det_agg y).bind fun ys => det_eqL _ xs ys)
theorem det_int'' {α : Type} (v : Value) {V : IntKind → Int → (α → Prop) → Prop} (hV : ∀ j n, Det (V j n)) : Det (fun φ => intW v fun j n => V j n φ) := by
  unfold intW; cases v <;> first | exact Det.no | exact hV _ _
theorem det_intK {α : Type} (j : IntKind) (v : Value) {V : Int → (α → Prop) → Prop} (hV : ∀ n, Det (V n)) : Det (fun φ => intK j v fun n => V n φ) := by
  unfold intK
  cases v <;> try exact Det.no
  dsimp only
  split
  · exact hV _
  · exact Det.no
theorem det_eqn (op : BinOp) {q : (Bool → Prop) → Prop} (hq : Det q) : Det (eqn op q) := by
  unfold eqn
  split
  · exact hq.map _
  · exact hq.map _
  · exact Det.no
theorem det_binW (op : BinOp) (c : Bool) (t : TypeId) (x y : Value) : Det (binW P op c t x y) := by
  unfold binW
  split
  · split
    · exact det_intK _ x fun a => det_int'' y fun _ b => det_shInt _ _ _ _
    · exact det_intK _ x fun a => det_intK _ y fun b => det_binInt _ _ _ _
  · exact (det_str x).bind fun a => (det_str y).bind fun b => det_binStr _ _ _
  · exact det_eqn _ ((det_bool x).bind fun a => (det_bool y).map _)
  · refine det_eqn _ ?_; unfold eqSl; split <;> first | exact Det.no | exact Det.pt _
  · refine det_eqn _ ?_; unfold eqMap; split <;> first | exact Det.no | exact Det.pt _
  · refine det_eqn _ ?_; unfold eqFn; split <;> first | exact Det.no | exact Det.pt _
  · refine det_eqn _ ?_; unfold eqIf; split <;> first | exact Det.no | exact Det.pt _ | exact Det.and (Det.pt _)
  · refine det_eqn _ ?_; unfold eqPtr; split <;> first | exact Det.no | exact Det.pt _
  · exact Det.no
theorem det_unW (op : UnOp) (x : Value) : Det (unW op x) := by
  unfold unW
  split
  · exact det_int'' x fun _ _ => Det.pt _
  · exact det_int'' x fun _ _ => Det.pt _
  · exact (det_bool x).map _
  · exact Det.no
theorem det_extract (v : Value) (i : Nat) : Det (extractW v i) := by
  unfold extractW
  split
  · split <;> first | exact Det.no | exact Det.pt _
  · exact Det.no
theorem det_minMaxGo (mx : Bool) (j : IntKind) : ∀ (vs : List Value) (a : Int), Det (minMaxGo mx j a vs)
  | [], a => Det.pt _
  | v :: vs, a => by
    cases v <;> first | exact Det.no | exact Det.and (det_minMaxGo mx j vs _)
theorem det_minMax (mx : Bool) (vs : List Value) : Det (minMax mx vs) := by
  unfold minMax
  split
  · exact det_minMaxGo _ _ _ _
  · exact Det.no
theorem det_assert (x : Value) (t : TypeId) (ok : Bool) : Det (assertW P x t ok) := by
  unfold assertW
  split
  · exact Det.no
  · split
    · split
      · split <;> first | exact Det.pt _ | exact Det.no
      · rename_i u v
        split
        · rename_i z _
          by_cases e : u = t
          · exact .inr ⟨.tuple #[v, .bool true], fun φ => by simp [e]⟩
          · exact .inr ⟨.tuple #[z, .bool false], fun φ => by simp [e]⟩
        · exact Det.no
      · exact Det.no
    · split
      · exact Det.and (Det.pt _)
      · exact Det.no
  · exact Det.no
theorem det_int' {α : Type} (v : Value) {V : Int → (α → Prop) → Prop} (hV : ∀ n, Det (V n)) : Det (fun φ => intW v fun _ n => V n φ) := by
  unfold intW; cases v <;> first | exact Det.no | exact hV _

/-- A pure operation's value. -/
theorem pure_form {o : Oper} (hc : clOf P o.op = .p) (e : Env) : ∃ W : (Value → Prop) → Prop, Det W ∧ ∀ h k kp, opW P C o e h k kp ↔ W (fun v => k v h) := by
  unfold opW
  cases ho : o.op <;> simp only [ho, clOf] at hc ⊢ <;> try (cases hc; done)
  case move x => exact ⟨_, det_ev e x, fun _ _ _ => Iff.rfl⟩
  case assign x => exact ⟨_, det_ev e x, fun _ _ _ => Iff.rfl⟩
  case pick c a b =>
    refine ⟨fun φ => ev e c fun v => boolW v fun t => bif t then ev e a φ else ev e b φ, ?_, fun _ _ _ => Iff.rfl⟩
    exact (det_ev e c).bind fun v => (det_bool v).bind fun t => by cases t <;> exact det_ev e _
  case build t ps =>
    refine ⟨fun φ => match zOk P t, fieldsOk P t with | true, true => fillW (structPlace P t) e ps.toList (zeroL P t) fun cs => φ (.agg cs.toArray) | _, _ => False, ?_, fun _ _ _ => Iff.rfl⟩
    split
    · exact (det_fill _ e _ _).map _
    · exact Det.no
  case nilCheck x => exact ⟨_, (det_ev e x).bind fun v => Det.and (p := nonNil v = true) (Det.pt v), fun _ _ _ => Iff.rfl⟩
  case binOp op t x y yt =>
    refine ⟨fun φ => ev e x fun a => ev e y fun b => match aggB P t with | false => binW P op (isConst x || isConst y) t a b φ | true => False, ?_, fun _ _ _ => ?_⟩
    · refine (det_ev e x).bind fun a => (det_ev e y).bind fun b => ?_
      split
      · exact det_binW _ _ _ _ _
      · exact Det.no
    · exact Iff.rfl
  case unOp op t x => exact ⟨_, (det_ev e x).bind fun a => det_unW op a, fun _ _ _ => Iff.rfl⟩
  case convert s d x =>
    refine ⟨fun φ => ev e x fun v => match cvOf P s d with
      | .ints j => intW v fun _ n => φ (.int j (j.wrap n))
      | .same => strW v fun x => φ (.string x)
      | .rs => intW v fun _ n => φ (.string (Utf8.encode n))
      | _ => False, ?_, fun _ _ _ => ?_⟩
    · refine (det_ev e x).bind fun v => ?_
      split
      · exact det_int' v fun n => Det.pt _
      · exact (det_str v).map _
      · exact det_int' v fun n => Det.pt _
      · exact Det.no
    · unfold convW
      cases hcv : cvOf P s d <;> simp [hcv] at hc ⊢
  case makeInterface t x =>
    refine ⟨fun φ => ev e x fun v => match P.underlying t with | some (.interface _) => False | some _ => φ (.iface t v) | none => False, ?_, fun _ _ _ => ?_⟩
    · refine (det_ev e x).bind fun v => ?_
      split <;> first | exact Det.no | exact Det.pt _
    · exact Iff.rfl
  case makeFunc fn first cap =>
    cases fn
    case func f => exact ⟨_, (det_evs e first.toList).bind fun a => (det_evs e cap.toList).map fun b => Value.func (.func f) a.toArray b.toArray, fun _ _ _ => Iff.rfl⟩
    all_goals exact ⟨fun _ => False, Det.no, fun _ _ _ => Iff.rfl⟩
  case slice t x lo hi mx =>
    refine ⟨fun φ => ev e x fun v => evo e lo fun lo => evo e hi fun hi => evo e mx fun mx => optI lo fun lo => optI hi fun hi => optI mx fun mx =>
      match P.underlying t, mx with
      | some .string, none => strW v fun s => strCutW s lo hi fun s => φ (.string s)
      | some (.slice el), mx => match known P el with
        | true => slCutW v lo hi mx (szOf P el) φ
        | false => False
      | _, _ => False, ?_, fun _ _ _ => Iff.rfl⟩
    refine (det_ev e x).bind fun v => (det_evo e lo).bind fun lo => (det_evo e hi).bind fun hi => (det_evo e mx).bind fun mx => (det_optI lo).bind fun lo => (det_optI hi).bind fun hi => (det_optI mx).bind fun mx => ?_
    split
    · refine (det_str v).bind fun s => ?_
      unfold strCutW
      exact Det.and (Det.and (Det.and (Det.pt _)))
    · split
      · unfold slCutW
        split
        · exact Det.and (Det.and (Det.and (Det.and (Det.and (Det.pt _)))))
        · exact Det.no
      · exact Det.no
    · exact Det.no
  case fieldAddr s x f =>
    refine ⟨fun φ => ev e x fun v => ptrW v fun a => match P.underlying s with
      | some (.struct fs) => match fs[f]? with
        | some fd => match szOf P fd.type with
          | 0 => False
          | _ + 1 => φ (.pointer (some (a.add fd.offset)))
        | none => False
      | _ => False, ?_, fun _ _ _ => Iff.rfl⟩
    refine (det_ev e x).bind fun v => (det_ptr v).bind fun a => ?_
    split
    · split
      · split <;> first | exact Det.no | exact Det.pt _
      · exact Det.no
    · exact Det.no
  case field t x f =>
    refine ⟨fun φ => ev e x fun v => aggW v fun cs => match P.underlying t with
      | some (.struct fs) => match fs[f]? with
        | some fd => match P.underlying fd.type with
          | some _ => partW (aggB P fd.type) cs fd.offset (szOf P fd.type) φ
          | none => False
        | none => False
      | _ => False, ?_, fun _ _ _ => Iff.rfl⟩
    refine (det_ev e x).bind fun v => (det_agg v).bind fun a => ?_
    split
    · split
      · split <;> first | exact Det.no | exact det_part _ _ _ _
      · exact Det.no
    · exact Det.no
  case indexAddr t x i =>
    refine ⟨fun φ => ev e x fun v => ev e i fun i => intW i fun _ n => match P.underlying t with
      | some (.slice el) => match known P el with
        | true => slAtW v n (szOf P el) fun a => φ (.pointer (some a))
        | false => False
      | some (.array len el) => match known P el && decide (2 ≤ len) with
        | false => False
        | true => ptrW v fun a => 0 ≤ n ∧ n < (len : Int) ∧ φ (.pointer (some (a.add (n.toNat * szOf P el))))
      | _ => False, ?_, fun _ _ _ => Iff.rfl⟩
    refine (det_ev e x).bind fun v => (det_ev e i).bind fun i => det_int' i fun n => ?_
    split
    · split
      · unfold slAtW
        split
        · exact Det.and (Det.and (Det.pt _))
        · exact Det.no
      · exact Det.no
    · split
      · exact Det.no
      · exact (det_ptr v).bind fun a => Det.and (Det.and (Det.pt _))
    · exact Det.no
  case index t x i =>
    refine ⟨fun φ => ev e x fun v => ev e i fun i => intW i fun _ n => match P.underlying t with
      | some .string => strW v fun s => strAtW s n fun b => φ (.int .u8 b)
      | _ => False, ?_, fun _ _ _ => Iff.rfl⟩
    refine (det_ev e x).bind fun v => (det_ev e i).bind fun i => det_int' i fun n => ?_
    split
    · refine (det_str v).bind fun s => ?_
      unfold strAtW
      exact Det.and (Det.and (Det.pt _))
    · exact Det.no
  case typeAssert x xt t ok => exact ⟨_, (det_ev e x).bind fun v => det_assert v t ok, fun _ _ _ => Iff.rfl⟩
  case extract x i => exact ⟨_, (det_ev e x).bind fun v => det_extract v i, fun _ _ _ => Iff.rfl⟩
  case call c =>
    obtain ⟨callee, args, argTypes⟩ := c
    cases callee with
    | value f => simp at hc
    | invoke r m => simp at hc
    | builtin b =>
      cases b <;> simp only at hc <;> try (cases hc; done)
      case len =>
        refine ⟨fun φ => evs e args.toList fun vs => match argTypes.toList, vs with
          | [t], [v] => match P.underlying t with
            | some .string => strW v fun s => φ (.int .i64 s.size)
            | some (.slice _) => lenW v fun n => φ (.int .i64 n)
            | some (.array n _) => φ (.int .i64 n)
            | _ => False
          | _, _ => False, ?_, fun h k kp => iff_of_eq (congrArg (evs e args.toList) (funext fun vs => propext ?_))⟩
        · refine (det_evs e _).bind fun vs => ?_
          split
          · split
            · exact (det_str _).map _
            · exact (det_len _).map _
            · exact Det.pt _
            · exact Det.no
          · exact Det.no
        · unfold bltW
          generalize argTypes.toList = tl at hc ⊢
          cases tl with
          | nil => exact Iff.rfl
          | cons t ts =>
            have hc : (match P.underlying t with | some .string | some (.slice _) | some (.array _ _) => Cl.p | _ => Cl.e) = .p := hc
            cases ts <;> cases vs <;> try exact Iff.rfl
            rename_i v vs
            cases vs <;> try exact Iff.rfl
            cases hu : P.underlying t with
            | none => simp [hu] at hc
            | some d => cases d <;> simp [hu] at hc ⊢
      case min =>
        refine ⟨_, (det_evs e args.toList).bind fun vs => det_minMax false vs, fun h k kp => iff_of_eq (congrArg (evs e args.toList) (funext fun vs => propext ?_))⟩
        unfold bltW
        cases argTypes.toList with
        | nil => exact Iff.rfl
        | cons t ts => exact Iff.rfl
      case max =>
        refine ⟨_, (det_evs e args.toList).bind fun vs => det_minMax true vs, fun h k kp => iff_of_eq (congrArg (evs e args.toList) (funext fun vs => propext ?_))⟩
        unfold bltW
        cases argTypes.toList with
        | nil => exact Iff.rfl
        | cons t ts => exact Iff.rfl
end Go.Proofs.YtkgjpdadeakacaaDoor.Am
