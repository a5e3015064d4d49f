/-
  Packed: A region's reading holds of the model's region, in whatever order its operations come. What an operation that writes nothing comes to: a value that hangs on the slots alone, a value read, a new block. An operation hangs on the slots that it looks at alone; what writes nothing has one of four forms, and moves past others. What is asked of the end may be weakened. Operations that stand apart change places. A region whose order is drawn: one order speaks for all, where a check says so. Code, loops and a function's body: what is read holds of the model's run. A function's loops, each the least that its rounds make; its calls. Rules by which a function's reading is shown: slices as rows of values, blocks that are new, what stays. Rules for strings. Slices whose elements take several cells. What is known of memory, laid out in parts that do not meet. Parts of memory: rows of one's own whose elements take several cells. A contract over the model's worlds, as a reading of a call: what lay before stays; new rows may come. From a function's reading to the given statement: the old memory is read only; what was handed in reads as it did.
-/
import Derived.Test.YtnlhnlmnlfmojaaDoorPkA
import Derived.Orders
import Derived.Control
import Derived.KernelRfl
import Derived.IntWalk
import Derived.Laws.Append
import Derived.Below
import Derived.Carry
import Derived.ChangeSame
set_option linter.unusedVariables false
set_option linter.unusedSimpArgs false
set_option linter.unnecessarySimpa false
namespace Go.Proofs.YtnlhnlmnlfmojaaDoor.Am
open Go
set_option linter.unusedSimpArgs false
variable {P : Program} {h : H} {w : World} {C : Orc} {kp : Kp} {Q : Exit → Act → World → Prop} {ops : Array Oper}

def putE (e : Env) (d : Option Nat) (v : Option Value) : Env := match d with | some d => e.set d (some (v.getD undef)) | none => e

theorem putk_putE {e : Env} {d : Option Nat} {v : Value} {k : Env → Prop} : putk e d (some v) k ↔ k (putE e d (some v)) := by
  cases d with
  | none => rfl
  | some d => exact setk_eq
theorem putk_undef {e : Env} {d : Option Nat} {k : Env → Prop} : putk e d (some undef) k ↔ k (putE e d none) := by
  cases d with
  | none => rfl
  | some d => exact setk_eq

/-- One operation with its guard: its value, or that it was passed over. -/
def step (P : Program) (C : Orc) (ops : Array Oper) (o : Oper) (e : Env) (h : H) (k : Option Value → H → Prop) (kp : Kp) : Prop :=
  match o.guard with
  | none => opW P C o e h (fun v h' => k (some v) h') kp
  | some (j, want) => ∃ s c, slotOf ops j = some s ∧ e[s]? = some (some c) ∧ (c = .bool want → opW P C o e h (fun v h' => k (some v) h') kp) ∧ (c ≠ .bool want → k none h)

theorem set_self {e : Env} {s : Nat} {x : Option Value} (hs : e[s]? = some x) : e.set s x = e := by
  apply List.ext_getElem?
  intro i
  rw [List.getElem?_set]
  split
  · rename_i hi
    subst hi
    rw [hs]
    have : s < e.length := by
      rcases Nat.lt_or_ge s e.length with h | h
      · exact h
      · simp [List.getElem?_eq_none h] at hs
    simp [this]
  · rfl

theorem againAll_iff {rs : List Oper} {e : Env} {k : Prop} : againAll P rs e h k ↔ (∀ r ∈ rs, again P r e h) ∧ k := by
  induction rs with
  | nil => simp [againAll]
  | cons r rs ih => simp [againAll, ih, and_assoc]

theorem rgn_cons {o : Oper} {chk : List Oper} {rest : List (Oper × List Oper)} {e : Env} {k : Env → H → Prop} (hk : rgn P C ops ((o, chk) :: rest) e h k kp) :
    step P C ops o e h (fun v h' => (∀ r ∈ chk, v ≠ none → again P r (putE e o.dst v) h') ∧ rgn P C ops rest (putE e o.dst v) h' k kp) kp := by
  unfold rgn at hk
  unfold step
  split at hk
  · rename_i hg
    simp only [hg]
    have e1 : (fun v h' => putk e o.dst (some v) fun e' => againAll P chk e' h' (rgn P C ops rest e' h' k kp)) =
        (fun v h' => (∀ r ∈ chk, some v ≠ none → again P r (putE e o.dst (some v)) h') ∧ rgn P C ops rest (putE e o.dst (some v)) h' k kp) := by
      funext v h'
      rw [putk_putE, againAll_iff]
      simp
    rw [e1] at hk; exact hk
  · rename_i j want hg
    simp only [hg]
    split at hk
    · exact hk.elim
    · rename_i s hs
      obtain ⟨c, hc, hk1⟩ := getk_inv hk
      clear hk
      have e1 : (fun v h' => putk e o.dst (some v) fun e' => againAll P chk e' h' (rgn P C ops rest e' h' k kp)) =
          (fun v h' => (∀ r ∈ chk, some v ≠ none → again P r (putE e o.dst (some v)) h') ∧ rgn P C ops rest (putE e o.dst (some v)) h' k kp) := by
        funext v h'
        rw [putk_putE, againAll_iff]
        simp
      refine ⟨s, c, hs, hc, fun htw => ?_, fun htw => ?_⟩
      · subst htw
        have : (bif want then want else !want) = true := by cases want <;> rfl
        simp only [grdW] at hk1
        rw [this, cond_true, setk_eq, set_self hc, e1] at hk1
        exact hk1
      · refine ⟨by simp, ?_⟩
        unfold grdW at hk1
        split at hk1
        · rename_i t
          have htw : t ≠ want := fun h => htw (by rw [h])
          have h1 : (bif want then t else !t) = false := by cases t <;> cases want <;> simp_all
          have h2 : (!want) = t := by cases t <;> cases want <;> simp_all
          rw [h1, cond_false, setk_eq, h2, set_self hc, putk_undef] at hk1
          exact hk1
        · rw [putk_undef] at hk1
          exact hk1

def yb : Value → Option Bool
  | .bool b => some b
  | _ => none
theorem step_sound (hC : Sound P C) {o : Oper} {e : Env} {a : Act} {i : Nat} {K : Act → World → Prop} (hi : ops[i]? = some o) (he : EnvR e a.tmps) (r : Rel h w) {k : Option Value → H → Prop} (hk : step P C ops o e h k kp)
    (hn : ∀ v h' w', k v h' → Rel h' w' → Frame h w h' w' → K (a.put o.dst (v.getD undef)) w') (hp : ∀ c h' w', kp c h' → Rel h' w' → Frame h w h' w' → Q (.panic c) a w') :
    wpOp P ops Q i K a w := by
  unfold wpOp
  simp only [hi]
  unfold step at hk
  split at hk
  · rename_i hg
    have : Region.wanted o (yielded ops a.tmps) = true := by simp [Region.wanted, hg]
    rw [if_pos this]
    exact .inl (opW_sound hC he r hk (fun v h' w' hv r' f => by simpa using hn (some v) h' w' hv r' f) hp)
  · rename_i j want hg
    obtain ⟨s, c, hs, hc, h1, h2⟩ := hk
    have hy : yielded ops a.tmps j = yb c := by
      unfold slotOf at hs
      unfold yielded
      rw [hs]
      simp only [Option.bind_some, he.2 _ _ hc]
      cases c <;> rfl
    by_cases ht : c = .bool want
    · have : Region.wanted o (yielded ops a.tmps) = true := by
        unfold Region.wanted
        rw [hg]
        show (yielded ops a.tmps j == some want) = true
        rw [hy, ht]
        exact beq_self_eq_true _
      rw [if_pos this]
      exact .inl (opW_sound hC he r (h1 ht) (fun v h' w' hv r' f => by simpa using hn (some v) h' w' hv r' f) hp)
    · have : ¬ Region.wanted o (yielded ops a.tmps) = true := by
        cases c <;> simp [Region.wanted, hg, hy, yb] at ht ⊢
        exact ht
      rw [if_neg this]
      simpa using hn none h w (h2 ht) r (Frame.refl _ _)

theorem EnvR.putE {e : Env} {a : Act} (r : EnvR e a.tmps) (d : Option Nat) (v : Option Value) : EnvR (putE e d v) (a.put d (v.getD undef)).tmps := by
  exact r.put d (v.getD undef)

theorem put_defers (a : Act) (d : Option Nat) (v : Value) : (a.put d v).defers = a.defers := by cases d <;> rfl

/-- In the text's order. -/
theorem seq_sound (hC : Sound P C) : ∀ (is : List Nat) (items : List (Oper × List Oper)) (e : Env) (h : H) (a : Act) (w : World) (k : Env → H → Prop), items.map (·.1) = is.filterMap (ops[·]?) → (∀ i ∈ is, ∃ o, ops[i]? = some o) →
    EnvR e a.tmps → a.defers = [] → Rel h w → rgn P C ops items e h k kp →
    (∀ e h' a w', k e h' → EnvR e a.tmps → a.defers = [] → Rel h' w' → Frame h w h' w' → Q .normal a w') → (∀ c h' a w', kp c h' → a.defers = [] → Rel h' w' → Frame h w h' w' → Q (.panic c) a w') →
    wpOps P ops Q is a w
  | [], items, e, h, a, w, k, hi, _, he, hd, r, hk, hn, _ => by
    simp at hi
    subst hi
    exact hn _ _ _ _ hk he hd r (Frame.refl _ _)
  | i :: is, items, e, h, a, w, k, hi, hv, he, hd, r, hk, hn, hp => by
    obtain ⟨o, ho⟩ := hv i (by simp)
    simp only [List.filterMap_cons, ho] at hi
    cases items with
    | nil => simp at hi
    | cons x rest =>
      obtain ⟨o', chk⟩ := x
      simp only [List.map_cons, List.cons.injEq] at hi
      obtain ⟨rfl, hi⟩ := hi
      rw [wpOps_cons]
      refine step_sound hC ho he r (rgn_cons hk) ?_ ?_
      · intro v h' w' hv' r' f
        refine seq_sound hC is rest (putE e o'.dst v) h' _ w' k hi (fun j hj => hv j (by simp [hj])) (he.putE _ _) (by rw [put_defers]; exact hd) r' hv'.2 ?_ ?_
        · intro e'' h'' a'' w'' hk' he' hd' r'' f'
          exact hn _ _ _ _ hk' he' hd' r'' (f.trans f')
        · intro c h'' a'' w'' hc hd' r'' f'
          exact hp _ _ _ _ hc hd' r'' (f.trans f')
      · intro c h' w' hc r' f
        exact hp _ _ _ _ hc hd r' f

theorem filterMap_range' (l : List Oper) : ∀ n, n ≤ l.length → (List.range n).filterMap (l[·]?) = l.take n
  | 0, _ => by simp
  | n + 1, hn => by
    rw [List.range_succ, List.filterMap_append, filterMap_range' l n (by omega), List.take_add_one]
    simp [List.getElem?_eq_getElem (show n < l.length by omega)]
theorem filterMap_range (l : List Oper) : (List.range l.length).filterMap (l[·]?) = l := by
  rw [filterMap_range' l _ (Nat.le_refl _), List.take_length]
end Go.Proofs.YtnlhnlmnlfmojaaDoor.Am

namespace Go.Proofs.YtnlhnlmnlfmojaaDoor.Am
open Go
set_option linter.unusedSimpArgs false
variable {P : Program} {C : Orc} {ops : Array Oper}

/-- Either never, or at one value. -/
def Det {α : Type} (W : (α → Prop) → Prop) : Prop := (∀ φ, ¬ W φ) ∨ ∃ v, ∀ φ, W φ ↔ φ v
theorem Det.pt {α : Type} (v : α) : Det (fun φ : α → Prop => φ v) := .inr ⟨v, fun _ => Iff.rfl⟩
theorem Det.no {α : Type} : Det (fun _ : α → Prop => False) := .inl fun _ h => h
theorem Det.bind {α β : Type} {W : (α → Prop) → Prop} {V : α → (β → Prop) → Prop} (hW : Det W) (hV : ∀ a, Det (V a)) : Det (fun φ => W fun a => V a φ) := by
  rcases hW with hW | ⟨v, hW⟩
  · exact .inl fun φ h => hW _ h
  · rcases hV v with hV | ⟨u, hV⟩
    · exact .inl fun φ h => hV φ ((hW _).mp h)
    · exact .inr ⟨u, fun φ => (hW _).trans (hV φ)⟩
theorem Det.and {α : Type} {p : Prop} {W : (α → Prop) → Prop} (hW : Det W) : Det (fun φ => p ∧ W φ) := by
  rcases hW with hW | ⟨v, hW⟩
  · exact .inl fun φ h => hW φ h.2
  · by_cases hp : p
    · exact .inr ⟨v, fun φ => by simp [hp, hW]⟩
    · exact .inl fun φ h => hp h.1
theorem Det.map {α β : Type} {W : (α → Prop) → Prop} (hW : Det W) (f : α → β) : Det (fun φ => W fun a => φ (f a)) := hW.bind fun a => Det.pt (f a)

theorem det_getk : ∀ (e : Env) (s : Nat), Det (getk e s)
  | [], s => .inl fun φ h => by cases s <;> exact h
  | some v :: _, 0 => .inr ⟨v, fun _ => Iff.rfl⟩
  | none :: _, 0 => .inl fun _ h => h
  | some _ :: e, n + 1 => det_getk e n
  | none :: e, n + 1 => det_getk e n
theorem det_ev (e : Env) (x : Operand) : Det (ev e x) := by
  cases x
  · exact det_getk e _
  · exact Det.pt _
  · exact Det.pt _
  · exact Det.pt _
theorem det_evs (e : Env) : ∀ xs, Det (evs e xs)
  | [] => Det.pt _
  | x :: xs => (det_ev e x).bind fun v => (det_evs e xs).map _
theorem det_evo (e : Env) (x : Option Operand) : Det (evo e x) := by
  cases x with
  | none => exact Det.pt _
  | some x => exact (det_ev e x).map _
theorem det_int (v : Value) : Det (fun φ : IntKind × Int → Prop => intW v fun j n => φ (j, n)) := by
  unfold intW; cases v <;> first | exact Det.no | exact Det.pt _
theorem det_bool (v : Value) : Det (boolW v) := by
  unfold boolW; cases v <;> first | exact Det.no | exact Det.pt _
theorem det_str (v : Value) : Det (strW v) := by
  unfold strW; cases v <;> first | exact Det.no | exact Det.pt _
theorem det_ptr (v : Value) : Det (ptrW v) := by
  unfold ptrW
  cases v <;> first | exact Det.no | skip
  rename_i a; cases a <;> first | exact Det.no | exact Det.pt _
theorem det_agg (v : Value) : Det (aggW v) := by
  unfold aggW; cases v <;> first | exact Det.no | exact Det.pt _
theorem det_len (v : Value) : Det (lenW v) := by
  unfold lenW; cases v <;> first | exact Det.no | exact Det.pt _
theorem det_optI (v : Option Value) : Det (optI v) := by
  unfold optI
  cases v with
  | none => exact Det.pt _
  | some v => cases v <;> first | exact Det.no | exact Det.pt _
theorem det_fill (place : Nat → Option (Nat × Nat × Bool)) (e : Env) : ∀ (ps : List (Nat × Operand)) (cs : List Value), Det (fillW place e ps cs)
  | [], cs => Det.pt _
  | (i, x) :: ps, cs => by
    change Det fun k => ev e x fun v =>
      match place i with
      | none => False
      | some (off, n, true) => aggW v fun vs => vs.length = n ∧ off + n ≤ cs.length ∧ fillW place e ps (splice cs off vs) k
      | some (off, _, false) => one v = true ∧ off < cs.length ∧ fillW place e ps (splice cs off [v]) k
    refine (det_ev e x).bind fun v => ?_
    split
    · exact Det.no
    · exact (det_agg v).bind fun vs => (Det.and (Det.and (det_fill place e ps _)))
    · exact Det.and (Det.and (det_fill place e ps _))
theorem det_part (agg : Bool) (cs : List Value) (off n : Nat) : Det (partW agg cs off n) := by
  unfold partW
  split
  · exact Det.pt _
  · split <;> first | exact Det.pt _ | exact Det.no
theorem det_shInt (op : BinOp) (j : IntKind) (a b : Int) : Det (shInt op j a b) := by
  unfold shInt; split <;> first | exact Det.no | exact Det.and (Det.pt _)
theorem det_binInt (op : BinOp) (j : IntKind) (a b : Int) : Det (binInt op j a b) := by
  unfold binInt; split <;> first | exact Det.no | exact Det.pt _ | exact Det.and (Det.pt _)
theorem det_binStr (op : BinOp) (a b : ByteArray) : Det (binStr op a b) := by
  unfold binStr; split <;> first | exact Det.no | exact Det.pt _ | exact Det.and (Det.pt _)
theorem det_eqL : ∀ (ts : List TypeId) (xs ys : List Value), Det (eqL P ts xs ys)
  | [], [], [] => Det.pt _
  | t :: ts, x :: xs, y :: ys => by
    unfold Det
    simp only [eqL]
    split <;> first
      | exact Det.no
      | exact Det.and ((det_eqL ts xs ys).map _)
      | exact (det_eqL ts xs ys).map _
  | [], [], _ :: _ => Det.no
  | [], _ :: _, [] => Det.no
  | [], _ :: _, _ :: _ => Det.no
  | _ :: _, [], [] => Det.no
  | _ :: _, [], _ :: _ => Det.no
  | _ :: _, _ :: _, [] => Det.no
theorem det_eqW (c : Bool) (t : TypeId) (x y : Value) : Det (eqW P c t x y) := by
  unfold eqW
  split
  · exact (det_bool x).bind fun a => (det_bool y).map _
  all_goals first
    | exact Det.no
    | (split <;> first | exact Det.no | exact Det.pt _ | exact Det.and (Det.pt _) | exact (det_agg x).bind fun xs => (det_agg y).bind fun ys => det_eqL _ xs ys)
theorem det_int'' {α : Type} (v : Value) {V : IntKind → Int → (α → Prop) → Prop} (hV : ∀ j n, Det (V j n)) : Det (fun φ => intW v fun j n => V j n φ) := by
  unfold intW; cases v <;> first | exact Det.no | exact hV _ _
theorem det_intK {α : Type} (j : IntKind) (v : Value) {V : Int → (α → Prop) → Prop} (hV : ∀ n, Det (V n)) : Det (fun φ => intK j v fun n => V n φ) := by
  unfold intK
  cases v <;> try exact Det.no
  dsimp only
  split
  · exact hV _
  · exact Det.no
theorem det_eqn (op : BinOp) {q : (Bool → Prop) → Prop} (hq : Det q) : Det (eqn op q) := by
  unfold eqn
  split
  · exact hq.map _
  · exact hq.map _
  · exact Det.no
theorem det_binW (op : BinOp) (c : Bool) (t : TypeId) (x y : Value) : Det (binW P op c t x y) := by
  unfold binW
  split
  · split
    · exact det_intK _ x fun a => det_int'' y fun _ b => det_shInt _ _ _ _
    · exact det_intK _ x fun a => det_intK _ y fun b => det_binInt _ _ _ _
  · exact (det_str x).bind fun a => (det_str y).bind fun b => det_binStr _ _ _
  · exact det_eqn _ ((det_bool x).bind fun a => (det_bool y).map _)
  · refine det_eqn _ ?_; unfold eqSl; split <;> first | exact Det.no | exact Det.pt _
  · refine det_eqn _ ?_; unfold eqMap; split <;> first | exact Det.no | exact Det.pt _
  · refine det_eqn _ ?_; unfold eqFn; split <;> first | exact Det.no | exact Det.pt _
  · refine det_eqn _ ?_; unfold eqIf; split <;> first | exact Det.no | exact Det.pt _ | exact Det.and (Det.pt _)
  · refine det_eqn _ ?_; unfold eqPtr; split <;> first | exact Det.no | exact Det.pt _
  · exact Det.no
theorem det_eqFs : ∀ (fs : List Field) (xs ys : List Value), Det (eqFs P fs xs ys)
  | [], _, _ => Det.pt _
  | f :: fs, xs, ys => by
    unfold Det
    simp only [eqFs]
    split
    · exact (det_part _ xs _ _).bind fun x => (det_part _ ys _ _).bind fun y => det_intK _ x fun a => det_intK _ y fun b => (det_eqFs fs xs ys).map _
    · exact (det_part _ xs _ _).bind fun x => (det_part _ ys _ _).bind fun y => (det_str x).bind fun a => (det_str y).bind fun b => (det_eqFs fs xs ys).map _
    · exact (det_part _ xs _ _).bind fun x => (det_part _ ys _ _).bind fun y => (det_bool x).bind fun a => (det_bool y).bind fun b => (det_eqFs fs xs ys).map _
    · exact Det.no
theorem det_binA (op : BinOp) (t : TypeId) (x y : Value) : Det (binA P op t x y) := by
  unfold binA
  split
  · split
    · exact det_eqn _ ((det_agg x).bind fun xs => (det_agg y).bind fun ys => det_eqFs _ xs ys)
    · exact Det.no
  · exact Det.no
theorem det_unW (op : UnOp) (x : Value) : Det (unW op x) := by
  unfold unW
  split
  · exact det_int'' x fun _ _ => Det.pt _
  · exact det_int'' x fun _ _ => Det.pt _
  · exact (det_bool x).map _
  · exact Det.no
theorem det_extract (v : Value) (i : Nat) : Det (extractW v i) := by
  unfold extractW
  split
  · split <;> first | exact Det.no | exact Det.pt _
  · exact Det.no
theorem det_minMaxGo (mx : Bool) (j : IntKind) : ∀ (vs : List Value) (a : Int), Det (minMaxGo mx j a vs)
  | [], a => Det.pt _
  | v :: vs, a => by
    cases v <;> first | exact Det.no | exact Det.and (det_minMaxGo mx j vs _)
theorem det_minMax (mx : Bool) (vs : List Value) : Det (minMax mx vs) := by
  unfold minMax
  split
  · exact det_minMaxGo _ _ _ _
  · exact Det.no
theorem det_assert (x : Value) (t : TypeId) (ok : Bool) : Det (assertW P x t ok) := by
  unfold assertW
  split
  · exact Det.no
  · split
    · split
      · split <;> first | exact Det.pt _ | exact Det.no
      · rename_i u v
        split
        · rename_i z _
          by_cases e : u = t
          · exact .inr ⟨.tuple #[v, .bool true], fun φ => by simp [e]⟩
          · exact .inr ⟨.tuple #[z, .bool false], fun φ => by simp [e]⟩
        · exact Det.no
      · exact Det.no
    · split
      · exact Det.and (Det.pt _)
      · exact Det.no
  · exact Det.no
theorem det_int' {α : Type} (v : Value) {V : Int → (α → Prop) → Prop} (hV : ∀ n, Det (V n)) : Det (fun φ => intW v fun _ n => V n φ) := by
  unfold intW; cases v <;> first | exact Det.no | exact hV _

/-- A pure operation's value. -/
theorem pure_form {o : Oper} (hc : clOf P o.op = .p) (e : Env) : ∃ W : (Value → Prop) → Prop, Det W ∧ ∀ h k kp, opW P C o e h k kp ↔ W (fun v => k v h) := by
  unfold opW
  cases ho : o.op <;> simp only [ho, clOf] at hc ⊢ <;> try (cases hc; done)
  case move x => exact ⟨_, det_ev e x, fun _ _ _ => Iff.rfl⟩
  case assign x => exact ⟨_, det_ev e x, fun _ _ _ => Iff.rfl⟩
  case pick c a b =>
    refine ⟨fun φ => ev e c fun v => boolW v fun t => bif t then ev e a φ else ev e b φ, ?_, fun _ _ _ => Iff.rfl⟩
    exact (det_ev e c).bind fun v => (det_bool v).bind fun t => by cases t <;> exact det_ev e _
  case build t ps =>
    refine ⟨fun φ => match zOk P t, fieldsOk P t with | true, true => fillW (structPlace P t) e ps.toList (zeroL P t) fun cs => φ (.agg cs.toArray) | _, _ => False, ?_, fun _ _ _ => Iff.rfl⟩
    split
    · exact (det_fill _ e _ _).map _
    · exact Det.no
  case nilCheck x => exact ⟨_, (det_ev e x).bind fun v => Det.and (p := nonNil v = true) (Det.pt v), fun _ _ _ => Iff.rfl⟩
  case binOp op t x y yt =>
    have hr : (isRef P t && !(isConst x || isConst y)) = false := by
      cases hh : (isRef P t && !(isConst x || isConst y)) with
      | false => rfl
      | true => rw [hh] at hc; cases hc
    rw [hr]
    refine ⟨fun φ => ev e x fun a => ev e y fun b => match aggB P t with | false => binW P op (isConst x || isConst y) t a b φ | true => binA P op t a b φ, ?_, fun _ _ _ => ?_⟩
    · refine (det_ev e x).bind fun a => (det_ev e y).bind fun b => ?_
      split
      · exact det_binW _ _ _ _ _
      · exact det_binA _ _ _ _
    · exact Iff.rfl
  case unOp op t x => exact ⟨_, (det_ev e x).bind fun a => det_unW op a, fun _ _ _ => Iff.rfl⟩
  case convert s d x =>
    refine ⟨fun φ => ev e x fun v => match cvOf P s d with
      | .ints j => intW v fun _ n => φ (.int j (j.wrap n))
      | .same => strW v fun x => φ (.string x)
      | .rs => intW v fun _ n => φ (.string (Utf8.encode n))
      | _ => False, ?_, fun _ _ _ => ?_⟩
    · refine (det_ev e x).bind fun v => ?_
      split
      · exact det_int' v fun n => Det.pt _
      · exact (det_str v).map _
      · exact det_int' v fun n => Det.pt _
      · exact Det.no
    · unfold convW
      cases hcv : cvOf P s d <;> simp [hcv] at hc ⊢
  case makeInterface t x =>
    refine ⟨fun φ => ev e x fun v => match P.underlying t with | some (.interface _) => False | some _ => φ (.iface t v) | none => False, ?_, fun _ _ _ => ?_⟩
    · refine (det_ev e x).bind fun v => ?_
      split <;> first | exact Det.no | exact Det.pt _
    · exact Iff.rfl
  case makeFunc fn first cap =>
    cases fn
    case func f => exact ⟨_, (det_evs e first.toList).bind fun a => (det_evs e cap.toList).map fun b => Value.func (.func f) a.toArray b.toArray, fun _ _ _ => Iff.rfl⟩
    all_goals exact ⟨fun _ => False, Det.no, fun _ _ _ => Iff.rfl⟩
  case slice t x lo hi mx =>
    refine ⟨fun φ => ev e x fun v => evo e lo fun lo => evo e hi fun hi => evo e mx fun mx => optI lo fun lo => optI hi fun hi => optI mx fun mx =>
      match P.underlying t, mx with
      | some .string, none => strW v fun s => strCutW s lo hi fun s => φ (.string s)
      | some (.slice el), mx => match known P el with
        | true => slCutW v lo hi mx (szOf P el) φ
        | false => False
      | _, _ => False, ?_, fun _ _ _ => Iff.rfl⟩
    refine (det_ev e x).bind fun v => (det_evo e lo).bind fun lo => (det_evo e hi).bind fun hi => (det_evo e mx).bind fun mx => (det_optI lo).bind fun lo => (det_optI hi).bind fun hi => (det_optI mx).bind fun mx => ?_
    split
    · refine (det_str v).bind fun s => ?_
      unfold strCutW
      exact Det.and (Det.and (Det.and (Det.pt _)))
    · split
      · unfold slCutW
        split
        · exact Det.and (Det.and (Det.and (Det.and (Det.and (Det.pt _)))))
        · exact Det.no
      · exact Det.no
    · exact Det.no
  case fieldAddr s x f =>
    refine ⟨fun φ => ev e x fun v => ptrW v fun a => match P.underlying s with
      | some (.struct fs) => match fs[f]? with
        | some fd => match szOf P fd.type with
          | 0 => False
          | _ + 1 => φ (.pointer (some (a.add fd.offset)))
        | none => False
      | _ => False, ?_, fun _ _ _ => Iff.rfl⟩
    refine (det_ev e x).bind fun v => (det_ptr v).bind fun a => ?_
    split
    · split
      · split <;> first | exact Det.no | exact Det.pt _
      · exact Det.no
    · exact Det.no
  case field t x f =>
    refine ⟨fun φ => ev e x fun v => aggW v fun cs => match P.underlying t with
      | some (.struct fs) => match fs[f]? with
        | some fd => match P.underlying fd.type with
          | some _ => partW (aggB P fd.type) cs fd.offset (szOf P fd.type) φ
          | none => False
        | none => False
      | _ => False, ?_, fun _ _ _ => Iff.rfl⟩
    refine (det_ev e x).bind fun v => (det_agg v).bind fun a => ?_
    split
    · split
      · split <;> first | exact Det.no | exact det_part _ _ _ _
      · exact Det.no
    · exact Det.no
  case indexAddr t x i =>
    refine ⟨fun φ => ev e x fun v => ev e i fun i => intW i fun _ n => match P.underlying t with
      | some (.slice el) => match known P el with
        | true => slAtW v n (szOf P el) fun a => φ (.pointer (some a))
        | false => False
      | some (.array len el) => match known P el && decide (2 ≤ len) with
        | false => False
        | true => ptrW v fun a => 0 ≤ n ∧ n < (len : Int) ∧ φ (.pointer (some (a.add (n.toNat * szOf P el))))
      | _ => False, ?_, fun _ _ _ => Iff.rfl⟩
    refine (det_ev e x).bind fun v => (det_ev e i).bind fun i => det_int' i fun n => ?_
    split
    · split
      · unfold slAtW
        split
        · exact Det.and (Det.and (Det.pt _))
        · exact Det.no
      · exact Det.no
    · split
      · exact Det.no
      · exact (det_ptr v).bind fun a => Det.and (Det.and (Det.pt _))
    · exact Det.no
  case index t x i =>
    refine ⟨fun φ => ev e x fun v => ev e i fun i => intW i fun _ n => match P.underlying t with
      | some .string => strW v fun s => strAtW s n fun b => φ (.int .u8 b)
      | _ => False, ?_, fun _ _ _ => Iff.rfl⟩
    refine (det_ev e x).bind fun v => (det_ev e i).bind fun i => det_int' i fun n => ?_
    split
    · refine (det_str v).bind fun s => ?_
      unfold strAtW
      exact Det.and (Det.and (Det.pt _))
    · exact Det.no
  case typeAssert x xt t ok => exact ⟨_, (det_ev e x).bind fun v => det_assert v t ok, fun _ _ _ => Iff.rfl⟩
  case extract x i => exact ⟨_, (det_ev e x).bind fun v => det_extract v i, fun _ _ _ => Iff.rfl⟩
  case call c =>
    obtain ⟨callee, args, argTypes⟩ := c
    cases callee with
    | value f => simp at hc
    | invoke r m => simp at hc
    | builtin b =>
      cases b <;> simp only at hc <;> try (cases hc; done)
      case len =>
        refine ⟨fun φ => evs e args.toList fun vs => match argTypes.toList, vs with
          | [t], [v] => match P.underlying t with
            | some .string => strW v fun s => φ (.int .i64 s.size)
            | some (.slice _) => lenW v fun n => φ (.int .i64 n)
            | some (.array n _) => φ (.int .i64 n)
            | _ => False
          | _, _ => False, ?_, fun h k kp => iff_of_eq (congrArg (evs e args.toList) (funext fun vs => propext ?_))⟩
        · refine (det_evs e _).bind fun vs => ?_
          split
          · split
            · exact (det_str _).map _
            · exact (det_len _).map _
            · exact Det.pt _
            · exact Det.no
          · exact Det.no
        · unfold bltW
          generalize argTypes.toList = tl at hc ⊢
          cases tl with
          | nil => exact Iff.rfl
          | cons t ts =>
            have hc : (match P.underlying t with | some .string | some (.slice _) | some (.array _ _) => Cl.p | _ => Cl.e) = .p := hc
            cases ts <;> cases vs <;> try exact Iff.rfl
            rename_i v vs
            cases vs <;> try exact Iff.rfl
            cases hu : P.underlying t with
            | none => simp [hu] at hc
            | some d => cases d <;> simp [hu] at hc ⊢
      case min =>
        refine ⟨_, (det_evs e args.toList).bind fun vs => det_minMax false vs, fun h k kp => iff_of_eq (congrArg (evs e args.toList) (funext fun vs => propext ?_))⟩
        unfold bltW
        cases argTypes.toList with
        | nil => exact Iff.rfl
        | cons t ts => exact Iff.rfl
      case max =>
        refine ⟨_, (det_evs e args.toList).bind fun vs => det_minMax true vs, fun h k kp => iff_of_eq (congrArg (evs e args.toList) (funext fun vs => propext ?_))⟩
        unfold bltW
        cases argTypes.toList with
        | nil => exact Iff.rfl
        | cons t ts => exact Iff.rfl
end Go.Proofs.YtnlhnlmnlfmojaaDoor.Am

namespace Go.Proofs.YtnlhnlmnlfmojaaDoor.Am
open Go
set_option linter.unusedSimpArgs false
variable {P : Program} {C : Orc} {ops : Array Oper}

theorem evs_congr {e e' : Env} : ∀ {l : List Operand}, (∀ x ∈ l, ev e x = ev e' x) → evs e l = evs e' l
  | [], _ => rfl
  | x :: l, hx => by
    funext k
    simp only [evs, hx x (by simp), evs_congr (l := l) fun y hy => hx y (by simp [hy])]
theorem fill_congr {e e' : Env} {place : Nat → Option (Nat × Nat × Bool)} : ∀ {l : List (Nat × Operand)} {cs : List Value}, (∀ x ∈ l.map (·.2), ev e x = ev e' x) → fillW place e l cs = fillW place e' l cs
  | [], _, _ => rfl
  | (i, x) :: l, cs, hx => by
    funext k
    have h1 := hx x (by simp)
    have h2 : ∀ cs, fillW place e l cs = fillW place e' l cs := fun cs => fill_congr fun y hy => hx y (by
      rw [List.map_cons]; exact List.mem_cons_of_mem _ hy)
    simp only [fillW, h1, h2]
theorem evo_congr {e e' : Env} {x : Option Operand} (hx : ∀ y ∈ x.toArray, ev e y = ev e' y) : evo e x = evo e' x := by
  cases x with
  | none => rfl
  | some x => funext k; simp only [evo, hx x (by simp)]

theorem opW_congr {o : Oper} {e e' : Env} {h : H} {k : Kv} {kp : Kp} (hx : ∀ x ∈ o.op.operands, ev e x = ev e' x) : opW P C o e h k kp ↔ opW P C o e' h k kp := by
  apply iff_of_eq
  unfold opW
  cases ho : o.op <;> simp only [ho, Op.operands] at hx ⊢
  case build t ps =>
    have : fillW (structPlace P t) e ps.toList = fillW (structPlace P t) e' ps.toList := funext fun cs => fill_congr (by simpa using hx)
    simp only [this]
  case buildSlice t n ps =>
    have : fillW (slicePlace P t) e ps.toList = fillW (slicePlace P t) e' ps.toList := funext fun cs => fill_congr (by simpa using hx)
    simp only [this]
  case makeFunc fn first cap =>
    cases fn <;> try rfl
    have h1 := evs_congr (e := e) (e' := e') (l := first.toList) fun x hm => hx x (by simp at hm; simp [hm])
    have h2 := evs_congr (e := e) (e' := e') (l := cap.toList) fun x hm => hx x (by simp at hm; simp [hm])
    simp only [h1, h2]
  case slice t x lo hi mx =>
    have h0 := hx x (by simp)
    have h1 := evo_congr (e := e) (e' := e') (x := lo) fun y hy => hx y (by simp at hy; simp [hy])
    have h2 := evo_congr (e := e) (e' := e') (x := hi) fun y hy => hx y (by simp at hy; simp [hy])
    have h3 := evo_congr (e := e) (e' := e') (x := mx) fun y hy => hx y (by simp at hy; simp [hy])
    simp only [h0, h1, h2, h3]
  case next x b =>
    cases b
    · rfl
    · simp only [hx x (by simp)]
  case call c =>
    obtain ⟨callee, args, argTypes⟩ := c
    have h1 := evs_congr (e := e) (e' := e') (l := args.toList) fun x hm => hx x (by simp at hm; simp [Call.operands, hm])
    cases callee with
    | builtin b => simp only [h1]
    | value f =>
      have h0 := hx f (by simp [Call.operands])
      cases f <;> simp only [h0, h1]
    | invoke r m =>
      have h0 := hx r (by simp [Call.operands])
      simp only [h0, h1]
  case pick c a b => simp only [hx c (by simp), hx a (by simp), hx b (by simp)]
  case store t x y => simp only [hx x (by simp), hx y (by simp)]
  case binOp op t x y yt => simp only [hx x (by simp), hx y (by simp)]
  case makeSlice t x y => simp only [hx x (by simp), hx y (by simp)]
  case makeMap t r =>
    have h1 := evo_congr (e := e) (e' := e') (x := r) fun y hy => hx y (by simpa using hy)
    simp only [h1]
  case lookup t x y ok => simp only [hx x (by simp), hx y (by simp)]
  case mapUpdate t x y z => simp only [hx x (by simp), hx y (by simp), hx z (by simp)]
  case indexAddr t x y => simp only [hx x (by simp), hx y (by simp)]
  case index t x y => simp only [hx x (by simp), hx y (by simp)]
  all_goals first | rfl | (rename_i x; simp only [hx x (by simp)]; done) | skip
  case fieldAddr s x f => simp only [hx x (by simp)]
  case field s x f => simp only [hx x (by simp)]
  case typeAssert x xt t ok => simp only [hx x (by simp)]
  case extract x i => simp only [hx x (by simp)]

/-- Two environments in which an operation finds the same. -/
def Alike (ops : Array Oper) (o : Oper) (e e' : Env) : Prop := ∀ t ∈ o.looksAt ops, e[t]? = e'[t]?

theorem getk_congr : ∀ {e e' : Env} {s : Nat}, e[s]? = e'[s]? → getk e s = getk e' s
  | [], [], _, _ => rfl
  | [], x :: e', 0, hs => by simp at hs
  | x :: e, [], 0, hs => by simp at hs
  | [], x :: e', n + 1, hs => by
    have h1 : e'[n]? = none := by simpa using hs.symm
    have := getk_congr (e := []) (e' := e') (s := n) (by simp [h1])
    funext k
    cases x <;> exact congrFun this k
  | x :: e, [], n + 1, hs => by
    have h1 : e[n]? = none := by simpa using hs
    have := getk_congr (e := e) (e' := []) (s := n) (by simp [h1])
    funext k
    cases x <;> exact congrFun this k
  | x :: e, y :: e', 0, hs => by
    have : x = y := by simpa using hs
    subst this
    funext k
    cases x <;> rfl
  | x :: e, y :: e', n + 1, hs => by
    have := getk_congr (e := e) (e' := e') (s := n) (by simpa using hs)
    funext k
    cases x <;> cases y <;> exact congrFun this k

theorem Alike.ev {o : Oper} {e e' : Env} (ha : Alike ops o e e') : ∀ x ∈ o.op.operands, ev e x = ev e' x := fun x hx => by
  cases x with
  | tmp t =>
    funext k
    have : getk e t = getk e' t := getk_congr (ha t (List.mem_append_left _ (List.mem_filterMap.2 ⟨.tmp t, by simpa using hx, rfl⟩)))
    exact congrFun this k
  | _ => rfl

theorem step_congr {o : Oper} {e e' : Env} {h : H} {k : Option Value → H → Prop} {kp : Kp} (ha : Alike ops o e e') : step P C ops o e h k kp ↔ step P C ops o e' h k kp := by
  have h1 : ∀ k, opW P C o e h k kp ↔ opW P C o e' h k kp := fun k => opW_congr ha.ev
  unfold step
  cases hg : o.guard with
  | none => exact h1 _
  | some g =>
    obtain ⟨j, want⟩ := g
    have h2 : ∀ s, slotOf ops j = some s → e[s]? = e'[s]? := fun s hs => ha s (List.mem_append_right _ (by
      have : (ops[j]?).bind (·.dst) = some s := hs
      simp [hg, this]))
    constructor
    · rintro ⟨s, t, hs, hc, ht, hf⟩
      exact ⟨s, t, hs, by rw [← h2 s hs]; exact hc, fun x => (h1 _).mp (ht x), hf⟩
    · rintro ⟨s, t, hs, hc, ht, hf⟩
      exact ⟨s, t, hs, by rw [h2 s hs]; exact hc, fun x => (h1 _).mpr (ht x), hf⟩

theorem Alike.put {o : Oper} {e : Env} {d : Option Nat} {v : Option Value} (h : ∀ t, d = some t → t ∉ o.looksAt ops) : Alike ops o (putE e d v) e := fun t ht => by
  cases d with
  | none => rfl
  | some d =>
    have hne : d ≠ t := fun x => h d rfl (x ▸ ht)
    simp [putE, hne]
theorem putE_comm {e : Env} {x y : Option Nat} {v u : Option Value} (h : ∀ d, x = some d → y ≠ some d) : putE (putE e x v) y u = putE (putE e y u) x v := by
  cases x with
  | none => rfl
  | some d =>
    cases y with
    | none => rfl
    | some f =>
      have hne : d ≠ f := fun x => h d rfl (by rw [x])
      exact List.set_comm _ _ hne

/-- Nearly all blocks are free. -/
def Fin (h : H) : Prop := ∃ n, ∀ b, n ≤ b → h b = none
theorem Fin.set {h : H} (f : Fin h) (b : Nat) (o : VObj) : Fin (h.set b o) := by
  obtain ⟨n, hn⟩ := f
  refine ⟨max n (b + 1), fun c hc => ?_⟩
  unfold H.set
  rw [if_neg (by omega)]
  exact hn c (by omega)
theorem Fin.away {h : H} (f : Fin h) (c : Nat) : ∃ b, h b = none ∧ b ≠ c := by
  obtain ⟨n, hn⟩ := f
  exact ⟨max n (c + 1), hn _ (by omega), by omega⟩
theorem Rel.fin {h : H} {w : World} (r : Rel h w) : Fin h := ⟨w.heap.size, fun b hb => by
  cases hx : h b with
  | none => rfl
  | some o => exact absurd (r.lt hx) (by omega)⟩
theorem set_set {h : H} {a b : Nat} {o u : VObj} (hab : a ≠ b) : (h.set a o).set b u = (h.set b u).set a o := by
  funext c
  unfold H.set
  by_cases h1 : c = a <;> by_cases h2 : c = b <;> simp_all
theorem set_at {h : H} {a : Nat} {o : VObj} : h.set a o a = some o := by simp [H.set]
theorem set_ne {h : H} {a b : Nat} {o : VObj} (hb : b ≠ a) : h.set a o b = h b := by simp [H.set, hb]

/-- The forms of what writes nothing: never; a value; a value read; a new block. -/
inductive Nf {α : Type} (S : H → (α → H → Prop) → Prop) : Prop
  | never (h : ∀ h k, ¬ S h k)
  | val (v : α) (h : ∀ h k, S h k ↔ k v h)
  | read (a : Nat) (R : Option VObj → α → Prop) (h0 : ∀ v, ¬ R none v) (h1 : ∀ x v u, R x v → R x u → v = u) (h : ∀ h k, S h k ↔ ∃ v, R (h a) v ∧ k v h)
  | new (mk : Nat → α) (o : VObj) (h : ∀ h k, S h k ↔ ∀ b, h b = none → k (mk b) (h.set b o))

theorem Nf.map {α β : Type} {S : H → (α → H → Prop) → Prop} (n : Nf S) (f : α → β) : Nf (fun h k => S h fun v h => k (f v) h) := by
  cases n with
  | never h1 => exact .never fun h k => h1 _ _
  | val v h1 => exact .val (f v) fun h k => h1 _ _
  | read a R h0 h1 h2 =>
    refine .read a (fun x u => ∃ v, R x v ∧ u = f v) (fun v => by rintro ⟨_, h, _⟩; exact h0 _ h) ?_ ?_
    · rintro x _ _ ⟨v, hv, rfl⟩ ⟨u, hu, rfl⟩
      rw [h1 _ _ _ hv hu]
    · intro h k
      rw [h2]
      constructor
      · rintro ⟨v, hv, hk⟩; exact ⟨_, ⟨v, hv, rfl⟩, hk⟩
      · rintro ⟨_, ⟨v, hv, rfl⟩, hk⟩; exact ⟨v, hv, hk⟩
  | new mk o h1 => exact .new (fun b => f (mk b)) o fun h k => h1 _ _

theorem Nf.mono {α : Type} {S : H → (α → H → Prop) → Prop} (n : Nf S) {h : H} (f : Fin h) {k k' : α → H → Prop} (hk : S h k) (hm : ∀ v h', Fin h' → k v h' → k' v h') : S h k' := by
  cases n with
  | never h1 => exact absurd hk (h1 _ _)
  | val v h1 => rw [h1] at hk ⊢; exact hm _ _ f hk
  | read a R h0 h1 h2 =>
    rw [h2] at hk ⊢
    obtain ⟨v, hv, hk⟩ := hk
    exact ⟨v, hv, hm _ _ f hk⟩
  | new mk o h1 =>
    rw [h1] at hk ⊢
    exact fun b hb => hm _ _ (f.set _ _) (hk b hb)

/-- Two of them change places. -/
theorem Nf.swap {α β : Type} {S : H → (α → H → Prop) → Prop} {T : H → (β → H → Prop) → Prop} (s : Nf S) (t : Nf T) {h : H} (f : Fin h) {K : α → β → H → Prop} (hk : S h fun v h => T h fun u h => K v u h) : T h fun u h => S h fun v h => K v u h := by
  cases s with
  | never h1 => exact absurd hk (h1 _ _)
  | val v h1 =>
    rw [h1] at hk
    exact t.mono f hk fun u h' _ h2 => (h1 _ _).mpr h2
  | read a R h0 h1 hs =>
    rw [hs] at hk
    obtain ⟨v, hv, hk⟩ := hk
    cases t with
    | never h2 => exact absurd hk (h2 _ _)
    | val u h2 => rw [h2] at hk ⊢; rw [hs]; exact ⟨v, hv, hk⟩
    | read b R' g0 g1 ht =>
      rw [ht] at hk ⊢
      obtain ⟨u, hu, hk⟩ := hk
      exact ⟨u, hu, (hs _ _).mpr ⟨v, hv, hk⟩⟩
    | new mk o ht =>
      rw [ht] at hk ⊢
      intro b hb
      have hne : a ≠ b := fun x => h0 v (by rw [x, hb] at hv; exact hv)
      exact (hs _ _).mpr ⟨v, by rw [set_ne hne]; exact hv, hk b hb⟩
  | new mk o hs =>
    rw [hs] at hk
    cases t with
    | never h2 =>
      obtain ⟨b, hb, _⟩ := f.away 0
      exact absurd (hk b hb) (h2 _ _)
    | val u h2 =>
      rw [h2, hs]
      exact fun b hb => (h2 _ _).mp (hk b hb)
    | read a R g0 g1 ht =>
      rw [ht]
      obtain ⟨b, hb, hne⟩ := f.away a
      obtain ⟨u, hu, _⟩ := (ht _ _).mp (hk b hb)
      rw [set_ne (Ne.symm hne)] at hu
      refine ⟨u, hu, (hs _ _).mpr fun c hc => ?_⟩
      obtain ⟨u', hu', hk'⟩ := (ht _ _).mp (hk c hc)
      have hca : a ≠ c := fun x => g0 u (by rw [x, hc] at hu; exact hu)
      rw [set_ne hca] at hu'
      rw [g1 _ _ _ hu hu']
      exact hk'
    | new mk' o' ht =>
      rw [ht]
      intro c hc
      rw [hs]
      intro b hb
      have hbc : b ≠ c := fun x => by rw [x, set_at] at hb; cases hb
      rw [set_ne hbc] at hb
      have := (ht _ _).mp (hk b hb) c (by rw [set_ne (Ne.symm hbc)]; exact hc)
      rw [set_set hbc] at this
      exact this

theorem exLeaf_iff {t : TypeId} {φ : Value → Prop} : exLeaf P t φ ↔ ∃ v, exLeaf P t (· = v) ∧ φ v := by
  unfold exLeaf
  constructor
  · intro hk
    split at hk <;> obtain ⟨x, hx⟩ := hk <;> exact ⟨_, ⟨x, rfl⟩, hx⟩
  · rintro ⟨v, h1, h2⟩
    split at h1 <;> obtain ⟨x, rfl⟩ := h1 <;> exact ⟨x, h2⟩
theorem exLr_iff : ∀ {ts : List TypeId} {φ : List Value → Prop}, exLr P ts φ ↔ ∃ vs, exLr P ts (· = vs) ∧ φ vs
  | [], φ => by
    constructor
    · intro hk; exact ⟨[], rfl, hk⟩
    · rintro ⟨vs, h1, h2⟩
      have h1 : [] = vs := h1
      subst h1; exact h2
  | t :: ts, φ => by
    simp only [exLr]
    constructor
    · intro hk
      obtain ⟨v, hv, hk⟩ := exLeaf_iff.mp hk
      obtain ⟨vs, hvs, hk⟩ := exLr_iff.mp hk
      exact ⟨v :: vs, exLeaf_iff.mpr ⟨v, hv, exLr_iff.mpr ⟨vs, hvs, rfl⟩⟩, hk⟩
    · rintro ⟨us, h1, h2⟩
      obtain ⟨v, hv, h1⟩ := exLeaf_iff.mp h1
      obtain ⟨vs, hvs, rfl⟩ := exLr_iff.mp h1
      exact exLeaf_iff.mpr ⟨v, hv, exLr_iff.mpr ⟨vs, hvs, h2⟩⟩

theorem exL_iff {ts : List TypeId} {φ : List Value → Prop} : exL P ts φ ↔ ∃ vs, exL P ts (· = vs) ∧ φ vs := by
  unfold exL
  split
  · exact exLr_iff
  · constructor
    · rintro ⟨vs, h⟩; exact ⟨vs, ⟨vs, rfl⟩, h⟩
    · rintro ⟨vs, _, h⟩; exact ⟨vs, h⟩

theorem rdN_at {h : H} {a : Addr} {n : Nat} : rdN h a n = rdN (fun _ => h a.block) a n := rfl
theorem rd_at {h : H} {a : Addr} : rd h a = rd (fun _ => h a.block) a := rfl

/-- An operation of one of the three classes has such a form. -/
theorem nf_of_det {α β : Type} {W : (α → Prop) → Prop} (d : Det W) {V : α → H → (β → H → Prop) → Prop} (hV : ∀ a, Nf (V a)) : Nf (fun h k => W fun a => V a h k) := by
  rcases d with d | ⟨v, d⟩
  · exact .never fun h k => d _
  · rcases hV v with h1 | ⟨u, h1⟩ | ⟨a, R, h0, h1, h2⟩ | ⟨mk, o, h1⟩
    · exact .never fun h k hk => h1 h k ((d _).mp hk)
    · exact .val u fun h k => (d _).trans (h1 h k)
    · exact .read a R h0 h1 fun h k => (d _).trans (h2 h k)
    · exact .new mk o fun h k => (d _).trans (h1 h k)
theorem Nf.no {α : Type} : Nf (fun (_ : H) (_ : α → H → Prop) => False) := .never fun _ _ h => h
theorem Nf.and {α : Type} {p : Prop} {S : H → (α → H → Prop) → Prop} (n : Nf S) : Nf (fun h k => p ∧ S h k) := by
  by_cases hp : p
  · simpa [hp] using n
  · exact .never fun h k x => hp x.1

theorem nf_op {o : Oper} (hc : clOf P o.op ≠ .e) (e : Env) (kp : Kp) : Nf (fun h k => opW P C o e h k kp) := by
  by_cases hp : clOf P o.op = .p
  · obtain ⟨W, d, hW⟩ := pure_form (C := C) hp e
    rcases d with d | ⟨v, d⟩
    · exact .never fun h k hk => d _ ((hW _ _ _).mp hk)
    · exact .val v fun h k => (hW _ _ _).trans (d _)
  · unfold opW
    cases ho : o.op <;> simp only [ho, clOf] at hc hp ⊢ <;> try (first | exact absurd rfl hc | exact absurd trivial hc | exact absurd rfl hp | exact absurd trivial hp)
    case binOp op t x y yt =>
      cases hh : (isRef P t && !(isConst x || isConst y)) with
      | true => rw [hh] at hc; exact absurd rfl hc
      | false => rw [hh] at hp; exact absurd rfl hp
    case alloc t =>
      split
      · exact .new (fun b => .pointer (some ⟨b, 0, none⟩)) _ fun h k => Iff.rfl
      · exact Nf.no
    case box t x =>
      refine nf_of_det (det_ev e x) fun v => ?_
      split
      · exact nf_of_det (det_agg v) fun cs => .new (fun b => .pointer (some ⟨b, 0, none⟩)) _ fun h k => Iff.rfl
      · exact Nf.and (.new (fun b => .pointer (some ⟨b, 0, none⟩)) _ fun h k => Iff.rfl)
    case buildSlice t n ps =>
      split
      · exact nf_of_det (det_fill _ e _ _) fun cs => .new (fun b => .slice (some ⟨b, 0, none⟩) n n) _ fun h k => Iff.rfl
      · exact Nf.no
    case load t x =>
      refine nf_of_det (det_ev e x) fun v => nf_of_det (det_ptr v) fun a => ?_
      split
      · split
        · rename_i ts _
          refine .read a.block (fun x v => ∃ vs, exL P ts (· = vs) ∧ rdN (fun _ => x) a (szOf P t) = some vs ∧ v = .agg vs.toArray) ?_ ?_ ?_
          · rintro v ⟨vs, _, h, _⟩
            unfold rdN at h
            split at h <;> simp [rowOf] at h
          · rintro x _ _ ⟨vs, _, h1, rfl⟩ ⟨us, _, h2, rfl⟩
            rw [h1] at h2
            rw [Option.some.inj h2]
          · intro h k
            rw [exL_iff]
            constructor
            · rintro ⟨vs, h1, h2, h3⟩; exact ⟨_, ⟨vs, h1, h2, rfl⟩, h3⟩
            · rintro ⟨_, ⟨vs, h1, h2, rfl⟩, h3⟩; exact ⟨vs, h1, h2, h3⟩
        · exact Nf.no
      · split
        · refine .read a.block (fun x v => exLeaf P t (· = v) ∧ rd (fun _ => x) a = some v) ?_ ?_ ?_
          · rintro v ⟨_, h⟩
            unfold rd at h
            split at h <;> simp [rowOf] at h
          · rintro x v u ⟨_, h1⟩ ⟨_, h2⟩
            rw [h1] at h2
            exact Option.some.inj h2
          · intro h k
            rw [exLeaf_iff]
            constructor
            · rintro ⟨v, h1, h2, h3⟩; exact ⟨v, ⟨h1, h2⟩, h3⟩
            · rintro ⟨v, ⟨h1, h2⟩, h3⟩; exact ⟨v, h1, h2, h3⟩
        · exact Nf.no
    case convert s d x =>
      cases hcv : cvOf P s d <;> simp [hcv] at hc hp
    case makeSlice t l c =>
      refine nf_of_det (det_ev e l) fun l => nf_of_det (det_ev e c) fun c => ?_
      unfold intW
      cases l <;> cases c <;> try exact Nf.no
      rename_i j n j' m
      dsimp only
      split
      · unfold mkSliceW
        exact Nf.and (Nf.and (Nf.and (Nf.and (.new (fun b => .slice (some ⟨b, 0, none⟩) n.toNat m.toNat) _ fun h k => Iff.rfl))))
      · exact Nf.no
    case call c =>
      exfalso
      obtain ⟨callee, args, argTypes⟩ := c
      cases callee with
      | value f => simp at hc
      | invoke r m => simp at hc
      | builtin b =>
        cases b <;> simp only at hc hp <;> try (first | exact absurd rfl hc | exact absurd trivial hc | exact absurd rfl hp | exact absurd trivial hp)
        generalize argTypes.toList.head?.bind P.underlying = u at hc hp
        cases u with
        | none => exact hc rfl
        | some d => cases d <;> simp at hc hp

theorem nf_step {o : Oper} (hc : clOf P o.op ≠ .e) (e : Env) (kp : Kp) : Nf (fun h k => step P C ops o e h k kp) := by
  have h1 := (nf_op (C := C) hc e kp).map some
  unfold step
  cases hg : o.guard with
  | none => exact h1
  | some g =>
    obtain ⟨j, want⟩ := g
    dsimp only
    by_cases hx : ∃ s t, slotOf ops j = some s ∧ e[s]? = some (some t)
    · obtain ⟨s, t, hs, ht⟩ := hx
      have hu : ∀ {A : Value → Prop}, (∃ s t, slotOf ops j = some s ∧ e[s]? = some (some t) ∧ A t) ↔ A t := by
        intro A
        constructor
        · rintro ⟨s', t', hs', ht', h⟩
          rw [hs] at hs'; obtain rfl := Option.some.inj hs'
          rw [ht] at ht'
          simp at ht'
          subst ht'; exact h
        · intro h; exact ⟨s, t, hs, ht, h⟩
      by_cases hw : t = .bool want
      · have e1 : (fun (h : H) (k : Option Value → H → Prop) => ∃ s t, slotOf ops j = some s ∧ e[s]? = some (some t) ∧ (t = .bool want → opW P C o e h (fun v h' => k (some v) h') kp) ∧ (t ≠ .bool want → k none h)) =
            fun h k => opW P C o e h (fun v h' => k (some v) h') kp := by
          funext h k
          rw [propext (hu (A := fun t => (t = .bool want → opW P C o e h (fun v h' => k (some v) h') kp) ∧ (t ≠ .bool want → k none h)))]
          simp [hw]
        rw [e1]; exact h1
      · refine .val none fun h k => ?_
        rw [hu (A := fun t => (t = .bool want → opW P C o e h (fun v h' => k (some v) h') kp) ∧ (t ≠ .bool want → k none h))]
        simp [hw]
    · exact .never fun h k => by
        rintro ⟨s, t, hs, ht, _⟩
        exact hx ⟨s, t, hs, ht⟩
end Go.Proofs.YtnlhnlmnlfmojaaDoor.Am

namespace Go.Proofs.YtnlhnlmnlfmojaaDoor.Am
open Go
set_option linter.unusedSimpArgs false
variable {P : Program} {C : Orc} {ops : Array Oper}

def Mono (C : Orc) : Prop := ∀ f args h (k k' : Kv) (kp kp' : Kp), (∀ v h', k v h' → k' v h') → (∀ c h', kp c h' → kp' c h') → C f args h k kp → C f args h k' kp'

theorem getk_mono {e : Env} {s : Nat} {k k' : Value → Prop} (hm : ∀ v, k v → k' v) (hk : getk e s k) : getk e s k' := by
  rcases det_getk e s with d | ⟨v, d⟩
  · exact absurd hk (d _)
  · exact (d _).mpr (hm _ ((d _).mp hk))
theorem Det.mono {α : Type} {W : (α → Prop) → Prop} (d : Det W) {k k' : α → Prop} (hm : ∀ v, k v → k' v) (hk : W k) : W k' := by
  rcases d with d | ⟨v, d⟩
  · exact absurd hk (d _)
  · exact (d _).mpr (hm _ ((d _).mp hk))
theorem exT_mono {t : TypeId} {φ ψ : Value → Prop} (hm : ∀ v, φ v → ψ v) (hk : exT P t φ) : exT P t ψ := by
  unfold exT at hk ⊢
  split
  · rename_i ha
    simp only [ha] at hk
    split
    · rename_i hl
      simp only [hl] at hk
      obtain ⟨vs, h1, h2⟩ := exL_iff.mp hk
      exact exL_iff.mpr ⟨vs, h1, hm _ h2⟩
    · rename_i hl
      simp only [hl] at hk
  · rename_i ha
    simp only [ha] at hk
    obtain ⟨v, h1, h2⟩ := exLeaf_iff.mp hk
    exact exLeaf_iff.mpr ⟨v, h1, hm _ h2⟩
theorem exTs_mono : ∀ {ts : List TypeId} {φ ψ : List Value → Prop}, (∀ v, φ v → ψ v) → exTs P ts φ → exTs P ts ψ
  | [], _, _, hm, hk => hm _ hk
  | _ :: _, _, _, hm, hk => exT_mono (fun _ h => exTs_mono (fun _ h' => hm _ h') h) hk
theorem exR_mono {ts : List TypeId} {φ ψ : Value → Prop} (hm : ∀ v, φ v → ψ v) (hk : exR P ts φ) : exR P ts ψ := by
  match ts, hk with
  | [], hk => exact exTs_mono (P := P) (ts := []) (φ := fun vs => φ (.tuple vs.toArray)) (ψ := fun vs => ψ (.tuple vs.toArray)) (fun _ h => hm _ h) hk
  | [t], hk => exact exT_mono hm hk
  | t :: u :: ts, hk => exact exTs_mono (P := P) (ts := t :: u :: ts) (φ := fun vs => φ (.tuple vs.toArray)) (ψ := fun vs => ψ (.tuple vs.toArray)) (fun _ h => hm _ h) hk
theorem callW_mono (hC : Mono C) {t : TypeId} {f : FuncId} {args : List Value} {h : H} {k k' : Kv} {kp kp' : Kp} (hm : ∀ v h', k v h' → k' v h') (hp : ∀ c h', kp c h' → kp' c h')
    (hk : callW P C t f args h k kp) : callW P C t f args h k' kp' := by
  unfold callW at hk ⊢
  split
  · rename_i hb
    simp only [hb] at hk
    exact hC _ _ _ _ _ _ _ (fun v h' hv => exR_mono (fun v' hv' => ⟨hv'.1, hm _ _ hv'.2⟩) hv) hp hk
  · rename_i hb
    simp only [hb] at hk
theorem callV_mono (hC : Mono C) {t : TypeId} {f : Value} {args : List Value} {h : H} {k k' : Kv} {kp kp' : Kp} (hm : ∀ v h', k v h' → k' v h') (hp : ∀ c h', kp c h' → kp' c h')
    (hk : callV P C t f args h k kp) : callV P C t f args h k' kp' := by
  unfold callV at hk ⊢
  split
  · exact callW_mono hC hm hp hk
  · rename_i hx
    split at hk
    · exact absurd rfl (hx _ _ _)
    · exact hk
theorem invW_mono (hC : Mono C) {t : TypeId} {r : Value} {n : String} {args : List Value} {h : H} {k k' : Kv} {kp kp' : Kp} (hm : ∀ v h', k v h' → k' v h') (hp : ∀ c h', kp c h' → kp' c h')
    (hk : invW P C t r n args h k kp) : invW P C t r n args h k' kp' := by
  unfold invW at hk ⊢
  split
  · split
    · rename_i hx
      simp only [hx] at hk
      exact callW_mono hC hm hp hk
    · rename_i hx
      simp only [hx] at hk
  · rename_i hx
    split at hk
    · exact absurd rfl (hx _ _)
    · exact hk

theorem intW_mono {v : Value} {k k' : IntKind → Int → Prop} (hm : ∀ j n, k j n → k' j n) (hk : intW v k) : intW v k' := by
  unfold intW at hk ⊢
  cases v <;> first | exact hk.elim | exact hm _ _ hk
theorem lenW_mono {v : Value} {k k' : Nat → Prop} (hm : ∀ v, k v → k' v) (hk : slenW v k) : slenW v k' := by
  unfold slenW at hk ⊢
  cases v <;> first | exact hk.elim | exact hm _ hk
theorem srcW_mono {h : H} {sz n : Nat} {v : Value} {k k' : List Value → Prop} (hm : ∀ v, k v → k' v) (hk : srcW h sz v n k) : srcW h sz v n k' := by
  unfold srcW at hk ⊢
  cases v <;> try exact hk.elim
  · exact hm _ hk
  · rename_i a _ _
    cases a
    · exact hm _ hk
    · obtain ⟨ws, h1, h2⟩ := hk
      exact ⟨ws, h1, hm _ h2⟩
theorem apW_mono {h : H} {sz bytes m : Nat} {z ws : List Value} {s : Value} {k k' : Kv} (hm : ∀ v h', k v h' → k' v h') (hk : apW h sz bytes z s m ws k) : apW h sz bytes z s m ws k' := by
  unfold apW at hk ⊢
  cases s <;> try exact hk.elim
  rename_i base len cap
  dsimp only at hk ⊢
  refine ⟨fun hc => ?_, fun hc => ?_⟩
  · have := hk.1 hc
    cases base with
    | none => exact hm _ _ this
    | some a =>
      refine ⟨fun h0 => hm _ _ (this.1 h0), fun h0 => ?_⟩
      obtain ⟨h1, h', h2, h3⟩ := this.2 h0
      exact ⟨h1, h', h2, hm _ _ h3⟩
  · obtain ⟨h1, h2, old, h3, h4⟩ := hk.2 hc
    exact ⟨h1, h2, old, h3, fun b c hb hc => hm _ _ (h4 b c hb hc)⟩
theorem cpW_mono {h : H} {n : Nat} {ws : List Value} {d : Value} {k k' : Kv} (hm : ∀ v h', k v h' → k' v h') (hk : cpW h d n ws k) : cpW h d n ws k' := by
  unfold cpW at hk ⊢
  cases d <;> try exact hk.elim
  rename_i base len cap
  dsimp only at hk ⊢
  refine ⟨fun h0 => hm _ _ (hk.1 h0), fun h0 => ?_⟩
  have := hk.2 h0
  cases base with
  | none => exact hm _ _ this
  | some a =>
    obtain ⟨h1, h', h2, h3⟩ := this
    exact ⟨h1, h', h2, hm _ _ h3⟩
theorem lookW_mono {d : TypeDesc} {n z : Value} {es : List MapEntry} {k k' : Value → Bool → Prop} (hm : ∀ v b, k v b → k' v b) (hk : lookW d n es z k) : lookW d n es z k' := by
  unfold lookW at hk ⊢
  split at hk
  · exact hm _ _ hk
  · exact hm _ _ hk
  · exact hk.elim
theorem mapK_mono {h : H} {m : Value} {k k' : List MapEntry → Prop} (hm : ∀ es, k es → k' es) (hk : mapK h m k) : mapK h m k' := by
  unfold mapK at hk ⊢
  split at hk
  · exact hm _ hk
  · obtain ⟨es, c, h1, h2⟩ := hk
    exact ⟨es, c, h1, hm _ h2⟩
  · exact hk.elim
theorem bltW_mono {b : Builtin} {ts : List TypeId} {vs : List Value} {h : H} {k k' : Kv} {kp kp' : Kp} (hm : ∀ v h', k v h' → k' v h') (hp : ∀ c h', kp c h' → kp' c h')
    (hk : bltW P b ts vs h k kp) : bltW P b ts vs h k' kp' := by
  unfold bltW at hk ⊢
  split at hk
  · split at hk <;> first
      | exact (det_str _).mono (fun _ => hm _ _) hk
      | exact (det_len _).mono (fun _ => hm _ _) hk
      | exact hm _ _ hk
      | skip
    · split at hk
      · exact hm _ _ hk
      · obtain ⟨es, c, h1, h2⟩ := hk; exact ⟨es, c, h1, hm _ _ h2⟩
      · exact hk.elim
    · exact hk.elim
  · split at hk
    · exact lenW_mono (fun _ h => srcW_mono (fun _ h => apW_mono hm h) h) hk
    · exact hk.elim
  · split at hk
    · exact lenW_mono (fun _ h => lenW_mono (fun _ h => srcW_mono (fun _ h => cpW_mono hm h) h) h) hk
    · exact hk.elim
  · split at hk
    · unfold clW at hk ⊢
      split at hk
      · exact hm _ _ hk
      · refine ⟨fun h0 => hm _ _ (hk.1 h0), fun h0 => ?_⟩
        obtain ⟨h1, h', h2, h3⟩ := hk.2 h0
        exact ⟨h1, h', h2, hm _ _ h3⟩
      · exact hk.elim
    · exact hk.elim
  · exact (det_minMax _ _).mono (fun _ => hm _ _) hk
  · exact (det_minMax _ _).mono (fun _ => hm _ _) hk
  · exact hp _ _ hk
  · exact hk.elim

theorem Nf.imp {α : Type} {S : H → (α → H → Prop) → Prop} (n : Nf S) {h : H} {k k' : α → H → Prop} (hk : S h k) (hm : ∀ v h', k v h' → k' v h') : S h k' := by
  cases n with
  | never h1 => exact absurd hk (h1 _ _)
  | val v h1 => rw [h1] at hk ⊢; exact hm _ _ hk
  | read a R h0 h1 h2 =>
    rw [h2] at hk ⊢
    obtain ⟨v, hv, hk⟩ := hk
    exact ⟨v, hv, hm _ _ hk⟩
  | new mk o h1 =>
    rw [h1] at hk ⊢
    exact fun b hb => hm _ _ (hk b hb)
theorem nf_kp {o : Oper} (hc : clOf P o.op ≠ .e) {e : Env} {h : H} {k : Kv} {kp kp' : Kp} : opW P C o e h k kp ↔ opW P C o e h k kp' := by
  unfold opW
  cases ho : o.op <;> simp only [ho, clOf] at hc ⊢ <;> try (first | exact absurd rfl hc | exact absurd trivial hc)
  case makeFunc fn first cap => cases fn <;> exact Iff.rfl
  case call c =>
    obtain ⟨callee, args, argTypes⟩ := c
    cases callee with
    | value f => simp at hc
    | invoke r m => simp at hc
    | builtin b =>
      have : ∀ vs, bltW P b argTypes.toList vs h k kp = bltW P b argTypes.toList vs h k kp' := by
        intro vs
        unfold bltW
        cases b <;> simp only at hc <;> try (first | exact absurd rfl hc | exact absurd trivial hc)
        all_goals
          generalize argTypes.toList = tl
          rcases tl with _ | ⟨t, _ | ⟨u, _ | ⟨_, _⟩⟩⟩ <;> rcases vs with _ | ⟨x, _ | ⟨y, _ | ⟨_, _⟩⟩⟩ <;> rfl
      simp only [this]

theorem ptrE_mono {h : H} {t : TypeId} {a b : Addr} {k k' : Bool → Prop} (hm : ∀ r, k r → k' r) (hk : ptrE P h t a b k) : ptrE P h t a b k' := by
  unfold ptrE at hk ⊢
  split at hk
  · exact ⟨hk.1, hk.2.1, hk.2.2.1, hm _ hk.2.2.2⟩
  · exact hk.elim
theorem refE_mono {h : H} {t : TypeId} {x y : Value} {k k' : Bool → Prop} (hm : ∀ r, k r → k' r) (hk : refE P h t x y k) : refE P h t x y k' := by
  unfold refE at hk ⊢
  split at hk
  · exact hm _ hk
  · exact hm _ hk
  · exact ptrE_mono hm hk
  · exact hm _ hk
  · exact hm _ hk
  · split at hk
    · exact hm _ hk
    · exact ⟨hk.1, ptrE_mono hm hk.2⟩
  · exact hk.elim
theorem refW_mono {h : H} {op : BinOp} {t : TypeId} {x y : Value} {k k' : Value → Prop} (hm : ∀ v, k v → k' v) (hk : refW P h op t x y k) : refW P h op t x y k' := by
  unfold refW eqn at hk ⊢
  split at hk
  · exact refE_mono (fun _ => hm _) hk
  · exact refE_mono (fun _ => hm _) hk
  · exact hk.elim

theorem opW_mono (hC : Mono C) {o : Oper} {e : Env} {h : H} {k k' : Kv} {kp kp' : Kp} (hm : ∀ v h', k v h' → k' v h') (hp : ∀ c h', kp c h' → kp' c h')
    (hk : opW P C o e h k kp) : opW P C o e h k' kp' := by
  by_cases hc : clOf P o.op = .e
  · unfold opW at hk ⊢
    cases ho : o.op <;> simp only [ho, clOf] at hk hc ⊢ <;> try (cases hc; done)
    case store t x y =>
      refine (det_ev e x).mono (fun v hk => (det_ptr v).mono (fun a hk => (det_ev e y).mono (fun u hk => ?_) hk) hk) hk
      split at hk
      · refine (det_agg u).mono (fun cs hk => ?_) hk
        obtain ⟨h1, h2, h', h3, h4⟩ := hk
        exact ⟨h1, h2, h', h3, hm _ _ h4⟩
      · split at hk
        · obtain ⟨h1, h2, h', h3, h4⟩ := hk
          exact ⟨h1, h2, h', h3, hm _ _ h4⟩
        · exact hk.elim
    case binOp op t x y yt =>
      have hr : (isRef P t && !(isConst x || isConst y)) = true := by
        cases hh : (isRef P t && !(isConst x || isConst y)) with
        | true => rfl
        | false => rw [hh] at hc; cases hc
      rw [hr] at hk ⊢
      refine (det_ev e x).mono (fun a hk => (det_ev e y).mono (fun b hk => ?_) hk) hk
      exact refW_mono (fun _ hk => hm _ _ hk) hk
    case convert s d x =>
      refine (det_ev e x).mono (fun v hk => ?_) hk
      unfold convW at hk ⊢
      split at hk
      · exact intW_mono (fun _ _ => hm _ _) hk
      · exact (det_str v).mono (fun _ => hm _ _) hk
      · exact intW_mono (fun _ _ => hm _ _) hk
      · unfold bsW at hk ⊢
        split at hk
        · exact hm _ _ hk
        · obtain ⟨ns, h1, h2⟩ := hk; exact ⟨ns, h1, hm _ _ h2⟩
        · exact hk.elim
      · exact (det_str v).mono (fun s hk b c hb hc => hm _ _ (hk b c hb hc)) hk
      · exact hk.elim
    case makeMap t x =>
      refine (det_evo e x).mono (fun v hk => (det_optI v).mono (fun l hk => ?_) hk) hk
      split at hk
      · exact fun b hb => hm _ _ (hk b hb)
      · exact hk.elim
    case lookup t x i ok =>
      refine (det_ev e x).mono (fun v hk => (det_ev e i).mono (fun n hk => ?_) hk) hk
      split at hk
      · split at hk
        · exact mapK_mono (fun es hk => lookW_mono (fun _ _ hk => exT_mono (fun _ h => ⟨h.1, hm _ _ h.2⟩) hk) hk) hk
        · exact hk.elim
      · exact hk.elim
    case mapUpdate t m n x =>
      refine (det_ev e m).mono (fun v hk => (det_ev e n).mono (fun n hk => (det_ev e x).mono (fun x hk => ?_) hk) hk) hk
      split at hk
      · split at hk
        · unfold mapU at hk ⊢
          split at hk
          · obtain ⟨es, c, h1, h2⟩ := hk
            refine ⟨es, c, h1, ?_⟩
            split at h2
            · exact hm _ _ h2
            · exact hm _ _ h2
            · exact h2.elim
          · exact hk.elim
        · exact hk.elim
      · exact hk.elim
    case range t x =>
      refine (det_ev e x).mono (fun v hk => ?_) hk
      split at hk
      · exact (det_str v).mono (fun s hk b hb => hm _ _ (hk b hb)) hk
      · exact hk.elim
    case next x b =>
      cases b
      · exact hk.elim
      · refine (det_ev e x).mono (fun v hk => (det_ptr v).mono (fun a hk => ?_) hk) hk
        obtain ⟨h0, s, p, h1, h2, h3⟩ := hk
        exact ⟨h0, s, p, h1, fun x => hm _ _ (h2 x), fun x => hm _ _ (h3 x)⟩
    case panic x =>
      refine (det_ev e x).mono (fun v hk => ?_) hk
      split at hk
      · exact hp _ _ hk
      · exact hk.elim
    case call c =>
      obtain ⟨callee, args, argTypes⟩ := c
      cases callee with
      | builtin b => exact (det_evs e _).mono (fun vs hk => bltW_mono hm hp hk) hk
      | value f =>
        cases f with
        | func f => exact (det_evs e _).mono (fun vs hk => callW_mono hC hm hp hk) hk
        | tmp t => exact (det_ev e (.tmp t)).mono (fun f hk => (det_evs e _).mono (fun vs hk => callV_mono hC hm hp hk) hk) hk
        | const t => exact (det_ev e (.const t)).mono (fun f hk => (det_evs e _).mono (fun vs hk => callV_mono hC hm hp hk) hk) hk
        | global t => exact (det_ev e (.global t)).mono (fun f hk => (det_evs e _).mono (fun vs hk => callV_mono hC hm hp hk) hk) hk
      | invoke r m => exact (det_ev e r).mono (fun f hk => (det_evs e _).mono (fun vs hk => invW_mono hC hm hp hk) hk) hk
    all_goals exact hk.elim
  · exact (nf_kp hc).mp ((nf_op (C := C) hc e kp).imp hk hm)

theorem step_mono (hC : Mono C) {o : Oper} {e : Env} {h : H} {k k' : Option Value → H → Prop} {kp kp' : Kp} (hm : ∀ v h', k (some v) h' → k' (some v) h') (h0 : k none h → k' none h) (hp : ∀ c h', kp c h' → kp' c h')
    (hk : step P C ops o e h k kp) : step P C ops o e h k' kp' := by
  unfold step at hk ⊢
  split
  · rename_i hg
    simp only [hg] at hk
    exact opW_mono hC hm hp hk
  · rename_i j want hg
    simp only [hg] at hk
    obtain ⟨s, t, hs, hc, h1, h2⟩ := hk
    exact ⟨s, t, hs, hc, fun x => opW_mono hC hm hp (h1 x), fun x => h0 (h2 x)⟩
end Go.Proofs.YtnlhnlmnlfmojaaDoor.Am

namespace Go.Proofs.YtnlhnlmnlfmojaaDoor.Am
open Go
set_option linter.unusedSimpArgs false
variable {P : Program} {C : Orc} {ops : Array Oper} {kp : Kp}

def srun (P : Program) (C : Orc) (ops : Array Oper) (kp : Kp) : List (Oper × List Oper) → Env → H → (Env → H → Prop) → Prop
  | [], e, h, k => k e h
  | (o, chk) :: rest, e, h, k => step P C ops o e h (fun v h' => (∀ r ∈ chk, v ≠ none → again P r (putE e o.dst v) h') ∧ srun P C ops kp rest (putE e o.dst v) h' k) kp

theorem rgn_srun (hM : Mono C) : ∀ {l : List (Oper × List Oper)} {e : Env} {h : H} {k : Env → H → Prop}, rgn P C ops l e h k kp → srun P C ops kp l e h k
  | [], _, _, _, hk => hk
  | (o, chk) :: rest, e, h, k, hk => by
    unfold srun
    exact step_mono hM (fun v h' x => ⟨x.1, rgn_srun hM x.2⟩) (fun x => ⟨x.1, rgn_srun hM x.2⟩) (fun _ _ x => x) (rgn_cons hk)

theorem pure_step {o : Oper} (hc : clOf P o.op = .p) (e : Env) : (∀ h k, ¬ step P C ops o e h k kp) ∨ ∃ v, ∀ h k, step P C ops o e h k kp ↔ k v h := by
  obtain ⟨W, d, hW⟩ := pure_form (C := C) hc e
  unfold step
  cases hg : o.guard with
  | none =>
    rcases d with d | ⟨v, d⟩
    · exact .inl fun h k hk => d _ ((hW _ _ _).mp hk)
    · exact .inr ⟨some v, fun h k => (hW _ _ _).trans (d _)⟩
  | some g =>
    obtain ⟨j, want⟩ := g
    dsimp only
    by_cases hx : ∃ s t, slotOf ops j = some s ∧ e[s]? = some (some t)
    · obtain ⟨s, t, hs, ht⟩ := hx
      have hu : ∀ {A : Value → Prop}, (∃ s t, slotOf ops j = some s ∧ e[s]? = some (some t) ∧ A t) ↔ A t := by
        intro A
        constructor
        · rintro ⟨s', t', hs', ht', h⟩
          rw [hs] at hs'; obtain rfl := Option.some.inj hs'
          rw [ht] at ht'
          simp at ht'
          subst ht'; exact h
        · intro h; exact ⟨s, t, hs, ht, h⟩
      by_cases hw : t = .bool want
      · rcases d with d | ⟨v, d⟩
        · refine .inl fun h k hk => ?_
          have := (hu (A := fun t => (t = .bool want → opW P C o e h (fun v h' => k (some v) h') kp) ∧ (t ≠ .bool want → k none h))).mp hk
          exact d _ ((hW _ _ _).mp (this.1 hw))
        · refine .inr ⟨some v, fun h k => ?_⟩
          rw [hu (A := fun t => (t = .bool want → opW P C o e h (fun v h' => k (some v) h') kp) ∧ (t ≠ .bool want → k none h))]
          simp only [hw, ne_eq, not_true_eq_false, false_implies, and_true, true_implies]
          exact (hW _ _ _).trans (d _)
      · refine .inr ⟨none, fun h k => ?_⟩
        rw [hu (A := fun t => (t = .bool want → opW P C o e h (fun v h' => k (some v) h') kp) ∧ (t ≠ .bool want → k none h))]
        simp [hw]
    · exact .inl fun h k => by
        rintro ⟨s, t, hs, ht, _⟩
        exact hx ⟨s, t, hs, ht⟩

theorem evAt {e e' : Env} {x : Operand} {k : Value → Prop} (h1 : ev e x k) (he : ev e x = ev e' x) : ∃ v, k v ∧ ∀ φ, (ev e x φ ↔ φ v) ∧ (ev e' x φ ↔ φ v) := by
  rcases det_ev e x with d | ⟨v, d⟩
  · exact absurd h1 (d _)
  · exact ⟨v, (d _).mp h1, fun φ => ⟨d φ, by rw [← he]; exact d φ⟩⟩

/-- What was read is read again. -/
theorem load_again {o : Oper} (hc : clOf P o.op = .r) {e : Env} {h : H} {k : Kv} (hk : opW P C o e h k kp) :
    ∃ v, k v h ∧ (∀ k2 : Kv, k2 v h → opW P C o e h k2 kp) ∧ ∀ e' h2 (k2 : Kv), Alike ops o e' e → again P o e' h2 → (∀ d w, o.dst = some d → e'[d]? = some (some w) → w = v) → k2 v h2 → opW P C o e h2 k2 kp := by
  unfold opW at hk ⊢
  cases ho : o.op <;> simp only [ho, clOf] at hk hc ⊢ <;> try (cases hc; done)
  case binOp op t x y yt => split at hc <;> cases hc
  case load t x =>
    obtain ⟨p, hk', hp⟩ := evAt hk rfl
    clear hk
    cases p <;> try exact hk'.elim
    rename_i a
    cases a <;> try exact hk'.elim
    rename_i a
    have hk : (match aggB P t with
      | true => match leafs P 20 t with
        | some ts => exL P ts fun vs => rdN h a (szOf P t) = some vs ∧ k (.agg vs.toArray) h
        | none => False
      | false => match P.underlying t with
        | some _ => exLeaf P t fun v => rd h a = some v ∧ k v h
        | none => False) := hk'
    clear hk'
    have key : ∀ e' h2, Alike ops o e' e → again P o e' h2 → ∃ w d, o.dst = some d ∧ e'[d]? = some (some w) ∧ (match aggB P t with
        | true => aggW w fun cs => rdN h2 a (szOf P t) = some cs
        | false => rd h2 a = some w) := by
      intro e' h2 ha hg
      unfold again at hg
      simp only [ho] at hg
      cases hd : o.dst with
      | none => simp [hd] at hg
      | some d =>
        simp only [hd] at hg
        have he : ev e' x = ev e x := ha.ev x (by simp [ho, Op.operands])
        rw [he] at hg
        have hg := ((hp _).1).mp hg
        obtain ⟨w, hw, hg⟩ := getk_inv hg
        exact ⟨w, d, rfl, hw, hg⟩
    split at hk
    · rename_i hag
      simp only [hag] at key
      split at hk
      · rename_i ts hts
        obtain ⟨vs, h1, h2, h3⟩ := exL_iff.mp hk
        refine ⟨.agg vs.toArray, h3, fun k2 hk2 => ((hp _).1).mpr ?_, fun e' h2' k2 ha hg hv hk2 => ((hp _).1).mpr ?_⟩
        · simp only [ptrW, hag, hts]
          exact (exL_iff (φ := fun vs => rdN h a (szOf P t) = some vs ∧ k2 (.agg vs.toArray) h)).mpr ⟨vs, h1, h2, hk2⟩
        · obtain ⟨w, d, hd, hw, hr⟩ := key e' h2' ha hg
          obtain rfl := hv d w hd hw
          simp only [ptrW, hag, hts]
          exact (exL_iff (φ := fun vs => rdN h2' a (szOf P t) = some vs ∧ k2 (.agg vs.toArray) h2')).mpr ⟨vs, h1, hr, hk2⟩
      · exact hk.elim
    · rename_i hag
      simp only [hag] at key
      split at hk
      · rename_i u hu
        obtain ⟨v, h1, h2, h3⟩ := exLeaf_iff.mp hk
        refine ⟨v, h3, fun k2 hk2 => ((hp _).1).mpr ?_, fun e' h2' k2 ha hg hv hk2 => ((hp _).1).mpr ?_⟩
        · simp only [ptrW, hag, hu]
          exact (exLeaf_iff (φ := fun v => rd h a = some v ∧ k2 v h)).mpr ⟨v, h1, h2, hk2⟩
        · obtain ⟨w, d, hd, hw, hr⟩ := key e' h2' ha hg
          obtain rfl := hv d w hd hw
          simp only [ptrW, hag, hu]
          exact (exLeaf_iff (φ := fun v => rd h2' a = some v ∧ k2 v h2')).mpr ⟨w, h1, hr, hk2⟩
      · exact hk.elim
  case call c =>
    obtain ⟨callee, args, argTypes⟩ := c
    cases callee with
    | value f => simp at hc
    | invoke r m => simp at hc
    | builtin b =>
      cases b <;> simp only at hc <;> try (cases hc; done)
      generalize argTypes.toList.head?.bind P.underlying = u at hc
      cases u with
      | none => simp at hc
      | some d => cases d <;> simp at hc
  case convert s d x =>
    cases hcv : cvOf P s d <;> simp [hcv] at hc

theorem read_step {o : Oper} (hc : clOf P o.op = .r) {e : Env} {h : H} {k : Option Value → H → Prop} (hk : step P C ops o e h k kp) :
    ∃ v, k v h ∧ (∀ k2 : Option Value → H → Prop, k2 v h → step P C ops o e h k2 kp) ∧
      ∀ e' h2 (k2 : Option Value → H → Prop), Alike ops o e' e → again P o e' h2 → (∀ u, v = some u → ∀ d w, o.dst = some d → e'[d]? = some (some w) → w = u) → k2 v h2 → step P C ops o e h2 k2 kp := by
  unfold step at hk ⊢
  cases hg : o.guard with
  | none =>
    simp only [hg] at hk
    obtain ⟨v, h1, h2, h3⟩ := load_again (ops := ops) hc hk
    exact ⟨some v, h1, fun k2 hk2 => h2 _ hk2, fun e' h2' k2 ha hag hv hk2 => h3 e' h2' _ ha hag (hv v rfl) hk2⟩
  | some g =>
    obtain ⟨j, want⟩ := g
    simp only [hg] at hk
    obtain ⟨s, t, hs, ht, h1, h2⟩ := hk
    by_cases hw : t = .bool want
    · obtain ⟨v, g1, g2, g3⟩ := load_again (ops := ops) hc (h1 hw)
      refine ⟨some v, g1, fun k2 hk2 => ⟨s, t, hs, ht, fun _ => g2 _ hk2, fun x => absurd hw x⟩, fun e' h2' k2 ha hag hv hk2 => ⟨s, t, hs, ht, fun _ => g3 e' h2' _ ha hag (hv v rfl) hk2, fun x => absurd hw x⟩⟩
    · exact ⟨none, h2 hw, fun k2 hk2 => ⟨s, t, hs, ht, fun x => absurd x hw, fun _ => hk2⟩, fun e' h2' k2 _ _ _ hk2 => ⟨s, t, hs, ht, fun x => absurd x hw, fun _ => hk2⟩⟩

theorem quiet_spec {r x : Oper} (h : quiet ops r x = true) : (∀ d, x.dst = some d → d ∉ r.looksAt ops) ∧ ∀ d, x.dst = some d → r.dst ≠ some d := by
  refine ⟨fun d hd => ?_, fun d hd => ?_⟩ <;> simp [quiet, hd] at h
  · exact h.1
  · exact h.2

theorem again_congr {r : Oper} {e e' : Env} {h : H} (ha : Alike ops r e e') (hd : ∀ d, r.dst = some d → e[d]? = e'[d]?) : again P r e h → again P r e' h := by
  unfold again
  cases ho : r.op <;> try exact id
  case load t x =>
    cases hr : r.dst with
    | none => exact id
    | some d =>
      have h1 := ha.ev x (by simp [ho, Op.operands])
      have h2 := getk_congr (hd d hr)
      simp only [h1, h2, imp_self]
theorem putE_ne {e : Env} {d : Option Nat} {v : Option Value} {t : Nat} (h : d ≠ some t) : (putE e d v)[t]? = e[t]? := by
  cases d with
  | none => rfl
  | some d =>
    have : d ≠ t := fun x => h (by rw [x])
    simp [putE, this]

theorem again_put {r x y : Oper} {e : Env} {v u : Option Value} {h : H} (hq : quiet ops r x = true) (hxy : ∀ d, x.dst = some d → y.dst ≠ some d) (ha : again P r (putE (putE e x.dst v) y.dst u) h) :
    again P r (putE e y.dst u) h := by
  rw [putE_comm hxy] at ha
  obtain ⟨h1, h2⟩ := quiet_spec hq
  exact again_congr (Alike.put h1) (fun d hd => putE_ne fun hx => h2 d hx hd) ha

def PassOk (P : Program) (ops : Array Oper) (x y : Oper) (cy : List Oper) : Prop :=
  x.apart ops y = true ∧ clOf P x.op ≠ .e ∧ ((clOf P y.op ≠ .e ∧ cy = []) ∨ clOf P x.op = .p ∨ (clOf P x.op = .r ∧ x ∈ cy ∧ ∀ d, x.dst = some d → d ∉ x.looksAt ops))

theorem swap (hM : Mono C) {x y : Oper} {cx cz : List Oper} (ok : PassOk P ops x y cx) (hz : ∀ r ∈ cz, r ∈ cx ∧ quiet ops r x = true) {rest : List (Oper × List Oper)} {e : Env} {h : H} (f : Fin h) {k : Env → H → Prop}
    (hk : srun P C ops kp ((x, []) :: (y, cx) :: rest) e h k) : srun P C ops kp ((y, cz) :: (x, []) :: rest) e h k := by
  obtain ⟨hap, hx, ok⟩ := ok
  obtain ⟨a1, a2, a3⟩ := Oper.apart_spec hap
  simp only [srun, List.not_mem_nil, false_implies, implies_true, true_and] at hk ⊢
  have cy : ∀ v h k, step P C ops y (putE e x.dst v) h k kp ↔ step P C ops y e h k kp := fun v h k => step_congr (Alike.put a1)
  have cxx : ∀ v h k, step P C ops x (putE e y.dst v) h k kp ↔ step P C ops x e h k kp := fun v h k => step_congr (Alike.put a3)
  simp only [cy] at hk
  simp only [cxx]
  have cm : ∀ v u, putE (putE e y.dst u) x.dst v = putE (putE e x.dst v) y.dst u := fun v u => (putE_comm a2).symm
  simp only [cm]
  have drop : ∀ v u h2, (∀ r ∈ cx, u ≠ none → again P r (putE (putE e x.dst v) y.dst u) h2) → ∀ r ∈ cz, u ≠ none → again P r (putE e y.dst u) h2 :=
    fun v u h2 hc r hr hu => again_put (hz r hr).2 a2 (hc r (hz r hr).1 hu)
  rcases ok with ⟨hy, rfl⟩ | hp | ⟨hr, hmem, hself⟩
  · obtain rfl : cz = [] := by
      cases cz with
      | nil => rfl
      | cons r _ => exact absurd (hz r (by simp)).1 (by simp)
    simp only [List.not_mem_nil, false_implies, implies_true, true_and] at hk ⊢
    exact (nf_step (C := C) hx e kp).swap (nf_step (C := C) hy e kp) f hk
  · rcases pure_step (C := C) (ops := ops) (kp := kp) hp e with d | ⟨v, d⟩
    · exact absurd hk (d _ _)
    · rw [d] at hk
      exact step_mono hM (fun u h' hu => ⟨drop v _ _ hu.1, (d _ _).mpr hu.2⟩) (fun hu => ⟨drop v _ _ hu.1, (d _ _).mpr hu.2⟩) (fun _ _ hc => hc) hk
  · obtain ⟨v, hk, h2, h3⟩ := read_step hr hk
    refine step_mono hM (fun u h' hu => ⟨drop v _ _ hu.1, ?_⟩) (fun hu => ⟨drop v _ _ hu.1, h2 _ hu.2⟩) (fun _ _ hc => hc) hk
    have hag := hu.1 x hmem (by simp)
    refine h3 _ h' _ ?_ hag ?_ hu.2
    · intro t ht
      rw [putE_ne (fun hd => a3 t hd ht), putE_ne (fun hd => hself t hd ht)]
    · intro u' hvu d w hd hw
      subst hvu
      rw [putE_ne (a2 d hd), hd] at hw
      simp only [putE, List.getElem?_set] at hw
      by_cases hl : d < e.length
      · simpa [hl, eq_comm] using hw
      · simp [hl] at hw

theorem srun_imp_fin : ∀ {x : Oper}, clOf P x.op ≠ .e → ∀ {e : Env} {h : H} (_ : Fin h) {k k' : Option Value → H → Prop}, step P C ops x e h k kp → (∀ v h', Fin h' → k v h' → k' v h') → step P C ops x e h k' kp :=
  fun hx _ _ f _ _ hk hm => (nf_step (C := C) hx _ kp).mono f hk hm

/-- One that stands apart of all ahead of it is done first. -/
theorem move (hM : Mono C) {y : Oper} {cy : List Oper} {rest : List (Oper × List Oper)} {k : Env → H → Prop} : ∀ (pre : List (Oper × List Oper)) (cz : List Oper) (e : Env) (h : H), Fin h →
    (∀ x ∈ pre, PassOk P ops x.1 y cy ∧ x.2 = []) → pre.Pairwise (fun r x => clOf P r.1.op = .r → quiet ops r.1 x.1 = true) → (∀ r ∈ cz, r ∈ cy ∧ ∀ x ∈ pre, quiet ops r x.1 = true) →
    srun P C ops kp (pre ++ (y, cy) :: rest) e h k → srun P C ops kp ((y, cz) :: (pre ++ rest)) e h k
  | [], cz, e, h, _, _, _, hz, hk => by
    simp only [List.nil_append, srun] at hk ⊢
    exact step_mono hM (fun v h' x => ⟨fun r hr => x.1 r (hz r hr).1, x.2⟩) (fun x => ⟨fun r hr => x.1 r (hz r hr).1, x.2⟩) (fun _ _ x => x) hk
  | (x, c) :: pre, cz, e, h, f, hp, hq, hz, hk => by
    obtain ⟨hpx, rfl⟩ := hp (x, c) (by simp)
    obtain ⟨hq1, hq2⟩ := List.pairwise_cons.mp hq
    have hk' : srun P C ops kp ((x, []) :: (pre ++ (y, cy) :: rest)) e h k := hk
    by_cases hm : x ∈ cy ∧ clOf P x.op = .r
    · obtain ⟨hm, hr⟩ := hm
      refine swap hM (cx := x :: cz) ?_ ?_ f ?_
      · obtain ⟨b1, b2, b3⟩ := hpx
        refine ⟨b1, b2, ?_⟩
        rcases b3 with ⟨_, b4⟩ | b3 | ⟨b3, _, b5⟩
        · rw [b4] at hm; simp at hm
        · exact .inr (.inl b3)
        · exact .inr (.inr ⟨b3, by simp, b5⟩)
      · intro r hr
        exact ⟨by simp [hr], (hz r hr).2 (x, []) (by simp)⟩
      · unfold srun at hk' ⊢
        refine srun_imp_fin hpx.2.1 f hk' fun v h' f' hv => ⟨hv.1, ?_⟩
        refine move hM pre (x :: cz) _ _ f' (fun z hzm => hp z (by simp [hzm])) hq2 ?_ hv.2
        intro r hr'
        rcases List.mem_cons.mp hr' with rfl | hr'
        · exact ⟨hm, fun z hzm => hq1 z hzm hr⟩
        · exact ⟨(hz r hr').1, fun z hzm => (hz r hr').2 z (by simp [hzm])⟩
    · refine swap hM (cx := cz) ?_ ?_ f ?_
      · obtain ⟨b1, b2, b3⟩ := hpx
        refine ⟨b1, b2, ?_⟩
        rcases b3 with ⟨b3, b4⟩ | b3 | ⟨b3, b4, b5⟩
        · refine .inl ⟨b3, ?_⟩
          cases cz with
          | nil => rfl
          | cons r _ =>
            have := (hz r (by simp)).1
            rw [b4] at this; simp at this
        · exact .inr (.inl b3)
        · exact absurd ⟨b4, b3⟩ hm
      · intro r hr
        exact ⟨hr, (hz r hr).2 (x, []) (by simp)⟩
      · unfold srun at hk' ⊢
        refine srun_imp_fin hpx.2.1 f hk' fun v h' f' hv => ⟨hv.1, ?_⟩
        refine move hM pre cz _ _ f' (fun z hzm => hp z (by simp [hzm])) hq2 ?_ hv.2
        intro r hr
        exact ⟨(hz r hr).1, fun z hzm => (hz r hr).2 z (by simp [hzm])⟩
end Go.Proofs.YtnlhnlmnlfmojaaDoor.Am

namespace Go.Proofs.YtnlhnlmnlfmojaaDoor.Am
open Go
set_option linter.unusedSimpArgs false
variable {P : Program} {C : Orc} {kp : Kp} {Q : Exit → Act → World → Prop}

section
variable {ops : Array Oper}

theorem okFrom_spec {L : List Oper} {an : List (Nat × List Nat)} : ∀ {items : List (Nat × List Nat)}, okFrom P L an items = true →
    (∀ x ∈ items, ∃ o, L[x.1]? = some o ∧ (clOf P o.op ≠ .e → x.2 = [])) ∧ items.Pairwise fun x y => okPair P L an x.1 y = true
  | [], _ => ⟨by simp, .nil⟩
  | x :: rest, h => by
    simp only [okFrom, Bool.and_eq_true, List.all_eq_true] at h
    obtain ⟨⟨h1, h2⟩, h3⟩ := h
    obtain ⟨g1, g2⟩ := okFrom_spec h3
    refine ⟨fun y hy => ?_, List.pairwise_cons.mpr ⟨h2, g2⟩⟩
    rcases List.mem_cons.mp hy with rfl | hy
    · split at h1
      · rename_i o ho
        refine ⟨o, ho, fun hc => ?_⟩
        simp only [Bool.or_eq_true, beq_iff_eq, List.isEmpty_iff] at h1
        exact h1.resolve_left hc
      · simp at h1
    · exact g1 y hy

theorem edges_spec {o : Oper} {S : Nat → Prop} : (∀ j ∈ edges o, S j) ↔ ∀ e ∈ o.after, Region.binds .any e = true → S e.on := by
  unfold edges
  simp only [List.mem_filterMap, Array.mem_toList_iff]
  constructor
  · intro h e he hb
    exact h e.on ⟨e, he, by simp [hb]⟩
  · rintro h j ⟨e, he, hj⟩
    split at hj
    · rename_i hb
      obtain rfl := Option.some.inj hj
      exact h e he hb
    · cases hj

def AncOk (L : List Oper) (an : List (Nat × List Nat)) : Prop :=
  ∀ i x, x ∈ ancOf an i → ∀ S : Nat → Prop, (∀ i, S i → ∀ j ∈ edgesAt L i, S j) → (∀ j ∈ edgesAt L i, S j) → S x

theorem ancOf_cons {i j : Nat} {l : List Nat} {an : List (Nat × List Nat)} : ancOf ((i, l) :: an) j = if i = j then l else ancOf an j := by
  unfold ancOf
  by_cases h : i = j
  · simp [h]
  · have : (i == j) = false := by simpa using h
    simp [h, this]

theorem ancs_ok {L : List Oper} : ∀ (is : List Nat) (acc : List (Nat × List Nat)), AncOk L acc → AncOk L (ancs L is acc)
  | [], _, h => h
  | i :: is, acc, h => by
    refine ancs_ok is _ ?_
    intro j x hx S hS he
    rw [ancOf_cons] at hx
    split at hx
    · rename_i hij
      subst hij
      cases ho : L[i]? with
      | none => simp [ho] at hx
      | some o =>
        simp only [ho] at hx
        have hx := (mem_nubN _ _ hx).resolve_right (fun h => by cases h)
        simp only [List.mem_flatMap] at hx
        obtain ⟨j, hj, hx⟩ := hx
        have hje : j ∈ edgesAt L i := by simp [edgesAt, ho, hj]
        have hSj := he j hje
        rcases List.mem_cons.mp hx with rfl | hx
        · exact hSj
        · exact h j x hx S hS (hS j hSj)
    · exact h j x hx S hS he

theorem pass_of {L : List Oper} (hL : L = ops.toList) {an : List (Nat × List Nat)} (han : AncOk L an) {listed : Array Bool} (hcl : ∀ i, listed.getD i false = true → ∀ j ∈ edgesAt L i, listed.getD j false = true)
    {x : Nat} {ox : Oper} {y : Nat × List Nat} {oy : Oper} (hx : L[x]? = some ox) (hy : L[y.1]? = some oy) (hr : ∀ j ∈ edges oy, listed.getD j false = true) (hun : listed.getD x true = false)
    (ok : okPair P L an x y = true) : PassOk P ops ox oy (y.2.filterMap (L[·]?)) := by
  subst hL
  unfold okPair at ok
  simp only [hx, hy, Bool.and_eq_true, Array.toArray_toList] at ok
  obtain ⟨_, ok⟩ := ok
  have hno : (ancOf an y.1).contains x = false := by
    cases hc : (ancOf an y.1).contains x with
    | false => rfl
    | true =>
      have h1 : listed.getD x false = true := han y.1 x (by simpa using hc) (fun j => listed.getD j false = true) hcl (by
        intro j hj
        simp only [edgesAt, hy] at hj
        exact hr j hj)
      rcases Nat.lt_or_ge x listed.size with h' | h'
      · simp [h'] at h1 hun; rw [h1] at hun; cases hun
      · simp [Array.getElem?_eq_none h'] at h1
  rw [hno] at ok
  simp only [Bool.false_or, Bool.and_eq_true, Bool.or_eq_true, bne_iff_ne, ne_eq, beq_iff_eq, List.isEmpty_iff] at ok
  obtain ⟨⟨h1, h2⟩, h3⟩ := ok
  refine ⟨h1, h2, ?_⟩
  rcases h3 with (⟨h3, h4⟩ | h3) | ⟨⟨h3, h4⟩, h5⟩
  · exact .inl ⟨h3, by rw [h4]; rfl⟩
  · exact .inr (.inl h3)
  · refine .inr (.inr ⟨h3, ?_, ?_⟩)
    · exact List.mem_filterMap.mpr ⟨x, by simpa using h4, hx⟩
    · intro d hd
      simp [selfOk, hd] at h5
      exact h5

theorem listed_set {listed : Array Bool} {i j : Nat} (hi : listed.getD i true = false) : (listed.setIfInBounds i true).getD j true = false ↔ j ≠ i ∧ listed.getD j true = false := by
  by_cases hij : j = i
  · subst hij
    have hlt : j < listed.size := by
      rcases Nat.lt_or_ge j listed.size with h' | h'
      · exact h'
      · simp [Array.getElem?_eq_none h'] at hi
    simp [hlt]
  · rw [getD_set_ne true (Ne.symm hij)]
    simp [hij]
theorem listed_set' {listed : Array Bool} {i j : Nat} (hi : listed.getD i true = false) : (listed.setIfInBounds i true).getD j false = true ↔ j = i ∨ listed.getD j false = true := by
  have hlt : i < listed.size := by
    rcases Nat.lt_or_ge i listed.size with h' | h'
    · exact h'
    · simp [Array.getElem?_eq_none h'] at hi
  by_cases hij : j = i
  · subst hij
    simp [hlt]
  · rw [getD_set_ne false (Ne.symm hij)]
    simp [hij]

theorem any_sound (hC : Sound P C) (hM : Mono C) {L : List Oper} (hL : L = ops.toList) {an : List (Nat × List Nat)} (han : AncOk L an) : ∀ (n : Nat) (items : List (Nat × List Nat)) (listed : Array Bool) (e : Env) (h : H) (a : Act) (w : World) (k : Env → H → Prop),
    items.length = n → (∀ i, (∃ c, (i, c) ∈ items) ↔ listed.getD i true = false) → (items.map (·.1)).Nodup → okFrom P L an items = true →
    (∀ i, listed.getD i false = true → ∀ j ∈ edgesAt L i, listed.getD j false = true) →
    (∀ pre x post, items = pre ++ x :: post → ∀ j ∈ edgesAt L x.1, listed.getD j false = true ∨ j ∈ pre.map (·.1)) →
    EnvR e a.tmps → a.defers = [] → Rel h w → srun P C ops kp (items.filterMap (item L)) e h k →
    (∀ e h' a w', k e h' → EnvR e a.tmps → a.defers = [] → Rel h' w' → Frame h w h' w' → Q .normal a w') → (∀ c h' a w', kp c h' → a.defers = [] → Rel h' w' → Frame h w h' w' → Q (.panic c) a w') →
    wpAny P .any ops Q n listed a w
  | 0, items, listed, e, h, a, w, k, hlen, hu, _, _, _, _, he, hd, r, hk, hn, _ => by
    obtain rfl := List.length_eq_zero_iff.mp hlen
    have hr : Region.ready .any ops listed = [] := by
      cases hx : Region.ready .any ops listed with
      | nil => rfl
      | cons i _ =>
        have : i ∈ Region.ready .any ops listed := by rw [hx]; simp
        have := (hu i).mpr (mem_ready.1 this).1
        simp at this
    exact wpAny_done hr (hn _ _ _ _ hk he hd r (Frame.refl _ _)) 0
  | n + 1, items, listed, e, h, a, w, k, hlen, hu, hnd, hok, hcl, hrd, he, hd, r, hk, hn, hp => by
    obtain ⟨hsingle, hpw⟩ := okFrom_spec hok
    refine ⟨fun hr0 => ?_, fun i hi => ?_⟩
    · exfalso
      cases items with
      | nil => simp at hlen
      | cons x rest =>
        obtain ⟨o, ho, _⟩ := hsingle x (by simp)
        have : x.1 ∈ Region.ready .any ops listed := by
          rw [mem_ready]
          refine ⟨(hu x.1).mp ⟨x.2, by simp⟩, o, by rw [← ho, hL, Array.getElem?_toList], ?_⟩
          refine (edges_spec (S := fun j => listed.getD j false = true)).mp ?_
          intro j hj
          rcases hrd [] x rest rfl j (by simp [edgesAt, ho, hj]) with h1 | h1
          · exact h1
          · simp at h1
        rw [hr0] at this
        simp at this
    · obtain ⟨hiu, oi, hoi, hie⟩ := mem_ready.1 hi
      have hie := (edges_spec (S := fun j => listed.getD j false = true)).mpr hie
      obtain ⟨c, hc⟩ := (hu i).mpr hiu
      obtain ⟨pre, post, rfl⟩ := List.append_of_mem hc
      have hLi : L[i]? = some oi := by rw [hL, Array.getElem?_toList]; exact hoi
      have hit : item L (i, c) = some (oi, c.filterMap (L[·]?)) := by simp [item, hLi]
      rw [List.filterMap_append, List.filterMap_cons, hit] at hk
      rw [List.pairwise_append, List.pairwise_cons] at hpw
      obtain ⟨hpre, ⟨hpost1, hpost2⟩, hcross⟩ := hpw
      have hmoved := move (cz := []) hM (pre.filterMap (item L)) e h r.fin ?_ ?_ (by simp) hk
      · rw [← List.filterMap_append] at hmoved
        unfold srun at hmoved
        refine step_sound hC hoi he r hmoved ?_ ?_
        · intro v h' w' hv r' f
          have hnd' : (i :: (pre ++ post).map (·.1)).Nodup := by
            have hperm : ((pre ++ (i, c) :: post).map (·.1)).Perm (i :: (pre ++ post).map (·.1)) := by
              simp
            exact hperm.nodup_iff.mp hnd
          obtain ⟨hni, hnd''⟩ := List.nodup_cons.mp hnd'
          refine any_sound hC hM hL han n (pre ++ post) _ (putE e oi.dst v) h' _ w' k (by simp at hlen ⊢; omega) ?_ hnd'' ?_ ?_ ?_ (he.putE _ _) (by rw [put_defers]; exact hd) r' hv.2 ?_ ?_
          · intro j
            rw [listed_set hiu, ← hu j]
            constructor
            · rintro ⟨d, hd⟩
              refine ⟨fun hji => hni (List.mem_map.mpr ⟨(j, d), hd, hji⟩), d, ?_⟩
              rcases List.mem_append.mp hd with h1 | h1
              · simp [h1]
              · simp [h1]
            · rintro ⟨hne, d, hd⟩
              refine ⟨d, ?_⟩
              rcases List.mem_append.mp hd with h1 | h1
              · simp [h1]
              · rcases List.mem_cons.mp h1 with h1 | h1
                · exact absurd (congrArg Prod.fst h1) hne
                · simp [h1]
          · have : ∀ (l1 l2 : List (Nat × List Nat)) (y : Nat × List Nat), okFrom P L an (l1 ++ y :: l2) = true → okFrom P L an (l1 ++ l2) = true := by
              intro l1
              induction l1 with
              | nil => intro l2 y h; simp only [List.nil_append, okFrom, Bool.and_eq_true] at h ⊢; exact h.2
              | cons z l1 ih =>
                intro l2 y h
                simp only [List.cons_append, okFrom, Bool.and_eq_true, List.all_append, List.all_cons] at h ⊢
                exact ⟨⟨h.1.1, h.1.2.1, h.1.2.2.2⟩, ih _ _ h.2⟩
            exact this _ _ _ hok
          · intro j hj m hm
            rw [listed_set' hiu] at hj ⊢
            rcases hj with rfl | hj
            · simp only [edgesAt, hLi] at hm
              exact .inr (hie m hm)
            · exact .inr (hcl j hj m hm)
          · intro p x q hpq j hj
            rw [listed_set' hiu]
            rcases List.append_eq_append_iff.mp hpq with ⟨s, rfl, hq⟩ | ⟨s, hs, hq⟩
            · have := hrd (pre ++ (i, c) :: s) x q (by rw [hq]; simp) j hj
              rcases this with h1 | h1
              · exact .inl (.inr h1)
              · simp only [List.map_append, List.map_cons, List.mem_append, List.mem_cons] at h1 ⊢
                rcases h1 with h1 | h1 | h1
                · exact .inr (.inl h1)
                · exact .inl (.inl h1)
                · exact .inr (.inr h1)
            · cases s with
              | nil =>
                simp at hs hq
                subst hs hq
                have := hrd (pre ++ [(i, c)]) x q (by simp) j hj
                rcases this with h1 | h1
                · exact .inl (.inr h1)
                · simp only [List.map_append, List.map_cons, List.mem_append, List.mem_cons, List.map_nil, List.not_mem_nil, or_false] at h1
                  rcases h1 with h1 | h1
                  · exact .inr h1
                  · exact .inl (.inl h1)
              | cons z s =>
                simp only [List.cons_append, List.cons.injEq] at hq
                obtain ⟨rfl, hq⟩ := hq
                subst hs
                have := hrd p x (s ++ (i, c) :: post) (by simp) j hj
                rcases this with h1 | h1
                · exact .inl (.inr h1)
                · exact .inr h1
          · intro e'' h'' a'' w'' hk' he' hd' r'' f'
            exact hn _ _ _ _ hk' he' hd' r'' (f.trans f')
          · intro c h'' a'' w'' hc hd' r'' f'
            exact hp _ _ _ _ hc hd' r'' (f.trans f')
        · intro c h' w' hc r' f
          exact hp _ _ _ _ hc hd r' f
      · intro z hz
        obtain ⟨x, hx, hxz⟩ := List.mem_filterMap.mp hz
        obtain ⟨ox, hox, hce⟩ := hsingle x (by simp [hx])
        simp only [item, hox, Option.map_some, Option.some.injEq] at hxz
        subst hxz
        have hpo := pass_of hL han hcl hox hLi hie ((hu x.1).mp ⟨x.2, by simp [hx]⟩) (hcross x hx (i, c) (by simp))
        refine ⟨hpo, ?_⟩
        rw [hce hpo.2.1]; rfl
      · have hpw' : (pre.filterMap (item L)).Pairwise fun r x => clOf P r.1.op = .r → clOf P x.1.op ≠ .e → quiet ops r.1 x.1 = true := by
          refine List.Pairwise.filterMap (item L) ?_ hpre
          intro x y hxy z hz u hu' hcr hce
          unfold okPair at hxy
          unfold item at hz hu'
          cases hox : L[x.1]? with
          | none => simp [hox] at hxy
          | some ox =>
            cases hoy : L[y.1]? with
            | none => simp [hox, hoy] at hxy
            | some oy =>
              simp only [hox, Option.map_some] at hz
              simp only [hoy, Option.map_some] at hu'
              simp only [Option.mem_def, Option.some.injEq] at hz hu'
              subst hz hu'
              simp only [hox, hoy, Bool.and_eq_true, Bool.or_eq_true] at hxy
              rcases hxy.1 with (h1 | h1) | h1
              · rw [hL] at h1; simpa using h1
              · simp [hcr] at h1
              · simp at h1; exact absurd h1 hce
        refine hpw'.imp_of_mem ?_
        intro r x hr hx hrx hcr
        obtain ⟨x', hx', hxz⟩ := List.mem_filterMap.mp hx
        obtain ⟨ox, hox, hce⟩ := hsingle x' (by simp [hx'])
        simp only [item, hox, Option.map_some, Option.some.injEq] at hxz
        subst hxz
        have hpo := pass_of hL han hcl hox hLi hie ((hu x'.1).mp ⟨x'.2, by simp [hx']⟩) (hcross x' hx' (i, c) (by simp))
        exact hrx hcr hpo.2.1

theorem okReady_spec {L : List Oper} : ∀ {is done : List Nat}, okReady L done is = true →
    (∀ i ∈ is, i < L.length ∧ i ∉ done) ∧ is.Nodup ∧ ∀ pre x post, is = pre ++ x :: post → ∀ j ∈ edgesAt L x, j ∈ done ∨ j ∈ pre
  | [], done, _ => ⟨by simp, .nil, fun pre x post h => by simp at h⟩
  | i :: is, done, h => by
    simp only [okReady, Bool.and_eq_true, Bool.not_eq_true'] at h
    obtain ⟨⟨h1, h2⟩, h3⟩ := h
    obtain ⟨g1, g2, g3⟩ := okReady_spec h3
    have hi : i < L.length := by
      unfold readyIn at h1
      split at h1
      · rename_i o ho
        exact (List.getElem?_eq_some_iff.mp ho).1
      · cases h1
    have h2 : i ∉ done := by simpa using h2
    refine ⟨fun j hj => ?_, List.nodup_cons.mpr ⟨fun hm => (g1 i hm).2 (by simp), g2⟩, fun pre x post hs j hj => ?_⟩
    · rcases List.mem_cons.mp hj with rfl | hj
      · exact ⟨hi, h2⟩
      · exact ⟨(g1 j hj).1, fun hd => (g1 j hj).2 (by simp [hd])⟩
    · cases pre with
      | nil =>
        simp only [List.nil_append, List.cons.injEq] at hs
        obtain ⟨rfl, rfl⟩ := hs
        unfold readyIn at h1
        unfold edgesAt at hj
        split at h1
        · rename_i o ho
          simp only [ho] at hj
          simp only [List.all_eq_true] at h1
          exact .inl (by simpa using h1 j hj)
        · cases h1
      | cons y pre =>
        simp only [List.cons_append, List.cons.injEq] at hs
        obtain ⟨rfl, hs⟩ := hs
        rcases g3 pre x post hs j hj with h | h
        · rcases List.mem_cons.mp h with rfl | h
          · exact .inr (by simp)
          · exact .inl h
        · exact .inr (by simp [h])

theorem idxOf_fst {L : List Oper} {an : List (Nat × List Nat)} : ∀ (ahead is : List Nat), (idxOf P L an ahead is).map (·.1) = is
  | _, [] => rfl
  | ahead, i :: is => by simp [idxOf, idxOf_fst (i :: ahead) is]

theorem draw_any (hC : Sound P C) (hM : Mono C) (hok : okRgn P ops.toList = true) {e : Env} {h : H} {a : Act} {w : World} {k : Env → H → Prop}
    (he : EnvR e a.tmps) (hd : a.defers = []) (r : Rel h w) (hk : rgnC P C ops e h k kp)
    (hn : ∀ e h' a w', k e h' → EnvR e a.tmps → a.defers = [] → Rel h' w' → Frame h w h' w' → Q .normal a w') (hp : ∀ c h' a w', kp c h' → a.defers = [] → Rel h' w' → Frame h w h' w' → Q (.panic c) a w') :
    wpAny P .any ops Q ops.size (Array.replicate ops.size false) a { w with drawn := w.drawn + 1 } := by
  unfold rgnC at hk
  unfold okRgn at hok
  simp only [Bool.and_eq_true, beq_iff_eq, List.all_eq_true, List.mem_range] at hok
  obtain ⟨⟨⟨h1, h2⟩, h3⟩, h4⟩ := hok
  obtain ⟨g1, g2, g3⟩ := okReady_spec h3
  have hs : SameHeap w { w with drawn := w.drawn + 1 } := ⟨rfl, rfl, rfl, rfl⟩
  have hmem : ∀ i, (∃ c, (i, c) ∈ canon P ops.toList) ↔ i < ops.size := by
    intro i
    have : (∃ c, (i, c) ∈ canon P ops.toList) ↔ i ∈ (canon P ops.toList).map (·.1) := by
      constructor
      · rintro ⟨c, hc⟩; exact List.mem_map.mpr ⟨_, hc, rfl⟩
      · intro h
        obtain ⟨x, hx, rfl⟩ := List.mem_map.mp h
        exact ⟨x.2, hx⟩
    rw [this]
    unfold canon
    simp only [idxOf_fst]
    constructor
    · intro hi; simpa using (g1 i hi).1
    · intro hi; simpa using h2 i (by simpa using hi)
  refine any_sound (kp := kp) hC hM rfl (ancs_ok _ [] ?_) ops.size (canon P ops.toList) _ e h a _ k ?_ ?_ ?_ h4 ?_ ?_ he hd (r.same hs) (rgn_srun hM hk) ?_ ?_
  · intro i x hx
    simp [ancOf] at hx
  · have := congrArg List.length (idxOf_fst (P := P) (L := ops.toList) (an := ancs ops.toList (orderOf P ops.toList ops.toList.length (List.range ops.toList.length) []) []) [] (orderOf P ops.toList ops.toList.length (List.range ops.toList.length) []))
    rw [List.length_map, h1] at this
    simpa [canon] using this
  · intro i
    rw [hmem i]
    simp only [Array.getD_eq_getD_getElem?, Array.getElem?_replicate]
    by_cases hi : i < ops.size <;> simp [hi]
  · unfold canon
    rw [idxOf_fst]; exact g2
  · intro i hi
    simp only [Array.getD_eq_getD_getElem?, Array.getElem?_replicate] at hi
    by_cases hi' : i < ops.size <;> simp [hi'] at hi
  · intro pre x post hs j hj
    have := congrArg (List.map (·.1)) hs
    unfold canon at this
    rw [idxOf_fst, List.map_append, List.map_cons] at this
    rcases g3 _ _ _ this j hj with h | h
    · simp at h
    · exact .inr h
  · intro e' h' a' w' hk' he' hd' r' f'
    exact hn _ _ _ _ hk' he' hd' r' ((Frame.same hs).trans f')
  · intro c h' a' w' hc hd' r' f'
    exact hp _ _ _ _ hc hd' r' ((Frame.same hs).trans f')

/-- A list in which each is ready when it comes. -/
def LinF (ops : Array Oper) : Nat → Array Bool → List Nat → Prop
  | 0, _, l => l = []
  | n + 1, listed, l => (l = [] ∧ Region.ready .any ops listed = []) ∨ ∃ i l', l = i :: l' ∧ i ∈ Region.ready .any ops listed ∧ LinF ops n (listed.setIfInBounds i true) l'
theorem lin_go : ∀ (fuel t : Nat) (listed : Array Bool), LinF ops fuel listed (Region.linearise.go .any ops fuel t listed [])
  | 0, t, listed => by simp [LinF, Region.linearise.go]
  | fuel + 1, t, listed => by
    simp only [Region.linearise.go]
    change LinF ops (fuel + 1) listed (match (Region.ready .any ops listed)[t % (Region.ready .any ops listed).length]? with
      | some i => Region.linearise.go .any ops fuel (t / (Region.ready .any ops listed).length) (listed.setIfInBounds i true) [i]
      | none => [].reverse)
    cases hi : (Region.ready .any ops listed)[t % (Region.ready .any ops listed).length]? with
    | none =>
      have hnil : Region.ready .any ops listed = [] := by
        cases hr : Region.ready .any ops listed with
        | nil => rfl
        | cons x xs =>
          rw [hr] at hi
          have hlt : t % (x :: xs).length < (x :: xs).length := Nat.mod_lt _ (by simp)
          simp at hi
          simp at hlt
          omega
      exact .inl ⟨rfl, hnil⟩
    | some i =>
      dsimp only
      rw [linearise_go_acc, List.reverse_singleton, List.singleton_append]
      exact .inr ⟨i, _, rfl, List.mem_of_getElem? hi, lin_go fuel _ _⟩
theorem any_list : ∀ {n : Nat} {listed : Array Bool} {l : List Nat} {a : Act} {w : World}, wpAny P .any ops Q n listed a w → LinF ops n listed l → wpOps P ops Q l a w
  | 0, _, l, a, w, h, hl => by
    have : l = [] := hl
    subst this
    exact h.2
  | n + 1, _, l, a, w, h, hl => by
    rcases hl with ⟨rfl, hr⟩ | ⟨i, l', rfl, hi, hl⟩
    · exact h.1 hr
    · rw [wpOps_cons]
      exact wpOp_mono (fun a w h' => any_list h' hl) (h.2 i hi)
theorem addE_at {i j m : Nat} : (addE ops i j)[m]? = if m = j then (ops[m]?).map fun o => { o with after := o.after.push ⟨i, .chain⟩ } else ops[m]? := by
  unfold addE
  rw [Array.getElem?_modify]
  by_cases h : m = j
  · subst h; simp
  · rw [if_neg (fun e => h e.symm), if_neg h]
theorem ready_add {i j m : Nat} {listed : Array Bool} : m ∈ Region.ready .any (addE ops i j) listed ↔ m ∈ Region.ready .any ops listed ∧ (m = j → listed.getD i false = true) := by
  rw [mem_ready, mem_ready, addE_at]
  by_cases h : m = j
  · subst h
    simp only [if_true, forall_const]
    constructor
    · rintro ⟨h1, o, ho, h2⟩
      obtain ⟨o', ho', rfl⟩ := Option.map_eq_some_iff.mp ho
      refine ⟨⟨h1, o', ho', fun e he hb => h2 e (by simp [he]) hb⟩, h2 ⟨i, .chain⟩ (by simp) rfl⟩
    · rintro ⟨⟨h1, o, ho, h2⟩, h3⟩
      refine ⟨h1, { o with after := o.after.push ⟨i, .chain⟩ }, by rw [ho]; rfl, fun e he hb => ?_⟩
      rcases Array.mem_push.mp he with he | rfl
      · exact h2 e he hb
      · exact h3
  · simp only [h, if_false, false_implies, and_true]
theorem lin_add {i j : Nat} (hij : i ≠ j) : ∀ {n : Nat} {listed : Array Bool} {l : List Nat}, LinF ops n listed l → (listed.getD i false = true ∨ ∀ pre post, l = pre ++ j :: post → i ∈ pre) → LinF (addE ops i j) n listed l
  | 0, _, _, h, _ => h
  | n + 1, listed, l, h, hb => by
    rcases h with ⟨rfl, hr⟩ | ⟨m, l', rfl, hm, hl⟩
    · refine .inl ⟨rfl, ?_⟩
      cases hx : Region.ready .any (addE ops i j) listed with
      | nil => rfl
      | cons m _ =>
        have : m ∈ Region.ready .any (addE ops i j) listed := by rw [hx]; simp
        have := (ready_add.mp this).1
        rw [hr] at this; simp at this
    · refine .inr ⟨m, l', rfl, ready_add.mpr ⟨hm, fun e => ?_⟩, lin_add hij hl ?_⟩
      · subst e
        rcases hb with hb | hb
        · exact hb
        · have := hb [] l' rfl; simp at this
      · have hmu := (mem_ready.1 hm).1
        by_cases e : m = i
        · exact .inl ((listed_set' hmu).mpr (.inl e.symm))
        · rcases hb with hb | hb
          · exact .inl ((listed_set' hmu).mpr (.inr hb))
          · refine .inr fun pre post he => ?_
            have := hb (m :: pre) post (by rw [he]; rfl)
            rcases List.mem_cons.mp this with h1 | h1
            · exact absurd h1.symm e
            · exact h1
theorem ops_add {i j : Nat} : ∀ {l : List Nat} {a : Act} {w : World}, wpOps P (addE ops i j) Q l a w → wpOps P ops Q l a w
  | [], _, _, h => h
  | m :: l, a, w, h => by
    rw [wpOps_cons] at h ⊢
    have hy : yielded (addE ops i j) a.tmps = yielded ops a.tmps := by
      funext x
      unfold yielded
      rw [addE_at]
      by_cases hx : x = j
      · subst hx
        cases hox : ops[x]? <;> simp [hox]
      · rw [if_neg hx]
    have hK : ∀ a w, wpOps P (addE ops i j) Q l a w → wpOps P ops Q l a w := fun a w => ops_add
    unfold wpOp at h ⊢
    rw [addE_at, hy] at h
    by_cases hx : m = j
    · subst hx
      rw [if_pos rfl] at h
      cases ho : ops[m]? with
      | none => rw [ho] at h; exact hK _ _ h
      | some o =>
        rw [ho] at h
        have hg : Region.wanted { o with after := o.after.push ⟨i, .chain⟩ } (yielded ops a.tmps) = Region.wanted o (yielded ops a.tmps) := rfl
        simp only [Option.map_some, hg] at h ⊢
        split at h
        · rename_i hw
          rw [if_pos hw]
          rcases h with h | h
          · exact .inl (Oper.wp_mono hK h)
          · exact .inr h
        · rename_i hw
          rw [if_neg hw]
          exact hK _ _ h
    · rw [if_neg hx] at h
      cases ho : ops[m]? with
      | none => rw [ho] at h; exact hK _ _ h
      | some o =>
        rw [ho] at h
        dsimp only at h ⊢
        split at h
        · rename_i hw
          rw [if_pos hw]
          rcases h with h | h
          · exact .inl (Oper.wp_mono hK h)
          · exact .inr h
        · rename_i hw
          rw [if_neg hw]
          exact hK _ _ h
theorem first_of (i j : Nat) (hij : i ≠ j) : ∀ l : List Nat, (∀ pre post, l = pre ++ j :: post → i ∈ pre) ∨ (∀ pre post, l = pre ++ i :: post → j ∈ pre)
  | [] => .inl fun pre post h => by simp at h
  | m :: l => by
    by_cases h1 : m = i
    · refine .inl fun pre post h => ?_
      cases pre with
      | nil => simp only [List.nil_append, List.cons.injEq] at h; exact absurd (h1.symm.trans h.1) hij
      | cons x pre => simp only [List.cons_append, List.cons.injEq] at h; rw [← h.1, h1]; simp
    · by_cases h2 : m = j
      · refine .inr fun pre post h => ?_
        cases pre with
        | nil => simp only [List.nil_append, List.cons.injEq] at h; exact absurd (h.1.symm.trans h2) hij
        | cons x pre => simp only [List.cons_append, List.cons.injEq] at h; rw [← h.1, h2]; simp
      · rcases first_of i j hij l with h | h
        · refine .inl fun pre post he => ?_
          cases pre with
          | nil => simp only [List.nil_append, List.cons.injEq] at he; exact absurd he.1 h2
          | cons x pre => simp only [List.cons_append, List.cons.injEq] at he; exact List.mem_cons_of_mem _ (h pre post he.2)
        · refine .inr fun pre post he => ?_
          cases pre with
          | nil => simp only [List.nil_append, List.cons.injEq] at he; exact absurd he.1 h1
          | cons x pre => simp only [List.cons_append, List.cons.injEq] at he; exact List.mem_cons_of_mem _ (h pre post he.2)
def okDraw (P : Program) (ops : Array Oper) : Bool := match splitOf P ops with
  | none => okRgn P ops.toList
  | some (i, j) => !Nat.beq i j && (okRgn P (addE ops i j).toList && okRgn P (addE ops j i).toList)
theorem draw_sound (hw : P.follows .mixedOrders = true) (hC : Sound P C) (hM : Mono C) (hok : okDraw P ops = true) {id : Nat} {e : Env} {h : H} {a : Act} {w : World} {k : Env → H → Prop}
    (he : EnvR e a.tmps) (hd : a.defers = []) (r : Rel h w) (hk : rgnD P C ops e h k kp)
    (hn : ∀ e h' a w', k e h' → EnvR e a.tmps → a.defers = [] → Rel h' w' → Frame h w h' w' → Q .normal a w') (hp : ∀ c h' a w', kp c h' → a.defers = [] → Rel h' w' → Frame h w h' w' → Q (.panic c) a w') :
    (Code.region id ops true).wp P Q a w := by
  unfold rgnD at hk
  unfold okDraw at hok
  split at hk
  · rename_i hs
    simp only [hs] at hok
    exact wp_region_any hw (draw_any hC hM hok he hd r hk hn hp)
  · rename_i i j hs
    simp only [hs, Bool.and_eq_true, Bool.not_eq_true'] at hok
    obtain ⟨hij, h1, h2⟩ := hok
    have hij : i ≠ j := fun e => by subst e; simp at hij
    have size1 : ∀ i j, (addE ops i j).size = ops.size := fun i j => by simp [addE]
    refine wp_region_draw fun t => ?_
    simp only [Region.schedule, hw, Bool.true_or, if_true]
    have hl : LinF ops ops.size (Array.replicate ops.size false) (Region.linearise .any ops t) := lin_go _ _ _
    rcases first_of i j hij (Region.linearise .any ops t) with hb | hb
    · have := draw_any (ops := addE ops i j) hC hM h1 he hd r hk.1 hn hp
      rw [size1] at this
      exact ops_add (any_list this (lin_add hij hl (.inr hb)))
    · have := draw_any (ops := addE ops j i) hC hM h2 he hd r hk.2 hn hp
      rw [size1] at this
      exact ops_add (any_list this (lin_add (Ne.symm hij) hl (.inr hb)))
theorem text_sound (hC : Sound P C) {id : Nat} {e : Env} {h : H} {a : Act} {w : World} {k : Env → H → Prop}
    (he : EnvR e a.tmps) (hd : a.defers = []) (r : Rel h w) (hk : rgn P C ops (ops.toList.map fun o => (o, [])) e h k kp)
    (hn : ∀ e h' a w', k e h' → EnvR e a.tmps → a.defers = [] → Rel h' w' → Frame h w h' w' → Q .normal a w') (hp : ∀ c h' a w', kp c h' → a.defers = [] → Rel h' w' → Frame h w h' w' → Q (.panic c) a w') :
    (Code.region id ops false).wp P Q a w := by
  refine wp_region (seq_sound hC _ _ e h a w k ?_ ?_ he hd r hk hn hp)
  · rw [List.map_map]
    have := filterMap_range ops.toList
    simp only [Array.getElem?_toList, Array.length_toList] at this
    rw [this]
    exact List.map_id _
  · intro i hi
    have := List.mem_range.mp hi
    exact ⟨ops[i], by simp [this]⟩
end
end Go.Proofs.YtnlhnlmnlfmojaaDoor.Am

namespace Go.Proofs.YtnlhnlmnlfmojaaDoor.Am
open Go
set_option linter.unusedSimpArgs false
variable {P : Program} {C : Orc} {L : Lor} {lv : Lv}

def X.ex : X → Exit
  | .n => .normal
  | .e i => .exit i
  | .r => .ret
  | .p c => .panic c
def At (x : X) (e : Env) (a : Act) : Prop := match x with
  | .p _ => True
  | _ => EnvR e a.tmps
def Post (K : Kx) (h : H) (w : World) (Q : Exit → Act → World → Prop) : Prop :=
  ∀ x e h' a w', K x e h' → At x e a → a.defers = [] → Rel h' w' → Frame h w h' w' → Q x.ex a w'
theorem Post.later {K : Kx} {h h' : H} {w w' : World} {Q : Exit → Act → World → Prop} (p : Post K h w Q) (f : Frame h w h' w') : Post K h' w' Q :=
  fun x e h'' a w'' hk ha hd r f' => p x e h'' a w'' hk ha hd r (f.trans f')

theorem tyW_inv {d : Kd} {v : Value} {k : Value → Prop} (hk : tyW d v k) : k v := by
  unfold tyW at hk
  cases d with
  | raw => exact hk
  | int j =>
    obtain ⟨n, rfl, hk1⟩ := intK_inv hk
    exact hk1
  | bool => obtain ⟨b, rfl, hk⟩ := boolW_inv hk; exact hk
  | str => obtain ⟨b, rfl, hk⟩ := strW_inv hk; exact hk
theorem openArgs_inv : ∀ {ds : List Kd} {vs : List Value} {k : List Value → Prop}, openArgs ds vs k → k vs
  | [], _, _, hk => hk
  | _ :: _, [], _, hk => hk
  | d :: ds, v :: vs, k, hk => openArgs_inv (ds := ds) (vs := vs) (k := fun vs => k (v :: vs)) (tyW_inv (k := fun v => openArgs ds vs fun vs => k (v :: vs)) hk)
theorem buildk_inv {n : Nat} : ∀ {l : List (Nat × Kd)} {vs : List Value} {j : Nat} {k : Env → Prop}, buildk n l vs j k → k (buildFrom n l vs j)
  | [], _, _, k, hk => hk
  | (s, d) :: ss, vs, j, k, hk => by
    have hk := tyW_inv (k := fun v => buildk n ss vs (j + 1) fun e => setk e s (some v) k) hk
    have := buildk_inv (n := n) (l := ss) (vs := vs) (j := j + 1) (k := fun e => setk e s (some (nth vs j)) k) hk
    exact setk_eq.mp this
theorem EnvR.know {e : Env} {tmps : Array Value} (r : EnvR e tmps) {s : Nat} {v : Value} (hv : tmps[s]? = some v) : EnvR (e.set s (some v)) tmps := by
  refine ⟨by simp [r.1], fun t u ht => ?_⟩
  rw [List.getElem?_set] at ht
  split at ht
  · rename_i h1
    subst h1
    split at ht
    · simp at ht; subst ht; exact hv
    · simp at ht
  · exact r.2 t u ht
/-- The slots hold these values. -/
def Holds (tmps : Array Value) (l : List (Nat × Kd)) (vs : List Value) : Prop := ∀ j s, l[j]? = some s → tmps[s.1]? = some (nth vs j)
theorem projk_inv {e : Env} {tmps : Array Value} (r : EnvR e tmps) : ∀ {l : List (Nat × Kd)} {k : List Value → Prop}, projk e l k → ∃ vs, k vs ∧ Holds tmps l vs
  | [], k, hk => ⟨[], hk, fun j s h => by simp at h⟩
  | (s, d) :: ss, k, hk => by
    obtain ⟨v, hv, hk⟩ := getk_inv hk
    obtain ⟨vs, hk, hr⟩ := projk_inv r hk
    refine ⟨v :: vs, hk, fun j t ht => ?_⟩
    cases j with
    | zero => simp at ht; subst ht; exact r.2 _ _ hv
    | succ j => exact hr j t (by simpa using ht)
theorem build_holds {tmps : Array Value} {vs : List Value} : ∀ {l : List (Nat × Kd)} {j : Nat}, (∀ i s, l[i]? = some s → tmps[s.1]? = some (nth vs (j + i))) → EnvR (buildFrom tmps.size l vs j) tmps
  | [], _, _ => by simp [buildFrom, EnvR, List.getElem?_replicate]
  | (s, d) :: ss, j, h => by
    have h0 := h 0 (s, d) (by simp)
    have hr := build_holds (tmps := tmps) (vs := vs) (l := ss) (j := j + 1) fun i t ht => by
      have := h (i + 1) t (by simpa using ht)
      rw [this]; congr 2; omega
    exact hr.know h0
theorem projk_build {e : Env} {tmps : Array Value} (r : EnvR e tmps) {l : List (Nat × Kd)} {k : List Value → Prop} (hk : projk e l k) : ∃ vs, k vs ∧ EnvR (buildFrom tmps.size l vs 0) tmps := by
  obtain ⟨vs, h1, h2⟩ := projk_inv r hk
  exact ⟨vs, h1, build_holds fun i s hs => by rw [h2 i s hs]; simp⟩
theorem fits_inv {n : Nat} {e : Env} {k : Prop} (hk : fits n e k) : e.length = n ∧ k := by
  unfold fits at hk
  split at hk
  · rename_i h1; exact ⟨Nat.eq_of_beq_eq_true h1, hk⟩
  · exact hk.elim
theorem keepk_inv {n : Nat} {l : List (Nat × Kd)} {e : Env} {k : Env → Prop} {tmps : Array Value} (r : EnvR e tmps) (hk : keepk n l e k) : ∃ e', k e' ∧ EnvR e' tmps := by
  obtain ⟨hl, hk⟩ := fits_inv hk
  obtain ⟨vs, hk, hr⟩ := projk_build r hk
  have hk := buildk_inv hk
  rw [← r.1, hl] at hr
  exact ⟨_, hk, hr⟩
theorem meet_inv {b : Code} {e : Env} {h : H} {F : Env → H → Prop} {tmps : Array Value} (r : EnvR e tmps) (hk : meet lv b e h F) : ∃ e', F e' h ∧ EnvR e' tmps := by
  unfold meet at hk
  split at hk
  · split at hk
    · exact keepk_inv r hk
    · exact ⟨e, hk, r⟩
  · exact ⟨e, hk, r⟩
/-- What holds behind a loop, from the values that it is left with. -/
def AtL (lv : Lv) (id : Nat) (x : X) (vs : List Value) (a : Act) : Prop := match x with
  | .n => False
  | .p _ => True
  | .r => lv.n = a.tmps.size ∧ Holds a.tmps lv.ret vs
  | .e i => lv.n = a.tmps.size ∧ ∃ l, pick i (fun _ l' => l' = l) (lv.ext id) ∧ Holds a.tmps l vs
theorem pick_same {i : Nat} {f : Nat → List (Nat × Kd) → Prop} {l : List (Nat × Kd)} : ∀ {r : List (Nat × List (Nat × Kd))}, pick i f r → pick i (fun _ l' => l' = l) r → f i l
  | [], hk, _ => hk.elim
  | (j, m) :: r, hk, hl => by
    unfold pick at hk hl
    cases h1 : Nat.beq i j with
    | true =>
      obtain rfl := Nat.eq_of_beq_eq_true h1
      simp only [h1, cond_true] at hk hl
      subst hl; exact hk
    | false =>
      simp only [h1, cond_false] at hk hl
      exact pick_same hk hl
theorem pick_find {i : Nat} {f : Nat → List (Nat × Kd) → Prop} : ∀ {r : List (Nat × List (Nat × Kd))}, pick i f r → ∃ l, pick i (fun _ l' => l' = l) r ∧ f i l
  | [], hk => hk.elim
  | (j, m) :: r, hk => by
    unfold pick at hk
    cases h1 : Nat.beq i j with
    | true =>
      obtain rfl := Nat.eq_of_beq_eq_true h1
      simp only [h1, cond_true] at hk
      exact ⟨m, by unfold pick; simp only [h1, cond_true], hk⟩
    | false =>
      simp only [h1, cond_false] at hk
      obtain ⟨l, h2, h3⟩ := pick_find hk
      exact ⟨l, by unfold pick; simp only [h1, cond_false]; exact h2, h3⟩
theorem quit_inv {id : Nat} {K : Kl} {x : X} {e : Env} {h : H} {a : Act} (ha : At x e a) (hk : quit lv id K x e h) : ∃ vs, K x vs h ∧ AtL lv id x vs a := by
  unfold quit at hk
  cases x with
  | n => exact hk.elim
  | r =>
    obtain ⟨hl, hk⟩ := fits_inv hk
    obtain ⟨vs, h1, h2⟩ := projk_inv ha hk
    exact ⟨vs, h1, by rw [← hl]; exact ha.1, h2⟩
  | e i =>
    obtain ⟨hl, hk⟩ := fits_inv hk
    obtain ⟨l, h1, hk⟩ := pick_find hk
    obtain ⟨vs, h3, h2⟩ := projk_inv ha hk
    exact ⟨vs, h3, by rw [← hl]; exact ha.1, l, h1, h2⟩
  | p c => exact ⟨[], hk, trivial⟩
theorem leave_inv {id : Nat} {K : Kx} {x : X} {vs : List Value} {h : H} {a : Act} (ha : AtL lv id x vs a) (hk : leave lv id K x vs h) : ∃ e', K x e' h ∧ At x e' a := by
  unfold leave at hk
  cases x with
  | n => exact hk.elim
  | r =>
    have hk := buildk_inv hk
    refine ⟨_, hk, ?_⟩
    rw [ha.1]
    exact build_holds fun i s hs => by rw [ha.2 i s hs]; simp
  | e i =>
    obtain ⟨hn, l, h1, h2⟩ := ha
    have hk := buildk_inv (pick_same hk h1)
    refine ⟨_, hk, ?_⟩
    rw [hn]
    exact build_holds fun i s hs => by rw [h2 i s hs]; simp
  | p c => exact ⟨[], hk, trivial⟩
def PostL (lv : Lv) (id : Nat) (K : Kl) (h : H) (w : World) (Q : Exit → Act → World → Prop) : Prop :=
  ∀ x vs h' a w', K x vs h' → AtL lv id x vs a → a.defers = [] → Rel h' w' → Frame h w h' w' → Q x.ex a w'

def SoundLoop (P : Program) (L : Lor) (lv : Lv) (b : Code) : Prop :=
  ∀ i, firstId b = some i → ∀ vs h K a w Q, L b vs h K → EnvR (buildFrom lv.n (lv.head i) vs 0) a.tmps → a.defers = [] → Rel h w → PostL lv i K h w Q → (Code.loop b).wp P Q a w
def loopsOf : Code → List Code
  | .seq a b => loopsOf a ++ loopsOf b
  | .cond _ a b => loopsOf a ++ loopsOf b
  | .block _ a => loopsOf a
  | .loop a => [a]
  | _ => []
def okCode (P : Program) : Code → Bool
  | .region _ ops draw => !draw || okDraw P ops
  | .seq a b => okCode P a && okCode P b
  | .cond _ a b => okCode P a && okCode P b
  | .block _ a => okCode P a
  | .loop a => okCode P a
  | _ => true

theorem exec_sound (hw : P.follows .mixedOrders = true) (hC : Sound P C) (hM : Mono C) : ∀ (c : Code), okCode P c = true → (∀ b ∈ loopsOf c, SoundLoop P L lv b) →
    ∀ {e : Env} {h : H} {a : Act} {w : World} {K : Kx} {Q : Exit → Act → World → Prop}, exec P C L lv c e h K → EnvR e a.tmps → a.defers = [] → Rel h w → Post K h w Q → c.wp P Q a w := by
  intro c
  induction c with
  | skip => intro _ _ e h a w K Q hk he hd r p; exact wp_skip (p .n e h a w hk he hd r (Frame.refl _ _))
  | exit id => intro _ _ e h a w K Q hk he hd r p; exact wp_exit (p (.e id) e h a w hk he hd r (Frame.refl _ _))
  | ret => intro _ _ e h a w K Q hk he hd r p; exact wp_ret (p .r e h a w hk he hd r (Frame.refl _ _))
  | region id ops draw =>
    intro hok _ e h a w K Q hk he hd r p
    cases draw with
    | false => exact text_sound hC he hd r hk (fun e h' a w' hk' he' hd' r' f => p .n e h' a w' hk' he' hd' r' f) (fun c h' a w' hc hd' r' f => p (.p c) [] h' a w' hc trivial hd' r' f)
    | true => exact draw_sound hw hC hM (by simpa [okCode] using hok) he hd r hk (fun e h' a w' hk' he' hd' r' f => p .n e h' a w' hk' he' hd' r' f) (fun c h' a w' hc hd' r' f => p (.p c) [] h' a w' hc trivial hd' r' f)
  | seq x y ihx ihy =>
    intro hok hl e h a w K Q hk he hd r p
    simp only [okCode, Bool.and_eq_true] at hok
    refine wp_seq (ihx hok.1 (fun b hb => hl b (by simp [loopsOf, hb])) hk he hd r ?_)
    intro x e' h' a' w' hk' ha' hd' r' f
    cases x with
    | n =>
      obtain ⟨e'', hk'', he''⟩ := meet_inv ha' hk'
      exact ihy hok.2 (fun b hb => hl b (by simp [loopsOf, hb])) hk'' he'' hd' r' (p.later f)
    | e i => exact p (.e i) e' h' a' w' hk' ha' hd' r' f
    | r => exact p .r e' h' a' w' hk' ha' hd' r' f
    | p c => exact p (.p c) e' h' a' w' hk' trivial hd' r' f
  | cond c x y ihx ihy =>
    intro hok hl e h a w K Q hk he hd r p
    simp only [okCode, Bool.and_eq_true] at hok
    have hk := ev_inv he hk
    obtain ⟨t, ht, hk'⟩ := boolW_inv hk
    refine wp_cond ht ?_
    cases t with
    | true => exact ihx hok.1 (fun b hb => hl b (by simp [loopsOf, hb])) hk' he hd r p
    | false => exact ihy hok.2 (fun b hb => hl b (by simp [loopsOf, hb])) hk' he hd r p
  | block id x ih =>
    intro hok hl e h a w K Q hk he hd r p
    refine wp_block (ih hok hl hk he hd r ?_)
    intro x e' h' a' w' hk' ha' hd' r' f
    cases x with
    | n => exact p .n e' h' a' w' hk' ha' hd' r' f
    | e i =>
      dsimp only at hk'
      simp only [X.ex, Exit.inBlock]
      split at hk'
      · rename_i h1
        rw [if_pos (Nat.eq_of_beq_eq_true h1)]
        exact p .n e' h' a' w' hk' ha' hd' r' f
      · rename_i h1
        rw [if_neg (Nat.ne_of_beq_eq_false h1)]
        exact p (.e i) e' h' a' w' hk' ha' hd' r' f
    | r => exact p .r e' h' a' w' hk' ha' hd' r' f
    | p c => exact p (.p c) e' h' a' w' hk' trivial hd' r' f
  | loop b ih =>
    intro hok hl e h a w K Q hk he hd r p
    unfold exec at hk
    split at hk
    · rename_i i hi
      obtain ⟨hn, hk⟩ := fits_inv hk
      obtain ⟨vs, hk, hr⟩ := projk_build he hk
      rw [← he.1, hn] at hr
      refine hl b (by simp [loopsOf]) i hi vs h (leave lv i K) a w Q hk hr hd r ?_
      intro x vs' h' a' w' hk' ha' hd' r' f
      obtain ⟨e'', hk'', ha''⟩ := leave_inv ha' hk'
      exact p x e'' h' a' w' hk'' ha'' hd' r' f
    · exact hk.elim
  | _ => intro _ _ e h a w K Q hk; exact hk.elim

/-- A loop that is the least that its rounds make. -/
theorem loop_sound (hw : P.follows .mixedOrders = true) (hC : Sound P C) (hM : Mono C) {b : Code} (hok : okCode P b = true) (hin : ∀ c ∈ loopsOf b, SoundLoop P L lv c)
    (hL : ∀ vs h K, L b vs h K → ∀ I : List Value → H → Prop, (∀ vs h, round P C L lv b I K vs h → I vs h) → I vs h) : SoundLoop P L lv b := by
  intro i hi vs h K a w Q hk he hd r p
  intro fb k cs
  have key := hL vs h K hk (fun vs h' => ∀ a w', EnvR (buildFrom lv.n (lv.head i) vs 0) a.tmps → a.defers = [] → Rel h' w' → Frame h w h' w' →
      ∃ e a' w'', Q e a' w'' ∧ Arrives P (lone (fb.at a (.code b :: .inLoop b :: k)) cs w') fb k cs e a' w'') ?_ a w he hd r (Frame.refl _ _)
  · obtain ⟨e, a', w', hq, harr⟩ := key
    exact ⟨e, a', w', hq, .of_steps (.one step_loop) harr⟩
  · intro vs h' hr a w' he hd r f
    unfold round at hr
    simp only [hi] at hr
    have hr := buildk_inv hr
    have hwp := exec_sound (Q := Exit.then (fun a' w'' => ∃ e a'' w''', Q e a'' w''' ∧ Arrives P (lone (fb.at a' (.code b :: .inLoop b :: k)) cs w'') fb k cs e a'' w''') Q) hw hC hM b hok hin hr he hd r ?_
    · obtain ⟨e, a₁, w₁, hq, harr⟩ := hwp fb (.inLoop b :: k) cs
      cases e with
      | normal =>
        obtain ⟨e₂, a₂, w₂, hq₂, harr₂⟩ := hq
        exact ⟨e₂, a₂, w₂, hq₂, .of_steps (Steps.trans harr (.one step_inLoop)) harr₂⟩
      | exit id => exact ⟨_, a₁, w₁, hq, .pass (x := .inLoop b) rfl (fun _ _ => .inl (by simp)) harr⟩
      | goto l => exact ⟨_, a₁, w₁, hq, .pass (x := .inLoop b) rfl (fun _ _ => .inl (by simp)) harr⟩
      | ret => exact ⟨_, a₁, w₁, hq, .pass (x := .inLoop b) rfl (fun _ _ => .inl (by simp)) harr⟩
      | panic ch => exact ⟨_, a₁, w₁, hq, .pass (x := .inLoop b) rfl (fun _ _ => .inl (by simp)) harr⟩
      | outgrown => exact ⟨_, a₁, w₁, hq, .pass (x := .inLoop b) rfl (fun _ _ => .inl (by simp)) harr⟩
    · intro x e' h'' a' w'' hk' ha' hd' r' f'
      cases x with
      | n =>
        obtain ⟨hn, hk'⟩ := fits_inv hk'
        obtain ⟨vs', hI, hr'⟩ := projk_build ha' hk'
        rw [← ha'.1, hn] at hr'
        exact hI a' w'' hr' hd' r' (f.trans f')
      | e j =>
        obtain ⟨vs', h1, h2⟩ := quit_inv ha' hk'
        exact p (.e j) vs' h'' a' w'' h1 h2 hd' r' (f.trans f')
      | r =>
        obtain ⟨vs', h1, h2⟩ := quit_inv ha' hk'
        exact p .r vs' h'' a' w'' h1 h2 hd' r' (f.trans f')
      | p c => exact p (.p c) [] h'' a' w'' hk' trivial hd' r' (f.trans f')

/-- The model's own calls, as an oracle. -/
def CS (P : Program) : Orc := fun f args h k kp => ∀ w R, Rel h w →
  (∀ v h' w', k v h' → Rel h' w' → Frame h w h' w' → R (.returned v) w') → (∀ c h' w', kp c h' → Rel h' w' → Frame h w h' w' → R (.panicked c) w') → Calls P f args.toArray w R
theorem CS_sound : Sound P (CS P) := fun _ _ _ _ _ h w R r hv hp => h w R r hv hp
theorem CS_mono : Mono (CS P) := fun _ _ _ _ _ _ _ hk hp h w R r hv hc => h w R r (fun v h' w' x => hv v h' w' (hk v h' x)) (fun c h' w' x => hc c h' w' (hp c h' x))

def resv (tmps : Array Value) : ResultVar → Sem Value
  | .tmp t => pure (tmps.getD t undef)
  | .cell a t => do loadVar t (← asAddr (tmps.getD a undef))

theorem resW_run {h : H} {w : World} (r : Rel h w) {e : Env} {tmps : Array Value} (he : EnvR e tmps) : ∀ {rs : List ResultVar} {k : List Value → Prop}, resW P h e rs k →
    ∃ vs, k vs ∧ (rs.mapM (resv tmps)).run P w = .ok vs w
  | [], k, hk => ⟨[], hk, by simp⟩
  | .tmp t :: rs, k, hk => by
    obtain ⟨v, hv, hk⟩ := getk_inv hk
    obtain ⟨vs, hk, hr⟩ := resW_run r he hk
    have := he.2 _ _ hv
    exact ⟨v :: vs, hk, by simp only [List.mapM_cons, Sem.run_bind, resv, Sem.run_pure, Result.andThen_ok, hr]; simp [this]⟩
  | .cell t ty :: rs, k, hk => by
    obtain ⟨v, hv, hk'⟩ := getk_inv hk
    clear hk
    obtain ⟨ad, rfl, hk⟩ := ptrW_inv hk'
    clear hk'
    have ht := he.2 _ _ hv
    have hq : ∀ {x : Value}, (loadVar ty ad).run P w = .ok x w → (resv tmps (.cell t ty)).run P w = .ok x w := by
      intro x hx
      simp only [resv, Array.getD_eq_getD_getElem?, ht, Option.getD_some, Sem.run_bind, asAddr, Sem.run_pure, Result.andThen_ok, hx]
    split at hk
    · rename_i hag
      split at hk
      · obtain ⟨cs, h1, hk⟩ := exL_inv hk
        obtain ⟨vs, hk, hr⟩ := resW_run r he hk
        have := load_sound_agg r hag h1
        simp [Instr.loadAt, Instr.sureAddr] at this
        refine ⟨_, hk, ?_⟩
        simp only [List.mapM_cons, Sem.run_bind, hq this, Sem.run_pure, Result.andThen_ok, hr]
      · exact hk.elim
    · rename_i hag
      split at hk
      · rename_i d hd
        obtain ⟨u, h1, hk⟩ := exLeaf_inv hk
        obtain ⟨vs, hk, hr⟩ := resW_run r he hk
        have := load_sound_one r hd hag h1
        simp [Instr.loadAt, Instr.sureAddr] at this
        refine ⟨_, hk, ?_⟩
        simp only [List.mapM_cons, Sem.run_bind, hq this, Sem.run_pure, Result.andThen_ok, hr]
      · exact hk.elim

theorem results_run {fn : Func} {h : H} {w : World} (r : Rel h w) {e : Env} {tmps : Array Value} (he : EnvR e tmps) {k : List Value → Prop} (hk : resW P h e fn.results.toList k) :
    ∃ vs, k vs ∧ (results fn tmps).run P w = .ok (tupOf vs) w := by
  obtain ⟨vs, h1, h2⟩ := resW_run r he hk
  refine ⟨vs, h1, ?_⟩
  have e1 : results fn tmps = (do
    let vs ← fn.results.mapM (resv tmps)
    pure (if h : vs.size = 1 then vs[0] else .tuple vs)) := by
    unfold results
    congr 2
  rw [e1, Array.mapM_eq_mapM_toList]
  simp only [Sem.run_bind, Sem.run_map, map_eq_pure_bind, h2, Result.andThen_ok, Sem.run_pure]
  rcases vs with _ | ⟨v, _ | ⟨u, vs⟩⟩ <;> simp [tupOf]

theorem startEnv_ok {n : Nat} {args : List Value} : EnvR (startEnv n args) (args.toArray ++ Array.replicate (n - args.toArray.size) undef) := by
  refine ⟨by simp [startEnv], fun s v hs => ?_⟩
  unfold startEnv at hs
  rw [List.getElem?_append] at hs
  split at hs
  · rename_i hlt
    have hlt' : s < args.length := by simpa using hlt
    rw [Array.getElem?_append, if_pos (by simpa using hlt')]
    simpa using hs
  · rw [List.getElem?_replicate] at hs
    split at hs <;> simp at hs

theorem body_sound (hw : P.follows .mixedOrders = true) {f : FuncId} {fn : Func} {c : Code} (hf : P.funcs[f]? = some fn) (hb : fn.body = some c) (hok : okCode P c = true) (hl : ∀ b ∈ loopsOf c, SoundLoop P L lv b)
    {args : List Value} {h : H} {k : Kv} {kp : Kp} (hk : bodyW P (CS P) L lv fn args h k kp) : CS P f args h k kp := by
  intro w R r hv hp
  unfold bodyW at hk
  simp only [hb] at hk
  have hk := openArgs_inv hk
  refine calls_of_wp hf hb (exec_sound hw CS_sound CS_mono c hok hl hk startEnv_ok rfl r ?_)
  intro x e h' a w' hk' ha hd r' f'
  cases x with
  | n =>
    obtain ⟨vs, h1, h2⟩ := results_run r' ha hk'
    exact ⟨hd, _, h2, hv _ _ _ h1 r' f'⟩
  | r =>
    obtain ⟨vs, h1, h2⟩ := results_run r' ha hk'
    exact ⟨hd, _, h2, hv _ _ _ h1 r' f'⟩
  | e i => exact hk'.elim
  | p c => exact ⟨hd, hp _ _ _ hk' r' f'⟩
end Go.Proofs.YtnlhnlmnlfmojaaDoor.Am

namespace Go.Proofs.YtnlhnlmnlfmojaaDoor.Am
open Go
variable {P : Program} {L : Lor} {lv : Lv}

def bodyOf (fn : Func) : Code := fn.body.getD .skip
def allLoops : Code → List Code
  | .seq a b => allLoops a ++ allLoops b
  | .cond _ a b => allLoops a ++ allLoops b
  | .block _ a => allLoops a
  | .loop a => a :: allLoops a
  | _ => []
def nthC : List Code → Nat → Code
  | [], _ => .skip
  | c :: _, 0 => c
  | _ :: cs, n + 1 => nthC cs n
def Lfp (P : Program) (C : Orc) (L : Lor) (lv : Lv) (b : Code) : Prop :=
  ∀ vs h K, L b vs h K → ∀ I : List Value → H → Prop, (∀ vs h, round P C L lv b I K vs h → I vs h) → I vs h
def Lfps (P : Program) (C : Orc) (L : Lor) (lv : Lv) : List Code → Prop
  | [] => True
  | b :: bs => Lfp P C L lv b ∧ Lfps P C L lv bs
theorem Lfps.all {C : Orc} : ∀ {bs : List Code}, Lfps P C L lv bs → ∀ b ∈ bs, Lfp P C L lv b
  | [], _, b, hb => by simp at hb
  | c :: cs, h, b, hb => by
    rcases List.mem_cons.mp hb with rfl | hb
    · exact h.1
    · exact Lfps.all h.2 b hb

theorem loops_sound (hw : P.follows .mixedOrders = true) {C : Orc} (hC : Sound P C) (hM : Mono C) : ∀ (c : Code), okCode P c = true → (∀ b ∈ allLoops c, Lfp P C L lv b) → ∀ b ∈ loopsOf c, SoundLoop P L lv b := by
  intro c
  induction c with
  | seq a b iha ihb =>
    intro hok hl x hx
    simp only [okCode, Bool.and_eq_true] at hok
    simp only [loopsOf, List.mem_append] at hx
    rcases hx with hx | hx
    · exact iha hok.1 (fun y hy => hl y (by simp [allLoops, hy])) x hx
    · exact ihb hok.2 (fun y hy => hl y (by simp [allLoops, hy])) x hx
  | cond c a b iha ihb =>
    intro hok hl x hx
    simp only [okCode, Bool.and_eq_true] at hok
    simp only [loopsOf, List.mem_append] at hx
    rcases hx with hx | hx
    · exact iha hok.1 (fun y hy => hl y (by simp [allLoops, hy])) x hx
    · exact ihb hok.2 (fun y hy => hl y (by simp [allLoops, hy])) x hx
  | block id a ih => intro hok hl x hx; exact ih hok hl x hx
  | loop a ih =>
    intro hok hl x hx
    simp only [loopsOf, List.mem_singleton] at hx
    subst hx
    exact loop_sound hw hC hM hok (ih hok fun y hy => hl y (by simp [allLoops, hy])) (hl x (by simp [allLoops]))
  | _ => intro _ _ x hx; simp [loopsOf] at hx

theorem fn_sound (hw : P.follows .mixedOrders = true) {f : FuncId} {fn : Func} (hf : P.funcs[f]? = some fn) (hb : fn.body = some (bodyOf fn)) (hok : okCode P (bodyOf fn) = true)
    (hl : Lfps P (CS P) L lv (allLoops (bodyOf fn))) {args : List Value} {h : H} {k : Kv} {kp : Kp} (hk : bodyW P (CS P) L lv fn args h k kp) : CS P f args h k kp :=
  body_sound hw hf hb hok (loops_sound hw CS_sound CS_mono _ hok hl.all) hk
end Go.Proofs.YtnlhnlmnlfmojaaDoor.Am

namespace Go.Proofs.YtnlhnlmnlfmojaaDoor.Am
open Go
set_option linter.unusedSimpArgs false
variable {h h' h'' : H} {s : Value} {vs : List Value}

/-! ### forms laid open -/
theorem ikEq_self (j : IntKind) : ikEq j j = true := by cases j <;> rfl
theorem intK_int {j : IntKind} {n : Int} {k : Int → Prop} : intK j (.int j n) k = k n := by simp only [intK, ikEq_self]
theorem intW_int {j : IntKind} {n : Int} {k : IntKind → Int → Prop} : intW (.int j n) k = k j n := rfl
theorem boolW_bool {b : Bool} {k : Bool → Prop} : boolW (.bool b) k = k b := rfl
theorem strW_string {x : ByteArray} {k : ByteArray → Prop} : strW (.string x) k = k x := rfl
theorem ptrW_ptr {a : Addr} {k : Addr → Prop} : ptrW (.pointer (some a)) k = k a := rfl
theorem aggW_agg {cs : Array Value} {k : List Value → Prop} : aggW (.agg cs) k = k cs.toList := rfl
theorem lenW_slice {a : Option Addr} {n c : Nat} {k : Nat → Prop} : lenW (.slice a n c) k = k n := rfl
theorem slenW_slice {a : Option Addr} {n c : Nat} {k : Nat → Prop} : slenW (.slice a n c) k = k n := rfl
theorem one_int {j : IntKind} {n : Int} : one (.int j n) = true := rfl
theorem nth0 {v : Value} {l : List Value} : nth (v :: l) 0 = v := rfl
theorem nthS {v : Value} {l : List Value} {n : Nat} : nth (v :: l) (n + 1) = nth l n := rfl
theorem nth1 {a b : Value} {l : List Value} : nth (a :: b :: l) 1 = b := rfl
theorem nth2 {a b c : Value} {l : List Value} : nth (a :: b :: c :: l) 2 = c := rfl
theorem nth3 {a b c d : Value} {l : List Value} : nth (a :: b :: c :: d :: l) 3 = d := rfl
theorem nth4 {a b c d e : Value} {l : List Value} : nth (a :: b :: c :: d :: e :: l) 4 = e := rfl
theorem xs_r {r : Prop} {e : Nat → Prop} {p : List PanicEntry → Prop} : xs .r r e p = r := rfl
theorem xs_e {i : Nat} {r : Prop} {e : Nat → Prop} {p : List PanicEntry → Prop} : xs (.e i) r e p = e i := rfl
theorem xs_p {c : List PanicEntry} {r : Prop} {e : Nat → Prop} {p : List PanicEntry → Prop} : xs (.p c) r e p = p c := rfl
theorem cond_split {t : Bool} {A B : Prop} : cond t A B ↔ (t = true → A) ∧ (t = false → B) := by cases t <;> simp
theorem cond_dec {p : Prop} [Decidable p] {A B : Prop} : cond (decide p) A B ↔ (p → A) ∧ (¬ p → B) := by by_cases hp : p <;> simp [hp]
theorem cond_not {t : Bool} {A B : Prop} : cond (!t) A B = cond t B A := by cases t <;> rfl
theorem cond_eq {a b : Int} {A B : Prop} : cond (a == b) A B ↔ (a = b → A) ∧ (a ≠ b → B) := by by_cases hp : a = b <;> simp [hp]
theorem cond_ne {a b : Int} {A B : Prop} : cond (a != b) A B ↔ (a ≠ b → A) ∧ (a = b → B) := by by_cases hp : a = b <;> simp [hp]
theorem i64_id {n : Int} (h0 : -9223372036854775808 ≤ n) (h1 : n ≤ 9223372036854775807) : IntKind.i64.wrap n = n := IntWalk.i64_in n ⟨h0, h1⟩
theorem u64_id {n : Int} (h0 : 0 ≤ n) (h1 : n ≤ 18446744073709551615) : IntKind.u64.wrap n = n := IntWalk.u64_in n ⟨h0, h1⟩
theorem u32_id {n : Int} (h0 : 0 ≤ n) (h1 : n ≤ 4294967295) : IntKind.u32.wrap n = n := IntWalk.u32_in n ⟨h0, h1⟩
theorem u32_mod (n : Int) : IntKind.u32.wrap n = n % 4294967296 := IntKind.wrap_u32 n
theorem shr32 {n : Int} : Int.fdiv n (2 ^ (min (Int.toNat (32 : Int)) (IntKind.bits .u64))) = n / 4294967296 := by
  have : (2 : Int) ^ (min (Int.toNat (32 : Int)) (IntKind.bits .u64)) = 4294967296 := by decide
  rw [this, Int.fdiv_eq_ediv_of_nonneg _ (by omega)]

/-! ### what stays -/
def Ext (h h' : H) : Prop := ∀ b o, h b = some o → h' b = some o
def ExtBut (c : Nat) (h h' : H) : Prop := ∀ b o, b ≠ c → h b = some o → h' b = some o
theorem Ext.refl (h : H) : Ext h h := fun _ _ x => x
theorem Ext.trans (e : Ext h h') (f : Ext h' h'') : Ext h h'' := fun b o x => f b o (e b o x)
theorem Ext.new {b : Nat} {o : VObj} (hb : h b = none) : Ext h (h.set b o) := fun c u hc => by
  unfold H.set
  by_cases hcb : c = b
  · subst hcb; rw [hb] at hc; cases hc
  · rw [if_neg hcb]; exact hc
theorem Ext.but (e : Ext h h') {c : Nat} (hc : h c = none) (f : ExtBut c h' h'') : Ext h h'' := fun b o hb =>
  f b o (fun x => by rw [x, hc] at hb; cases hb) (e b o hb)
theorem Ext.set {c : Nat} {o : VObj} (e : Ext h h') (hc : h c = none) : Ext h (h'.set c o) := fun b u hb => by
  unfold H.set
  have : b ≠ c := fun x => by rw [x, hc] at hb; cases hb
  rw [if_neg this]; exact e b u hb
theorem Ext.free (e : Ext h h') {c : Nat} (hc : h' c = none) : h c = none := by
  cases hx : h c with
  | none => rfl
  | some o => rw [e c o hx] at hc; cases hc
theorem ExtBut.refl (c : Nat) (h : H) : ExtBut c h h := fun _ _ _ x => x
theorem ExtBut.trans {c : Nat} (e : ExtBut c h h') (f : ExtBut c h' h'') : ExtBut c h h'' := fun b o hb x => f b o hb (e b o hb x)
theorem Ext.to {c : Nat} (e : Ext h h') : ExtBut c h h' := fun b o _ x => e b o x
theorem ExtBut.set {c : Nat} {o : VObj} : ExtBut c h (h.set c o) := fun b u hb hx => by
  unfold H.set; rw [if_neg hb]; exact hx
theorem set_here {b : Nat} {o : VObj} : h.set b o b = some o := by simp [H.set]
theorem set_away {b c : Nat} {o : VObj} (hb : b ≠ c) : h.set c o b = h b := by simp [H.set, hb]
theorem set_twice {b : Nat} {o u : VObj} : (h.set b o).set b u = h.set b u := by
  funext c; unfold H.set; by_cases hc : c = b <;> simp [hc]

theorem add_at {b o i : Nat} : (⟨b, o, none⟩ : Addr).add i = ⟨b, o + i, none⟩ := by
  unfold Addr.add
  split <;> simp_all

/-! ### rows -/
/-- A slice whose elements lie in one cell each, and read so. -/
def Row (h : H) (s : Value) (vs : List Value) : Prop :=
  ∃ base cap, s = .slice base vs.length cap ∧ vs.length ≤ cap ∧ (cap = 0 ∨ ∃ a, base = some a ∧
    a.spot = none ∧ ∃ l, rowOf (h a.block) = some l ∧ a.off + cap ≤ l.length ∧ (l.drop a.off).take vs.length = vs)
theorem rdR_row {h : H} {a : Addr} {n : Nat} {l : List Value} (hs : a.spot = none) (hl : rowOf (h a.block) = some l) (hn : a.off + n ≤ l.length) : rdR h a n = some ((l.drop a.off).take n) := by
  unfold rdR
  split
  · rename_i h0; subst h0; simp
  · simp only [rdN, hs, hl, Option.bind_some]
    rw [if_pos (by omega)]

theorem Row.len (r : Row h s vs) {k : Nat → Prop} : lenW s k ↔ k vs.length := by
  obtain ⟨base, cap, rfl, _⟩ := r
  exact Iff.rfl
theorem Row.slen (r : Row h s vs) {k : Nat → Prop} : slenW s k ↔ k vs.length := by
  obtain ⟨base, cap, rfl, _⟩ := r
  exact Iff.rfl
theorem rowOf_ext (e : Ext h h') {b : Nat} {l : List Value} (hb : rowOf (h b) = some l) : rowOf (h' b) = some l := by
  cases hx : h b with
  | none => rw [hx] at hb; simp [rowOf] at hb
  | some o => rw [hx] at hb; rw [e b o hx]; exact hb
theorem Row.ext (r : Row h s vs) (e : Ext h h') : Row h' s vs := by
  obtain ⟨base, cap, rfl, hc, hb⟩ := r
  refine ⟨base, cap, rfl, hc, ?_⟩
  rcases hb with hb | ⟨a, ha, h1, l, h2, h3, h4⟩
  · exact .inl hb
  · exact .inr ⟨a, ha, h1, l, rowOf_ext e h2, h3, h4⟩
/-- The block of a slice is not c. -/
def Off (c : Nat) (s : Value) : Prop := match s with
  | .slice (some a) _ n => n ≠ 0 → a.block ≠ c
  | _ => True
theorem Row.but (r : Row h s vs) {c : Nat} (ho : Off c s) (e : ExtBut c h h') : Row h' s vs := by
  obtain ⟨base, cap, rfl, hc, hb⟩ := r
  refine ⟨base, cap, rfl, hc, ?_⟩
  by_cases h0 : cap = 0
  · exact .inl h0
  rcases hb with hb | ⟨a, rfl, h1, l, h2, h3, h4⟩
  · exact .inl hb
  · refine .inr ⟨a, rfl, h1, l, ?_, h3, h4⟩
    cases hx : h a.block with
    | none => rw [hx] at h2; simp [rowOf] at h2
    | some o => rw [hx] at h2; rw [e _ o (ho h0) hx]; exact h2
theorem Row.off (r : Row h s vs) {c : Nat} (hc : h c = none) : Off c s := by
  obtain ⟨base, cap, rfl, _, hb⟩ := r
  cases base with
  | none => trivial
  | some a =>
    intro h0 hx
    rcases hb with hb | ⟨a, h5, h1, l, h2, h3, h4⟩
    · exact h0 hb
    · cases h5
      rw [hx, hc] at h2
      simp [rowOf] at h2
theorem Row.get (r : Row h s vs) {i : Nat} (hi : i < vs.length) {k : Addr → Prop} (hk : ∀ a, rd h a = some vs[i] → k a) : slAtW s (i : Int) 1 k := by
  obtain ⟨base, cap, rfl, hc, hb⟩ := r
  rcases hb with hb | ⟨a, rfl, h1, l, h2, h3, h4⟩
  · omega
  · refine ⟨by omega, by omega, hk _ ?_⟩
    have e1 : l[a.off + i]? = some vs[i] := by
      have := congrArg (·[i]?) h4
      simp only [List.getElem?_take, List.getElem?_drop, hi, if_true] at this
      rw [this, List.getElem?_eq_getElem hi]
    have e2 : a.add (Int.toNat (i : Int) * 1) = ⟨a.block, a.off + i, none⟩ := by
      obtain ⟨b, o, sp⟩ := a
      subst h1
      simp [Addr.add]
    rw [e2]
    simp only [rd, h2, Option.bind_some, e1]
theorem Row.at_ (r : Row h s vs) {n : Int} (h0 : 0 ≤ n) (h1 : n < vs.length) {k : Addr → Prop} (hk : ∀ a v, vs[n.toNat]? = some v → rd h a = some v → k a) : slAtW s n 1 k := by
  obtain ⟨i, rfl⟩ := Int.eq_ofNat_of_zero_le h0
  have hi : i < vs.length := by omega
  exact r.get hi fun a ha => hk a vs[i] (by simp [hi]) ha
/-- A beginning of a row. -/
theorem Row.upto (r : Row h s vs) {n : Int} (h0 : 0 ≤ n) (h1 : n ≤ vs.length) {k : Value → Prop} (hk : ∀ s', Row h s' (vs.take n.toNat) → (∀ c, Off c s → Off c s') → k s') : slCutW s none (some n) none 1 k := by
  obtain ⟨base, cap, rfl, hc, hb⟩ := r
  obtain ⟨i, rfl⟩ := Int.eq_ofNat_of_zero_le h0
  have hi : i ≤ vs.length := by omega
  simp only [Int.toNat_natCast] at hk
  simp only [slCutW, Option.getD_none, Option.getD_some, Option.isSome_none, Option.isSome_some, Bool.false_eq_true, false_implies, true_and, Int.toNat_natCast, Int.toNat_zero, Nat.sub_zero]
  refine ⟨by omega, by omega, by omega, by omega, hk _ ?_ ?_⟩
  · refine ⟨(if cap = 0 then base else base.map (·.add (0 * 1))), cap, by simp [Nat.min_eq_left hi], by simp; omega, ?_⟩
    rcases hb with hb | ⟨a, rfl, g1, l, g2, g3, g4⟩
    · exact .inl (by simpa using hb)
    · have hz : (if cap = 0 then some a else (some a).map (·.add (0 * 1))) = some a := by
        have : a.add (0 * 1) = a := by simp [Addr.add]
        simp [this]
      rw [hz]
      refine .inr ⟨a, rfl, g1, l, g2, by simpa using g3, ?_⟩
      rw [List.length_take, Nat.min_eq_left hi]
      conv => rhs; rw [← g4]
      rw [List.take_take, Nat.min_eq_left hi]
  · intro c ho
    cases base with
    | none =>
      have : (if cap = 0 then none else (none : Option Addr).map (·.add (0 * 1))) = none := by split <;> rfl
      rw [this]; trivial
    | some a =>
      have hz : (if cap = 0 then some a else (some a).map (·.add (0 * 1))) = some a := by
        have : a.add (0 * 1) = a := by simp [Addr.add]
        simp [this]
      rw [hz]; exact ho
theorem Row.src (r : Row h s vs) {n : Nat} (hn : n ≤ vs.length) {k : List Value → Prop} (hk : k (vs.take n)) : srcW h 1 s n k := by
  obtain ⟨base, cap, rfl, hc, hb⟩ := r
  rcases hb with hb | ⟨a, rfl, g1, l, g2, g3, g4⟩
  · have : vs = [] := List.length_eq_zero_iff.mp (by omega)
    subst this
    have h0 : n = 0 := by simpa using hn
    subst h0
    cases base with
    | none => simpa [srcW] using hk
    | some a => exact ⟨[], by simp [rdR], by simpa using hk⟩
  · refine ⟨vs.take n, ?_, hk⟩
    rw [Nat.mul_one, rdR_row g1 g2 (by omega), ← g4, List.take_take, Nat.min_eq_left (by
      have := congrArg List.length g4
      simp at this; omega)]
theorem Row.nil_ : Row h (.slice none 0 0) [] := ⟨none, 0, rfl, by simp, .inl rfl⟩
theorem Row.empty {a : Option Addr} : Row h (.slice a 0 0) [] := ⟨a, 0, rfl, by simp, .inl rfl⟩
theorem Row.cells {b n : Nat} (hb : h b = some (.cells vs)) (hn : vs.length = n) : Row h (.slice (some ⟨b, 0, none⟩) n n) vs :=
  ⟨some ⟨b, 0, none⟩, n, by rw [hn], by omega, .inr ⟨_, rfl, rfl, vs, by rw [hb]; rfl, by simp; omega, by simp⟩⟩

/-- A slice in a block of its own: what is appended to, or written, lies in this block. h0: what was there before it. -/
def Buf (h0 h : H) (s : Value) (vs : List Value) : Prop :=
  ((∃ a, s = .slice a 0 0) ∧ vs = []) ∨
  ∃ b off cap l, h0 b = none ∧ s = .slice (some ⟨b, off, none⟩) vs.length cap ∧ h b = some (.cells l) ∧ vs.length ≤ cap ∧ off + cap ≤ l.length ∧ (l.drop off).take vs.length = vs
theorem Buf.row {h0 : H} (r : Buf h0 h s vs) : Row h s vs := by
  rcases r with ⟨⟨a, rfl⟩, rfl⟩ | ⟨b, off, cap, l, _, rfl, hb, h1, h2, h3⟩
  · exact Row.empty
  · exact ⟨_, cap, rfl, h1, .inr ⟨_, rfl, rfl, l, by rw [hb]; rfl, h2, h3⟩⟩
theorem Buf.mono {h0 h1 : H} (r : Buf h0 h s vs) (e : Ext h1 h0) : Buf h1 h s vs := by
  rcases r with h2 | ⟨b, off, cap, l, hb, h2⟩
  · exact .inl h2
  · exact .inr ⟨b, off, cap, l, e.free hb, h2⟩
theorem Buf.cells {h0 : H} {b n : Nat} (h0b : h0 b = none) (hb : h b = some (.cells vs)) (hn : vs.length = n) : Buf h0 h (.slice (some ⟨b, 0, none⟩) n n) vs :=
  .inr ⟨b, 0, n, vs, h0b, by rw [hn], hb, by omega, by omega, by rw [List.drop_zero, List.take_length]⟩
theorem Buf.ext {h0 : H} (r : Buf h0 h s vs) (e : Ext h h') : Buf h0 h' s vs := by
  rcases r with h1 | ⟨b, off, cap, l, h1, h2, h3, h4⟩
  · exact .inl h1
  · exact .inr ⟨b, off, cap, l, h1, h2, e _ _ h3, h4⟩
theorem getElem?_splice {l ws : List Value} {o i : Nat} (ho : o + ws.length ≤ l.length) : (splice l o ws)[i]? = if i < o then l[i]? else if i < o + ws.length then ws[i - o]? else l[i]? := by
  unfold splice
  rw [List.getElem?_append]
  simp only [List.length_take, Nat.min_eq_left (show o ≤ l.length by omega)]
  split
  · rename_i h1; rw [List.getElem?_take, if_pos h1]
  · rename_i h1
    rw [List.getElem?_append]
    split
    · rename_i h2; rw [if_pos (by omega)]
    · rename_i h2
      rw [if_neg (by omega), List.getElem?_drop]
      congr 1; omega
theorem length_splice {l ws : List Value} {o : Nat} (ho : o + ws.length ≤ l.length) : (splice l o ws).length = l.length := by simp [splice]; omega
theorem Buf.put {h0 : H} (r : Buf h0 h s vs) {i : Nat} (hi : i < vs.length) {v : Value} {k : Addr → Prop}
    (hk : ∀ a h', wr1 h a v = some h' → (∀ o, Ext o h → (∀ b, o b ≠ none → h0 b ≠ none) → Ext o h') → Buf h0 h' s (vs.set i v) → k a) : slAtW s (i : Int) 1 k := by
  rcases r with ⟨⟨ba, rfl⟩, rfl⟩ | ⟨b, off, cap, l, h1, rfl, hb, h2, h3, h4⟩
  · simp at hi
  · refine ⟨by omega, by omega, ?_⟩
    have e2 : (⟨b, off, none⟩ : Addr).add (Int.toNat (i : Int) * 1) = ⟨b, off + i, none⟩ := by simp [Addr.add]
    rw [e2]
    refine hk _ (h.set b (.cells (l.set (off + i) v))) ?_ ?_ ?_
    · simp only [wr1, hb]
      rw [if_pos (by omega)]
    · intro o ho hd
      exact ho.set (by
        cases hx : o b with
        | none => rfl
        | some u => exact absurd h1 (hd b (by rw [hx]; simp)))
    · refine .inr ⟨b, off, cap, l.set (off + i) v, h1, by simp, set_here, by simpa using h2, by simpa using h3, ?_⟩
      apply List.ext_getElem?
      intro j
      rw [List.length_set, List.getElem?_take, List.getElem?_drop, List.getElem?_set, List.getElem?_set]
      have h5 := congrArg (·[j]?) h4
      simp only [List.getElem?_take, List.getElem?_drop] at h5
      by_cases hj : j < vs.length
      · simp only [hj, if_true] at h5 ⊢
        by_cases hij : i = j
        · subst hij
          simp [hj, show off + i < l.length by omega]
        · simp [hij, h5]
      · simp only [hj, if_false]
        rw [if_neg (by omega), List.getElem?_eq_none (by omega)]
theorem Buf.app {h0 : H} (r : Buf h0 h s vs) (e : Ext h0 h) {bytes : Nat} {z : List Value} {ws : List Value} (hz : z.length = 1) (h1 : ws.all one = true) (hb : 2 * (vs.length + ws.length) * bytes ≤ 2 ^ 48) (hl : vs.length + ws.length ≤ 2 ^ 62) {k : Value → H → Prop}
    (hk : ∀ s' h', Buf h0 h' s' (vs ++ ws) → Ext h0 h' → k s' h') : apW h 1 bytes z s ws.length ws k := by
  have grow : ∀ cap base old, cap < vs.length + ws.length → oldOf h base (vs.length * 1) = some old → old = vs → Builtin.nextslicecap (vs.length + ws.length) cap * bytes ≤ 2 ^ 48 ∧ ((vs.length + ws.length : Nat) : Int) ≤ IntKind.i64.max ∧
      ∃ old, oldOf h base (vs.length * 1) = some old ∧ ∀ b c, h b = none → vs.length + ws.length ≤ c → k (.slice (some ⟨b, 0, none⟩) (vs.length + ws.length) c) (h.set b (.cells (old ++ (ws ++ (List.replicate (c - (vs.length + ws.length)) z).flatten)))) := by
    intro cap base old hc ho hov
    subst hov
    refine ⟨Nat.le_trans (Nat.mul_le_mul_right _ (nextslicecap_le hc)) hb, ?_, old, ho, fun b c hbn hcc => hk _ _ ?_ ?_⟩
    · have : IntKind.i64.max = 9223372036854775807 := by decide
      rw [this]; omega
    · have hlen : ((List.replicate (c - (old.length + ws.length)) z).flatten).length = c - (old.length + ws.length) := by
        rw [List.length_flatten, List.map_replicate, List.sum_replicate_nat, hz, Nat.mul_one]
      refine .inr ⟨b, 0, c, _, e.free hbn, by simp, set_here, by simp; omega, ?_, ?_⟩
      · simp only [List.length_append, hlen]; omega
      · rw [List.drop_zero, ← List.append_assoc, List.take_append_of_le_length (by simp), List.take_length]
    · exact e.trans (Ext.new hbn)
  rcases r with ⟨⟨ba, rfl⟩, rfl⟩ | ⟨b, off, cap, l, g1, rfl, g2, g3, g4, g5⟩
  · refine ⟨fun hc => ?_, fun hc => ?_⟩
    · have : ws = [] := List.length_eq_zero_iff.mp (by simpa using hc)
      subst this
      have := hk _ _ (.inl ⟨⟨ba, rfl⟩, rfl⟩) e
      cases ba with
      | none => exact this
      | some a => exact ⟨fun _ => this, fun hn => absurd rfl hn⟩
    · have := grow 0 ba [] (by simpa using hc) (by cases ba <;> simp [oldOf, rdR]) rfl
      simpa using this
  · refine ⟨fun hc => ?_, fun hc => ?_⟩
    · refine ⟨fun hw => ?_, fun hw => ⟨h1, h.set b (.cells (splice l (off + vs.length) ws)), ?_, ?_⟩⟩
      · subst hw
        refine hk _ _ ?_ e
        simpa using .inr ⟨b, off, cap, l, g1, rfl, g2, g3, g4, g5⟩
      · rw [Nat.mul_one, add_at]
        simp only [wr, g2]
        rw [if_pos (show off + vs.length + ws.length ≤ l.length by omega)]
      · refine hk _ _ (.inr ⟨b, off, cap, _, g1, by simp, set_here, by simpa using hc, by rw [length_splice (by omega)]; omega, ?_⟩) (e.set g1)
        apply List.ext_getElem?
        intro j
        rw [List.getElem?_take, List.getElem?_drop, getElem?_splice (by omega), List.getElem?_append, List.length_append]
        have h5 := congrArg (·[j]?) g5
        simp only [List.getElem?_take, List.getElem?_drop] at h5
        by_cases hj : j < vs.length
        · simp only [hj, if_true] at h5 ⊢
          rw [if_pos (by omega), if_pos (by omega), h5]
        · by_cases hj2 : j < vs.length + ws.length
          · rw [if_pos hj2, if_neg (by omega), if_pos (by omega), if_neg hj]
            congr 1; omega
          · rw [if_neg hj2, if_neg hj, List.getElem?_eq_none (by omega)]
    · refine grow cap (some ⟨b, off, none⟩) vs hc ?_ rfl
      have := rdR_row (h := h) (a := ⟨b, off, none⟩) (n := vs.length) rfl (by show rowOf (h b) = _; rw [g2]; rfl) (by show off + _ ≤ _; omega)
      simp only [oldOf, Nat.mul_one, this, g5]

/-- A slice's beginning, or more of it. -/
def cutTo (s : Value) (n : Nat) : Value := match s with
  | .slice b _ c => .slice b n c
  | v => v
theorem cutTo_cutTo {s : Value} {n m : Nat} : cutTo (cutTo s n) m = cutTo s m := by cases s <;> rfl
def capOf (s : Value) : Nat := match s with
  | .slice _ _ c => c
  | _ => 0
def isSl (s : Value) : Prop := match s with
  | .slice _ _ _ => True
  | _ => False
theorem cut_rule {s : Value} {n : Int} {k : Value → Prop} (hs : isSl s) (h0 : 0 ≤ n) (h1 : n ≤ capOf s) (hk : k (cutTo s n.toNat)) : slCutW s none (some n) none 1 k := by
  cases s <;> try exact hs.elim
  rename_i base len cap
  simp only [capOf] at h1
  simp only [slCutW, Option.getD_none, Option.getD_some, Option.isSome_none, Option.isSome_some, Bool.false_eq_true, false_implies, true_and, Int.toNat_natCast, Int.toNat_zero, Nat.sub_zero]
  refine ⟨by omega, by omega, by omega, by omega, ?_⟩
  have hz : (if cap = 0 then base else base.map (·.add (0 * 1))) = base := by
    cases base with
    | none => split <;> rfl
    | some a =>
      have : a.add (0 * 1) = a := by simp [Addr.add]
      simp [this]
  rw [hz]; exact hk
theorem Row.isSl (r : Row h s vs) : isSl s := by obtain ⟨base, cap, rfl, _⟩ := r; trivial
theorem Row.cap (r : Row h s vs) : vs.length ≤ capOf s := by obtain ⟨base, cap, rfl, hc, _⟩ := r; exact hc
theorem Row.cut (r : Row h s vs) {n : Nat} (hn : n ≤ vs.length) : Row h (cutTo s n) (vs.take n) := by
  obtain ⟨base, cap, rfl, hc, hb⟩ := r
  refine ⟨base, cap, by simp [cutTo, Nat.min_eq_left hn], by simp; omega, ?_⟩
  rcases hb with hb | ⟨a, rfl, g1, l, g2, g3, g4⟩
  · exact .inl hb
  · refine .inr ⟨a, rfl, g1, l, g2, g3, ?_⟩
    rw [List.length_take, Nat.min_eq_left hn]
    conv => rhs; rw [← g4]
    rw [List.take_take, Nat.min_eq_left hn]
theorem Buf.cut {h0 : H} (r : Buf h0 h s vs) {n : Nat} (hn : n ≤ vs.length) : Buf h0 h (cutTo s n) (vs.take n) := by
  rcases r with ⟨⟨ba, rfl⟩, rfl⟩ | ⟨b, off, cap, l, h1, rfl, hb, h2, h3, h4⟩
  · have : n = 0 := by simpa using hn
    subst this
    exact .inl ⟨⟨_, rfl⟩, rfl⟩
  · refine .inr ⟨b, off, cap, l, h1, by simp [cutTo, Nat.min_eq_left hn], hb, by simp; omega, h3, ?_⟩
    rw [List.length_take, Nat.min_eq_left hn]
    conv => rhs; rw [← h4]
    rw [List.take_take, Nat.min_eq_left hn]
theorem Row.upto' (r : Row h s vs) {n : Int} (h0 : 0 ≤ n) (h1 : n ≤ vs.length) {k : Value → Prop} (hk : k (cutTo s n.toNat)) : slCutW s none (some n) none 1 k :=
  cut_rule r.isSl h0 (by have := r.cap; omega) hk
theorem Row.full (r : Row h s vs) : cutTo s vs.length = s := by obtain ⟨base, cap, rfl, _⟩ := r; rfl

/-! ### slices apart -/
def Blk (s : Value) : Option Nat := match s with
  | .slice (some a) _ n => if n = 0 then none else some a.block
  | _ => none
/-- All that is known but for the block of a slice. -/
def H.drop (h : H) (s : Value) : H := fun b => if Blk s = some b then none else h b
def Sep (s t : Value) : Prop := Blk t = none ∨ Blk t ≠ Blk s
theorem Ext.drop (h : H) (s : Value) : Ext (h.drop s) h := fun b o hb => by
  unfold H.drop at hb
  split at hb
  · cases hb
  · exact hb
theorem drop_away {h : H} {s : Value} {b : Nat} (hb : Blk s ≠ some b) : h.drop s b = h b := by unfold H.drop; rw [if_neg hb]
theorem drop_here {h : H} {s : Value} {b : Nat} (hb : Blk s = some b) : h.drop s b = none := by unfold H.drop; rw [if_pos hb]
theorem Row.drop (r : Row h s vs) {t : Value} (hs : Sep t s) : Row (h.drop t) s vs := by
  obtain ⟨base, cap, rfl, hc, hb⟩ := r
  refine ⟨base, cap, rfl, hc, ?_⟩
  by_cases h0 : cap = 0
  · exact .inl h0
  rcases hb with hb | ⟨a, rfl, g1, l, g2, g3, g4⟩
  · exact .inl hb
  · refine .inr ⟨a, rfl, g1, l, ?_, g3, g4⟩
    rcases hs with hs | hs
    · simp [Blk, h0] at hs
    · rw [drop_away (fun x => hs (by rw [x]; simp [Blk, h0]))]; exact g2
theorem Blk_nil {a : Option Addr} {n : Nat} : Blk (.slice a n 0) = none := by cases a <;> rfl
theorem Blk_some {a : Addr} {n c : Nat} (hc : c ≠ 0) : Blk (.slice (some a) n c) = some a.block := by simp [Blk, hc]
theorem drop_nil {h : H} {a : Option Addr} {n : Nat} : h.drop (.slice a n 0) = h := by
  funext b; rw [drop_away]; rw [Blk_nil]; simp
theorem Buf.pos {h0 : H} (r : Buf h0 h s vs) : (∃ a, s = .slice a 0 0 ∧ vs = []) ∨
    ∃ b off cap l, cap ≠ 0 ∧ h0 b = none ∧ s = .slice (some ⟨b, off, none⟩) vs.length cap ∧ h b = some (.cells l) ∧ vs.length ≤ cap ∧ off + cap ≤ l.length ∧ (l.drop off).take vs.length = vs := by
  rcases r with ⟨⟨a, h1⟩, h2⟩ | ⟨b, off, cap, l, h1, h2, h3, h4, h5⟩
  · exact .inl ⟨a, h1, h2⟩
  · by_cases hc : cap = 0
    · subst hc
      have : vs = [] := List.length_eq_zero_iff.mp (by omega)
      subst this
      exact .inl ⟨_, h2, rfl⟩
    · exact .inr ⟨b, off, cap, l, hc, h1, h2, h3, h4, h5⟩
theorem Buf.self {h0 : H} (r : Buf h0 h s vs) : Buf (h.drop s) h s vs := by
  rcases r.pos with ⟨a, h1, h2⟩ | ⟨b, off, cap, l, hc, h1, rfl, h2⟩
  · exact .inl ⟨⟨a, h1⟩, h2⟩
  · exact .inr ⟨b, off, cap, l, drop_here (Blk_some hc), rfl, h2⟩
theorem Buf.drop {h0 : H} (r : Buf h0 h s vs) {t : Value} (hs : Sep t s) : Buf h0 (h.drop t) s vs := by
  rcases r.pos with ⟨a, h1, h2⟩ | ⟨b, off, cap, l, hc, h1, rfl, h2, h3⟩
  · exact .inl ⟨⟨a, h1⟩, h2⟩
  · refine .inr ⟨b, off, cap, l, h1, rfl, ?_, h3⟩
    rcases hs with hs | hs
    · rw [Blk_some hc] at hs; cases hs
    · rw [drop_away (fun x => hs (by rw [x, Blk_some hc]))]; exact h2
theorem Ext.drop_of {h0 : H} (e : Ext h0 h) (r : Buf h0 h' s vs) : Ext h0 (h.drop s) := fun b o hb => by
  rcases r.pos with ⟨a, rfl, _⟩ | ⟨c, off, cap, l, hc, h1, rfl, _⟩
  · rw [drop_nil]; exact e b o hb
  · rw [drop_away (fun x => by rw [Blk_some hc] at x; cases x; rw [h1] at hb; cases hb)]; exact e b o hb
theorem Row.known (r : Row h s vs) {b : Nat} (hb : Blk s = some b) : h b ≠ none := by
  obtain ⟨base, cap, rfl, hc, h1⟩ := r
  rcases h1 with rfl | ⟨a, rfl, g1, l, g2, g3, g4⟩
  · rw [Blk_nil] at hb; cases hb
  · intro h0
    have : a.block = b := by
      unfold Blk at hb
      simp only at hb
      split at hb
      · cases hb
      · exact Option.some.inj hb
    subst this
    rw [h0] at g2; simp [rowOf] at g2
theorem Buf.sep {h0 : H} {t : Value} {us : List Value} (r : Buf h0 h s vs) (q : Row h0 t us) : Sep s t ∧ Sep t s := by
  rcases r.pos with ⟨a, rfl, _⟩ | ⟨c, off, cap, l, hc, h1, rfl, _⟩
  · refine ⟨?_, .inl Blk_nil⟩
    cases hb : Blk t with
    | none => exact .inl hb
    | some b => exact .inr (by rw [hb, Blk_nil]; simp)
  · cases hb : Blk t with
    | none => exact ⟨.inl hb, .inr (by rw [hb, Blk_some hc]; simp)⟩
    | some b =>
      have hne : b ≠ c := fun x => by
        have := q.known hb
        rw [x] at this
        exact this h1
      exact ⟨.inr (by rw [hb, Blk_some hc]; simp [hne]), .inr (by rw [hb, Blk_some hc]; simp [Ne.symm hne])⟩
theorem Blk_cut {s : Value} {n : Nat} : Blk (cutTo s n) = Blk s := by
  cases s <;> try rfl
  rename_i b _ _; cases b <;> rfl
/-- A row is copied into a block of its own. -/
theorem Buf.copy {h0 : H} (r : Buf h0 h s vs) (e : Ext h0 h) {ws : List Value} (h1 : ws.all one = true) (hw : ws.length ≤ vs.length) {n : Nat} (hn : n = ws.length) {k : Value → H → Prop}
    (hk : ∀ h', Buf h0 h' s (ws ++ vs.drop ws.length) → Ext h0 h' → k (.int .i64 (ws.length : Nat)) h') : cpW h s n ws k := by
  subst hn
  rcases r with ⟨⟨ba, rfl⟩, rfl⟩ | ⟨b, off, cap, l, g1, rfl, g2, g3, g4, g5⟩
  · have : ws = [] := List.length_eq_zero_iff.mp (by simpa using hw)
    subst this
    have := hk h (.inl ⟨⟨ba, rfl⟩, rfl⟩) e
    cases ba with
    | none => exact ⟨fun _ => by simpa using this, fun h => absurd rfl h⟩
    | some a => exact ⟨fun _ => by simpa using this, fun h => absurd rfl h⟩
  · refine ⟨fun h0 => ?_, fun h0 => ⟨h1, h.set b (.cells (splice l off ws)), ?_, ?_⟩⟩
    · subst h0
      have := hk h (by simpa using .inr ⟨b, off, cap, l, g1, rfl, g2, g3, g4, g5⟩) e
      simpa using this
    · simp only [wr, g2]
      rw [if_pos (by omega)]
    · rw [Nat.min_eq_left hw]
      refine hk _ (.inr ⟨b, off, cap, _, g1, by simp; omega, set_here, by simp; omega, by rw [length_splice (by omega)]; omega, ?_⟩) (e.set g1)
      apply List.ext_getElem?
      intro j
      rw [List.getElem?_take, List.getElem?_drop, getElem?_splice (by omega), List.getElem?_append, List.getElem?_drop, List.length_append, List.length_drop]
      have h5 := congrArg (·[j]?) g5
      simp only [List.getElem?_take, List.getElem?_drop] at h5
      by_cases hj : j < ws.length
      · rw [if_pos (by omega), if_neg (by omega), if_pos (by omega), if_pos hj]
        congr 1; omega
      · by_cases hj2 : j < vs.length
        · rw [if_pos hj2] at h5
          rw [if_pos (by omega), if_neg (by omega), if_neg (by omega), if_neg hj, h5]
          congr 1; omega
        · rw [if_neg (by omega), if_neg hj, List.getElem?_eq_none (by omega)]
end Go.Proofs.YtnlhnlmnlfmojaaDoor.Am

namespace Go.Proofs.YtnlhnlmnlfmojaaDoor.Am
open Go
set_option linter.unusedSimpArgs false

def bts (s : ByteArray) : List UInt8 := s.data.toList
theorem bts_len (s : ByteArray) : (bts s).length = s.size := rfl
theorem bts_inj {a b : ByteArray} (h : bts a = bts b) : a = b := by
  cases a; cases b
  simp only [bts] at h
  congr 1
  exact Array.toList_inj.mp h
theorem get!_eq (s : ByteArray) (i : Nat) (hi : i < s.size) : (bts s)[i]? = some (s.get! i) := by
  have hi' : i < s.data.size := hi
  unfold bts
  rw [Array.getElem?_toList, Array.getElem?_eq_getElem hi']
  cases s with
  | mk d => simp [ByteArray.get!, getElem!_pos, show i < d.size from hi']
theorem toList_loop (s : ByteArray) : ∀ (d i : Nat) (r : List UInt8), i + d = s.size → ByteArray.toList.loop s i r = r.reverse ++ (bts s).drop i
  | 0, i, r, h => by
    rw [ByteArray.toList.loop]
    rw [if_neg (by omega), List.drop_eq_nil_of_le (by rw [bts_len]; omega), List.append_nil]
  | d + 1, i, r, h => by
    rw [ByteArray.toList.loop]
    rw [if_pos (by omega), toList_loop s d (i + 1) _ (by omega)]
    have hi := get!_eq s i (by omega)
    have hl : i < (bts s).length := by rw [bts_len]; omega
    have : (bts s).drop i = s.get! i :: (bts s).drop (i + 1) := by
      rw [List.drop_eq_getElem_cons hl]
      rw [List.getElem?_eq_getElem hl] at hi
      rw [Option.some.inj hi]
    rw [this]
    simp
theorem toList_eq (s : ByteArray) : s.toList = bts s := by
  have := toList_loop s s.size 0 [] (by omega)
  simpa [ByteArray.toList] using this
theorem strAt_rule {s : ByteArray} {n : Int} {k : Int → Prop} (h0 : 0 ≤ n) (h1 : n < s.size) (hk : ∀ b : UInt8, (bts s)[n.toNat]? = some b → k (b.toNat : Int)) : strAtW s n k :=
  ⟨h0, h1, hk _ (get!_eq s _ (by omega))⟩
theorem bts_extract (s : ByteArray) (a b : Nat) : bts (s.extract a b) = ((bts s).take b).drop a := by
  unfold bts
  rw [ByteArray.data_extract, Array.toList_extract]
  simp [List.extract, List.drop_take]
theorem strTail_rule {s : ByteArray} {n : Int} {k : ByteArray → Prop} (h0 : 0 ≤ n) (h1 : n ≤ s.size) (hk : ∀ t, bts t = (bts s).drop n.toNat → k t) : strCutW s (some n) none k := by
  refine ⟨h0, ?_, ?_, hk _ ?_⟩
  · simpa using h1
  · simp
  · rw [bts_extract]
    simp only [Option.getD_some, Option.getD_none, Int.toNat_natCast]
    rw [List.take_of_length_le (by rw [bts_len]; omega)]
theorem strHead_rule {s : ByteArray} {n : Int} {k : ByteArray → Prop} (h0 : 0 ≤ n) (h1 : n ≤ s.size) (hk : ∀ t, bts t = (bts s).take n.toNat → k t) : strCutW s none (some n) k := by
  refine ⟨by simp, by simpa using h0, by simpa using h1, hk _ ?_⟩
  rw [bts_extract]
  simp
theorem bts_append (a b : ByteArray) : bts (a ++ b) = bts a ++ bts b := by
  unfold bts
  rw [ByteArray.data_append, Array.toList_append]
/-- Bytes as a row. -/
def U8 (l : List UInt8) : List Value := l.map fun b => .int .u8 (b.toNat : Int)
theorem bts_strOf (l : List UInt8) : bts (strOf (l.map fun b => (b.toNat : Int))) = l := by
  unfold bts strOf
  rw [List.map_map]
  have : (fun n : Int => UInt8.ofNat n.toNat) ∘ (fun b : UInt8 => (b.toNat : Int)) = id := by
    funext b
    simp
  rw [this]; simp
theorem bs_rule {h : H} {s : Value} {l : List UInt8} (r : Row h s (U8 l)) {k : ByteArray → Prop} (hk : ∀ t, bts t = l → k t) : bsW h s k := by
  obtain ⟨base, cap, rfl, hc, hb⟩ := r
  rcases hb with rfl | ⟨a, rfl, g1, c, g2, g3, g4⟩
  · have : l = [] := by simpa [U8] using hc
    subst this
    cases base with
    | none => exact hk _ rfl
    | some a => exact ⟨[], by simp [rdR, U8], hk _ rfl⟩
  · refine ⟨l.map fun b => (b.toNat : Int), ?_, hk _ (bts_strOf l)⟩
    rw [rdR_row g1 g2 (by omega), g4]
    simp [U8, List.map_map]
end Go.Proofs.YtnlhnlmnlfmojaaDoor.Am

namespace Go.Proofs.YtnlhnlmnlfmojaaDoor.Am
open Go
set_option linter.unusedSimpArgs false
set_option linter.unusedVariables false
variable {h h' h'' : H} {s : Value} {sz : Nat} {vs : List (List Value)}

theorem flat_len {sz : Nat} : ∀ {vs : List (List Value)}, (∀ v ∈ vs, v.length = sz) → vs.flatten.length = vs.length * sz
  | [], _ => by simp
  | v :: vs, h => by
    rw [List.flatten_cons, List.length_append, h v (by simp), flat_len fun u hu => h u (by simp [hu]), List.length_cons, Nat.succ_mul]; omega
theorem flat_drop {sz : Nat} : ∀ {vs : List (List Value)} (i : Nat), (∀ v ∈ vs, v.length = sz) → vs.flatten.drop (i * sz) = (vs.drop i).flatten
  | vs, 0, _ => by simp
  | [], i + 1, _ => by simp
  | v :: vs, i + 1, h => by
    rw [List.flatten_cons, List.drop_succ_cons, ← flat_drop i fun u hu => h u (by simp [hu]), Nat.succ_mul, Nat.add_comm, ← List.drop_drop]
    congr 1
    rw [List.drop_append_of_le_length (by rw [h v (by simp)]; omega), List.drop_of_length_le (by rw [h v (by simp)]; omega)]; simp
theorem flat_take {sz : Nat} : ∀ {vs : List (List Value)} (i : Nat), (∀ v ∈ vs, v.length = sz) → vs.flatten.take (i * sz) = (vs.take i).flatten
  | vs, 0, _ => by simp
  | [], i + 1, _ => by simp
  | v :: vs, i + 1, h => by
    rw [List.flatten_cons, List.take_succ_cons, List.flatten_cons, ← flat_take i fun u hu => h u (by simp [hu]), Nat.succ_mul, Nat.add_comm]
    have hv := h v (by simp)
    rw [List.take_append, hv, List.take_of_length_le (by omega)]
    congr 2; omega
theorem flat_at {sz : Nat} {vs : List (List Value)} {i : Nat} (h : ∀ v ∈ vs, v.length = sz) (hi : i < vs.length) : (vs.flatten.drop (i * sz)).take sz = vs[i] := by
  rw [flat_drop i h, List.drop_eq_getElem_cons hi, List.flatten_cons]
  have hv := h vs[i] (List.getElem_mem hi)
  rw [List.take_append_of_le_length (by omega), List.take_of_length_le (by omega)]

/-- A slice whose elements take sz cells each, and read so. -/
def RowK (sz : Nat) (h : H) (s : Value) (vs : List (List Value)) : Prop :=
  ∃ base cap, s = .slice base vs.length cap ∧ vs.length ≤ cap ∧ (∀ v ∈ vs, v.length = sz) ∧ (cap = 0 ∨ ∃ a, base = some a ∧
    a.spot = none ∧ ∃ l, rowOf (h a.block) = some l ∧ a.off + cap * sz ≤ l.length ∧ (l.drop a.off).take (vs.length * sz) = vs.flatten)
theorem RowK.len (r : RowK sz h s vs) {k : Nat → Prop} : lenW s k ↔ k vs.length := by
  obtain ⟨base, cap, rfl, _⟩ := r
  exact Iff.rfl
theorem RowK.slen (r : RowK sz h s vs) {k : Nat → Prop} : slenW s k ↔ k vs.length := by
  obtain ⟨base, cap, rfl, _⟩ := r
  exact Iff.rfl
theorem RowK.each (r : RowK sz h s vs) : ∀ v ∈ vs, v.length = sz := by obtain ⟨_, _, _, _, h, _⟩ := r; exact h
theorem RowK.ext (r : RowK sz h s vs) (e : Ext h h') : RowK sz h' s vs := by
  obtain ⟨base, cap, rfl, hc, he, hb⟩ := r
  refine ⟨base, cap, rfl, hc, he, ?_⟩
  rcases hb with hb | ⟨a, ha, h1, l, h2, h3, h4⟩
  · exact .inl hb
  · exact .inr ⟨a, ha, h1, l, rowOf_ext e h2, h3, h4⟩
theorem RowK.but (r : RowK sz h s vs) {c : Nat} (ho : Off c s) (e : ExtBut c h h') : RowK sz h' s vs := by
  obtain ⟨base, cap, rfl, hc, he, hb⟩ := r
  refine ⟨base, cap, rfl, hc, he, ?_⟩
  by_cases h0 : cap = 0
  · exact .inl h0
  rcases hb with hb | ⟨a, rfl, h1, l, h2, h3, h4⟩
  · exact .inl hb
  · refine .inr ⟨a, rfl, h1, l, ?_, h3, h4⟩
    cases hx : h a.block with
    | none => rw [hx] at h2; simp [rowOf] at h2
    | some o => rw [hx] at h2; rw [e _ o (ho h0) hx]; exact h2
theorem RowK.off (r : RowK sz h s vs) {c : Nat} (hc : h c = none) : Off c s := by
  obtain ⟨base, cap, rfl, _, _, hb⟩ := r
  cases base with
  | none => trivial
  | some a =>
    intro h0 hx
    rcases hb with hb | ⟨a, h5, h1, l, h2, h3, h4⟩
    · exact h0 hb
    · cases h5
      rw [hx, hc] at h2
      simp [rowOf] at h2
theorem RowK.get (r : RowK sz h s vs) {i : Nat} (hi : i < vs.length) {k : Addr → Prop}
    (hk : ∀ a, rdN h a sz = some vs[i] → (∀ j x, vs[i][j]? = some x → rd h (a.add j) = some x) → k a) : slAtW s (i : Int) sz k := by
  obtain ⟨base, cap, rfl, hc, he, hb⟩ := r
  rcases hb with hb | ⟨a, rfl, h1, l, h2, h3, h4⟩
  · omega
  · have m1 : i * sz + sz ≤ cap * sz := by rw [← Nat.succ_mul]; exact Nat.mul_le_mul_right _ (by omega)
    have m2 : i * sz + sz ≤ vs.length * sz := by rw [← Nat.succ_mul]; exact Nat.mul_le_mul_right _ (by omega)
    obtain ⟨b, o, sp⟩ := a
    subst h1
    have e2 : (⟨b, o, none⟩ : Addr).add (Int.toNat (i : Int) * sz) = ⟨b, o + i * sz, none⟩ := by simp [Addr.add]
    have e3 : (l.drop (o + i * sz)).take sz = vs[i] := by
      rw [← flat_at he hi, ← h4, List.drop_take, List.drop_drop, List.take_take, Nat.min_eq_left (by omega)]
    refine ⟨by omega, by omega, hk _ ?_ ?_⟩
    · rw [e2]
      simp only [rdN, h2, Option.bind_some]
      have h3' : o + cap * sz ≤ l.length := h3
      rw [if_pos (by omega), e3]
    · intro j x hx
      have hj : j < sz := by
        have := (List.getElem?_eq_some_iff.mp hx).1
        rw [he _ (List.getElem_mem hi)] at this; exact this
      rw [e2, add_at]
      simp only [rd, h2, Option.bind_some]
      rw [← e3, List.getElem?_take, if_pos hj, List.getElem?_drop] at hx
      exact hx
theorem RowK.at_ (r : RowK sz h s vs) {n : Int} (h0 : 0 ≤ n) (h1 : n < vs.length) {k : Addr → Prop}
    (hk : ∀ a v, vs[n.toNat]? = some v → rdN h a sz = some v → (∀ j x, v[j]? = some x → rd h (a.add j) = some x) → k a) : slAtW s n sz k := by
  obtain ⟨i, rfl⟩ := Int.eq_ofNat_of_zero_le h0
  have hi : i < vs.length := by omega
  exact r.get hi fun a ha hj => hk a vs[i] (by simp [hi]) ha hj
theorem RowK.src (r : RowK sz h s vs) {n : Nat} (hn : n ≤ vs.length) {k : List Value → Prop} (hk : k (vs.take n).flatten) : srcW h sz s n k := by
  obtain ⟨base, cap, rfl, hc, he, hb⟩ := r
  rcases hb with hb | ⟨a, rfl, g1, l, g2, g3, g4⟩
  · have : vs = [] := List.length_eq_zero_iff.mp (by omega)
    subst this
    have h0 : n = 0 := by simpa using hn
    subst h0
    cases base with
    | none => simpa [srcW] using hk
    | some a => exact ⟨[], by simp [rdR], by simpa using hk⟩
  · refine ⟨(vs.take n).flatten, ?_, hk⟩
    have m1 : n * sz ≤ cap * sz := Nat.mul_le_mul_right _ (by omega)
    have m2 : n * sz ≤ vs.length * sz := Nat.mul_le_mul_right _ hn
    rw [rdR_row g1 g2 (by omega), ← flat_take n he, ← g4, List.take_take, Nat.min_eq_left m2]
theorem RowK.nil_ {a : Option Addr} : RowK sz h (.slice a 0 0) [] := ⟨a, 0, rfl, by simp, by simp, .inl rfl⟩
theorem RowK.isSl (r : RowK sz h s vs) : isSl s := by obtain ⟨base, cap, rfl, _⟩ := r; trivial
theorem RowK.cells {b n : Nat} {l : List Value} (hb : h b = some (.cells l)) (hn : vs.length = n) (he : ∀ v ∈ vs, v.length = sz) (hl : l = vs.flatten) : RowK sz h (.slice (some ⟨b, 0, none⟩) n n) vs := by
  subst hl
  refine ⟨some ⟨b, 0, none⟩, n, by rw [hn], by omega, he, .inr ⟨_, rfl, rfl, vs.flatten, by rw [hb]; rfl, ?_, ?_⟩⟩
  · show 0 + n * sz ≤ _
    rw [flat_len he, hn]; omega
  · rw [List.drop_zero, ← flat_len he, List.take_length]
/-- A part of a row: from i to j. -/
theorem RowK.cut (r : RowK sz h s vs) {lo hi : Option Int} {i j : Nat} (hi0 : lo.getD 0 = (i : Int)) (hj0 : hi.getD (vs.length : Int) = (j : Int)) (hij : i ≤ j) (hj : j ≤ vs.length) {k : Value → Prop}
    (hk : ∀ s', RowK sz h s' ((vs.take j).drop i) → (∀ c, Off c s → Off c s') → k s') : slCutW s lo hi none sz k := by
  obtain ⟨base, cap, rfl, hc, he, hb⟩ := r
  simp only [slCutW, Option.getD_none, Option.isSome_none, Bool.false_eq_true, false_implies, true_and, hi0, hj0, Int.toNat_natCast]
  refine ⟨by omega, by omega, by omega, by omega, hk _ ⟨(if cap = i then base else base.map (·.add (i * sz))), cap - i, ?_, ?_, ?_, ?_⟩ ?_⟩
  · have : ((vs.take j).drop i).length = j - i := by simp; omega
    rw [this]
  · simp; omega
  · intro v hv
    exact he v (List.mem_of_mem_take (List.mem_of_mem_drop hv))
  · by_cases h0 : cap - i = 0
    · exact .inl h0
    · rcases hb with hb | ⟨a, rfl, g1, l, g2, g3, g4⟩
      · omega
      · refine .inr ⟨a.add (i * sz), ?_, ?_, l, ?_, ?_, ?_⟩
        · rw [if_neg (by omega)]; rfl
        · obtain ⟨b, o, sp⟩ := a; subst g1; rw [add_at]
        · obtain ⟨b, o, sp⟩ := a; subst g1; rw [add_at]; exact g2
        · obtain ⟨b, o, sp⟩ := a; subst g1; rw [add_at]
          have : i * sz + (cap - i) * sz = cap * sz := by rw [← Nat.add_mul]; congr 1; omega
          have g3' : o + cap * sz ≤ l.length := g3
          show o + i * sz + (cap - i) * sz ≤ l.length
          omega
        · obtain ⟨b, o, sp⟩ := a; subst g1; rw [add_at]
          have hl : ((vs.take j).drop i).length = j - i := by simp; omega
          have g4' : (l.drop o).take (vs.length * sz) = vs.flatten := g4
          have m2 : i * sz + (j - i) * sz ≤ vs.length * sz := by rw [← Nat.add_mul]; exact Nat.mul_le_mul_right _ (by omega)
          have e1 : ((vs.take j).drop i).flatten = (vs.flatten.drop (i * sz)).take ((j - i) * sz) := by
            rw [flat_drop i he, flat_take (j - i) fun v hv => he v (List.mem_of_mem_drop hv), List.drop_take]
          rw [hl, e1, ← g4', List.drop_take, List.drop_drop, List.take_take, Nat.min_eq_left (by omega)]
  · intro c ho
    cases base with
    | none =>
      have : (if cap = i then none else (none : Option Addr).map (·.add (i * sz))) = none := by split <;> rfl
      rw [this]; trivial
    | some a =>
      by_cases h0 : cap = i
      · rw [if_pos h0]
        intro hne
        exact absurd (show cap - i = 0 by omega) hne
      · rw [if_neg h0]
        intro hne hx
        refine ho (by omega) ?_
        have : (a.add (i * sz)).block = a.block := by unfold Addr.add; split <;> rfl
        rw [← this]; exact hx

/-- A slice in a block of its own, whose elements take several cells. -/
def BufK (sz : Nat) (h0 h : H) (s : Value) (vs : List (List Value)) : Prop :=
  (∀ v ∈ vs, v.length = sz) ∧ (((∃ a, s = .slice a 0 0) ∧ vs = []) ∨
  ∃ b off cap l, h0 b = none ∧ s = .slice (some ⟨b, off, none⟩) vs.length cap ∧ h b = some (.cells l) ∧ vs.length ≤ cap ∧ off + cap * sz ≤ l.length ∧ (l.drop off).take (vs.length * sz) = vs.flatten)
theorem BufK.row {h0 : H} (r : BufK sz h0 h s vs) : RowK sz h s vs := by
  obtain ⟨he, ⟨⟨a, rfl⟩, rfl⟩ | ⟨b, off, cap, l, _, rfl, hb, h1, h2, h3⟩⟩ := r
  · exact RowK.nil_
  · exact ⟨_, cap, rfl, h1, he, .inr ⟨_, rfl, rfl, l, by rw [hb]; rfl, h2, h3⟩⟩
theorem BufK.mono {h0 h1 : H} (r : BufK sz h0 h s vs) (e : Ext h1 h0) : BufK sz h1 h s vs := by
  obtain ⟨he, h2 | ⟨b, off, cap, l, hb, h2⟩⟩ := r
  · exact ⟨he, .inl h2⟩
  · exact ⟨he, .inr ⟨b, off, cap, l, e.free hb, h2⟩⟩
theorem BufK.ext {h0 : H} (r : BufK sz h0 h s vs) (e : Ext h h') : BufK sz h0 h' s vs := by
  obtain ⟨he, h1 | ⟨b, off, cap, l, h1, h2, h3, h4⟩⟩ := r
  · exact ⟨he, .inl h1⟩
  · exact ⟨he, .inr ⟨b, off, cap, l, h1, h2, e _ _ h3, h4⟩⟩
theorem BufK.nil_ {h0 : H} {a : Option Addr} : BufK sz h0 h (.slice a 0 0) [] := ⟨by simp, .inl ⟨⟨a, rfl⟩, rfl⟩⟩
theorem BufK.cells {h0 : H} {b n : Nat} {l : List Value} (h0b : h0 b = none) (hb : h b = some (.cells l)) (hn : vs.length = n) (he : ∀ v ∈ vs, v.length = sz) (hl : l = vs.flatten) : BufK sz h0 h (.slice (some ⟨b, 0, none⟩) n n) vs := by
  subst hl
  refine ⟨he, .inr ⟨b, 0, n, vs.flatten, h0b, by rw [hn], hb, by omega, ?_, ?_⟩⟩
  · rw [flat_len he, hn]; omega
  · rw [List.drop_zero, ← flat_len he, List.take_length]
theorem BufK.app {h0 : H} (r : BufK sz h0 h s vs) (e : Ext h0 h) {bytes m : Nat} {z ws : List Value} {us : List (List Value)} (hz : z.length = sz) (h1 : ws.all one = true) (hu : ∀ v ∈ us, v.length = sz) (hws : ws = us.flatten) (hm : m = us.length)
    (hb : 2 * (vs.length + us.length) * bytes ≤ 2 ^ 48) (hl : vs.length + us.length ≤ 2 ^ 62) {k : Value → H → Prop}
    (hk : ∀ s' h', BufK sz h0 h' s' (vs ++ us) → Ext h0 h' → k s' h') : apW h sz bytes z s m ws k := by
  subst hws hm
  obtain ⟨he, r⟩ := r
  have hall : ∀ v ∈ vs ++ us, v.length = sz := fun v hv => by
    rcases List.mem_append.mp hv with hv | hv
    · exact he v hv
    · exact hu v hv
  have hul := flat_len hu
  have hvl := flat_len he
  have grow : ∀ (cap : Nat) base old, cap < vs.length + us.length → oldOf h base (vs.length * sz) = some old → old = vs.flatten → Builtin.nextslicecap (vs.length + us.length) cap * bytes ≤ 2 ^ 48 ∧ ((vs.length + us.length : Nat) : Int) ≤ IntKind.i64.max ∧
      ∃ old, oldOf h base (vs.length * sz) = some old ∧ ∀ b c, h b = none → vs.length + us.length ≤ c → k (.slice (some ⟨b, 0, none⟩) (vs.length + us.length) c) (h.set b (.cells (old ++ (us.flatten ++ (List.replicate (c - (vs.length + us.length)) z).flatten)))) := by
    intro cap base old hc ho hov
    subst hov
    refine ⟨Nat.le_trans (Nat.mul_le_mul_right _ (nextslicecap_le hc)) hb, ?_, _, ho, fun b c hbn hcc => hk _ _ ?_ ?_⟩
    · have : IntKind.i64.max = 9223372036854775807 := by decide
      rw [this]; omega
    · have hlen : ((List.replicate (c - (vs.length + us.length)) z).flatten).length = (c - (vs.length + us.length)) * sz := by
        rw [flat_len (sz := sz) (fun v hv => by rw [List.eq_of_mem_replicate hv]; exact hz), List.length_replicate]
      have m1 : vs.length * sz + us.length * sz + (c - (vs.length + us.length)) * sz = c * sz := by rw [← Nat.add_mul, ← Nat.add_mul]; congr 1; omega
      refine ⟨hall, .inr ⟨b, 0, c, _, e.free hbn, by simp, set_here, by simp; omega, ?_, ?_⟩⟩
      · simp only [List.length_append, hlen, hul, hvl]; omega
      · rw [List.drop_zero, ← List.append_assoc, List.length_append, List.flatten_append, List.take_append_of_le_length (by rw [List.length_append, hul, hvl, Nat.add_mul]; omega), List.take_of_length_le (by rw [List.length_append, hul, hvl, Nat.add_mul]; omega)]
    · exact e.trans (Ext.new hbn)
  rcases r with ⟨⟨ba, rfl⟩, rfl⟩ | ⟨b, off, cap, l, g1, rfl, g2, g3, g4, g5⟩
  · refine ⟨fun hc => ?_, fun hc => ?_⟩
    · have : us = [] := List.length_eq_zero_iff.mp (by simpa using hc)
      subst this
      have := hk _ _ ⟨hall, .inl ⟨⟨ba, rfl⟩, rfl⟩⟩ e
      cases ba with
      | none => exact this
      | some a => exact ⟨fun _ => this, fun hn => absurd rfl hn⟩
    · have := grow 0 ba [] (by simpa using hc) (by cases ba <;> simp [oldOf, rdR]) rfl
      simpa using this
  · refine ⟨fun hc => ?_, fun hc => ?_⟩
    · have m1 : vs.length * sz + us.length * sz ≤ cap * sz := by rw [← Nat.add_mul]; exact Nat.mul_le_mul_right _ hc
      refine ⟨fun hw => ?_, fun hw => ⟨h1, h.set b (.cells (splice l (off + vs.length * sz) us.flatten)), ?_, ?_⟩⟩
      · have h0 : us.length * sz = 0 := by rw [← hul, hw]; rfl
        have hk' := hk (.slice (some ⟨b, off, none⟩) (vs.length + us.length) cap) h ⟨hall, .inr ⟨b, off, cap, l, g1, by simp, g2, by simpa using hc, g4, by
          rw [List.flatten_append, hw, List.append_nil, List.length_append, Nat.add_mul, h0, Nat.add_zero]; exact g5⟩⟩ e
        exact hk'
      · rw [add_at]
        simp only [wr, g2]
        rw [if_pos (show off + vs.length * sz + us.flatten.length ≤ l.length by rw [hul]; omega)]
      · refine hk _ _ ⟨hall, .inr ⟨b, off, cap, _, g1, by simp, set_here, by simpa using hc, by rw [length_splice (by rw [hul]; omega)]; omega, ?_⟩⟩ (e.set g1)
        apply List.ext_getElem?
        intro j
        rw [List.flatten_append, List.getElem?_take, List.getElem?_drop, getElem?_splice (by rw [hul]; omega), List.getElem?_append, List.length_append, hvl, hul, Nat.add_mul]
        have h5 := congrArg (·[j]?) g5
        simp only [List.getElem?_take, List.getElem?_drop] at h5
        by_cases hj : j < vs.length * sz
        · simp only [hj, if_true] at h5 ⊢
          rw [if_pos (by omega), if_pos (by omega), h5]
        · by_cases hj2 : j < vs.length * sz + us.length * sz
          · rw [if_pos hj2, if_neg (by omega), if_pos (by omega), if_neg hj]
            congr 1; omega
          · rw [if_neg hj2, if_neg hj, List.getElem?_eq_none (by rw [hul]; omega)]
    · have m1 : vs.length * sz ≤ cap * sz := Nat.mul_le_mul_right _ g3
      refine grow cap (some ⟨b, off, none⟩) vs.flatten hc ?_ rfl
      have := rdR_row (h := h) (a := ⟨b, off, none⟩) (n := vs.length * sz) rfl (by show rowOf (h b) = _; rw [g2]; rfl) (by show off + _ ≤ _; omega)
      simp only [oldOf, this, g5]
end Go.Proofs.YtnlhnlmnlfmojaaDoor.Am

namespace Go.Proofs.YtnlhnlmnlfmojaaDoor.Am
open Go
set_option linter.unusedSimpArgs false
set_option linter.unusedVariables false

/-- A part of memory: which blocks, what is said of them. -/
structure Res where
  foot : Nat → Prop
  ok : H → Prop
  loc : ∀ h h', (∀ b, foot b → h' b = h b) → ok h → ok h'
/-- h0: what was there before, and stays. -/
structure Hp (h0 h : H) (L : List Res) : Prop where
  ext : Ext h0 h
  ok : ∀ r ∈ L, r.ok h
  new : ∀ r ∈ L, ∀ b, r.foot b → h0 b = none ∧ h b ≠ none
  dis : L.Pairwise fun r q => ∀ b, r.foot b → ¬ q.foot b
theorem Hp.nil_ (h : H) : Hp h h [] := ⟨Ext.refl h, by simp, by simp, .nil⟩
theorem Hp.get {h0 h : H} {L : List Res} (o : Hp h0 h L) {i : Nat} {r : Res} (hi : L[i]? = some r) : r.ok h := o.ok r (List.mem_of_getElem? hi)
theorem Hp.ne {h0 h : H} {L : List Res} (o : Hp h0 h L) {i j : Nat} {r q : Res} (hi : L[i]? = some r) (hj : L[j]? = some q) (hij : i ≠ j) {b : Nat} (hb : r.foot b) : ¬ q.foot b := by
  obtain ⟨h1, rfl⟩ := List.getElem?_eq_some_iff.mp hi
  obtain ⟨h2, rfl⟩ := List.getElem?_eq_some_iff.mp hj
  have hd := List.pairwise_iff_getElem.mp o.dis
  rcases Nat.lt_or_gt_of_ne hij with h3 | h3
  · exact hd i j h1 h2 h3 b hb
  · exact fun hq => hd j i h2 h1 h3 b hq hb
theorem Hp.upd {h0 h h' : H} {L : List Res} (o : Hp h0 h L) {i : Nat} {r r' : Res} (hi : L[i]? = some r) (hk : ∀ b, h b ≠ none → ¬ r.foot b → h' b = h b) (ho : r'.ok h') (hf : ∀ b, r'.foot b → (r.foot b ∨ h b = none) ∧ h' b ≠ none) : Hp h0 h' (L.set i r') := by
  obtain ⟨hl, hr⟩ := List.getElem?_eq_some_iff.mp hi
  have hd := List.pairwise_iff_getElem.mp o.dis
  have oth : ∀ j q, L[j]? = some q → j ≠ i → ∀ b, q.foot b → h' b = h b := fun j q hj hji b hb =>
    hk b (o.new q (List.mem_of_getElem? hj) b hb).2 (o.ne hj hi hji hb)
  refine ⟨fun b u hb => ?_, fun q hq => ?_, fun q hq b hb => ?_, ?_⟩
  · have := o.ext b u hb
    rw [hk b (by rw [this]; simp) (fun hf => by rw [(o.new r (List.mem_of_getElem? hi) b hf).1] at hb; cases hb)]
    exact this
  · obtain ⟨j, hj⟩ := List.getElem?_of_mem hq
    rw [List.getElem?_set] at hj
    split at hj
    · cases hj; exact ho
    · rename_i hij
      exact q.loc h h' (oth j q hj (Ne.symm hij)) (o.get hj)
  · obtain ⟨j, hj⟩ := List.getElem?_of_mem hq
    rw [List.getElem?_set] at hj
    split at hj
    · cases hj
      obtain ⟨h1, h2⟩ := hf b hb
      refine ⟨?_, h2⟩
      rcases h1 with h1 | h1
      · exact (o.new r (List.mem_of_getElem? hi) b h1).1
      · exact o.ext.free h1
    · rename_i hij
      have hn := o.new q (List.mem_of_getElem? hj) b hb
      exact ⟨hn.1, by rw [oth j q hj (Ne.symm hij) b hb]; exact hn.2⟩
  · rw [List.pairwise_iff_getElem]
    intro a c ha hc hac b
    rw [List.length_set] at ha hc
    rw [List.getElem_set, List.getElem_set]
    have away : ∀ j (hj : j < L.length), j ≠ i → L[j].foot b → ¬ r'.foot b := fun j hj hji hb hb' => by
      rcases (hf b hb').1 with h1 | h1
      · exact o.ne (List.getElem?_eq_getElem hj) hi hji hb h1
      · exact (o.new _ (List.getElem_mem hj) b hb).2 h1
    split
    · rename_i e; subst e
      rw [if_neg (by omega)]
      exact fun h1 h2 => away c hc (by omega) h2 h1
    · split
      · rename_i e; subst e
        exact away a ha (by omega)
      · exact hd a c ha hc hac b
theorem Hp.add {h0 h h' : H} {L : List Res} (o : Hp h0 h L) {r : Res} (hk : ∀ b, h b ≠ none → h' b = h b) (ho : r.ok h') (hf : ∀ b, r.foot b → h b = none ∧ h' b ≠ none) : Hp h0 h' (r :: L) := by
  refine ⟨fun b u hb => ?_, fun q hq => ?_, fun q hq b hb => ?_, ?_⟩
  · have := o.ext b u hb
    rw [hk b (by rw [this]; simp)]; exact this
  · rcases List.mem_cons.mp hq with rfl | hq
    · exact ho
    · exact q.loc h h' (fun b hb => hk b (o.new q hq b hb).2) (o.ok q hq)
  · rcases List.mem_cons.mp hq with rfl | hq
    · exact ⟨o.ext.free (hf b hb).1, (hf b hb).2⟩
    · have hn := o.new q hq b hb
      exact ⟨hn.1, by rw [hk b hn.2]; exact hn.2⟩
  · rw [List.pairwise_cons]
    exact ⟨fun q hq b hb hq' => (o.new q hq b hq').2 (hf b hb).1, o.dis⟩
theorem Ext.keeps {h h' : H} (e : Ext h h') : ∀ b, h b ≠ none → h' b = h b := fun b hb => by
  cases hx : h b with
  | none => exact absurd hx hb
  | some o => exact e b o hx
theorem Hp.later {h0 h h' : H} {L : List Res} (o : Hp h0 h L) (e : Ext h h') : Hp h0 h' L :=
  ⟨o.ext.trans e, fun q hq => q.loc h h' (fun b hb => e.keeps b (o.new q hq b hb).2) (o.ok q hq), fun q hq b hb => ⟨(o.new q hq b hb).1, by rw [e.keeps b (o.new q hq b hb).2]; exact (o.new q hq b hb).2⟩, o.dis⟩
theorem Hp.base {h0 h1 h : H} {L : List Res} (o : Hp h0 h L) (e : Ext h1 h0) : Hp h1 h L := ⟨e.trans o.ext, o.ok, fun q hq b hb => ⟨e.free (o.new q hq b hb).1, (o.new q hq b hb).2⟩, o.dis⟩
theorem Hp.perm {h0 h : H} {L L' : List Res} (o : Hp h0 h L) (p : L'.Perm L) : Hp h0 h L' :=
  ⟨o.ext, fun q hq => o.ok q (p.mem_iff.mp hq), fun q hq => o.new q (p.mem_iff.mp hq), (p.pairwise_iff fun {x y} hxy b hy hx => hxy b hx hy).mpr o.dis⟩
theorem Hp.sub {h0 h : H} {L L' : List Res} (o : Hp h0 h L) (p : L'.Sublist L) : Hp h0 h L' :=
  ⟨o.ext, fun q hq => o.ok q (p.subset hq), fun q hq => o.new q (p.subset hq), o.dis.sublist p⟩
/-- All the blocks of parts that are given up stay unknown to h0. -/
theorem Hp.tail {h0 h : H} {r : Res} {L : List Res} (o : Hp h0 h (r :: L)) : Hp h0 h L := o.sub (List.sublist_cons_self r L)

/-- Parts that came later, beside those that were there. -/
theorem Hp.join {h0 h h' : H} {L L' : List Res} (o : Hp h0 h L) (o' : Hp h h' L') : Hp h0 h' (L' ++ L) := by
  have o2 := o.later o'.ext
  refine ⟨o2.ext, fun q hq => ?_, fun q hq b hb => ?_, ?_⟩
  · rcases List.mem_append.mp hq with hq | hq
    · exact o'.ok q hq
    · exact o2.ok q hq
  · rcases List.mem_append.mp hq with hq | hq
    · exact ⟨o.ext.free (o'.new q hq b hb).1, (o'.new q hq b hb).2⟩
    · exact o2.new q hq b hb
  · rw [List.pairwise_append]
    exact ⟨o'.dis, o.dis, fun q hq r hr b hb hb' => (o.new r hr b hb').2 (o'.new q hq b hb).1⟩

/-! ### kinds of parts -/
def cellR (b : Nat) (l : List Value) : Res := ⟨fun c => c = b, fun h => h b = some (.cells l), fun h h' e o => by rw [e b rfl]; exact o⟩
def noH : H := fun _ => none
theorem noH_ext (h : H) : Ext noH h := fun b o hb => by cases hb
def bufR (s : Value) (vs : List Value) : Res := ⟨fun c => Blk s = some c, fun h => Buf noH h s vs, fun h h' e o => by
  rcases o.pos with ⟨a, h1, h2⟩ | ⟨b, off, cap, l, hc, h1, rfl, h2, h3⟩
  · exact .inl ⟨⟨a, h1⟩, h2⟩
  · exact .inr ⟨b, off, cap, l, h1, rfl, (e b (Blk_some hc)).trans h2, h3⟩⟩
theorem bufR_foot {s : Value} {vs : List Value} {b : Nat} : (bufR s vs).foot b ↔ Blk s = some b := Iff.rfl
variable {h0 h h' : H} {L : List Res} {i j b : Nat} {l vs ws : List Value} {s v z : Value}
theorem Hp.cell (o : Hp h0 h L) (hi : L[i]? = some (cellR b l)) : h b = some (.cells l) := o.get hi
theorem Hp.buf (o : Hp h0 h L) (hi : L[i]? = some (bufR s vs)) : Buf noH h s vs := o.get hi
theorem Hp.row (o : Hp h0 h L) (hi : L[i]? = some (bufR s vs)) : Row h s vs := (o.buf hi).row
theorem rdc_at (hb : h b = some (.cells l)) (hj : l[j]? = some v) : rd h (Addr.add ⟨b, 0, none⟩ j) = some v := by
  rw [add_at, Nat.zero_add]
  simp only [rd, hb, rowOf, Option.bind_some]
  exact hj
theorem rdc_at0 (hb : h b = some (.cells l)) (hj : l[0]? = some v) : rd h ⟨b, 0, none⟩ = some v := by
  simp only [rd, hb, rowOf, Option.bind_some]
  exact hj
theorem Hp.set_cell (o : Hp h0 h L) (hi : L[i]? = some (cellR b l)) (l' : List Value) : Hp h0 (h.set b (.cells l')) (L.set i (cellR b l')) :=
  o.upd hi (fun c _ hc => set_away hc) set_here fun c hc => ⟨.inl hc, by
    have hc : c = b := hc
    subst hc; rw [set_here]; simp⟩
theorem Hp.wr (o : Hp h0 h L) (hi : L[i]? = some (cellR b l)) (hj : j < l.length) {K : H → Prop} (hK : ∀ h', Hp h0 h' (L.set i (cellR b (l.set j v))) → K h') : ∃ h', wr1 h (Addr.add ⟨b, 0, none⟩ j) v = some h' ∧ K h' := by
  refine ⟨_, ?_, hK _ (o.set_cell hi _)⟩
  rw [add_at, Nat.zero_add]
  simp only [wr1, o.cell hi]
  rw [if_pos hj]
theorem Hp.wr0 (o : Hp h0 h L) (hi : L[i]? = some (cellR b l)) (hj : 0 < l.length) {K : H → Prop} (hK : ∀ h', Hp h0 h' (L.set i (cellR b (l.set 0 v))) → K h') : ∃ h', wr1 h ⟨b, 0, none⟩ v = some h' ∧ K h' := by
  refine ⟨_, ?_, hK _ (o.set_cell hi _)⟩
  simp only [wr1, o.cell hi]
  rw [if_pos hj]
theorem Hp.newc (o : Hp h0 h L) (hb : h b = none) (l : List Value) : Hp h0 (h.set b (.cells l)) (cellR b l :: L) :=
  o.add (Ext.new hb).keeps set_here fun c hc => by
    have hc : c = b := hc
    subst hc
    exact ⟨hb, by rw [set_here]; simp⟩
theorem Buf.blk' {h0 h : H} {s : Value} {vs : List Value} (r : Buf h0 h s vs) {d : Nat} (hd : Blk s = some d) : h0 d = none := by
  rcases r.pos with ⟨a, rfl, _⟩ | ⟨b, off, cap, l, hc, h1, rfl, _⟩
  · rw [Blk_nil] at hd; cases hd
  · rw [Blk_some hc] at hd; cases hd; exact h1
theorem Hp.of_buf {h' : H} {s' : Value} {vs' : List Value} (o : Hp h0 h L) (hi : L[i]? = some (bufR s vs)) (r : Buf (h.drop s) h' s' vs') (e : Ext (h.drop s) h') : Hp h0 h' (L.set i (bufR s' vs')) := by
  refine o.upd hi (fun c hc hn => ?_) (r.mono (noH_ext _)) fun c hc => ⟨?_, r.row.known hc⟩
  · have := e.keeps c (by rw [drop_away hn]; exact hc)
    rw [this, drop_away hn]
  · by_cases hx : Blk s = some c
    · exact .inl hx
    · right
      rcases r.pos with ⟨a, rfl, _⟩ | ⟨b, off, cap, l, hcap, h1, rfl, _⟩
      · rw [bufR_foot, Blk_nil] at hc; cases hc
      · rw [bufR_foot, Blk_some hcap] at hc; cases hc
        rw [drop_away hx] at h1; exact h1
/-- An element of a row of one's own is written. -/
theorem Hp.put (o : Hp h0 h L) (hi : L[i]? = some (bufR s vs)) (hj : j < vs.length) {T : Prop} (hT : T) {K : H → Prop} (hv : one v = true) (hK : ∀ h', Hp h0 h' (L.set i (bufR s (vs.set j v))) → K h') :
    slAtW s (j : Int) 1 fun ad => one v = true ∧ T ∧ ∃ h', wr1 h ad v = some h' ∧ K h' :=
  (o.buf hi).self.put hj (v := v) fun a h' hw hx hbuf => ⟨hv, hT, h', hw, hK h' (o.of_buf hi hbuf (hx _ (Ext.drop h s) fun b hb => hb))⟩
theorem bytes_ok {n m bytes : Nat} (h1 : n + m ≤ 2 ^ 40) (h2 : bytes ≤ 64) : 2 * (n + m) * bytes ≤ 2 ^ 48 := by
  have h3 : 2 * (n + m) ≤ 2199023255552 := by omega
  calc 2 * (n + m) * bytes ≤ 2199023255552 * 64 := Nat.mul_le_mul h3 h2
    _ ≤ 2 ^ 48 := by decide
theorem Hp.app (o : Hp h0 h L) (hi : L[i]? = some (bufR s vs)) {bytes : Nat} (h1 : ws.all one = true) (hb : bytes ≤ 64) (hl : vs.length + ws.length ≤ 2 ^ 40) {K : Value → H → Prop}
    (hK : ∀ s' h', Hp h0 h' (L.set i (bufR s' (vs ++ ws))) → K s' h') : apW h 1 bytes [z] s ws.length ws K :=
  (o.buf hi).self.app (Ext.drop h s) rfl h1 (bytes_ok hl hb) (by omega) fun s' h' r e => hK s' h' (o.of_buf hi r e)
/-- One more element behind a row of one's own. -/
theorem Hp.push (o : Hp h0 h L) (hi : L[i]? = some (bufR s vs)) {bytes : Nat} (hb : bytes ≤ 64) (hl : vs.length < 2 ^ 40) (hv : one v = true) {O U : Prop} (hO : O) (hU : U) {K : Value → H → Prop}
    (hK : ∀ s' h', Hp h0 h' (L.set i (bufR s' (vs ++ [v]))) → K s' h') :
    O ∧ U ∧ newSl h 1 [v] (fun s31 h32 => slenW s31 (fun n33 => srcW h32 1 s31 (n33) (fun w34 => apW h32 1 bytes [z] s (n33) w34 (fun s35 h36 => K s35 h36)))) := by
  refine ⟨hO, hU, fun b hb' => ?_⟩
  have hrow : Row (h.set b (.cells [v])) (.slice (some ⟨b, 0, none⟩) 1 1) [v] := Row.cells set_here rfl
  show slenW (.slice (some ⟨b, 0, none⟩) 1 1) _
  rw [slenW_slice]
  refine hrow.src (by simp) ?_
  exact (o.later (Ext.new hb')).app hi (by simp [hv]) hb (by simp; omega) hK
theorem Hp.cutTo (o : Hp h0 h L) (hi : L[i]? = some (bufR s vs)) {n : Nat} (hn : n ≤ vs.length) : Hp h0 h (L.set i (bufR (cutTo s n) (vs.take n))) :=
  o.of_buf hi (by
    have := (o.buf hi).self.cut hn
    exact this) (Ext.drop h s)
/-- A beginning of a row of one's own. -/
theorem Hp.upto (o : Hp h0 h L) (hi : L[i]? = some (bufR s vs)) {n : Int} (hn0 : 0 ≤ n) (hn : n ≤ vs.length) {K : Value → Prop} (hK : Hp h0 h (L.set i (bufR (Am.cutTo s n.toNat) (vs.take n.toNat))) → K (Am.cutTo s n.toNat)) : slCutW s none (some n) none 1 K :=
  (o.row hi).upto' hn0 hn (hK (o.cutTo hi (by omega)))
theorem buf_new {n : Nat} (hn : vs.length = n) (hb : h b = some (.cells vs)) : Buf noH h (.slice (some ⟨b, 0, none⟩) n n) vs := Buf.cells rfl hb hn
theorem Hp.cell_buf (o : Hp h0 h L) (hi : L[i]? = some (cellR b l)) {n : Nat} (hn : l.length = n) : Hp h0 h (L.set i (bufR (.slice (some ⟨b, 0, none⟩) n n) l)) :=
  o.upd hi (fun _ _ _ => rfl) (buf_new hn (o.cell hi)) fun c hc => by
    have hc : Blk (.slice (some ⟨b, 0, none⟩) n n) = some c := hc
    by_cases h0 : n = 0
    · subst h0; rw [Blk_nil] at hc; cases hc
    · rw [Blk_some h0] at hc
      cases hc
      exact ⟨.inl rfl, by rw [o.cell hi]; simp⟩
theorem Hp.add_nil (o : Hp h0 h L) {a : Option Addr} : Hp h0 h (bufR (.slice a 0 0) [] :: L) :=
  o.add (fun _ _ => rfl) (.inl ⟨⟨a, rfl⟩, rfl⟩) fun c hc => by rw [bufR_foot, Blk_nil] at hc; cases hc
/-! ### loads and stores -/
abbrev Pt (b : Nat) : Value := .pointer (some ⟨b, 0, none⟩)
theorem ld0 (hb : h b = some (.cells l)) (hj : l[0]? = some v) {K : Value → Prop} (hK : K v) : ptrW (Pt b) fun ad => ∃ v, rd h ad = some v ∧ K v := ⟨v, rdc_at0 hb hj, hK⟩
theorem ldI (hb : h b = some (.cells l)) {x : Int} (hj : l[0]? = some (.int .i64 x)) {K : Int → Prop} (hK : K x) : ptrW (Pt b) fun ad => ∃ x : Int, rd h ad = some (.int .i64 x) ∧ K x := ⟨x, rdc_at0 hb hj, hK⟩
theorem ldj (hb : h b = some (.cells l)) (hj : l[j]? = some v) {K : Value → Prop} (hK : K v) : ptrW (Pt b) fun ad => ∃ v, rd h (Addr.add ad j) = some v ∧ K v := ⟨v, rdc_at hb hj, hK⟩
theorem ldjI (hb : h b = some (.cells l)) {x : Int} (hj : l[j]? = some (.int .i64 x)) {K : Int → Prop} (hK : K x) : ptrW (Pt b) fun ad => ∃ x : Int, rd h (Addr.add ad j) = some (.int .i64 x) ∧ K x := ⟨x, rdc_at hb hj, hK⟩
/-- A field of what a variable points to. -/
theorem fld {p : Nat} (hp : h p = some (.cells [Pt b])) (hb : h b = some (.cells l)) (hj : l[j]? = some v) {K : Value → Prop} (hK : K v) :
    ptrW (Pt p) fun ad => ∃ u, rd h ad = some u ∧ nonNil u = true ∧ ptrW u fun ad => ∃ w, rd h (Addr.add ad j) = some w ∧ K w :=
  ⟨Pt b, rdc_at0 hp rfl, rfl, v, rdc_at hb hj, hK⟩
theorem ldA (hb : h b = some (.cells l)) {n c : Nat} {x : Int} (hj : j < n) (hv : l[j]? = some (.int .i64 x)) {K : Int → Prop} (hK : K x) : slAtW (.slice (some ⟨b, 0, none⟩) n c) (j : Int) 1 fun ad => ∃ x : Int, rd h ad = some (.int .i64 x) ∧ K x := by
  refine ⟨by omega, by omega, x, ?_, hK⟩
  have : Int.toNat (j : Int) * 1 = j := by simp
  rw [this]; exact rdc_at hb hv
theorem ldAB (hb : h b = some (.cells l)) {n c : Nat} {x : Bool} (hj : j < n) (hv : l[j]? = some (.bool x)) {K : Bool → Prop} (hK : K x) : slAtW (.slice (some ⟨b, 0, none⟩) n c) (j : Int) 1 fun ad => ∃ x : Bool, rd h ad = some (.bool x) ∧ K x := by
  refine ⟨by omega, by omega, x, ?_, hK⟩
  have : Int.toNat (j : Int) * 1 = j := by simp
  rw [this]; exact rdc_at hb hv
theorem Hp.st0 (o : Hp h0 h L) (hi : L[i]? = some (cellR b l)) (hj : 0 < l.length) (hv : one v = true) {T : Prop} (hT : T) {K : H → Prop} (hK : ∀ h', Hp h0 h' (L.set i (cellR b (l.set 0 v))) → K h') :
    ptrW (Pt b) fun ad => one v = true ∧ T ∧ ∃ h', wr1 h ad v = some h' ∧ K h' := ⟨hv, hT, o.wr0 hi hj hK⟩
theorem Hp.stj (o : Hp h0 h L) (hi : L[i]? = some (cellR b l)) (hj : j < l.length) (hv : one v = true) {T : Prop} (hT : T) {K : H → Prop} (hK : ∀ h', Hp h0 h' (L.set i (cellR b (l.set j v))) → K h') :
    ptrW (Pt b) fun ad => one v = true ∧ T ∧ ∃ h', wr1 h (Addr.add ad j) v = some h' ∧ K h' := ⟨hv, hT, o.wr hi hj hK⟩
theorem Hp.stA (o : Hp h0 h L) (hi : L[i]? = some (cellR b l)) {n c : Nat} (hj : j < n) (hl : j < l.length) (hv : one v = true) {T : Prop} (hT : T) {K : H → Prop} (hK : ∀ h', Hp h0 h' (L.set i (cellR b (l.set j v))) → K h') :
    slAtW (.slice (some ⟨b, 0, none⟩) n c) (j : Int) 1 fun ad => one v = true ∧ T ∧ ∃ h', wr1 h ad v = some h' ∧ K h' := by
  refine ⟨by omega, by omega, hv, hT, ?_⟩
  have : Int.toNat (j : Int) * 1 = j := by simp
  rw [this]; exact o.wr hi hl hK
/-- A new place, a row of noughts. -/
theorem Hp.new_ (o : Hp h0 h L) {K : Value → H → Prop} (hK : ∀ b h', h b = none → Hp h0 h' (cellR b l :: L) → K (Pt b) h') : newW h l K := fun b hb => hK b _ hb (o.newc hb l)
/-- A new place, and what is stored there at once. -/
theorem Hp.newSt (o : Hp h0 h L) (hv : one v = true) {T : Prop} (hT : T) {K : Value → H → Prop} (hK : ∀ b h', h b = none → Hp h0 h' (cellR b [v] :: L) → K (Pt b) h') :
    newW h [z] fun p h1 => ptrW p fun ad => one v = true ∧ T ∧ ∃ h', wr1 h1 ad v = some h' ∧ K p h' := fun b hb => by
  refine (o.newc hb [z]).st0 (i := 0) rfl (by simp) hv hT fun h' o' => hK b h' hb o'
theorem Hp.newStp (o : Hp h0 h L) {v : Value → Value} (hv : ∀ p, one (v p) = true) {T : Prop} (hT : T) {K : Value → H → Prop} (hK : ∀ b h', h b = none → Hp h0 h' (cellR b [v (Pt b)] :: L) → K (Pt b) h') :
    newW h [z] fun p h1 => ptrW p fun ad => one (v p) = true ∧ T ∧ ∃ h', wr1 h1 ad (v p) = some h' ∧ K p h' := fun b hb => by
  refine (o.newc hb [z]).st0 (i := 0) rfl (by simp) (hv _) hT fun h' o' => hK b h' hb o'
theorem flat_rep1 {v : Value} : ∀ n : Nat, (List.replicate n [v]).flatten = List.replicate n v
  | 0 => rfl
  | n + 1 => by rw [List.replicate_succ, List.flatten_cons, flat_rep1 n, List.replicate_succ]; rfl
theorem Hp.mkS (o : Hp h0 h L) {n : Nat} {bytes : Nat} (hn : n ≤ 2 ^ 40) (hb : bytes ≤ 64) {K : Value → H → Prop} (hK : ∀ b h', h b = none → Hp h0 h' (cellR b (List.replicate n z) :: L) → K (.slice (some ⟨b, 0, none⟩) n n) h') :
    mkSliceW h bytes [z] (n : Int) (n : Int) K := by
  have h1 : bytes * n ≤ 64 * 2 ^ 40 := Nat.mul_le_mul hb hn
  refine ⟨by omega, by omega, by omega, by omega, fun b hb => ?_⟩
  rw [Int.toNat_natCast, flat_rep1]
  exact hK b _ hb (o.newc hb _)
theorem Hp.add_buf {h' : H} (o : Hp h0 h L) (e : Ext h h') (r : Buf h h' s vs) : Hp h0 h' (bufR s vs :: L) :=
  o.add e.keeps (r.mono (noH_ext _)) fun c hc => ⟨r.blk' hc, r.row.known hc⟩
/-- A part of a row, from i to j. -/
theorem Row.part (r : Row h s vs) {lo hi : Option Int} {i j : Nat} (hi0 : lo.getD 0 = (i : Int)) (hj0 : hi.getD (vs.length : Int) = (j : Int)) (hij : i ≤ j) (hj : j ≤ vs.length) {k : Value → Prop}
    (hk : ∀ s', Row h s' ((vs.take j).drop i) → (∀ c, Off c s → Off c s') → k s') : slCutW s lo hi none 1 k := by
  obtain ⟨base, cap, rfl, hc, hb⟩ := r
  simp only [slCutW, Option.getD_none, Option.isSome_none, Bool.false_eq_true, false_implies, true_and, hi0, hj0, Int.toNat_natCast]
  have hl : ((vs.take j).drop i).length = j - i := by simp; omega
  refine ⟨by omega, by omega, by omega, by omega, hk _ ⟨(if cap = i then base else base.map (·.add (i * 1))), cap - i, by rw [hl], by rw [hl]; omega, ?_⟩ ?_⟩
  · by_cases h0 : cap - i = 0
    · exact .inl h0
    · rcases hb with hb | ⟨a, rfl, g1, l, g2, g3, g4⟩
      · omega
      · obtain ⟨b, o, sp⟩ := a
        subst g1
        have g3' : o + cap ≤ l.length := g3
        have g4' : (l.drop o).take vs.length = vs := g4
        refine .inr ⟨(⟨b, o, none⟩ : Addr).add (i * 1), ?_, ?_, l, ?_, ?_, ?_⟩
        · rw [if_neg (by omega)]; rfl
        · rw [add_at]
        · rw [add_at]; exact g2
        · rw [add_at]
          show o + i * 1 + (cap - i) ≤ l.length
          omega
        · rw [add_at, hl]
          show (l.drop (o + i * 1)).take (j - i) = _
          conv => rhs; rw [← g4']
          rw [List.take_take, Nat.min_eq_left hj, List.drop_take, List.drop_drop, Nat.mul_one]
  · intro c ho
    cases base with
    | none =>
      have : (if cap = i then none else (none : Option Addr).map (·.add (i * 1))) = none := by split <;> rfl
      rw [this]; trivial
    | some a =>
      by_cases h0 : cap = i
      · rw [if_pos h0]
        intro hne
        exact absurd (show cap - i = 0 by omega) hne
      · rw [if_neg h0]
        intro hne hx
        refine ho (by omega) ?_
        have : (a.add (i * 1)).block = a.block := by unfold Addr.add; split <;> rfl
        rw [← this]; exact hx
/-! ### maps -/
def mapR (b : Nat) (es : List MapEntry) (c : Nat) : Res := ⟨fun d => d = b, fun h => h b = some (.map es c), fun h h' e o => by rw [e b rfl]; exact o⟩
theorem Hp.map_ {es : List MapEntry} {c : Nat} (o : Hp h0 h L) (hi : L[i]? = some (mapR b es c)) : h b = some (.map es c) := o.get hi
theorem Hp.set_map {es es' : List MapEntry} {c c' : Nat} (o : Hp h0 h L) (hi : L[i]? = some (mapR b es c)) : Hp h0 (h.set b (.map es' c')) (L.set i (mapR b es' c')) :=
  o.upd hi (fun d _ hd => set_away hd) set_here fun d hd => ⟨.inl hd, by
    have hd : d = b := hd
    subst hd; rw [set_here]; simp⟩
theorem Hp.new_map (o : Hp h0 h L) {K : Value → H → Prop} (hK : ∀ b h', h b = none → Hp h0 h' (mapR b [] 0 :: L) → K (.map (some b)) h') : newMap h K := fun b hb =>
  hK b _ hb (o.add (Ext.new hb).keeps set_here fun d hd => by
    have hd : d = b := hd
    subst hd
    exact ⟨hb, by rw [set_here]; simp⟩)
/-- Two parts of a list do not meet. -/
theorem Hp.apart {r q : Res} {l1 l2 l3 : List Res} (o : Hp h0 h (l1 ++ r :: (l2 ++ q :: l3))) {b : Nat} (hb : r.foot b) : ¬ q.foot b := by
  have := o.ne (i := l1.length) (j := l1.length + 1 + l2.length) (r := r) (q := q) (by simp) (by
    rw [List.getElem?_append_right (by omega), show l1.length + 1 + l2.length - l1.length = l2.length + 1 by omega]
    simp) (by omega) hb
  exact this
end Go.Proofs.YtnlhnlmnlfmojaaDoor.Am

namespace Go.Proofs.YtnlhnlmnlfmojaaDoor.Am
open Go
set_option linter.unusedSimpArgs false
set_option linter.unusedVariables false
variable {h0 h h' : H} {L : List Res} {i j sz : Nat} {s v z : Value} {vs us : List (List Value)} {l w : List Value}

theorem BufK.pos (r : BufK sz h0 h s vs) : (∀ v ∈ vs, v.length = sz) ∧ ((∃ a, s = .slice a 0 0 ∧ vs = []) ∨
    ∃ b off cap l, cap ≠ 0 ∧ h0 b = none ∧ s = .slice (some ⟨b, off, none⟩) vs.length cap ∧ h b = some (.cells l) ∧ vs.length ≤ cap ∧ off + cap * sz ≤ l.length ∧ (l.drop off).take (vs.length * sz) = vs.flatten) := by
  obtain ⟨he, ⟨⟨a, h1⟩, h2⟩ | ⟨b, off, cap, l, h1, h2, h3, h4, h5⟩⟩ := r
  · exact ⟨he, .inl ⟨a, h1, h2⟩⟩
  · by_cases hc : cap = 0
    · subst hc
      have : vs = [] := List.length_eq_zero_iff.mp (by omega)
      subst this
      exact ⟨he, .inl ⟨_, h2, rfl⟩⟩
    · exact ⟨he, .inr ⟨b, off, cap, l, hc, h1, h2, h3, h4, h5⟩⟩
theorem BufK.self (r : BufK sz h0 h s vs) : BufK sz (h.drop s) h s vs := by
  obtain ⟨he, ⟨a, h1, h2⟩ | ⟨b, off, cap, l, hc, h1, rfl, h2⟩⟩ := r.pos
  · exact ⟨he, .inl ⟨⟨a, h1⟩, h2⟩⟩
  · exact ⟨he, .inr ⟨b, off, cap, l, drop_here (Blk_some hc), rfl, h2⟩⟩
theorem RowK.known (r : RowK sz h s vs) {b : Nat} (hb : Blk s = some b) : h b ≠ none := by
  obtain ⟨base, cap, rfl, hc, he, h1⟩ := r
  rcases h1 with rfl | ⟨a, rfl, g1, l, g2, g3, g4⟩
  · rw [Blk_nil] at hb; cases hb
  · intro h0
    have : a.block = b := by
      unfold Blk at hb
      simp only at hb
      split at hb
      · cases hb
      · exact Option.some.inj hb
    subst this
    rw [h0] at g2; simp [rowOf] at g2
theorem BufK.blk' (r : BufK sz h0 h s vs) {d : Nat} (hd : Blk s = some d) : h0 d = none := by
  obtain ⟨_, ⟨a, rfl, _⟩ | ⟨b, off, cap, l, hc, h1, rfl, _⟩⟩ := r.pos
  · rw [Blk_nil] at hd; cases hd
  · rw [Blk_some hc] at hd; cases hd; exact h1
def bufK (sz : Nat) (s : Value) (vs : List (List Value)) : Res := ⟨fun c => Blk s = some c, fun h => BufK sz noH h s vs, fun h h' e o => by
  obtain ⟨he, ⟨a, h1, h2⟩ | ⟨b, off, cap, l, hc, h1, rfl, h2, h3⟩⟩ := BufK.pos o
  · exact ⟨he, .inl ⟨⟨a, h1⟩, h2⟩⟩
  · exact ⟨he, .inr ⟨b, off, cap, l, h1, rfl, (e b (Blk_some hc)).trans h2, h3⟩⟩⟩
theorem Hp.bufK_ (o : Hp h0 h L) (hi : L[i]? = some (bufK sz s vs)) : BufK sz noH h s vs := o.get hi
theorem Hp.rowK (o : Hp h0 h L) (hi : L[i]? = some (bufK sz s vs)) : RowK sz h s vs := (o.bufK_ hi).row
theorem Hp.of_bufK {s' : Value} {vs' : List (List Value)} (o : Hp h0 h L) (hi : L[i]? = some (bufK sz s vs)) (r : BufK sz (h.drop s) h' s' vs') (e : Ext (h.drop s) h') : Hp h0 h' (L.set i (bufK sz s' vs')) := by
  refine o.upd hi (fun c hc hn => ?_) (r.mono (noH_ext _)) fun c hc => ⟨?_, r.row.known hc⟩
  · have := e.keeps c (by rw [drop_away hn]; exact hc)
    rw [this, drop_away hn]
  · by_cases hx : Blk s = some c
    · exact .inl hx
    · right
      obtain ⟨_, ⟨a, rfl, _⟩ | ⟨b, off, cap, l, hcap, h1, rfl, _⟩⟩ := r.pos
      · have hc : Blk (.slice a 0 0) = some c := hc
        rw [Blk_nil] at hc; cases hc
      · have hc : Blk (.slice (some ⟨b, off, none⟩) vs'.length cap) = some c := hc
        rw [Blk_some hcap] at hc; cases hc
        rw [drop_away hx] at h1; exact h1
theorem Hp.appK (o : Hp h0 h L) (hi : L[i]? = some (bufK sz s vs)) {bytes m : Nat} {z ws : List Value} (hz : z.length = sz) (h1 : ws.all one = true) (hu : ∀ v ∈ us, v.length = sz) (hws : ws = us.flatten) (hm : m = us.length) (hb : bytes ≤ 64) (hl : vs.length + us.length ≤ 2 ^ 40) {K : Value → H → Prop}
    (hK : ∀ s' h', Hp h0 h' (L.set i (bufK sz s' (vs ++ us))) → K s' h') : apW h sz bytes z s m ws K :=
  (o.bufK_ hi).self.app (Ext.drop h s) hz h1 hu hws hm (bytes_ok hl hb) (by omega) fun s' h' r e => hK s' h' (o.of_bufK hi r e)
/-- One more element behind a row of one's own. -/
theorem Hp.pushK (o : Hp h0 h L) (hi : L[i]? = some (bufK sz s vs)) {bytes : Nat} {z : List Value} (hz : z.length = sz) (hw : w.length = sz) (hb : bytes ≤ 64) (hl : vs.length < 2 ^ 40) (hv : w.all one = true) {K : Value → H → Prop}
    (hK : ∀ s' h', Hp h0 h' (L.set i (bufK sz s' (vs ++ [w]))) → K s' h') :
    newSl h 1 w (fun s31 h32 => slenW s31 (fun n33 => srcW h32 sz s31 (n33) (fun w34 => apW h32 sz bytes z s (n33) w34 (fun s35 h36 => K s35 h36)))) := by
  intro b hb'
  have hrow : RowK sz (h.set b (.cells w)) (.slice (some ⟨b, 0, none⟩) 1 1) [w] := RowK.cells set_here rfl (by simpa using hw) (by simp)
  show slenW (.slice (some ⟨b, 0, none⟩) 1 1) _
  rw [slenW_slice]
  refine hrow.src (by simp) ?_
  have e : ([w].take 1).flatten = w := by simp
  rw [e]
  exact (o.later (Ext.new hb')).appK hi (us := [w]) hz hv (by simpa using hw) (by simp) rfl hb (by simp; omega) hK
theorem Hp.add_nilK (o : Hp h0 h L) {a : Option Addr} : Hp h0 h (bufK sz (.slice a 0 0) [] :: L) :=
  o.add (fun _ _ => rfl) ⟨by simp, .inl ⟨⟨a, rfl⟩, rfl⟩⟩ fun c hc => by
    have hc : Blk (.slice a 0 0) = some c := hc
    rw [Blk_nil] at hc; cases hc
theorem Hp.add_bufK (o : Hp h0 h L) (e : Ext h h') (r : BufK sz h h' s vs) : Hp h0 h' (bufK sz s vs :: L) :=
  o.add e.keeps (r.mono (noH_ext _)) fun c hc => ⟨r.blk' hc, r.row.known hc⟩
theorem ldx {b : Nat} (hb : h b = some (.cells l)) {x : ByteArray} (hj : l[j]? = some (.string x)) {K : ByteArray → Prop} (hK : K x) : ptrW (Pt b) fun ad => ∃ x : ByteArray, rd h (Addr.add ad j) = some (.string x) ∧ K x := ⟨x, rdc_at hb hj, hK⟩
/-- What is new, by another base. -/
theorem BufK.of_new {h1 : H} (r : BufK sz h0 h s vs) (hn : ∀ d, Blk s = some d → h1 d = none) : BufK sz h1 h s vs := by
  obtain ⟨he, ⟨a, h1, h2⟩ | ⟨b, off, cap, l, hc, h1, rfl, h2⟩⟩ := r.pos
  · exact ⟨he, .inl ⟨⟨a, h1⟩, h2⟩⟩
  · exact ⟨he, .inr ⟨b, off, cap, l, hn _ (Blk_some hc), rfl, h2⟩⟩
theorem Buf.of_new {h1 : H} {vs : List Value} (r : Buf h0 h s vs) (hn : ∀ d, Blk s = some d → h1 d = none) : Buf h1 h s vs := by
  rcases r.pos with ⟨a, h1, h2⟩ | ⟨b, off, cap, l, hc, h1, rfl, h2⟩
  · exact .inl ⟨⟨a, h1⟩, h2⟩
  · exact .inr ⟨b, off, cap, l, hn _ (Blk_some hc), rfl, h2⟩
/-- An own row without elements. -/
theorem Hp.newSl0 (o : Hp h0 h L) {K : Value → H → Prop} (hK : ∀ s h', Hp h0 h' (bufR s [] :: L) → K s h') : newSl h 0 [] K := fun b hb =>
  hK _ _ ((o.newc hb []).cell_buf (i := 0) rfl (n := 0) rfl)
theorem Hp.newSlK (o : Hp h0 h L) {K : Value → H → Prop} (hK : ∀ s h', Hp h0 h' (bufK sz s [] :: L) → K s h') : newSl h 0 [] K := fun b hb =>
  hK _ _ (o.later (Ext.new hb)).add_nilK
/-- A row of one's own, laid at once. -/
theorem Hp.newSlN (o : Hp h0 h L) {n : Nat} {ws : List Value} (hn : ws.length = n) {K : Value → H → Prop} (hK : ∀ s h', Hp h0 h' (bufR s ws :: L) → K s h') : newSl h n ws K := fun b hb =>
  hK _ _ ((o.newc hb ws).cell_buf (i := 0) rfl hn)
theorem BufK.put (r : BufK sz h0 h s vs) (e : Ext h0 h) (hj : j < vs.length) (hw : w.length = sz) {k : Addr → Prop}
    (hk : ∀ a h', wr h a w = some h' → BufK sz h0 h' s (vs.set j w) → Ext h0 h' → k a) : slAtW s (j : Int) sz k := by
  obtain ⟨he, ⟨a, rfl, rfl⟩ | ⟨b, off, cap, l, hc, h1, rfl, g2, g3, g4, g5⟩⟩ := r.pos
  · simp at hj
  · have m1 : j * sz + sz ≤ vs.length * sz := by rw [← Nat.succ_mul]; exact Nat.mul_le_mul_right _ (by omega)
    have m2 : vs.length * sz ≤ cap * sz := Nat.mul_le_mul_right _ g3
    have e2 : (⟨b, off, none⟩ : Addr).add (Int.toNat (j : Int) * sz) = ⟨b, off + j * sz, none⟩ := by simp [Addr.add]
    refine ⟨by omega, by omega, ?_⟩
    rw [e2]
    refine hk _ (h.set b (.cells (splice l (off + j * sz) w))) ?_ ⟨?_, .inr ⟨b, off, cap, _, h1, by simp, set_here, by simpa using g3, ?_, ?_⟩⟩ (e.set h1)
    · simp only [wr, g2]
      rw [if_pos (show off + j * sz + w.length ≤ l.length by omega)]
    · intro v hv
      rcases List.mem_or_eq_of_mem_set hv with hv | hv
      · exact he v hv
      · rw [hv]; exact hw
    · rw [length_splice (by omega)]; exact g4
    · have hset : vs.set j w = vs.take j ++ w :: vs.drop (j + 1) := List.set_eq_take_append_cons_drop.trans (by rw [if_pos hj])
      have hA : (vs.take j).flatten = (l.drop off).take (j * sz) := by rw [← flat_take j he, ← g5, List.take_take, Nat.min_eq_left (by omega)]
      have hB : (vs.drop (j + 1)).flatten = (l.drop (off + (j + 1) * sz)).take (vs.length * sz - (j + 1) * sz) := by rw [← flat_drop (j + 1) he, ← g5, List.drop_take, List.drop_drop]
      have hl : (vs.set j w).length = vs.length := by simp
      rw [hl, hset, List.flatten_append, List.flatten_cons, hA, hB]
      apply List.ext_getElem?
      intro m
      have m3 : (j + 1) * sz = j * sz + sz := Nat.succ_mul j sz
      simp only [List.getElem?_take, List.getElem?_drop, getElem?_splice (show off + j * sz + w.length ≤ l.length by omega), List.getElem?_append, List.length_take, List.length_drop]
      have hmin : min (j * sz) (l.length - off) = j * sz := by omega
      rw [hmin]
      by_cases q1 : m < j * sz
      · rw [if_pos (by omega), if_pos (by omega), if_pos q1, if_pos q1]
      · rw [if_neg q1]
        by_cases q2 : m < j * sz + sz
        · rw [if_pos (by omega), if_neg (by omega), if_pos (by omega), if_pos (by omega)]
          congr 1; omega
        · rw [if_neg (show ¬ m - j * sz < w.length by omega)]
          by_cases q3 : m < vs.length * sz
          · rw [if_pos q3, if_neg (by omega), if_neg (by omega), if_pos (by omega)]
            congr 1; omega
          · rw [if_neg q3, if_neg (by omega)]
theorem Hp.putK (o : Hp h0 h L) (hi : L[i]? = some (bufK sz s vs)) (hj : j < vs.length) (hw : w.length = sz) {T U : Prop} (hT : T) (hU : U) {K : H → Prop} (hK : ∀ h', Hp h0 h' (L.set i (bufK sz s (vs.set j w))) → K h') :
    slAtW s (j : Int) sz fun ad => T ∧ U ∧ ∃ h', Am.wr h ad w = some h' ∧ K h' :=
  (o.bufK_ hi).self.put (Ext.drop h s) hj hw fun a h' hwr r e => ⟨hT, hU, h', hwr, hK h' (o.of_bufK hi r e)⟩
end Go.Proofs.YtnlhnlmnlfmojaaDoor.Am

namespace Go.Proofs.YtnlhnlmnlfmojaaDoor.Am
open Go Go.RowKit
set_option linter.unusedSimpArgs false
set_option linter.unusedVariables false
variable {P : Program} {h : H} {W W' : World}

theorem Rel.below (r : Rel h W) (b : Below W.heap.size W W') : Rel h W' := fun c o hc => by
  rw [b.block c (r.lt hc)]; exact r c o hc
theorem frame_below (b : Below W.heap.size W W') : Am.Frame h W h W' :=
  ⟨b.os, b.tape, b.output, b.size, fun c hc _ => b.block c hc, fun _ _ x => x, fun _ _ x => x⟩
/-- A call that answers one value and makes new blocks at most. -/
theorem cs_below {f : FuncId} {args : List Value} {k : Kv} {kp : Kp} {v : Value} (hc : ∀ W, Rel h W → Calls P f args.toArray W fun e w' => e = .returned v ∧ Below W.heap.size W w') (hk : k v h) : CS P f args h k kp :=
  fun W R r hv hp => (hc W r).mono fun e w' ⟨he, hb⟩ => by
    subst he
    exact hv v h w' hk (r.below hb) (frame_below hb)
/-- A new block of cells is known behind a call. -/
theorem rel_new (r : Rel h W) (b : Below W.heap.size W W') {c : Nat} {l : List Value} (hc : W.heap.size ≤ c) (hm : OMatch W'.heap[c]? (.cells l)) : Rel (h.set c (.cells l)) W' ∧ Am.Frame h W (h.set c (.cells l)) W' := by
  refine ⟨fun d o hd => ?_, b.os, b.tape, b.output, b.size, fun d hd _ => b.block d hd, fun d hd hn => ?_, fun d l' hl => ?_⟩
  · unfold H.set at hd
    split at hd
    · rename_i e; subst e; cases hd; exact hm
    · exact r.below b d o hd
  · unfold H.set; rw [if_neg (by omega)]; exact hn
  · unfold H.set; rw [if_neg (by have := r.lt hl; omega)]; exact hl
end Go.Proofs.YtnlhnlmnlfmojaaDoor.Am

namespace Go.Proofs.YtnlhnlmnlfmojaaDoor.Am
open Go Go.ChangeShapes Go.RowKit
set_option linter.unusedSimpArgs false

/-- The memory as it was handed in, to be read alone. -/
def handed (W : World) : H := fun b => match W.heap[b]? with
  | some (.cells l _ _) => some (.ro l.toList)
  | _ => none
theorem handed_rel (W : World) : Rel (handed W) W := by
  intro b o hb
  unfold handed at hb
  split at hb
  · rename_i l t fz hw
    obtain rfl := Option.some.inj hb
    exact ⟨t, fz, by rw [hw]⟩
  · cases hb
theorem handed_ro {W : World} {b : Nat} : handed W b = none ∨ ∃ l, handed W b = some (.ro l) := by
  unfold handed
  split
  · exact .inr ⟨_, rfl⟩
  · exact .inl rfl
theorem Frame.below {W W' : World} {h' : H} (f : Am.Frame (handed W) W h' W') : Below W.heap.size W W' :=
  ⟨f.os, f.tape, f.output, f.size, fun b hb => f.keep b hb handed_ro⟩
/-- A call that is read to answer true. -/
theorem calls_true {P : Program} {f : FuncId} {args : List Value} {W : World} (h : CS P f args (handed W) (fun v _ => v = .bool true) (fun _ _ => False)) :
    Calls P f args.toArray W fun e w' => e = .returned (.bool true) ∧ Below W.heap.size W w' :=
  h W _ (handed_rel W) (fun v h' w' hv _ fr => ⟨by rw [hv], fr.below⟩) (fun _ _ _ hc => hc.elim)
end Go.Proofs.YtnlhnlmnlfmojaaDoor.Am
