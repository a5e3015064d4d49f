/-
  A region's reading holds of the model's region, in whatever order its operations come.
-/
import Derived.Test.YtkgjpdadeakacaaDoorAmOpAll
import Derived.Orders
namespace Go.Proofs.YtkgjpdadeakacaaDoor.Am
open Go
set_option linter.unusedSimpArgs false
variable {P : Program} {h : H} {w : World} {C : Orc} {kp : Kp} {Q : Exit → Act → World → Prop} {ops : Array Oper}

def putE (e : Env) (d : Option Nat) (v : Option Value) : Env := match d with | some d => e.set d (some (v.getD undef)) | none => e

theorem putk_putE {e : Env} {d : Option Nat} {v : Value} {k : Env → Prop} : putk e d (some v) k ↔ k (putE e d (some v)) := by
  cases d with
  | none => rfl
  | some d => exact setk_eq
theorem putk_undef {e : Env} {d : Option Nat} {k : Env → Prop} : putk e d (some undef) k ↔ k (putE e d none) := by
  cases d with
  | none => rfl
  | some d => exact setk_eq

/-- One operation with its guard: its value, or that it was passed over. -/
def step (P : Program) (C : Orc) (ops : Array Oper) (o : Oper) (e : Env) (h : H) (k : Option Value → H → Prop) (kp : Kp) : Prop :=
  match o.guard with
  | none => opW P C o e h (fun v h' => k (some v) h') kp
  | some (j, want) => ∃ s c, slotOf ops j = some s ∧ e[s]? = some (some c) ∧ (c = .bool want → opW P C o e h (fun v h' => k (some v) h') kp) ∧ (c ≠ .bool want → k none h)

theorem set_self {e : Env} {s : Nat} {x : Option Value} (hs : e[s]? = some x) : e.set s x = e := by
  apply List.ext_getElem?
  intro i
  rw [List.getElem?_set]
  split
  · rename_i hi
    subst hi
    rw [hs]
    have : s < e.length := by
      rcases Nat.lt_or_ge s e.length with h | h
      · exact h
      · simp [List.getElem?_eq_none h] at hs
    simp [this]
  · rfl

theorem againAll_iff {rs : List Oper} {e : Env} {k : Prop} : againAll P rs e h k ↔ (∀ r ∈ rs, again P r e h) ∧ k := by
  induction rs with
  | nil => simp [againAll]
  | cons r rs ih => simp [againAll, ih, and_assoc]

theorem rgn_cons {o : Oper} {chk : List Oper} {rest : List (Oper × List Oper)} {e : Env} {k : Env → H → Prop} (hk : rgn P C ops ((o, chk) :: rest) e h k kp) :
    step P C ops o e h (fun v h' => (∀ r ∈ chk, v ≠ none → again P r (putE e o.dst v) h') ∧ rgn P C ops rest (putE e o.dst v) h' k kp) kp := by
  unfold rgn at hk
  unfold step
  split at hk
  · rename_i hg
    simp only [hg]
    have e1 : (fun v h' => putk e o.dst (some v) fun e' => againAll P chk e' h' (rgn P C ops rest e' h' k kp)) =
        (fun v h' => (∀ r ∈ chk, some v ≠ none → again P r (putE e o.dst (some v)) h') ∧ rgn P C ops rest (putE e o.dst (some v)) h' k kp) := by
      funext v h'
      rw [putk_putE, againAll_iff]
      simp
    rw [e1] at hk; exact hk
  · rename_i j want hg
    simp only [hg]
    split at hk
    · exact hk.elim
    · rename_i s hs
      obtain ⟨c, hc, hk1⟩ := getk_inv hk
      clear hk
      have e1 : (fun v h' => putk e o.dst (some v) fun e' => againAll P chk e' h' (rgn P C ops rest e' h' k kp)) =
          (fun v h' => (∀ r ∈ chk, some v ≠ none → again P r (putE e o.dst (some v)) h') ∧ rgn P C ops rest (putE e o.dst (some v)) h' k kp) := by
        funext v h'
        rw [putk_putE, againAll_iff]
        simp
      refine ⟨s, c, hs, hc, fun htw => ?_, fun htw => ?_⟩
      · subst htw
        have : (bif want then want else !want) = true := by cases want <;> rfl
        simp only [grdW] at hk1
        rw [this, cond_true, setk_eq, set_self hc, e1] at hk1
        exact hk1
      · refine ⟨by simp, ?_⟩
        unfold grdW at hk1
        split at hk1
        · rename_i t
          have htw : t ≠ want := fun h => htw (by rw [h])
          have h1 : (bif want then t else !t) = false := by cases t <;> cases want <;> simp_all
          have h2 : (!want) = t := by cases t <;> cases want <;> simp_all
          rw [h1, cond_false, setk_eq, h2, set_self hc, putk_undef] at hk1
          exact hk1
        · rw [putk_undef] at hk1
          exact hk1

def yb : Value → Option Bool
  | .bool b => some b
  | _ => none
theorem step_sound (hC : Sound P C) {o : Oper} {e : Env} {a : Act} {i : Nat} {K : Act → World → Prop} (hi : ops[i]? = some o) (he : EnvR e a.tmps) (r : Rel h w) {k : Option Value → H → Prop} (hk : step P C ops o e h k kp)
    (hn : ∀ v h' w', k v h' → Rel h' w' → Frame h w h' w' → K (a.put o.dst (v.getD undef)) w') (hp : ∀ c h' w', kp c h' → Rel h' w' → Frame h w h' w' → Q (.panic c) a w') :
    wpOp P ops Q i K a w := by
  unfold wpOp
  simp only [hi]
  unfold step at hk
  split at hk
  · rename_i hg
    have : Region.wanted o (yielded ops a.tmps) = true := by simp [Region.wanted, hg]
    rw [if_pos this]
    exact .inl (opW_sound hC he r hk (fun v h' w' hv r' f => by simpa using hn (some v) h' w' hv r' f) hp)
  · rename_i j want hg
    obtain ⟨s, c, hs, hc, h1, h2⟩ := hk
    have hy : yielded ops a.tmps j = yb c := by
      unfold slotOf at hs
      unfold yielded
      rw [hs]
      simp only [Option.bind_some, he.2 _ _ hc]
      cases c <;> rfl
    by_cases ht : c = .bool want
    · have : Region.wanted o (yielded ops a.tmps) = true := by
        unfold Region.wanted
        rw [hg]
        show (yielded ops a.tmps j == some want) = true
        rw [hy, ht]
        exact beq_self_eq_true _
      rw [if_pos this]
      exact .inl (opW_sound hC he r (h1 ht) (fun v h' w' hv r' f => by simpa using hn (some v) h' w' hv r' f) hp)
    · have : ¬ Region.wanted o (yielded ops a.tmps) = true := by
        cases c <;> simp [Region.wanted, hg, hy, yb] at ht ⊢
        exact ht
      rw [if_neg this]
      simpa using hn none h w (h2 ht) r (Frame.refl _ _)

theorem EnvR.putE {e : Env} {a : Act} (r : EnvR e a.tmps) (d : Option Nat) (v : Option Value) : EnvR (putE e d v) (a.put d (v.getD undef)).tmps := by
  exact r.put d (v.getD undef)

theorem put_defers (a : Act) (d : Option Nat) (v : Value) : (a.put d v).defers = a.defers := by cases d <;> rfl

/-- In the text's order. -/
theorem seq_sound (hC : Sound P C) : ∀ (is : List Nat) (items : List (Oper × List Oper)) (e : Env) (h : H) (a : Act) (w : World) (k : Env → H → Prop), items.map (·.1) = is.filterMap (ops[·]?) → (∀ i ∈ is, ∃ o, ops[i]? = some o) →
    EnvR e a.tmps → a.defers = [] → Rel h w → rgn P C ops items e h k kp →
    (∀ e h' a w', k e h' → EnvR e a.tmps → a.defers = [] → Rel h' w' → Frame h w h' w' → Q .normal a w') → (∀ c h' a w', kp c h' → a.defers = [] → Rel h' w' → Frame h w h' w' → Q (.panic c) a w') →
    wpOps P ops Q is a w
  | [], items, e, h, a, w, k, hi, _, he, hd, r, hk, hn, _ => by
    simp at hi
    subst hi
    exact hn _ _ _ _ hk he hd r (Frame.refl _ _)
  | i :: is, items, e, h, a, w, k, hi, hv, he, hd, r, hk, hn, hp => by
    obtain ⟨o, ho⟩ := hv i (by simp)
    simp only [List.filterMap_cons, ho] at hi
    cases items with
    | nil => simp at hi
    | cons x rest =>
      obtain ⟨o', chk⟩ := x
      simp only [List.map_cons, List.cons.injEq] at hi
      obtain ⟨rfl, hi⟩ := hi
      rw [wpOps_cons]
      refine step_sound hC ho he r (rgn_cons hk) ?_ ?_
      · intro v h' w' hv' r' f
        refine seq_sound hC is rest (putE e o'.dst v) h' _ w' k hi (fun j hj => hv j (by simp [hj])) (he.putE _ _) (by rw [put_defers]; exact hd) r' hv'.2 ?_ ?_
        · intro e'' h'' a'' w'' hk' he' hd' r'' f'
          exact hn _ _ _ _ hk' he' hd' r'' (f.trans f')
        · intro c h'' a'' w'' hc hd' r'' f'
          exact hp _ _ _ _ hc hd' r'' (f.trans f')
      · intro c h' w' hc r' f
        exact hp _ _ _ _ hc hd r' f

theorem filterMap_range' (l : List Oper) : ∀ n, n ≤ l.length → (List.range n).filterMap (l[·]?) = l.take n
  | 0, _ => by simp
  | n + 1, hn => by
    rw [List.range_succ, List.filterMap_append, filterMap_range' l n (by omega), List.take_add_one]
    simp [List.getElem?_eq_getElem (show n < l.length by omega)]
theorem filterMap_range (l : List Oper) : (List.range l.length).filterMap (l[·]?) = l := by
  rw [filterMap_range' l _ (Nat.le_refl _), List.take_length]
end Go.Proofs.YtkgjpdadeakacaaDoor.Am
