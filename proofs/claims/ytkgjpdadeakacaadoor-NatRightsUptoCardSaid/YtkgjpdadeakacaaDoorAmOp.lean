/-
  An operation's reading holds of the model's step.
-/
import Derived.Test.YtkgjpdadeakacaaDoorAmOpsE
namespace Go.Proofs.YtkgjpdadeakacaaDoor.Am
open Go
set_option linter.unusedSimpArgs false
variable {P : Program} {h : H} {w : World}

def EnvR (e : Env) (tmps : Array Value) : Prop := e.length = tmps.size ∧ ∀ (s : Nat) (v : Value), e[s]? = some (some v) → tmps[s]? = some v

theorem getk_inv : ∀ {e : Env} {s : Nat} {k : Value → Prop}, getk e s k → ∃ v, e[s]? = some (some v) ∧ k v
  | some v :: _, 0, k, hk => ⟨v, rfl, hk⟩
  | none :: _, 0, k, hk => hk.elim
  | [], _, k, hk => by simp [getk] at hk
  | x :: e, n + 1, k, hk => by
    have : getk e n k := by cases x <;> exact hk
    obtain ⟨v, hv, hkv⟩ := getk_inv this
    exact ⟨v, by simpa using hv, hkv⟩

theorem setk_eq : ∀ {e : Env} {d : Nat} {v : Option Value} {k : Env → Prop}, setk e d v k ↔ k (e.set d v)
  | [], _, v, k => by simp [setk]
  | x :: e, 0, v, k => by simp [setk]
  | x :: e, n + 1, v, k => by simp only [setk, List.set_cons_succ]; exact setk_eq

theorem putk_eq {e : Env} {d : Option Nat} {v : Option Value} {k : Env → Prop} : putk e d v k ↔ k (match d with | some d => e.set d v | none => e) := by
  cases d with
  | none => rfl
  | some d => exact setk_eq

theorem EnvR.set {e : Env} {tmps : Array Value} (r : EnvR e tmps) (d : Nat) (v : Value) : EnvR (e.set d (some v)) (tmps.setIfInBounds d v) := by
  refine ⟨by simp [r.1], fun s u hs => ?_⟩
  rw [List.getElem?_set] at hs
  split at hs
  · rename_i e1
    subst e1
    split at hs
    · simp at hs; subst hs
      rename_i hlt
      simp [show d < tmps.size by rw [← r.1]; exact hlt]
    · simp at hs
  · rename_i e1
    rw [Array.getElem?_setIfInBounds_ne (by simpa using e1)]
    exact r.2 s u hs
theorem EnvR.forget {e : Env} {tmps : Array Value} (r : EnvR e tmps) (d : Nat) (v : Value) : EnvR (e.set d none) (tmps.setIfInBounds d v) := by
  refine ⟨by simp [r.1], fun s u hs => ?_⟩
  rw [List.getElem?_set] at hs
  split at hs
  · split at hs <;> simp at hs
  · rename_i e1
    rw [Array.getElem?_setIfInBounds_ne (by simpa using e1)]
    exact r.2 s u hs
theorem EnvR.put {e : Env} {a : Act} (r : EnvR e a.tmps) (d : Option Nat) (v : Value) : EnvR (match d with | some d => e.set d (some v) | none => e) (a.put d v).tmps := by
  cases d with
  | none => exact r
  | some d => exact r.set d v
theorem EnvR.drop {e : Env} {a : Act} (r : EnvR e a.tmps) (d : Option Nat) (v : Value) : EnvR (match d with | some d => e.set d none | none => e) (a.put d v).tmps := by
  cases d with
  | none => exact r
  | some d => exact r.forget d v

theorem ev_inv {e : Env} {a : Act} (r : EnvR e a.tmps) {x : Operand} {k : Value → Prop} (hk : ev e x k) : k (a.eval x) := by
  unfold ev at hk
  split at hk
  · obtain ⟨v, hv, hk⟩ := getk_inv hk
    have := r.2 _ _ hv
    simpa [Act.eval, this] using hk
  · exact hk
  · exact hk
  · exact hk
theorem evs_inv {e : Env} {a : Act} (r : EnvR e a.tmps) : ∀ {xs : List Operand} {k : List Value → Prop}, evs e xs k → k (xs.map a.eval)
  | [], _, hk => hk
  | x :: xs, k, hk => by
    have := ev_inv r hk
    have := evs_inv r this
    simpa using this
theorem evo_inv {e : Env} {a : Act} (r : EnvR e a.tmps) {x : Option Operand} {k : Option Value → Prop} (hk : evo e x k) : k (x.map a.eval) := by
  cases x with
  | none => exact hk
  | some x => exact ev_inv r hk

theorem exLeaf_inv {t : TypeId} {φ : Value → Prop} (hk : exLeaf P t φ) : ∃ v, φ v := by
  unfold exLeaf at hk
  split at hk <;> obtain ⟨x, hx⟩ := hk <;> exact ⟨_, hx⟩
theorem exLr_inv : ∀ {ts : List TypeId} {φ : List Value → Prop}, exLr P ts φ → ∃ vs, φ vs
  | [], _, hk => ⟨[], hk⟩
  | t :: ts, φ, hk => by
    obtain ⟨v, hk⟩ := exLeaf_inv hk
    obtain ⟨vs, hk⟩ := exLr_inv hk
    exact ⟨_, hk⟩
theorem exL_inv {ts : List TypeId} {φ : List Value → Prop} (hk : exL P ts φ) : ∃ vs, φ vs := by
  unfold exL at hk
  split at hk
  · exact exLr_inv hk
  · exact hk
theorem exT_inv {t : TypeId} {φ : Value → Prop} (hk : exT P t φ) : ∃ v, φ v := by
  unfold exT at hk
  split at hk
  · split at hk
    · obtain ⟨vs, hk⟩ := exL_inv hk; exact ⟨_, hk⟩
    · exact hk.elim
  · exact exLeaf_inv hk
theorem exTs_inv : ∀ {ts : List TypeId} {φ : List Value → Prop}, exTs P ts φ → ∃ vs, φ vs
  | [], _, hk => ⟨[], hk⟩
  | t :: ts, φ, hk => by
    obtain ⟨v, hk⟩ := exT_inv hk
    obtain ⟨vs, hk⟩ := exTs_inv hk
    exact ⟨_, hk⟩
theorem exR_inv {ts : List TypeId} {φ : Value → Prop} (hk : exR P ts φ) : ∃ v, φ v := by
  unfold exR at hk
  split at hk
  · exact exT_inv hk
  · obtain ⟨vs, hk⟩ := exTs_inv hk; exact ⟨_, hk⟩

/-- A reading of calls that holds of the model's calls. -/
def Sound (P : Program) (C : Orc) : Prop := ∀ f args h k kp, C f args h k kp → ∀ w R, Rel h w →
  (∀ v h' w', k v h' → Rel h' w' → Frame h w h' w' → R (.returned v) w') → (∀ c h' w', kp c h' → Rel h' w' → Frame h w h' w' → R (.panicked c) w') → Calls P f args.toArray w R

theorem callFunc_run {f : FuncId} {args : Array Value} (hb : hasBody P f = true) : (callFunc f args).run P w = .ok (.enter f args) w := by
  unfold hasBody at hb
  cases hf : P.funcs[f]? with
  | none => simp [hf] at hb
  | some fn =>
    simp only [hf, Bool.and_eq_true, bne_iff_ne, ne_eq] at hb
    have hn : ¬ fn.name = "runtime.NumGoroutine" := hb.1
    cases hbd : fn.body with
    | none => simp [hbd] at hb
    | some c => simp [callFunc, hf, hn, hbd]

section step
variable {C : Orc} {o : Oper} {a : Act} {k : Kv} {kp : Kp} {next : Act → World → Prop} {Q : Exit → Act → World → Prop}

theorem upon_good {s : Sem Value} (g : Good h w (s.run P w) k) (hn : ∀ v h' w', k v h' → Rel h' w' → Frame h w h' w' → next (a.put o.dst v) w') :
    o.upon P a next Q ((do pure (Next.value (← s)) : Sem Next).run P w) := by
  obtain ⟨v, w', h', e, hk, r, f⟩ := g
  simp only [Sem.run_bind, e, Result.andThen_ok, Sem.run_pure]
  exact hn v h' w' hk r f
theorem upon_pure (r : Rel h w) {s : Sem Value} (g : ∃ v, s.run P w = .ok v w ∧ k v h) (hn : ∀ v h' w', k v h' → Rel h' w' → Frame h w h' w' → next (a.put o.dst v) w') :
    o.upon P a next Q ((do pure (Next.value (← s)) : Sem Next).run P w) := by
  obtain ⟨v, e, hk⟩ := g
  exact upon_good (by rw [e]; exact Good.pure r hk) hn

theorem callW_sound (hC : Sound P C) (r : Rel h w) {t : TypeId} {f : FuncId} {args : List Value} (hk : callW P C t f args h k kp)
    (hn : ∀ v h' w', k v h' → Rel h' w' → Frame h w h' w' → next (a.put o.dst v) w') (hp : ∀ c h' w', kp c h' → Rel h' w' → Frame h w h' w' → Q (.panic c) a w') :
    o.upon P a next Q ((callFunc f args.toArray).run P w) := by
  unfold callW at hk
  split at hk
  · rename_i hb
    rw [callFunc_run hb, Oper.upon_enter]
    refine hC _ _ _ _ _ hk w _ r ?_ ?_
    · intro v h' w' hv r' f'
      obtain ⟨v', rfl, hv⟩ := exR_inv hv
      exact hn _ _ _ hv r' f'
    · intro c h' w' hc r' f'
      exact hp _ _ _ hc r' f'
  · exact hk.elim
end step
end Go.Proofs.YtkgjpdadeakacaaDoor.Am
