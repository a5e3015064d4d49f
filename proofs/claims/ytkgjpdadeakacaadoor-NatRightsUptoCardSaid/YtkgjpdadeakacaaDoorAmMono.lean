/-
  What is asked of the end may be weakened.
-/
import Derived.Test.YtkgjpdadeakacaaDoorAmNf
namespace Go.Proofs.YtkgjpdadeakacaaDoor.Am
open Go
set_option linter.unusedSimpArgs false
variable {P : Program} {C : Orc} {ops : Array Oper}

def Mono (C : Orc) : Prop := ∀ f args h (k k' : Kv) (kp kp' : Kp), (∀ v h', k v h' → k' v h') → (∀ c h', kp c h' → kp' c h') → C f args h k kp → C f args h k' kp'

theorem getk_mono {e : Env} {s : Nat} {k k' : Value → Prop} (hm : ∀ v, k v → k' v) (hk : getk e s k) : getk e s k' := by
  rcases det_getk e s with d | ⟨v, d⟩
  · exact absurd hk (d _)
  · exact (d _).mpr (hm _ ((d _).mp hk))
theorem Det.mono {α : Type} {W : (α → Prop) → Prop} (d : Det W) {k k' : α → Prop} (hm : ∀ v, k v → k' v) (hk : W k) : W k' := by
  rcases d with d | ⟨v, d⟩
  · exact absurd hk (d _)
  · exact (d _).mpr (hm _ ((d _).mp hk))
theorem exT_mono {t : TypeId} {φ ψ : Value → Prop} (hm : ∀ v, φ v → ψ v) (hk : exT P t φ) : exT P t ψ := by
  unfold exT at hk ⊢
  split
  · rename_i ha
    simp only [ha] at hk
    split
    · rename_i hl
      simp only [hl] at hk
      obtain ⟨vs, h1, h2⟩ := exL_iff.mp hk
      exact exL_iff.mpr ⟨vs, h1, hm _ h2⟩
    · rename_i hl
      simp only [hl] at hk
  · rename_i ha
    simp only [ha] at hk
    obtain ⟨v, h1, h2⟩ := exLeaf_iff.mp hk
    exact exLeaf_iff.mpr ⟨v, h1, hm _ h2⟩
theorem exTs_mono : ∀ {ts : List TypeId} {φ ψ : List Value → Prop}, (∀ v, φ v → ψ v) → exTs P ts φ → exTs P ts ψ
  | [], _, _, hm, hk => hm _ hk
  | _ :: _, _, _, hm, hk => exT_mono (fun _ h => exTs_mono (fun _ h' => hm _ h') h) hk
theorem exR_mono {ts : List TypeId} {φ ψ : Value → Prop} (hm : ∀ v, φ v → ψ v) (hk : exR P ts φ) : exR P ts ψ := by
  match ts, hk with
  | [], hk => exact exTs_mono (P := P) (ts := []) (φ := fun vs => φ (.tuple vs.toArray)) (ψ := fun vs => ψ (.tuple vs.toArray)) (fun _ h => hm _ h) hk
  | [t], hk => exact exT_mono hm hk
  | t :: u :: ts, hk => exact exTs_mono (P := P) (ts := t :: u :: ts) (φ := fun vs => φ (.tuple vs.toArray)) (ψ := fun vs => ψ (.tuple vs.toArray)) (fun _ h => hm _ h) hk
theorem callW_mono (hC : Mono C) {t : TypeId} {f : FuncId} {args : List Value} {h : H} {k k' : Kv} {kp kp' : Kp} (hm : ∀ v h', k v h' → k' v h') (hp : ∀ c h', kp c h' → kp' c h')
    (hk : callW P C t f args h k kp) : callW P C t f args h k' kp' := by
  unfold callW at hk ⊢
  split
  · rename_i hb
    simp only [hb] at hk
    exact hC _ _ _ _ _ _ _ (fun v h' hv => exR_mono (fun v' hv' => ⟨hv'.1, hm _ _ hv'.2⟩) hv) hp hk
  · rename_i hb
    simp only [hb] at hk
theorem callV_mono (hC : Mono C) {t : TypeId} {f : Value} {args : List Value} {h : H} {k k' : Kv} {kp kp' : Kp} (hm : ∀ v h', k v h' → k' v h') (hp : ∀ c h', kp c h' → kp' c h')
    (hk : callV P C t f args h k kp) : callV P C t f args h k' kp' := by
  unfold callV at hk ⊢
  split
  · exact callW_mono hC hm hp hk
  · rename_i hx
    split at hk
    · exact absurd rfl (hx _ _ _)
    · exact hk
theorem invW_mono (hC : Mono C) {t : TypeId} {r : Value} {n : String} {args : List Value} {h : H} {k k' : Kv} {kp kp' : Kp} (hm : ∀ v h', k v h' → k' v h') (hp : ∀ c h', kp c h' → kp' c h')
    (hk : invW P C t r n args h k kp) : invW P C t r n args h k' kp' := by
  unfold invW at hk ⊢
  split
  · split
    · rename_i hx
      simp only [hx] at hk
      exact callW_mono hC hm hp hk
    · rename_i hx
      simp only [hx] at hk
  · rename_i hx
    split at hk
    · exact absurd rfl (hx _ _)
    · exact hk

theorem intW_mono {v : Value} {k k' : IntKind → Int → Prop} (hm : ∀ j n, k j n → k' j n) (hk : intW v k) : intW v k' := by
  unfold intW at hk ⊢
  cases v <;> first | exact hk.elim | exact hm _ _ hk
theorem lenW_mono {v : Value} {k k' : Nat → Prop} (hm : ∀ v, k v → k' v) (hk : slenW v k) : slenW v k' := by
  unfold slenW at hk ⊢
  cases v <;> first | exact hk.elim | exact hm _ hk
theorem srcW_mono {h : H} {sz n : Nat} {v : Value} {k k' : List Value → Prop} (hm : ∀ v, k v → k' v) (hk : srcW h sz v n k) : srcW h sz v n k' := by
  unfold srcW at hk ⊢
  cases v <;> try exact hk.elim
  · exact hm _ hk
  · rename_i a _ _
    cases a
    · exact hm _ hk
    · obtain ⟨ws, h1, h2⟩ := hk
      exact ⟨ws, h1, hm _ h2⟩
theorem apW_mono {h : H} {sz bytes m : Nat} {z ws : List Value} {s : Value} {k k' : Kv} (hm : ∀ v h', k v h' → k' v h') (hk : apW h sz bytes z s m ws k) : apW h sz bytes z s m ws k' := by
  unfold apW at hk ⊢
  cases s <;> try exact hk.elim
  rename_i base len cap
  dsimp only at hk ⊢
  refine ⟨fun hc => ?_, fun hc => ?_⟩
  · have := hk.1 hc
    cases base with
    | none => exact hm _ _ this
    | some a =>
      refine ⟨fun h0 => hm _ _ (this.1 h0), fun h0 => ?_⟩
      obtain ⟨h1, h', h2, h3⟩ := this.2 h0
      exact ⟨h1, h', h2, hm _ _ h3⟩
  · obtain ⟨h1, h2, old, h3, h4⟩ := hk.2 hc
    exact ⟨h1, h2, old, h3, fun b c hb hc => hm _ _ (h4 b c hb hc)⟩
theorem cpW_mono {h : H} {n : Nat} {ws : List Value} {d : Value} {k k' : Kv} (hm : ∀ v h', k v h' → k' v h') (hk : cpW h d n ws k) : cpW h d n ws k' := by
  unfold cpW at hk ⊢
  cases d <;> try exact hk.elim
  rename_i base len cap
  dsimp only at hk ⊢
  refine ⟨fun h0 => hm _ _ (hk.1 h0), fun h0 => ?_⟩
  have := hk.2 h0
  cases base with
  | none => exact hm _ _ this
  | some a =>
    obtain ⟨h1, h', h2, h3⟩ := this
    exact ⟨h1, h', h2, hm _ _ h3⟩
theorem bltW_mono {b : Builtin} {ts : List TypeId} {vs : List Value} {h : H} {k k' : Kv} {kp kp' : Kp} (hm : ∀ v h', k v h' → k' v h') (hp : ∀ c h', kp c h' → kp' c h')
    (hk : bltW P b ts vs h k kp) : bltW P b ts vs h k' kp' := by
  unfold bltW at hk ⊢
  split at hk
  · split at hk <;> first
      | exact (det_str _).mono (fun _ => hm _ _) hk
      | exact (det_len _).mono (fun _ => hm _ _) hk
      | exact hm _ _ hk
      | skip
    · split at hk
      · exact hm _ _ hk
      · obtain ⟨es, c, h1, h2⟩ := hk; exact ⟨es, c, h1, hm _ _ h2⟩
      · exact hk.elim
    · exact hk.elim
  · split at hk
    · exact lenW_mono (fun _ h => srcW_mono (fun _ h => apW_mono hm h) h) hk
    · exact hk.elim
  · split at hk
    · exact lenW_mono (fun _ h => lenW_mono (fun _ h => srcW_mono (fun _ h => cpW_mono hm h) h) h) hk
    · exact hk.elim
  · exact (det_minMax _ _).mono (fun _ => hm _ _) hk
  · exact (det_minMax _ _).mono (fun _ => hm _ _) hk
  · exact hp _ _ hk
  · exact hk.elim

theorem Nf.imp {α : Type} {S : H → (α → H → Prop) → Prop} (n : Nf S) {h : H} {k k' : α → H → Prop} (hk : S h k) (hm : ∀ v h', k v h' → k' v h') : S h k' := by
  cases n with
  | never h1 => exact absurd hk (h1 _ _)
  | val v h1 => rw [h1] at hk ⊢; exact hm _ _ hk
  | read a R h0 h1 h2 =>
    rw [h2] at hk ⊢
    obtain ⟨v, hv, hk⟩ := hk
    exact ⟨v, hv, hm _ _ hk⟩
  | new mk o h1 =>
    rw [h1] at hk ⊢
    exact fun b hb => hm _ _ (hk b hb)
theorem nf_kp {o : Oper} (hc : clOf P o.op ≠ .e) {e : Env} {h : H} {k : Kv} {kp kp' : Kp} : opW P C o e h k kp ↔ opW P C o e h k kp' := by
  unfold opW
  cases ho : o.op <;> simp only [ho, clOf] at hc ⊢ <;> try (first | exact absurd rfl hc | exact absurd trivial hc)
  case makeFunc fn first cap => cases fn <;> exact Iff.rfl
  case call c =>
    obtain ⟨callee, args, argTypes⟩ := c
    cases callee with
    | value f => simp at hc
    | invoke r m => simp at hc
    | builtin b =>
      have : ∀ vs, bltW P b argTypes.toList vs h k kp = bltW P b argTypes.toList vs h k kp' := by
        intro vs
        unfold bltW
        cases b <;> simp only at hc <;> try (first | exact absurd rfl hc | exact absurd trivial hc)
        all_goals
          generalize argTypes.toList = tl
          rcases tl with _ | ⟨t, _ | ⟨u, _ | ⟨_, _⟩⟩⟩ <;> rcases vs with _ | ⟨x, _ | ⟨y, _ | ⟨_, _⟩⟩⟩ <;> rfl
      simp only [this]

theorem opW_mono (hC : Mono C) {o : Oper} {e : Env} {h : H} {k k' : Kv} {kp kp' : Kp} (hm : ∀ v h', k v h' → k' v h') (hp : ∀ c h', kp c h' → kp' c h')
    (hk : opW P C o e h k kp) : opW P C o e h k' kp' := by
  by_cases hc : clOf P o.op = .e
  · unfold opW at hk ⊢
    cases ho : o.op <;> simp only [ho, clOf] at hk hc ⊢ <;> try (cases hc; done)
    case store t x y =>
      refine (det_ev e x).mono (fun v hk => (det_ptr v).mono (fun a hk => (det_ev e y).mono (fun u hk => ?_) hk) hk) hk
      split at hk
      · refine (det_agg u).mono (fun cs hk => ?_) hk
        obtain ⟨h1, h2, h', h3, h4⟩ := hk
        exact ⟨h1, h2, h', h3, hm _ _ h4⟩
      · split at hk
        · obtain ⟨h1, h2, h', h3, h4⟩ := hk
          exact ⟨h1, h2, h', h3, hm _ _ h4⟩
        · exact hk.elim
    case convert s d x =>
      refine (det_ev e x).mono (fun v hk => ?_) hk
      unfold convW at hk ⊢
      split at hk
      · exact intW_mono (fun _ _ => hm _ _) hk
      · exact (det_str v).mono (fun _ => hm _ _) hk
      · exact intW_mono (fun _ _ => hm _ _) hk
      · unfold bsW at hk ⊢
        split at hk
        · exact hm _ _ hk
        · obtain ⟨ns, h1, h2⟩ := hk; exact ⟨ns, h1, hm _ _ h2⟩
        · exact hk.elim
      · exact (det_str v).mono (fun s hk b c hb hc => hm _ _ (hk b c hb hc)) hk
      · exact hk.elim
    case range t x =>
      refine (det_ev e x).mono (fun v hk => ?_) hk
      split at hk
      · exact (det_str v).mono (fun s hk b hb => hm _ _ (hk b hb)) hk
      · exact hk.elim
    case next x b =>
      cases b
      · exact hk.elim
      · refine (det_ev e x).mono (fun v hk => (det_ptr v).mono (fun a hk => ?_) hk) hk
        obtain ⟨h0, s, p, h1, h2, h3⟩ := hk
        exact ⟨h0, s, p, h1, fun x => hm _ _ (h2 x), fun x => hm _ _ (h3 x)⟩
    case panic x =>
      refine (det_ev e x).mono (fun v hk => ?_) hk
      split at hk
      · exact hp _ _ hk
      · exact hk.elim
    case call c =>
      obtain ⟨callee, args, argTypes⟩ := c
      cases callee with
      | builtin b => exact (det_evs e _).mono (fun vs hk => bltW_mono hm hp hk) hk
      | value f =>
        cases f with
        | func f => exact (det_evs e _).mono (fun vs hk => callW_mono hC hm hp hk) hk
        | tmp t => exact (det_ev e (.tmp t)).mono (fun f hk => (det_evs e _).mono (fun vs hk => callV_mono hC hm hp hk) hk) hk
        | const t => exact (det_ev e (.const t)).mono (fun f hk => (det_evs e _).mono (fun vs hk => callV_mono hC hm hp hk) hk) hk
        | global t => exact (det_ev e (.global t)).mono (fun f hk => (det_evs e _).mono (fun vs hk => callV_mono hC hm hp hk) hk) hk
      | invoke r m => exact (det_ev e r).mono (fun f hk => (det_evs e _).mono (fun vs hk => invW_mono hC hm hp hk) hk) hk
    all_goals exact hk.elim
  · exact (nf_kp hc).mp ((nf_op (C := C) hc e kp).imp hk hm)

theorem step_mono (hC : Mono C) {o : Oper} {e : Env} {h : H} {k k' : Option Value → H → Prop} {kp kp' : Kp} (hm : ∀ v h', k (some v) h' → k' (some v) h') (h0 : k none h → k' none h) (hp : ∀ c h', kp c h' → kp' c h')
    (hk : step P C ops o e h k kp) : step P C ops o e h k' kp' := by
  unfold step at hk ⊢
  split
  · rename_i hg
    simp only [hg] at hk
    exact opW_mono hC hm hp hk
  · rename_i j want hg
    simp only [hg] at hk
    obtain ⟨s, t, hs, hc, h1, h2⟩ := hk
    exact ⟨s, t, hs, hc, fun x => opW_mono hC hm hp (h1 x), fun x => h0 (h2 x)⟩
end Go.Proofs.YtkgjpdadeakacaaDoor.Am
