/-
  Code, loops and a function's body: what is read holds of the model's run.
-/
import Derived.Test.YtkgjpdadeakacaaDoorAmDraw
import Derived.Control
namespace Go.Proofs.YtkgjpdadeakacaaDoor.Am
open Go
set_option linter.unusedSimpArgs false
variable {P : Program} {C : Orc} {L : Lor} {lv : Lv}

def X.ex : X → Exit
  | .n => .normal
  | .e i => .exit i
  | .r => .ret
  | .p c => .panic c
def At (x : X) (e : Env) (a : Act) : Prop := match x with
  | .p _ => True
  | _ => EnvR e a.tmps
def Post (K : Kx) (h : H) (w : World) (Q : Exit → Act → World → Prop) : Prop :=
  ∀ x e h' a w', K x e h' → At x e a → a.defers = [] → Rel h' w' → Frame h w h' w' → Q x.ex a w'
theorem Post.later {K : Kx} {h h' : H} {w w' : World} {Q : Exit → Act → World → Prop} (p : Post K h w Q) (f : Frame h w h' w') : Post K h' w' Q :=
  fun x e h'' a w'' hk ha hd r f' => p x e h'' a w'' hk ha hd r (f.trans f')

theorem tyW_inv {d : Kd} {v : Value} {k : Value → Prop} (hk : tyW d v k) : k v := by
  unfold tyW at hk
  cases d with
  | raw => exact hk
  | int j =>
    obtain ⟨n, rfl, hk1⟩ := intK_inv hk
    exact hk1
  | bool => obtain ⟨b, rfl, hk⟩ := boolW_inv hk; exact hk
  | str => obtain ⟨b, rfl, hk⟩ := strW_inv hk; exact hk
theorem openArgs_inv : ∀ {ds : List Kd} {vs : List Value} {k : List Value → Prop}, openArgs ds vs k → k vs
  | [], _, _, hk => hk
  | _ :: _, [], _, hk => hk
  | d :: ds, v :: vs, k, hk => openArgs_inv (ds := ds) (vs := vs) (k := fun vs => k (v :: vs)) (tyW_inv (k := fun v => openArgs ds vs fun vs => k (v :: vs)) hk)
theorem buildk_inv {n : Nat} : ∀ {l : List (Nat × Kd)} {vs : List Value} {j : Nat} {k : Env → Prop}, buildk n l vs j k → k (buildFrom n l vs j)
  | [], _, _, k, hk => hk
  | (s, d) :: ss, vs, j, k, hk => by
    have hk := tyW_inv (k := fun v => buildk n ss vs (j + 1) fun e => setk e s (some v) k) hk
    have := buildk_inv (n := n) (l := ss) (vs := vs) (j := j + 1) (k := fun e => setk e s (some (nth vs j)) k) hk
    exact setk_eq.mp this
theorem EnvR.know {e : Env} {tmps : Array Value} (r : EnvR e tmps) {s : Nat} {v : Value} (hv : tmps[s]? = some v) : EnvR (e.set s (some v)) tmps := by
  refine ⟨by simp [r.1], fun t u ht => ?_⟩
  rw [List.getElem?_set] at ht
  split at ht
  · rename_i h1
    subst h1
    split at ht
    · simp at ht; subst ht; exact hv
    · simp at ht
  · exact r.2 t u ht
/-- The slots hold these values. -/
def Holds (tmps : Array Value) (l : List (Nat × Kd)) (vs : List Value) : Prop := ∀ j s, l[j]? = some s → tmps[s.1]? = some (nth vs j)
theorem projk_inv {e : Env} {tmps : Array Value} (r : EnvR e tmps) : ∀ {l : List (Nat × Kd)} {k : List Value → Prop}, projk e l k → ∃ vs, k vs ∧ Holds tmps l vs
  | [], k, hk => ⟨[], hk, fun j s h => by simp at h⟩
  | (s, d) :: ss, k, hk => by
    obtain ⟨v, hv, hk⟩ := getk_inv hk
    obtain ⟨vs, hk, hr⟩ := projk_inv r hk
    refine ⟨v :: vs, hk, fun j t ht => ?_⟩
    cases j with
    | zero => simp at ht; subst ht; exact r.2 _ _ hv
    | succ j => exact hr j t (by simpa using ht)
theorem build_holds {tmps : Array Value} {vs : List Value} : ∀ {l : List (Nat × Kd)} {j : Nat}, (∀ i s, l[i]? = some s → tmps[s.1]? = some (nth vs (j + i))) → EnvR (buildFrom tmps.size l vs j) tmps
  | [], _, _ => by simp [buildFrom, EnvR, List.getElem?_replicate]
  | (s, d) :: ss, j, h => by
    have h0 := h 0 (s, d) (by simp)
    have hr := build_holds (tmps := tmps) (vs := vs) (l := ss) (j := j + 1) fun i t ht => by
      have := h (i + 1) t (by simpa using ht)
      rw [this]; congr 2; omega
    exact hr.know h0
theorem projk_build {e : Env} {tmps : Array Value} (r : EnvR e tmps) {l : List (Nat × Kd)} {k : List Value → Prop} (hk : projk e l k) : ∃ vs, k vs ∧ EnvR (buildFrom tmps.size l vs 0) tmps := by
  obtain ⟨vs, h1, h2⟩ := projk_inv r hk
  exact ⟨vs, h1, build_holds fun i s hs => by rw [h2 i s hs]; simp⟩
theorem fits_inv {n : Nat} {e : Env} {k : Prop} (hk : fits n e k) : e.length = n ∧ k := by
  unfold fits at hk
  split at hk
  · rename_i h1; exact ⟨Nat.eq_of_beq_eq_true h1, hk⟩
  · exact hk.elim
theorem keepk_inv {n : Nat} {l : List (Nat × Kd)} {e : Env} {k : Env → Prop} {tmps : Array Value} (r : EnvR e tmps) (hk : keepk n l e k) : ∃ e', k e' ∧ EnvR e' tmps := by
  obtain ⟨hl, hk⟩ := fits_inv hk
  obtain ⟨vs, hk, hr⟩ := projk_build r hk
  have hk := buildk_inv hk
  rw [← r.1, hl] at hr
  exact ⟨_, hk, hr⟩
theorem meet_inv {b : Code} {e : Env} {h : H} {F : Env → H → Prop} {tmps : Array Value} (r : EnvR e tmps) (hk : meet lv b e h F) : ∃ e', F e' h ∧ EnvR e' tmps := by
  unfold meet at hk
  split at hk
  · split at hk
    · exact keepk_inv r hk
    · exact ⟨e, hk, r⟩
  · exact ⟨e, hk, r⟩
/-- What holds behind a loop, from the values that it is left with. -/
def AtL (lv : Lv) (id : Nat) (x : X) (vs : List Value) (a : Act) : Prop := match x with
  | .n => False
  | .p _ => True
  | .r => lv.n = a.tmps.size ∧ Holds a.tmps lv.ret vs
  | .e i => lv.n = a.tmps.size ∧ ∃ l, pick i (fun _ l' => l' = l) (lv.ext id) ∧ Holds a.tmps l vs
theorem pick_same {i : Nat} {f : Nat → List (Nat × Kd) → Prop} {l : List (Nat × Kd)} : ∀ {r : List (Nat × List (Nat × Kd))}, pick i f r → pick i (fun _ l' => l' = l) r → f i l
  | [], hk, _ => hk.elim
  | (j, m) :: r, hk, hl => by
    unfold pick at hk hl
    cases h1 : Nat.beq i j with
    | true =>
      obtain rfl := Nat.eq_of_beq_eq_true h1
      simp only [h1, cond_true] at hk hl
      subst hl; exact hk
    | false =>
      simp only [h1, cond_false] at hk hl
      exact pick_same hk hl
theorem pick_find {i : Nat} {f : Nat → List (Nat × Kd) → Prop} : ∀ {r : List (Nat × List (Nat × Kd))}, pick i f r → ∃ l, pick i (fun _ l' => l' = l) r ∧ f i l
  | [], hk => hk.elim
  | (j, m) :: r, hk => by
    unfold pick at hk
    cases h1 : Nat.beq i j with
    | true =>
      obtain rfl := Nat.eq_of_beq_eq_true h1
      simp only [h1, cond_true] at hk
      exact ⟨m, by unfold pick; simp only [h1, cond_true], hk⟩
    | false =>
      simp only [h1, cond_false] at hk
      obtain ⟨l, h2, h3⟩ := pick_find hk
      exact ⟨l, by unfold pick; simp only [h1, cond_false]; exact h2, h3⟩
theorem quit_inv {id : Nat} {K : Kl} {x : X} {e : Env} {h : H} {a : Act} (ha : At x e a) (hk : quit lv id K x e h) : ∃ vs, K x vs h ∧ AtL lv id x vs a := by
  unfold quit at hk
  cases x with
  | n => exact hk.elim
  | r =>
    obtain ⟨hl, hk⟩ := fits_inv hk
    obtain ⟨vs, h1, h2⟩ := projk_inv ha hk
    exact ⟨vs, h1, by rw [← hl]; exact ha.1, h2⟩
  | e i =>
    obtain ⟨hl, hk⟩ := fits_inv hk
    obtain ⟨l, h1, hk⟩ := pick_find hk
    obtain ⟨vs, h3, h2⟩ := projk_inv ha hk
    exact ⟨vs, h3, by rw [← hl]; exact ha.1, l, h1, h2⟩
  | p c => exact ⟨[], hk, trivial⟩
theorem leave_inv {id : Nat} {K : Kx} {x : X} {vs : List Value} {h : H} {a : Act} (ha : AtL lv id x vs a) (hk : leave lv id K x vs h) : ∃ e', K x e' h ∧ At x e' a := by
  unfold leave at hk
  cases x with
  | n => exact hk.elim
  | r =>
    have hk := buildk_inv hk
    refine ⟨_, hk, ?_⟩
    rw [ha.1]
    exact build_holds fun i s hs => by rw [ha.2 i s hs]; simp
  | e i =>
    obtain ⟨hn, l, h1, h2⟩ := ha
    have hk := buildk_inv (pick_same hk h1)
    refine ⟨_, hk, ?_⟩
    rw [hn]
    exact build_holds fun i s hs => by rw [h2 i s hs]; simp
  | p c => exact ⟨[], hk, trivial⟩
def PostL (lv : Lv) (id : Nat) (K : Kl) (h : H) (w : World) (Q : Exit → Act → World → Prop) : Prop :=
  ∀ x vs h' a w', K x vs h' → AtL lv id x vs a → a.defers = [] → Rel h' w' → Frame h w h' w' → Q x.ex a w'

def SoundLoop (P : Program) (L : Lor) (lv : Lv) (b : Code) : Prop :=
  ∀ i, firstId b = some i → ∀ vs h K a w Q, L b vs h K → EnvR (buildFrom lv.n (lv.head i) vs 0) a.tmps → a.defers = [] → Rel h w → PostL lv i K h w Q → (Code.loop b).wp P Q a w
def loopsOf : Code → List Code
  | .seq a b => loopsOf a ++ loopsOf b
  | .cond _ a b => loopsOf a ++ loopsOf b
  | .block _ a => loopsOf a
  | .loop a => [a]
  | _ => []
def okCode (P : Program) : Code → Bool
  | .region _ ops draw => !draw || okRgn P ops.toList
  | .seq a b => okCode P a && okCode P b
  | .cond _ a b => okCode P a && okCode P b
  | .block _ a => okCode P a
  | .loop a => okCode P a
  | _ => true

theorem exec_sound (hw : P.follows .mixedOrders = true) (hC : Sound P C) (hM : Mono C) : ∀ (c : Code), okCode P c = true → (∀ b ∈ loopsOf c, SoundLoop P L lv b) →
    ∀ {e : Env} {h : H} {a : Act} {w : World} {K : Kx} {Q : Exit → Act → World → Prop}, exec P C L lv c e h K → EnvR e a.tmps → a.defers = [] → Rel h w → Post K h w Q → c.wp P Q a w := by
  intro c
  induction c with
  | skip => intro _ _ e h a w K Q hk he hd r p; exact wp_skip (p .n e h a w hk he hd r (Frame.refl _ _))
  | exit id => intro _ _ e h a w K Q hk he hd r p; exact wp_exit (p (.e id) e h a w hk he hd r (Frame.refl _ _))
  | ret => intro _ _ e h a w K Q hk he hd r p; exact wp_ret (p .r e h a w hk he hd r (Frame.refl _ _))
  | region id ops draw =>
    intro hok _ e h a w K Q hk he hd r p
    cases draw with
    | false => exact text_sound hC he hd r hk (fun e h' a w' hk' he' hd' r' f => p .n e h' a w' hk' he' hd' r' f) (fun c h' a w' hc hd' r' f => p (.p c) [] h' a w' hc trivial hd' r' f)
    | true => exact draw_sound hw hC hM (by simpa [okCode] using hok) he hd r hk (fun e h' a w' hk' he' hd' r' f => p .n e h' a w' hk' he' hd' r' f) (fun c h' a w' hc hd' r' f => p (.p c) [] h' a w' hc trivial hd' r' f)
  | seq x y ihx ihy =>
    intro hok hl e h a w K Q hk he hd r p
    simp only [okCode, Bool.and_eq_true] at hok
    refine wp_seq (ihx hok.1 (fun b hb => hl b (by simp [loopsOf, hb])) hk he hd r ?_)
    intro x e' h' a' w' hk' ha' hd' r' f
    cases x with
    | n =>
      obtain ⟨e'', hk'', he''⟩ := meet_inv ha' hk'
      exact ihy hok.2 (fun b hb => hl b (by simp [loopsOf, hb])) hk'' he'' hd' r' (p.later f)
    | e i => exact p (.e i) e' h' a' w' hk' ha' hd' r' f
    | r => exact p .r e' h' a' w' hk' ha' hd' r' f
    | p c => exact p (.p c) e' h' a' w' hk' trivial hd' r' f
  | cond c x y ihx ihy =>
    intro hok hl e h a w K Q hk he hd r p
    simp only [okCode, Bool.and_eq_true] at hok
    have hk := ev_inv he hk
    obtain ⟨t, ht, hk'⟩ := boolW_inv hk
    refine wp_cond ht ?_
    cases t with
    | true => exact ihx hok.1 (fun b hb => hl b (by simp [loopsOf, hb])) hk' he hd r p
    | false => exact ihy hok.2 (fun b hb => hl b (by simp [loopsOf, hb])) hk' he hd r p
  | block id x ih =>
    intro hok hl e h a w K Q hk he hd r p
    refine wp_block (ih hok hl hk he hd r ?_)
    intro x e' h' a' w' hk' ha' hd' r' f
    cases x with
    | n => exact p .n e' h' a' w' hk' ha' hd' r' f
    | e i =>
      dsimp only at hk'
      simp only [X.ex, Exit.inBlock]
      split at hk'
      · rename_i h1
        rw [if_pos (Nat.eq_of_beq_eq_true h1)]
        exact p .n e' h' a' w' hk' ha' hd' r' f
      · rename_i h1
        rw [if_neg (Nat.ne_of_beq_eq_false h1)]
        exact p (.e i) e' h' a' w' hk' ha' hd' r' f
    | r => exact p .r e' h' a' w' hk' ha' hd' r' f
    | p c => exact p (.p c) e' h' a' w' hk' trivial hd' r' f
  | loop b ih =>
    intro hok hl e h a w K Q hk he hd r p
    unfold exec at hk
    split at hk
    · rename_i i hi
      obtain ⟨hn, hk⟩ := fits_inv hk
      obtain ⟨vs, hk, hr⟩ := projk_build he hk
      rw [← he.1, hn] at hr
      refine hl b (by simp [loopsOf]) i hi vs h (leave lv i K) a w Q hk hr hd r ?_
      intro x vs' h' a' w' hk' ha' hd' r' f
      obtain ⟨e'', hk'', ha''⟩ := leave_inv ha' hk'
      exact p x e'' h' a' w' hk'' ha'' hd' r' f
    · exact hk.elim
  | _ => intro _ _ e h a w K Q hk; exact hk.elim

/-- A loop that is the least that its rounds make. -/
theorem loop_sound (hw : P.follows .mixedOrders = true) (hC : Sound P C) (hM : Mono C) {b : Code} (hok : okCode P b = true) (hin : ∀ c ∈ loopsOf b, SoundLoop P L lv c)
    (hL : ∀ vs h K, L b vs h K → ∀ I : List Value → H → Prop, (∀ vs h, round P C L lv b I K vs h → I vs h) → I vs h) : SoundLoop P L lv b := by
  intro i hi vs h K a w Q hk he hd r p
  intro fb k cs
  have key := hL vs h K hk (fun vs h' => ∀ a w', EnvR (buildFrom lv.n (lv.head i) vs 0) a.tmps → a.defers = [] → Rel h' w' → Frame h w h' w' →
      ∃ e a' w'', Q e a' w'' ∧ Arrives P (lone (fb.at a (.code b :: .inLoop b :: k)) cs w') fb k cs e a' w'') ?_ a w he hd r (Frame.refl _ _)
  · obtain ⟨e, a', w', hq, harr⟩ := key
    exact ⟨e, a', w', hq, .of_steps (.one step_loop) harr⟩
  · intro vs h' hr a w' he hd r f
    unfold round at hr
    simp only [hi] at hr
    have hr := buildk_inv hr
    have hwp := exec_sound (Q := Exit.then (fun a' w'' => ∃ e a'' w''', Q e a'' w''' ∧ Arrives P (lone (fb.at a' (.code b :: .inLoop b :: k)) cs w'') fb k cs e a'' w''') Q) hw hC hM b hok hin hr he hd r ?_
    · obtain ⟨e, a₁, w₁, hq, harr⟩ := hwp fb (.inLoop b :: k) cs
      cases e with
      | normal =>
        obtain ⟨e₂, a₂, w₂, hq₂, harr₂⟩ := hq
        exact ⟨e₂, a₂, w₂, hq₂, .of_steps (Steps.trans harr (.one step_inLoop)) harr₂⟩
      | exit id => exact ⟨_, a₁, w₁, hq, .pass (x := .inLoop b) rfl (fun _ _ => .inl (by simp)) harr⟩
      | goto l => exact ⟨_, a₁, w₁, hq, .pass (x := .inLoop b) rfl (fun _ _ => .inl (by simp)) harr⟩
      | ret => exact ⟨_, a₁, w₁, hq, .pass (x := .inLoop b) rfl (fun _ _ => .inl (by simp)) harr⟩
      | panic ch => exact ⟨_, a₁, w₁, hq, .pass (x := .inLoop b) rfl (fun _ _ => .inl (by simp)) harr⟩
      | outgrown => exact ⟨_, a₁, w₁, hq, .pass (x := .inLoop b) rfl (fun _ _ => .inl (by simp)) harr⟩
    · intro x e' h'' a' w'' hk' ha' hd' r' f'
      cases x with
      | n =>
        obtain ⟨hn, hk'⟩ := fits_inv hk'
        obtain ⟨vs', hI, hr'⟩ := projk_build ha' hk'
        rw [← ha'.1, hn] at hr'
        exact hI a' w'' hr' hd' r' (f.trans f')
      | e j =>
        obtain ⟨vs', h1, h2⟩ := quit_inv ha' hk'
        exact p (.e j) vs' h'' a' w'' h1 h2 hd' r' (f.trans f')
      | r =>
        obtain ⟨vs', h1, h2⟩ := quit_inv ha' hk'
        exact p .r vs' h'' a' w'' h1 h2 hd' r' (f.trans f')
      | p c => exact p (.p c) [] h'' a' w'' hk' trivial hd' r' (f.trans f')

/-- The model's own calls, as an oracle. -/
def CS (P : Program) : Orc := fun f args h k kp => ∀ w R, Rel h w →
  (∀ v h' w', k v h' → Rel h' w' → Frame h w h' w' → R (.returned v) w') → (∀ c h' w', kp c h' → Rel h' w' → Frame h w h' w' → R (.panicked c) w') → Calls P f args.toArray w R
theorem CS_sound : Sound P (CS P) := fun _ _ _ _ _ h w R r hv hp => h w R r hv hp
theorem CS_mono : Mono (CS P) := fun _ _ _ _ _ _ _ hk hp h w R r hv hc => h w R r (fun v h' w' x => hv v h' w' (hk v h' x)) (fun c h' w' x => hc c h' w' (hp c h' x))

def resv (tmps : Array Value) : ResultVar → Sem Value
  | .tmp t => pure (tmps.getD t undef)
  | .cell a t => do loadVar t (← asAddr (tmps.getD a undef))

theorem resW_run {h : H} {w : World} (r : Rel h w) {e : Env} {tmps : Array Value} (he : EnvR e tmps) : ∀ {rs : List ResultVar} {k : List Value → Prop}, resW P h e rs k →
    ∃ vs, k vs ∧ (rs.mapM (resv tmps)).run P w = .ok vs w
  | [], k, hk => ⟨[], hk, by simp⟩
  | .tmp t :: rs, k, hk => by
    obtain ⟨v, hv, hk⟩ := getk_inv hk
    obtain ⟨vs, hk, hr⟩ := resW_run r he hk
    have := he.2 _ _ hv
    exact ⟨v :: vs, hk, by simp only [List.mapM_cons, Sem.run_bind, resv, Sem.run_pure, Result.andThen_ok, hr]; simp [this]⟩
  | .cell t ty :: rs, k, hk => by
    obtain ⟨v, hv, hk'⟩ := getk_inv hk
    clear hk
    obtain ⟨ad, rfl, hk⟩ := ptrW_inv hk'
    clear hk'
    have ht := he.2 _ _ hv
    have hq : ∀ {x : Value}, (loadVar ty ad).run P w = .ok x w → (resv tmps (.cell t ty)).run P w = .ok x w := by
      intro x hx
      simp only [resv, Array.getD_eq_getD_getElem?, ht, Option.getD_some, Sem.run_bind, asAddr, Sem.run_pure, Result.andThen_ok, hx]
    split at hk
    · rename_i hag
      split at hk
      · obtain ⟨cs, h1, hk⟩ := exL_inv hk
        obtain ⟨vs, hk, hr⟩ := resW_run r he hk
        have := load_sound_agg r hag h1
        simp [Instr.loadAt, Instr.sureAddr] at this
        refine ⟨_, hk, ?_⟩
        simp only [List.mapM_cons, Sem.run_bind, hq this, Sem.run_pure, Result.andThen_ok, hr]
      · exact hk.elim
    · rename_i hag
      split at hk
      · rename_i d hd
        obtain ⟨u, h1, hk⟩ := exLeaf_inv hk
        obtain ⟨vs, hk, hr⟩ := resW_run r he hk
        have := load_sound_one r hd hag h1
        simp [Instr.loadAt, Instr.sureAddr] at this
        refine ⟨_, hk, ?_⟩
        simp only [List.mapM_cons, Sem.run_bind, hq this, Sem.run_pure, Result.andThen_ok, hr]
      · exact hk.elim

theorem results_run {fn : Func} {h : H} {w : World} (r : Rel h w) {e : Env} {tmps : Array Value} (he : EnvR e tmps) {k : List Value → Prop} (hk : resW P h e fn.results.toList k) :
    ∃ vs, k vs ∧ (results fn tmps).run P w = .ok (tupOf vs) w := by
  obtain ⟨vs, h1, h2⟩ := resW_run r he hk
  refine ⟨vs, h1, ?_⟩
  have e1 : results fn tmps = (do
    let vs ← fn.results.mapM (resv tmps)
    pure (if h : vs.size = 1 then vs[0] else .tuple vs)) := by
    unfold results
    congr 2
  rw [e1, Array.mapM_eq_mapM_toList]
  simp only [Sem.run_bind, Sem.run_map, map_eq_pure_bind, h2, Result.andThen_ok, Sem.run_pure]
  rcases vs with _ | ⟨v, _ | ⟨u, vs⟩⟩ <;> simp [tupOf]

theorem startEnv_ok {n : Nat} {args : List Value} : EnvR (startEnv n args) (args.toArray ++ Array.replicate (n - args.toArray.size) undef) := by
  refine ⟨by simp [startEnv], fun s v hs => ?_⟩
  unfold startEnv at hs
  rw [List.getElem?_append] at hs
  split at hs
  · rename_i hlt
    have hlt' : s < args.length := by simpa using hlt
    rw [Array.getElem?_append, if_pos (by simpa using hlt')]
    simpa using hs
  · rw [List.getElem?_replicate] at hs
    split at hs <;> simp at hs

theorem body_sound (hw : P.follows .mixedOrders = true) {f : FuncId} {fn : Func} {c : Code} (hf : P.funcs[f]? = some fn) (hb : fn.body = some c) (hok : okCode P c = true) (hl : ∀ b ∈ loopsOf c, SoundLoop P L lv b)
    {args : List Value} {h : H} {k : Kv} {kp : Kp} (hk : bodyW P (CS P) L lv fn args h k kp) : CS P f args h k kp := by
  intro w R r hv hp
  unfold bodyW at hk
  simp only [hb] at hk
  have hk := openArgs_inv hk
  refine calls_of_wp hf hb (exec_sound hw CS_sound CS_mono c hok hl hk startEnv_ok rfl r ?_)
  intro x e h' a w' hk' ha hd r' f'
  cases x with
  | n =>
    obtain ⟨vs, h1, h2⟩ := results_run r' ha hk'
    exact ⟨hd, _, h2, hv _ _ _ h1 r' f'⟩
  | r =>
    obtain ⟨vs, h1, h2⟩ := results_run r' ha hk'
    exact ⟨hd, _, h2, hv _ _ _ h1 r' f'⟩
  | e i => exact hk'.elim
  | p c => exact ⟨hd, hp _ _ _ hk' r' f'⟩
end Go.Proofs.YtkgjpdadeakacaaDoor.Am
