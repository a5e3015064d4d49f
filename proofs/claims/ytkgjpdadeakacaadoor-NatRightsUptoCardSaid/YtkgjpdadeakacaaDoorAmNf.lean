/-
  An operation hangs on the slots that it looks at alone; what writes nothing has one of four forms, and moves past others.
-/
import Derived.Test.YtkgjpdadeakacaaDoorAmDet
namespace Go.Proofs.YtkgjpdadeakacaaDoor.Am
open Go
set_option linter.unusedSimpArgs false
variable {P : Program} {C : Orc} {ops : Array Oper}

theorem evs_congr {e e' : Env} : ∀ {l : List Operand}, (∀ x ∈ l, ev e x = ev e' x) → evs e l = evs e' l
  | [], _ => rfl
  | x :: l, hx => by
    funext k
    simp only [evs, hx x (by simp), evs_congr (l := l) fun y hy => hx y (by simp [hy])]
theorem fill_congr {e e' : Env} {place : Nat → Option (Nat × Nat × Bool)} : ∀ {l : List (Nat × Operand)} {cs : List Value}, (∀ x ∈ l.map (·.2), ev e x = ev e' x) → fillW place e l cs = fillW place e' l cs
  | [], _, _ => rfl
  | (i, x) :: l, cs, hx => by
    funext k
    have h1 := hx x (by simp)
    have h2 : ∀ cs, fillW place e l cs = fillW place e' l cs := fun cs => fill_congr fun y hy => hx y (by
      rw [List.map_cons]; exact List.mem_cons_of_mem _ hy)
    simp only [fillW, h1, h2]
theorem evo_congr {e e' : Env} {x : Option Operand} (hx : ∀ y ∈ x.toArray, ev e y = ev e' y) : evo e x = evo e' x := by
  cases x with
  | none => rfl
  | some x => funext k; simp only [evo, hx x (by simp)]

theorem opW_congr {o : Oper} {e e' : Env} {h : H} {k : Kv} {kp : Kp} (hx : ∀ x ∈ o.op.operands, ev e x = ev e' x) : opW P C o e h k kp ↔ opW P C o e' h k kp := by
  apply iff_of_eq
  unfold opW
  cases ho : o.op <;> simp only [ho, Op.operands] at hx ⊢
  case build t ps =>
    have : fillW (structPlace P t) e ps.toList = fillW (structPlace P t) e' ps.toList := funext fun cs => fill_congr (by simpa using hx)
    simp only [this]
  case buildSlice t n ps =>
    have : fillW (slicePlace P t) e ps.toList = fillW (slicePlace P t) e' ps.toList := funext fun cs => fill_congr (by simpa using hx)
    simp only [this]
  case makeFunc fn first cap =>
    cases fn <;> try rfl
    have h1 := evs_congr (e := e) (e' := e') (l := first.toList) fun x hm => hx x (by simp at hm; simp [hm])
    have h2 := evs_congr (e := e) (e' := e') (l := cap.toList) fun x hm => hx x (by simp at hm; simp [hm])
    simp only [h1, h2]
  case slice t x lo hi mx =>
    have h0 := hx x (by simp)
    have h1 := evo_congr (e := e) (e' := e') (x := lo) fun y hy => hx y (by simp at hy; simp [hy])
    have h2 := evo_congr (e := e) (e' := e') (x := hi) fun y hy => hx y (by simp at hy; simp [hy])
    have h3 := evo_congr (e := e) (e' := e') (x := mx) fun y hy => hx y (by simp at hy; simp [hy])
    simp only [h0, h1, h2, h3]
  case next x b =>
    cases b
    · rfl
    · simp only [hx x (by simp)]
  case call c =>
    obtain ⟨callee, args, argTypes⟩ := c
    have h1 := evs_congr (e := e) (e' := e') (l := args.toList) fun x hm => hx x (by simp at hm; simp [Call.operands, hm])
    cases callee with
    | builtin b => simp only [h1]
    | value f =>
      have h0 := hx f (by simp [Call.operands])
      cases f <;> simp only [h0, h1]
    | invoke r m =>
      have h0 := hx r (by simp [Call.operands])
      simp only [h0, h1]
  case pick c a b => simp only [hx c (by simp), hx a (by simp), hx b (by simp)]
  case store t x y => simp only [hx x (by simp), hx y (by simp)]
  case binOp op t x y yt => simp only [hx x (by simp), hx y (by simp)]
  case makeSlice t x y => simp only [hx x (by simp), hx y (by simp)]
  case indexAddr t x y => simp only [hx x (by simp), hx y (by simp)]
  case index t x y => simp only [hx x (by simp), hx y (by simp)]
  all_goals first | rfl | (rename_i x; simp only [hx x (by simp)]; done) | skip
  case fieldAddr s x f => simp only [hx x (by simp)]
  case field s x f => simp only [hx x (by simp)]
  case typeAssert x xt t ok => simp only [hx x (by simp)]
  case extract x i => simp only [hx x (by simp)]

/-- Two environments in which an operation finds the same. -/
def Alike (ops : Array Oper) (o : Oper) (e e' : Env) : Prop := ∀ t ∈ o.looksAt ops, e[t]? = e'[t]?

theorem getk_congr : ∀ {e e' : Env} {s : Nat}, e[s]? = e'[s]? → getk e s = getk e' s
  | [], [], _, _ => rfl
  | [], x :: e', 0, hs => by simp at hs
  | x :: e, [], 0, hs => by simp at hs
  | [], x :: e', n + 1, hs => by
    have h1 : e'[n]? = none := by simpa using hs.symm
    have := getk_congr (e := []) (e' := e') (s := n) (by simp [h1])
    funext k
    cases x <;> exact congrFun this k
  | x :: e, [], n + 1, hs => by
    have h1 : e[n]? = none := by simpa using hs
    have := getk_congr (e := e) (e' := []) (s := n) (by simp [h1])
    funext k
    cases x <;> exact congrFun this k
  | x :: e, y :: e', 0, hs => by
    have : x = y := by simpa using hs
    subst this
    funext k
    cases x <;> rfl
  | x :: e, y :: e', n + 1, hs => by
    have := getk_congr (e := e) (e' := e') (s := n) (by simpa using hs)
    funext k
    cases x <;> cases y <;> exact congrFun this k

theorem Alike.ev {o : Oper} {e e' : Env} (ha : Alike ops o e e') : ∀ x ∈ o.op.operands, ev e x = ev e' x := fun x hx => by
  cases x with
  | tmp t =>
    funext k
    have : getk e t = getk e' t := getk_congr (ha t (List.mem_append_left _ (List.mem_filterMap.2 ⟨.tmp t, by simpa using hx, rfl⟩)))
    exact congrFun this k
  | _ => rfl

theorem step_congr {o : Oper} {e e' : Env} {h : H} {k : Option Value → H → Prop} {kp : Kp} (ha : Alike ops o e e') : step P C ops o e h k kp ↔ step P C ops o e' h k kp := by
  have h1 : ∀ k, opW P C o e h k kp ↔ opW P C o e' h k kp := fun k => opW_congr ha.ev
  unfold step
  cases hg : o.guard with
  | none => exact h1 _
  | some g =>
    obtain ⟨j, want⟩ := g
    have h2 : ∀ s, slotOf ops j = some s → e[s]? = e'[s]? := fun s hs => ha s (List.mem_append_right _ (by
      have : (ops[j]?).bind (·.dst) = some s := hs
      simp [hg, this]))
    constructor
    · rintro ⟨s, t, hs, hc, ht, hf⟩
      exact ⟨s, t, hs, by rw [← h2 s hs]; exact hc, fun x => (h1 _).mp (ht x), hf⟩
    · rintro ⟨s, t, hs, hc, ht, hf⟩
      exact ⟨s, t, hs, by rw [h2 s hs]; exact hc, fun x => (h1 _).mpr (ht x), hf⟩

theorem Alike.put {o : Oper} {e : Env} {d : Option Nat} {v : Option Value} (h : ∀ t, d = some t → t ∉ o.looksAt ops) : Alike ops o (putE e d v) e := fun t ht => by
  cases d with
  | none => rfl
  | some d =>
    have hne : d ≠ t := fun x => h d rfl (x ▸ ht)
    simp [putE, hne]
theorem putE_comm {e : Env} {x y : Option Nat} {v u : Option Value} (h : ∀ d, x = some d → y ≠ some d) : putE (putE e x v) y u = putE (putE e y u) x v := by
  cases x with
  | none => rfl
  | some d =>
    cases y with
    | none => rfl
    | some f =>
      have hne : d ≠ f := fun x => h d rfl (by rw [x])
      exact List.set_comm _ _ hne

/-- Nearly all blocks are free. -/
def Fin (h : H) : Prop := ∃ n, ∀ b, n ≤ b → h b = none
theorem Fin.set {h : H} (f : Fin h) (b : Nat) (o : VObj) : Fin (h.set b o) := by
  obtain ⟨n, hn⟩ := f
  refine ⟨max n (b + 1), fun c hc => ?_⟩
  unfold H.set
  rw [if_neg (by omega)]
  exact hn c (by omega)
theorem Fin.away {h : H} (f : Fin h) (c : Nat) : ∃ b, h b = none ∧ b ≠ c := by
  obtain ⟨n, hn⟩ := f
  exact ⟨max n (c + 1), hn _ (by omega), by omega⟩
theorem Rel.fin {h : H} {w : World} (r : Rel h w) : Fin h := ⟨w.heap.size, fun b hb => by
  cases hx : h b with
  | none => rfl
  | some o => exact absurd (r.lt hx) (by omega)⟩
theorem set_set {h : H} {a b : Nat} {o u : VObj} (hab : a ≠ b) : (h.set a o).set b u = (h.set b u).set a o := by
  funext c
  unfold H.set
  by_cases h1 : c = a <;> by_cases h2 : c = b <;> simp_all
theorem set_at {h : H} {a : Nat} {o : VObj} : h.set a o a = some o := by simp [H.set]
theorem set_ne {h : H} {a b : Nat} {o : VObj} (hb : b ≠ a) : h.set a o b = h b := by simp [H.set, hb]

/-- The forms of what writes nothing: never; a value; a value read; a new block. -/
inductive Nf {α : Type} (S : H → (α → H → Prop) → Prop) : Prop
  | never (h : ∀ h k, ¬ S h k)
  | val (v : α) (h : ∀ h k, S h k ↔ k v h)
  | read (a : Nat) (R : Option VObj → α → Prop) (h0 : ∀ v, ¬ R none v) (h1 : ∀ x v u, R x v → R x u → v = u) (h : ∀ h k, S h k ↔ ∃ v, R (h a) v ∧ k v h)
  | new (mk : Nat → α) (o : VObj) (h : ∀ h k, S h k ↔ ∀ b, h b = none → k (mk b) (h.set b o))

theorem Nf.map {α β : Type} {S : H → (α → H → Prop) → Prop} (n : Nf S) (f : α → β) : Nf (fun h k => S h fun v h => k (f v) h) := by
  cases n with
  | never h1 => exact .never fun h k => h1 _ _
  | val v h1 => exact .val (f v) fun h k => h1 _ _
  | read a R h0 h1 h2 =>
    refine .read a (fun x u => ∃ v, R x v ∧ u = f v) (fun v => by rintro ⟨_, h, _⟩; exact h0 _ h) ?_ ?_
    · rintro x _ _ ⟨v, hv, rfl⟩ ⟨u, hu, rfl⟩
      rw [h1 _ _ _ hv hu]
    · intro h k
      rw [h2]
      constructor
      · rintro ⟨v, hv, hk⟩; exact ⟨_, ⟨v, hv, rfl⟩, hk⟩
      · rintro ⟨_, ⟨v, hv, rfl⟩, hk⟩; exact ⟨v, hv, hk⟩
  | new mk o h1 => exact .new (fun b => f (mk b)) o fun h k => h1 _ _

theorem Nf.mono {α : Type} {S : H → (α → H → Prop) → Prop} (n : Nf S) {h : H} (f : Fin h) {k k' : α → H → Prop} (hk : S h k) (hm : ∀ v h', Fin h' → k v h' → k' v h') : S h k' := by
  cases n with
  | never h1 => exact absurd hk (h1 _ _)
  | val v h1 => rw [h1] at hk ⊢; exact hm _ _ f hk
  | read a R h0 h1 h2 =>
    rw [h2] at hk ⊢
    obtain ⟨v, hv, hk⟩ := hk
    exact ⟨v, hv, hm _ _ f hk⟩
  | new mk o h1 =>
    rw [h1] at hk ⊢
    exact fun b hb => hm _ _ (f.set _ _) (hk b hb)

/-- Two of them change places. -/
theorem Nf.swap {α β : Type} {S : H → (α → H → Prop) → Prop} {T : H → (β → H → Prop) → Prop} (s : Nf S) (t : Nf T) {h : H} (f : Fin h) {K : α → β → H → Prop} (hk : S h fun v h => T h fun u h => K v u h) : T h fun u h => S h fun v h => K v u h := by
  cases s with
  | never h1 => exact absurd hk (h1 _ _)
  | val v h1 =>
    rw [h1] at hk
    exact t.mono f hk fun u h' _ h2 => (h1 _ _).mpr h2
  | read a R h0 h1 hs =>
    rw [hs] at hk
    obtain ⟨v, hv, hk⟩ := hk
    cases t with
    | never h2 => exact absurd hk (h2 _ _)
    | val u h2 => rw [h2] at hk ⊢; rw [hs]; exact ⟨v, hv, hk⟩
    | read b R' g0 g1 ht =>
      rw [ht] at hk ⊢
      obtain ⟨u, hu, hk⟩ := hk
      exact ⟨u, hu, (hs _ _).mpr ⟨v, hv, hk⟩⟩
    | new mk o ht =>
      rw [ht] at hk ⊢
      intro b hb
      have hne : a ≠ b := fun x => h0 v (by rw [x, hb] at hv; exact hv)
      exact (hs _ _).mpr ⟨v, by rw [set_ne hne]; exact hv, hk b hb⟩
  | new mk o hs =>
    rw [hs] at hk
    cases t with
    | never h2 =>
      obtain ⟨b, hb, _⟩ := f.away 0
      exact absurd (hk b hb) (h2 _ _)
    | val u h2 =>
      rw [h2, hs]
      exact fun b hb => (h2 _ _).mp (hk b hb)
    | read a R g0 g1 ht =>
      rw [ht]
      obtain ⟨b, hb, hne⟩ := f.away a
      obtain ⟨u, hu, _⟩ := (ht _ _).mp (hk b hb)
      rw [set_ne (Ne.symm hne)] at hu
      refine ⟨u, hu, (hs _ _).mpr fun c hc => ?_⟩
      obtain ⟨u', hu', hk'⟩ := (ht _ _).mp (hk c hc)
      have hca : a ≠ c := fun x => g0 u (by rw [x, hc] at hu; exact hu)
      rw [set_ne hca] at hu'
      rw [g1 _ _ _ hu hu']
      exact hk'
    | new mk' o' ht =>
      rw [ht]
      intro c hc
      rw [hs]
      intro b hb
      have hbc : b ≠ c := fun x => by rw [x, set_at] at hb; cases hb
      rw [set_ne hbc] at hb
      have := (ht _ _).mp (hk b hb) c (by rw [set_ne (Ne.symm hbc)]; exact hc)
      rw [set_set hbc] at this
      exact this

theorem exLeaf_iff {t : TypeId} {φ : Value → Prop} : exLeaf P t φ ↔ ∃ v, exLeaf P t (· = v) ∧ φ v := by
  unfold exLeaf
  constructor
  · intro hk
    split at hk <;> obtain ⟨x, hx⟩ := hk <;> exact ⟨_, ⟨x, rfl⟩, hx⟩
  · rintro ⟨v, h1, h2⟩
    split at h1 <;> obtain ⟨x, rfl⟩ := h1 <;> exact ⟨x, h2⟩
theorem exLr_iff : ∀ {ts : List TypeId} {φ : List Value → Prop}, exLr P ts φ ↔ ∃ vs, exLr P ts (· = vs) ∧ φ vs
  | [], φ => by
    constructor
    · intro hk; exact ⟨[], rfl, hk⟩
    · rintro ⟨vs, h1, h2⟩
      have h1 : [] = vs := h1
      subst h1; exact h2
  | t :: ts, φ => by
    simp only [exLr]
    constructor
    · intro hk
      obtain ⟨v, hv, hk⟩ := exLeaf_iff.mp hk
      obtain ⟨vs, hvs, hk⟩ := exLr_iff.mp hk
      exact ⟨v :: vs, exLeaf_iff.mpr ⟨v, hv, exLr_iff.mpr ⟨vs, hvs, rfl⟩⟩, hk⟩
    · rintro ⟨us, h1, h2⟩
      obtain ⟨v, hv, h1⟩ := exLeaf_iff.mp h1
      obtain ⟨vs, hvs, rfl⟩ := exLr_iff.mp h1
      exact exLeaf_iff.mpr ⟨v, hv, exLr_iff.mpr ⟨vs, hvs, h2⟩⟩

theorem exL_iff {ts : List TypeId} {φ : List Value → Prop} : exL P ts φ ↔ ∃ vs, exL P ts (· = vs) ∧ φ vs := by
  unfold exL
  split
  · exact exLr_iff
  · constructor
    · rintro ⟨vs, h⟩; exact ⟨vs, ⟨vs, rfl⟩, h⟩
    · rintro ⟨vs, _, h⟩; exact ⟨vs, h⟩

theorem rdN_at {h : H} {a : Addr} {n : Nat} : rdN h a n = rdN (fun _ => h a.block) a n := rfl
theorem rd_at {h : H} {a : Addr} : rd h a = rd (fun _ => h a.block) a := rfl

/-- An operation of one of the three classes has such a form. -/
theorem nf_of_det {α β : Type} {W : (α → Prop) → Prop} (d : Det W) {V : α → H → (β → H → Prop) → Prop} (hV : ∀ a, Nf (V a)) : Nf (fun h k => W fun a => V a h k) := by
  rcases d with d | ⟨v, d⟩
  · exact .never fun h k => d _
  · rcases hV v with h1 | ⟨u, h1⟩ | ⟨a, R, h0, h1, h2⟩ | ⟨mk, o, h1⟩
    · exact .never fun h k hk => h1 h k ((d _).mp hk)
    · exact .val u fun h k => (d _).trans (h1 h k)
    · exact .read a R h0 h1 fun h k => (d _).trans (h2 h k)
    · exact .new mk o fun h k => (d _).trans (h1 h k)
theorem Nf.no {α : Type} : Nf (fun (_ : H) (_ : α → H → Prop) => False) := .never fun _ _ h => h
theorem Nf.and {α : Type} {p : Prop} {S : H → (α → H → Prop) → Prop} (n : Nf S) : Nf (fun h k => p ∧ S h k) := by
  by_cases hp : p
  · simpa [hp] using n
  · exact .never fun h k x => hp x.1

theorem nf_op {o : Oper} (hc : clOf P o.op ≠ .e) (e : Env) (kp : Kp) : Nf (fun h k => opW P C o e h k kp) := by
  by_cases hp : clOf P o.op = .p
  · obtain ⟨W, d, hW⟩ := pure_form (C := C) hp e
    rcases d with d | ⟨v, d⟩
    · exact .never fun h k hk => d _ ((hW _ _ _).mp hk)
    · exact .val v fun h k => (hW _ _ _).trans (d _)
  · unfold opW
    cases ho : o.op <;> simp only [ho, clOf] at hc hp ⊢ <;> try (first | exact absurd rfl hc | exact absurd trivial hc | exact absurd rfl hp | exact absurd trivial hp)
    case alloc t =>
      split
      · exact .new (fun b => .pointer (some ⟨b, 0, none⟩)) _ fun h k => Iff.rfl
      · exact Nf.no
    case box t x =>
      refine nf_of_det (det_ev e x) fun v => ?_
      split
      · exact nf_of_det (det_agg v) fun cs => .new (fun b => .pointer (some ⟨b, 0, none⟩)) _ fun h k => Iff.rfl
      · exact Nf.and (.new (fun b => .pointer (some ⟨b, 0, none⟩)) _ fun h k => Iff.rfl)
    case buildSlice t n ps =>
      split
      · exact nf_of_det (det_fill _ e _ _) fun cs => .new (fun b => .slice (some ⟨b, 0, none⟩) n n) _ fun h k => Iff.rfl
      · exact Nf.no
    case load t x =>
      refine nf_of_det (det_ev e x) fun v => nf_of_det (det_ptr v) fun a => ?_
      split
      · split
        · rename_i ts _
          refine .read a.block (fun x v => ∃ vs, exL P ts (· = vs) ∧ rdN (fun _ => x) a (szOf P t) = some vs ∧ v = .agg vs.toArray) ?_ ?_ ?_
          · rintro v ⟨vs, _, h, _⟩
            unfold rdN at h
            split at h <;> simp [rowOf] at h
          · rintro x _ _ ⟨vs, _, h1, rfl⟩ ⟨us, _, h2, rfl⟩
            rw [h1] at h2
            rw [Option.some.inj h2]
          · intro h k
            rw [exL_iff]
            constructor
            · rintro ⟨vs, h1, h2, h3⟩; exact ⟨_, ⟨vs, h1, h2, rfl⟩, h3⟩
            · rintro ⟨_, ⟨vs, h1, h2, rfl⟩, h3⟩; exact ⟨vs, h1, h2, h3⟩
        · exact Nf.no
      · split
        · refine .read a.block (fun x v => exLeaf P t (· = v) ∧ rd (fun _ => x) a = some v) ?_ ?_ ?_
          · rintro v ⟨_, h⟩
            unfold rd at h
            split at h <;> simp [rowOf] at h
          · rintro x v u ⟨_, h1⟩ ⟨_, h2⟩
            rw [h1] at h2
            exact Option.some.inj h2
          · intro h k
            rw [exLeaf_iff]
            constructor
            · rintro ⟨v, h1, h2, h3⟩; exact ⟨v, ⟨h1, h2⟩, h3⟩
            · rintro ⟨v, ⟨h1, h2⟩, h3⟩; exact ⟨v, h1, h2, h3⟩
        · exact Nf.no
    case convert s d x =>
      cases hcv : cvOf P s d <;> simp [hcv] at hc hp
    case makeSlice t l c =>
      refine nf_of_det (det_ev e l) fun l => nf_of_det (det_ev e c) fun c => ?_
      unfold intW
      cases l <;> cases c <;> try exact Nf.no
      rename_i j n j' m
      dsimp only
      split
      · unfold mkSliceW
        exact Nf.and (Nf.and (Nf.and (Nf.and (.new (fun b => .slice (some ⟨b, 0, none⟩) n.toNat m.toNat) _ fun h k => Iff.rfl))))
      · exact Nf.no
    case call c =>
      exfalso
      obtain ⟨callee, args, argTypes⟩ := c
      cases callee with
      | value f => simp at hc
      | invoke r m => simp at hc
      | builtin b =>
        cases b <;> simp only at hc hp <;> try (first | exact absurd rfl hc | exact absurd trivial hc | exact absurd rfl hp | exact absurd trivial hp)
        generalize argTypes.toList.head?.bind P.underlying = u at hc hp
        cases u with
        | none => exact hc rfl
        | some d => cases d <;> simp at hc hp

theorem nf_step {o : Oper} (hc : clOf P o.op ≠ .e) (e : Env) (kp : Kp) : Nf (fun h k => step P C ops o e h k kp) := by
  have h1 := (nf_op (C := C) hc e kp).map some
  unfold step
  cases hg : o.guard with
  | none => exact h1
  | some g =>
    obtain ⟨j, want⟩ := g
    dsimp only
    by_cases hx : ∃ s t, slotOf ops j = some s ∧ e[s]? = some (some t)
    · obtain ⟨s, t, hs, ht⟩ := hx
      have hu : ∀ {A : Value → Prop}, (∃ s t, slotOf ops j = some s ∧ e[s]? = some (some t) ∧ A t) ↔ A t := by
        intro A
        constructor
        · rintro ⟨s', t', hs', ht', h⟩
          rw [hs] at hs'; obtain rfl := Option.some.inj hs'
          rw [ht] at ht'
          simp at ht'
          subst ht'; exact h
        · intro h; exact ⟨s, t, hs, ht, h⟩
      by_cases hw : t = .bool want
      · have e1 : (fun (h : H) (k : Option Value → H → Prop) => ∃ s t, slotOf ops j = some s ∧ e[s]? = some (some t) ∧ (t = .bool want → opW P C o e h (fun v h' => k (some v) h') kp) ∧ (t ≠ .bool want → k none h)) =
            fun h k => opW P C o e h (fun v h' => k (some v) h') kp := by
          funext h k
          rw [propext (hu (A := fun t => (t = .bool want → opW P C o e h (fun v h' => k (some v) h') kp) ∧ (t ≠ .bool want → k none h)))]
          simp [hw]
        rw [e1]; exact h1
      · refine .val none fun h k => ?_
        rw [hu (A := fun t => (t = .bool want → opW P C o e h (fun v h' => k (some v) h') kp) ∧ (t ≠ .bool want → k none h))]
        simp [hw]
    · exact .never fun h k => by
        rintro ⟨s, t, hs, ht, _⟩
        exact hx ⟨s, t, hs, ht⟩
end Go.Proofs.YtkgjpdadeakacaaDoor.Am
