/-
  Operations that stand apart change places.
-/
import Derived.Test.YtkgjpdadeakacaaDoorAmMono
namespace Go.Proofs.YtkgjpdadeakacaaDoor.Am
open Go
set_option linter.unusedSimpArgs false
variable {P : Program} {C : Orc} {ops : Array Oper} {kp : Kp}

def srun (P : Program) (C : Orc) (ops : Array Oper) (kp : Kp) : List (Oper × List Oper) → Env → H → (Env → H → Prop) → Prop
  | [], e, h, k => k e h
  | (o, chk) :: rest, e, h, k => step P C ops o e h (fun v h' => (∀ r ∈ chk, v ≠ none → again P r (putE e o.dst v) h') ∧ srun P C ops kp rest (putE e o.dst v) h' k) kp

theorem rgn_srun (hM : Mono C) : ∀ {l : List (Oper × List Oper)} {e : Env} {h : H} {k : Env → H → Prop}, rgn P C ops l e h k kp → srun P C ops kp l e h k
  | [], _, _, _, hk => hk
  | (o, chk) :: rest, e, h, k, hk => by
    unfold srun
    exact step_mono hM (fun v h' x => ⟨x.1, rgn_srun hM x.2⟩) (fun x => ⟨x.1, rgn_srun hM x.2⟩) (fun _ _ x => x) (rgn_cons hk)

theorem pure_step {o : Oper} (hc : clOf P o.op = .p) (e : Env) : (∀ h k, ¬ step P C ops o e h k kp) ∨ ∃ v, ∀ h k, step P C ops o e h k kp ↔ k v h := by
  obtain ⟨W, d, hW⟩ := pure_form (C := C) hc e
  unfold step
  cases hg : o.guard with
  | none =>
    rcases d with d | ⟨v, d⟩
    · exact .inl fun h k hk => d _ ((hW _ _ _).mp hk)
    · exact .inr ⟨some v, fun h k => (hW _ _ _).trans (d _)⟩
  | some g =>
    obtain ⟨j, want⟩ := g
    dsimp only
    by_cases hx : ∃ s t, slotOf ops j = some s ∧ e[s]? = some (some t)
    · obtain ⟨s, t, hs, ht⟩ := hx
      have hu : ∀ {A : Value → Prop}, (∃ s t, slotOf ops j = some s ∧ e[s]? = some (some t) ∧ A t) ↔ A t := by
        intro A
        constructor
        · rintro ⟨s', t', hs', ht', h⟩
          rw [hs] at hs'; obtain rfl := Option.some.inj hs'
          rw [ht] at ht'
          simp at ht'
          subst ht'; exact h
        · intro h; exact ⟨s, t, hs, ht, h⟩
      by_cases hw : t = .bool want
      · rcases d with d | ⟨v, d⟩
        · refine .inl fun h k hk => ?_
          have := (hu (A := fun t => (t = .bool want → opW P C o e h (fun v h' => k (some v) h') kp) ∧ (t ≠ .bool want → k none h))).mp hk
          exact d _ ((hW _ _ _).mp (this.1 hw))
        · refine .inr ⟨some v, fun h k => ?_⟩
          rw [hu (A := fun t => (t = .bool want → opW P C o e h (fun v h' => k (some v) h') kp) ∧ (t ≠ .bool want → k none h))]
          simp only [hw, ne_eq, not_true_eq_false, false_implies, and_true, true_implies]
          exact (hW _ _ _).trans (d _)
      · refine .inr ⟨none, fun h k => ?_⟩
        rw [hu (A := fun t => (t = .bool want → opW P C o e h (fun v h' => k (some v) h') kp) ∧ (t ≠ .bool want → k none h))]
        simp [hw]
    · exact .inl fun h k => by
        rintro ⟨s, t, hs, ht, _⟩
        exact hx ⟨s, t, hs, ht⟩

theorem evAt {e e' : Env} {x : Operand} {k : Value → Prop} (h1 : ev e x k) (he : ev e x = ev e' x) : ∃ v, k v ∧ ∀ φ, (ev e x φ ↔ φ v) ∧ (ev e' x φ ↔ φ v) := by
  rcases det_ev e x with d | ⟨v, d⟩
  · exact absurd h1 (d _)
  · exact ⟨v, (d _).mp h1, fun φ => ⟨d φ, by rw [← he]; exact d φ⟩⟩

/-- What was read is read again. -/
theorem load_again {o : Oper} (hc : clOf P o.op = .r) {e : Env} {h : H} {k : Kv} (hk : opW P C o e h k kp) :
    ∃ v, k v h ∧ (∀ k2 : Kv, k2 v h → opW P C o e h k2 kp) ∧ ∀ e' h2 (k2 : Kv), Alike ops o e' e → again P o e' h2 → (∀ d w, o.dst = some d → e'[d]? = some (some w) → w = v) → k2 v h2 → opW P C o e h2 k2 kp := by
  unfold opW at hk ⊢
  cases ho : o.op <;> simp only [ho, clOf] at hk hc ⊢ <;> try (cases hc; done)
  case load t x =>
    obtain ⟨p, hk', hp⟩ := evAt hk rfl
    clear hk
    cases p <;> try exact hk'.elim
    rename_i a
    cases a <;> try exact hk'.elim
    rename_i a
    have hk : (match aggB P t with
      | true => match leafs P 20 t with
        | some ts => exL P ts fun vs => rdN h a (szOf P t) = some vs ∧ k (.agg vs.toArray) h
        | none => False
      | false => match P.underlying t with
        | some _ => exLeaf P t fun v => rd h a = some v ∧ k v h
        | none => False) := hk'
    clear hk'
    have key : ∀ e' h2, Alike ops o e' e → again P o e' h2 → ∃ w d, o.dst = some d ∧ e'[d]? = some (some w) ∧ (match aggB P t with
        | true => aggW w fun cs => rdN h2 a (szOf P t) = some cs
        | false => rd h2 a = some w) := by
      intro e' h2 ha hg
      unfold again at hg
      simp only [ho] at hg
      cases hd : o.dst with
      | none => simp [hd] at hg
      | some d =>
        simp only [hd] at hg
        have he : ev e' x = ev e x := ha.ev x (by simp [ho, Op.operands])
        rw [he] at hg
        have hg := ((hp _).1).mp hg
        obtain ⟨w, hw, hg⟩ := getk_inv hg
        exact ⟨w, d, rfl, hw, hg⟩
    split at hk
    · rename_i hag
      simp only [hag] at key
      split at hk
      · rename_i ts hts
        obtain ⟨vs, h1, h2, h3⟩ := exL_iff.mp hk
        refine ⟨.agg vs.toArray, h3, fun k2 hk2 => ((hp _).1).mpr ?_, fun e' h2' k2 ha hg hv hk2 => ((hp _).1).mpr ?_⟩
        · simp only [ptrW, hag, hts]
          exact (exL_iff (φ := fun vs => rdN h a (szOf P t) = some vs ∧ k2 (.agg vs.toArray) h)).mpr ⟨vs, h1, h2, hk2⟩
        · obtain ⟨w, d, hd, hw, hr⟩ := key e' h2' ha hg
          obtain rfl := hv d w hd hw
          simp only [ptrW, hag, hts]
          exact (exL_iff (φ := fun vs => rdN h2' a (szOf P t) = some vs ∧ k2 (.agg vs.toArray) h2')).mpr ⟨vs, h1, hr, hk2⟩
      · exact hk.elim
    · rename_i hag
      simp only [hag] at key
      split at hk
      · rename_i u hu
        obtain ⟨v, h1, h2, h3⟩ := exLeaf_iff.mp hk
        refine ⟨v, h3, fun k2 hk2 => ((hp _).1).mpr ?_, fun e' h2' k2 ha hg hv hk2 => ((hp _).1).mpr ?_⟩
        · simp only [ptrW, hag, hu]
          exact (exLeaf_iff (φ := fun v => rd h a = some v ∧ k2 v h)).mpr ⟨v, h1, h2, hk2⟩
        · obtain ⟨w, d, hd, hw, hr⟩ := key e' h2' ha hg
          obtain rfl := hv d w hd hw
          simp only [ptrW, hag, hu]
          exact (exLeaf_iff (φ := fun v => rd h2' a = some v ∧ k2 v h2')).mpr ⟨w, h1, hr, hk2⟩
      · exact hk.elim
  case call c =>
    obtain ⟨callee, args, argTypes⟩ := c
    cases callee with
    | value f => simp at hc
    | invoke r m => simp at hc
    | builtin b =>
      cases b <;> simp only at hc <;> try (cases hc; done)
      generalize argTypes.toList.head?.bind P.underlying = u at hc
      cases u with
      | none => simp at hc
      | some d => cases d <;> simp at hc
  case convert s d x =>
    cases hcv : cvOf P s d <;> simp [hcv] at hc

theorem read_step {o : Oper} (hc : clOf P o.op = .r) {e : Env} {h : H} {k : Option Value → H → Prop} (hk : step P C ops o e h k kp) :
    ∃ v, k v h ∧ (∀ k2 : Option Value → H → Prop, k2 v h → step P C ops o e h k2 kp) ∧
      ∀ e' h2 (k2 : Option Value → H → Prop), Alike ops o e' e → again P o e' h2 → (∀ u, v = some u → ∀ d w, o.dst = some d → e'[d]? = some (some w) → w = u) → k2 v h2 → step P C ops o e h2 k2 kp := by
  unfold step at hk ⊢
  cases hg : o.guard with
  | none =>
    simp only [hg] at hk
    obtain ⟨v, h1, h2, h3⟩ := load_again (ops := ops) hc hk
    exact ⟨some v, h1, fun k2 hk2 => h2 _ hk2, fun e' h2' k2 ha hag hv hk2 => h3 e' h2' _ ha hag (hv v rfl) hk2⟩
  | some g =>
    obtain ⟨j, want⟩ := g
    simp only [hg] at hk
    obtain ⟨s, t, hs, ht, h1, h2⟩ := hk
    by_cases hw : t = .bool want
    · obtain ⟨v, g1, g2, g3⟩ := load_again (ops := ops) hc (h1 hw)
      refine ⟨some v, g1, fun k2 hk2 => ⟨s, t, hs, ht, fun _ => g2 _ hk2, fun x => absurd hw x⟩, fun e' h2' k2 ha hag hv hk2 => ⟨s, t, hs, ht, fun _ => g3 e' h2' _ ha hag (hv v rfl) hk2, fun x => absurd hw x⟩⟩
    · exact ⟨none, h2 hw, fun k2 hk2 => ⟨s, t, hs, ht, fun x => absurd x hw, fun _ => hk2⟩, fun e' h2' k2 _ _ _ hk2 => ⟨s, t, hs, ht, fun x => absurd x hw, fun _ => hk2⟩⟩

/-- x writes nothing that r looks at or writes. -/
def quiet (ops : Array Oper) (r x : Oper) : Bool := match x.dst with
  | some d => !(r.looksAt ops).contains d && r.dst != some d
  | none => true
theorem quiet_spec {r x : Oper} (h : quiet ops r x = true) : (∀ d, x.dst = some d → d ∉ r.looksAt ops) ∧ ∀ d, x.dst = some d → r.dst ≠ some d := by
  refine ⟨fun d hd => ?_, fun d hd => ?_⟩ <;> simp [quiet, hd] at h
  · exact h.1
  · exact h.2

theorem again_congr {r : Oper} {e e' : Env} {h : H} (ha : Alike ops r e e') (hd : ∀ d, r.dst = some d → e[d]? = e'[d]?) : again P r e h → again P r e' h := by
  unfold again
  cases ho : r.op <;> try exact id
  case load t x =>
    cases hr : r.dst with
    | none => exact id
    | some d =>
      have h1 := ha.ev x (by simp [ho, Op.operands])
      have h2 := getk_congr (hd d hr)
      simp only [h1, h2, imp_self]
theorem putE_ne {e : Env} {d : Option Nat} {v : Option Value} {t : Nat} (h : d ≠ some t) : (putE e d v)[t]? = e[t]? := by
  cases d with
  | none => rfl
  | some d =>
    have : d ≠ t := fun x => h (by rw [x])
    simp [putE, this]

theorem again_put {r x y : Oper} {e : Env} {v u : Option Value} {h : H} (hq : quiet ops r x = true) (hxy : ∀ d, x.dst = some d → y.dst ≠ some d) (ha : again P r (putE (putE e x.dst v) y.dst u) h) :
    again P r (putE e y.dst u) h := by
  rw [putE_comm hxy] at ha
  obtain ⟨h1, h2⟩ := quiet_spec hq
  exact again_congr (Alike.put h1) (fun d hd => putE_ne fun hx => h2 d hx hd) ha

def PassOk (P : Program) (ops : Array Oper) (x y : Oper) (cy : List Oper) : Prop :=
  x.apart ops y = true ∧ clOf P x.op ≠ .e ∧ ((clOf P y.op ≠ .e ∧ cy = []) ∨ clOf P x.op = .p ∨ (clOf P x.op = .r ∧ x ∈ cy ∧ ∀ d, x.dst = some d → d ∉ x.looksAt ops))

theorem swap (hM : Mono C) {x y : Oper} {cx cz : List Oper} (ok : PassOk P ops x y cx) (hz : ∀ r ∈ cz, r ∈ cx ∧ quiet ops r x = true) {rest : List (Oper × List Oper)} {e : Env} {h : H} (f : Fin h) {k : Env → H → Prop}
    (hk : srun P C ops kp ((x, []) :: (y, cx) :: rest) e h k) : srun P C ops kp ((y, cz) :: (x, []) :: rest) e h k := by
  obtain ⟨hap, hx, ok⟩ := ok
  obtain ⟨a1, a2, a3⟩ := Oper.apart_spec hap
  simp only [srun, List.not_mem_nil, false_implies, implies_true, true_and] at hk ⊢
  have cy : ∀ v h k, step P C ops y (putE e x.dst v) h k kp ↔ step P C ops y e h k kp := fun v h k => step_congr (Alike.put a1)
  have cxx : ∀ v h k, step P C ops x (putE e y.dst v) h k kp ↔ step P C ops x e h k kp := fun v h k => step_congr (Alike.put a3)
  simp only [cy] at hk
  simp only [cxx]
  have cm : ∀ v u, putE (putE e y.dst u) x.dst v = putE (putE e x.dst v) y.dst u := fun v u => (putE_comm a2).symm
  simp only [cm]
  have drop : ∀ v u h2, (∀ r ∈ cx, u ≠ none → again P r (putE (putE e x.dst v) y.dst u) h2) → ∀ r ∈ cz, u ≠ none → again P r (putE e y.dst u) h2 :=
    fun v u h2 hc r hr hu => again_put (hz r hr).2 a2 (hc r (hz r hr).1 hu)
  rcases ok with ⟨hy, rfl⟩ | hp | ⟨hr, hmem, hself⟩
  · obtain rfl : cz = [] := by
      cases cz with
      | nil => rfl
      | cons r _ => exact absurd (hz r (by simp)).1 (by simp)
    simp only [List.not_mem_nil, false_implies, implies_true, true_and] at hk ⊢
    exact (nf_step (C := C) hx e kp).swap (nf_step (C := C) hy e kp) f hk
  · rcases pure_step (C := C) (ops := ops) (kp := kp) hp e with d | ⟨v, d⟩
    · exact absurd hk (d _ _)
    · rw [d] at hk
      exact step_mono hM (fun u h' hu => ⟨drop v _ _ hu.1, (d _ _).mpr hu.2⟩) (fun hu => ⟨drop v _ _ hu.1, (d _ _).mpr hu.2⟩) (fun _ _ hc => hc) hk
  · obtain ⟨v, hk, h2, h3⟩ := read_step hr hk
    refine step_mono hM (fun u h' hu => ⟨drop v _ _ hu.1, ?_⟩) (fun hu => ⟨drop v _ _ hu.1, h2 _ hu.2⟩) (fun _ _ hc => hc) hk
    have hag := hu.1 x hmem (by simp)
    refine h3 _ h' _ ?_ hag ?_ hu.2
    · intro t ht
      rw [putE_ne (fun hd => a3 t hd ht), putE_ne (fun hd => hself t hd ht)]
    · intro u' hvu d w hd hw
      subst hvu
      rw [putE_ne (a2 d hd), hd] at hw
      simp only [putE, List.getElem?_set] at hw
      by_cases hl : d < e.length
      · simpa [hl, eq_comm] using hw
      · simp [hl] at hw

theorem srun_imp_fin : ∀ {x : Oper}, clOf P x.op ≠ .e → ∀ {e : Env} {h : H} (_ : Fin h) {k k' : Option Value → H → Prop}, step P C ops x e h k kp → (∀ v h', Fin h' → k v h' → k' v h') → step P C ops x e h k' kp :=
  fun hx _ _ f _ _ hk hm => (nf_step (C := C) hx _ kp).mono f hk hm

/-- One that stands apart of all ahead of it is done first. -/
theorem move (hM : Mono C) {y : Oper} {cy : List Oper} {rest : List (Oper × List Oper)} {k : Env → H → Prop} : ∀ (pre : List (Oper × List Oper)) (cz : List Oper) (e : Env) (h : H), Fin h →
    (∀ x ∈ pre, PassOk P ops x.1 y cy ∧ x.2 = []) → pre.Pairwise (fun r x => clOf P r.1.op = .r → quiet ops r.1 x.1 = true) → (∀ r ∈ cz, r ∈ cy ∧ ∀ x ∈ pre, quiet ops r x.1 = true) →
    srun P C ops kp (pre ++ (y, cy) :: rest) e h k → srun P C ops kp ((y, cz) :: (pre ++ rest)) e h k
  | [], cz, e, h, _, _, _, hz, hk => by
    simp only [List.nil_append, srun] at hk ⊢
    exact step_mono hM (fun v h' x => ⟨fun r hr => x.1 r (hz r hr).1, x.2⟩) (fun x => ⟨fun r hr => x.1 r (hz r hr).1, x.2⟩) (fun _ _ x => x) hk
  | (x, c) :: pre, cz, e, h, f, hp, hq, hz, hk => by
    obtain ⟨hpx, rfl⟩ := hp (x, c) (by simp)
    obtain ⟨hq1, hq2⟩ := List.pairwise_cons.mp hq
    have hk' : srun P C ops kp ((x, []) :: (pre ++ (y, cy) :: rest)) e h k := hk
    by_cases hm : x ∈ cy ∧ clOf P x.op = .r
    · obtain ⟨hm, hr⟩ := hm
      refine swap hM (cx := x :: cz) ?_ ?_ f ?_
      · obtain ⟨b1, b2, b3⟩ := hpx
        refine ⟨b1, b2, ?_⟩
        rcases b3 with ⟨_, b4⟩ | b3 | ⟨b3, _, b5⟩
        · rw [b4] at hm; simp at hm
        · exact .inr (.inl b3)
        · exact .inr (.inr ⟨b3, by simp, b5⟩)
      · intro r hr
        exact ⟨by simp [hr], (hz r hr).2 (x, []) (by simp)⟩
      · unfold srun at hk' ⊢
        refine srun_imp_fin hpx.2.1 f hk' fun v h' f' hv => ⟨hv.1, ?_⟩
        refine move hM pre (x :: cz) _ _ f' (fun z hzm => hp z (by simp [hzm])) hq2 ?_ hv.2
        intro r hr'
        rcases List.mem_cons.mp hr' with rfl | hr'
        · exact ⟨hm, fun z hzm => hq1 z hzm hr⟩
        · exact ⟨(hz r hr').1, fun z hzm => (hz r hr').2 z (by simp [hzm])⟩
    · refine swap hM (cx := cz) ?_ ?_ f ?_
      · obtain ⟨b1, b2, b3⟩ := hpx
        refine ⟨b1, b2, ?_⟩
        rcases b3 with ⟨b3, b4⟩ | b3 | ⟨b3, b4, b5⟩
        · refine .inl ⟨b3, ?_⟩
          cases cz with
          | nil => rfl
          | cons r _ =>
            have := (hz r (by simp)).1
            rw [b4] at this; simp at this
        · exact .inr (.inl b3)
        · exact absurd ⟨b4, b3⟩ hm
      · intro r hr
        exact ⟨hr, (hz r hr).2 (x, []) (by simp)⟩
      · unfold srun at hk' ⊢
        refine srun_imp_fin hpx.2.1 f hk' fun v h' f' hv => ⟨hv.1, ?_⟩
        refine move hM pre cz _ _ f' (fun z hzm => hp z (by simp [hzm])) hq2 ?_ hv.2
        intro r hr
        exact ⟨(hz r hr).1, fun z hzm => (hz r hr).2 z (by simp [hzm])⟩
end Go.Proofs.YtkgjpdadeakacaaDoor.Am
