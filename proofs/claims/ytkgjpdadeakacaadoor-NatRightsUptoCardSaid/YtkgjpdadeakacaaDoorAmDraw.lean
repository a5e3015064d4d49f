/-
  A region whose order is drawn: one order speaks for all, where a check says so.
-/
import Derived.Test.YtkgjpdadeakacaaDoorAmSwap
namespace Go.Proofs.YtkgjpdadeakacaaDoor.Am
open Go
set_option linter.unusedSimpArgs false
variable {P : Program} {C : Orc} {kp : Kp} {Q : Exit → Act → World → Prop}

def edgesAt (ops : List Oper) (i : Nat) : List Nat := match ops[i]? with
  | some o => edges o
  | none => []
def selfOk (ops : Array Oper) (x : Oper) : Bool := match x.dst with
  | some d => !(x.looksAt ops).contains d
  | none => true
/-- x may be passed by y, whose checks are chk; or y waits for x. -/
def okPair (P : Program) (ops : List Oper) (an : List (Nat × List Nat)) (x : Nat) (y : Nat × List Nat) : Bool :=
  match ops[x]?, ops[y.1]? with
  | some ox, some oy => (quiet ops.toArray ox oy || clOf P ox.op != .r || clOf P oy.op == .e) && ((ancOf an y.1).contains x ||
      (ox.apart ops.toArray oy && clOf P ox.op != .e && ((clOf P oy.op != .e && y.2.isEmpty) || clOf P ox.op == .p || (clOf P ox.op == .r && y.2.contains x && selfOk ops.toArray ox))))
  | _, _ => false
def okFrom (P : Program) (ops : List Oper) (an : List (Nat × List Nat)) : List (Nat × List Nat) → Bool
  | [] => true
  | x :: rest => (match ops[x.1]? with | some o => clOf P o.op == .e || x.2.isEmpty | none => false) && rest.all (okPair P ops an x.1) && okFrom P ops an rest
def okReady (ops : List Oper) : List Nat → List Nat → Bool
  | _, [] => true
  | done, i :: is => readyIn ops done i && !done.contains i && okReady ops (i :: done) is
/-- All that the proof asks of a region whose order is drawn. -/
def okRgn (P : Program) (ops : List Oper) : Bool :=
  let order := orderOf P ops ops.length (List.range ops.length) []
  let an := ancs ops order []
  order.length == ops.length && (List.range ops.length).all order.contains && okReady ops [] order && okFrom P ops an (idxOf P ops an [] order)

section
variable {ops : Array Oper}

theorem okFrom_spec {L : List Oper} {an : List (Nat × List Nat)} : ∀ {items : List (Nat × List Nat)}, okFrom P L an items = true →
    (∀ x ∈ items, ∃ o, L[x.1]? = some o ∧ (clOf P o.op ≠ .e → x.2 = [])) ∧ items.Pairwise fun x y => okPair P L an x.1 y = true
  | [], _ => ⟨by simp, .nil⟩
  | x :: rest, h => by
    simp only [okFrom, Bool.and_eq_true, List.all_eq_true] at h
    obtain ⟨⟨h1, h2⟩, h3⟩ := h
    obtain ⟨g1, g2⟩ := okFrom_spec h3
    refine ⟨fun y hy => ?_, List.pairwise_cons.mpr ⟨h2, g2⟩⟩
    rcases List.mem_cons.mp hy with rfl | hy
    · split at h1
      · rename_i o ho
        refine ⟨o, ho, fun hc => ?_⟩
        simp only [Bool.or_eq_true, beq_iff_eq, List.isEmpty_iff] at h1
        exact h1.resolve_left hc
      · simp at h1
    · exact g1 y hy

theorem edges_spec {o : Oper} {S : Nat → Prop} : (∀ j ∈ edges o, S j) ↔ ∀ e ∈ o.after, Region.binds .any e = true → S e.on := by
  unfold edges
  simp only [List.mem_filterMap, Array.mem_toList_iff]
  constructor
  · intro h e he hb
    exact h e.on ⟨e, he, by simp [hb]⟩
  · rintro h j ⟨e, he, hj⟩
    split at hj
    · rename_i hb
      obtain rfl := Option.some.inj hj
      exact h e he hb
    · cases hj

def AncOk (L : List Oper) (an : List (Nat × List Nat)) : Prop :=
  ∀ i x, x ∈ ancOf an i → ∀ S : Nat → Prop, (∀ i, S i → ∀ j ∈ edgesAt L i, S j) → (∀ j ∈ edgesAt L i, S j) → S x

theorem ancOf_cons {i j : Nat} {l : List Nat} {an : List (Nat × List Nat)} : ancOf ((i, l) :: an) j = if i = j then l else ancOf an j := by
  unfold ancOf
  by_cases h : i = j
  · simp [h]
  · have : (i == j) = false := by simpa using h
    simp [h, this]

theorem ancs_ok {L : List Oper} : ∀ (is : List Nat) (acc : List (Nat × List Nat)), AncOk L acc → AncOk L (ancs L is acc)
  | [], _, h => h
  | i :: is, acc, h => by
    refine ancs_ok is _ ?_
    intro j x hx S hS he
    rw [ancOf_cons] at hx
    split at hx
    · rename_i hij
      subst hij
      cases ho : L[i]? with
      | none => simp [ho] at hx
      | some o =>
        simp only [ho, List.mem_flatMap] at hx
        obtain ⟨j, hj, hx⟩ := hx
        have hje : j ∈ edgesAt L i := by simp [edgesAt, ho, hj]
        have hSj := he j hje
        rcases List.mem_cons.mp hx with rfl | hx
        · exact hSj
        · exact h j x hx S hS (hS j hSj)
    · exact h j x hx S hS he

theorem pass_of {L : List Oper} (hL : L = ops.toList) {an : List (Nat × List Nat)} (han : AncOk L an) {listed : Array Bool} (hcl : ∀ i, listed.getD i false = true → ∀ j ∈ edgesAt L i, listed.getD j false = true)
    {x : Nat} {ox : Oper} {y : Nat × List Nat} {oy : Oper} (hx : L[x]? = some ox) (hy : L[y.1]? = some oy) (hr : ∀ j ∈ edges oy, listed.getD j false = true) (hun : listed.getD x true = false)
    (ok : okPair P L an x y = true) : PassOk P ops ox oy (y.2.filterMap (L[·]?)) := by
  subst hL
  unfold okPair at ok
  simp only [hx, hy, Bool.and_eq_true, Array.toArray_toList] at ok
  obtain ⟨_, ok⟩ := ok
  have hno : (ancOf an y.1).contains x = false := by
    cases hc : (ancOf an y.1).contains x with
    | false => rfl
    | true =>
      have h1 : listed.getD x false = true := han y.1 x (by simpa using hc) (fun j => listed.getD j false = true) hcl (by
        intro j hj
        simp only [edgesAt, hy] at hj
        exact hr j hj)
      rcases Nat.lt_or_ge x listed.size with h' | h'
      · simp [h'] at h1 hun; rw [h1] at hun; cases hun
      · simp [Array.getElem?_eq_none h'] at h1
  rw [hno] at ok
  simp only [Bool.false_or, Bool.and_eq_true, Bool.or_eq_true, bne_iff_ne, ne_eq, beq_iff_eq, List.isEmpty_iff] at ok
  obtain ⟨⟨h1, h2⟩, h3⟩ := ok
  refine ⟨h1, h2, ?_⟩
  rcases h3 with (⟨h3, h4⟩ | h3) | ⟨⟨h3, h4⟩, h5⟩
  · exact .inl ⟨h3, by rw [h4]; rfl⟩
  · exact .inr (.inl h3)
  · refine .inr (.inr ⟨h3, ?_, ?_⟩)
    · exact List.mem_filterMap.mpr ⟨x, by simpa using h4, hx⟩
    · intro d hd
      simp [selfOk, hd] at h5
      exact h5

theorem listed_set {listed : Array Bool} {i j : Nat} (hi : listed.getD i true = false) : (listed.setIfInBounds i true).getD j true = false ↔ j ≠ i ∧ listed.getD j true = false := by
  by_cases hij : j = i
  · subst hij
    have hlt : j < listed.size := by
      rcases Nat.lt_or_ge j listed.size with h' | h'
      · exact h'
      · simp [Array.getElem?_eq_none h'] at hi
    simp [hlt]
  · rw [getD_set_ne true (Ne.symm hij)]
    simp [hij]
theorem listed_set' {listed : Array Bool} {i j : Nat} (hi : listed.getD i true = false) : (listed.setIfInBounds i true).getD j false = true ↔ j = i ∨ listed.getD j false = true := by
  have hlt : i < listed.size := by
    rcases Nat.lt_or_ge i listed.size with h' | h'
    · exact h'
    · simp [Array.getElem?_eq_none h'] at hi
  by_cases hij : j = i
  · subst hij
    simp [hlt]
  · rw [getD_set_ne false (Ne.symm hij)]
    simp [hij]

theorem any_sound (hC : Sound P C) (hM : Mono C) {L : List Oper} (hL : L = ops.toList) {an : List (Nat × List Nat)} (han : AncOk L an) : ∀ (n : Nat) (items : List (Nat × List Nat)) (listed : Array Bool) (e : Env) (h : H) (a : Act) (w : World) (k : Env → H → Prop),
    items.length = n → (∀ i, (∃ c, (i, c) ∈ items) ↔ listed.getD i true = false) → (items.map (·.1)).Nodup → okFrom P L an items = true →
    (∀ i, listed.getD i false = true → ∀ j ∈ edgesAt L i, listed.getD j false = true) →
    (∀ pre x post, items = pre ++ x :: post → ∀ j ∈ edgesAt L x.1, listed.getD j false = true ∨ j ∈ pre.map (·.1)) →
    EnvR e a.tmps → a.defers = [] → Rel h w → srun P C ops kp (items.filterMap (item L)) e h k →
    (∀ e h' a w', k e h' → EnvR e a.tmps → a.defers = [] → Rel h' w' → Frame h w h' w' → Q .normal a w') → (∀ c h' a w', kp c h' → a.defers = [] → Rel h' w' → Frame h w h' w' → Q (.panic c) a w') →
    wpAny P .any ops Q n listed a w
  | 0, items, listed, e, h, a, w, k, hlen, hu, _, _, _, _, he, hd, r, hk, hn, _ => by
    obtain rfl := List.length_eq_zero_iff.mp hlen
    have hr : Region.ready .any ops listed = [] := by
      cases hx : Region.ready .any ops listed with
      | nil => rfl
      | cons i _ =>
        have : i ∈ Region.ready .any ops listed := by rw [hx]; simp
        have := (hu i).mpr (mem_ready.1 this).1
        simp at this
    exact wpAny_done hr (hn _ _ _ _ hk he hd r (Frame.refl _ _)) 0
  | n + 1, items, listed, e, h, a, w, k, hlen, hu, hnd, hok, hcl, hrd, he, hd, r, hk, hn, hp => by
    obtain ⟨hsingle, hpw⟩ := okFrom_spec hok
    refine ⟨fun hr0 => ?_, fun i hi => ?_⟩
    · exfalso
      cases items with
      | nil => simp at hlen
      | cons x rest =>
        obtain ⟨o, ho, _⟩ := hsingle x (by simp)
        have : x.1 ∈ Region.ready .any ops listed := by
          rw [mem_ready]
          refine ⟨(hu x.1).mp ⟨x.2, by simp⟩, o, by rw [← ho, hL, Array.getElem?_toList], ?_⟩
          refine (edges_spec (S := fun j => listed.getD j false = true)).mp ?_
          intro j hj
          rcases hrd [] x rest rfl j (by simp [edgesAt, ho, hj]) with h1 | h1
          · exact h1
          · simp at h1
        rw [hr0] at this
        simp at this
    · obtain ⟨hiu, oi, hoi, hie⟩ := mem_ready.1 hi
      have hie := (edges_spec (S := fun j => listed.getD j false = true)).mpr hie
      obtain ⟨c, hc⟩ := (hu i).mpr hiu
      obtain ⟨pre, post, rfl⟩ := List.append_of_mem hc
      have hLi : L[i]? = some oi := by rw [hL, Array.getElem?_toList]; exact hoi
      have hit : item L (i, c) = some (oi, c.filterMap (L[·]?)) := by simp [item, hLi]
      rw [List.filterMap_append, List.filterMap_cons, hit] at hk
      rw [List.pairwise_append, List.pairwise_cons] at hpw
      obtain ⟨hpre, ⟨hpost1, hpost2⟩, hcross⟩ := hpw
      have hmoved := move (cz := []) hM (pre.filterMap (item L)) e h r.fin ?_ ?_ (by simp) hk
      · rw [← List.filterMap_append] at hmoved
        unfold srun at hmoved
        refine step_sound hC hoi he r hmoved ?_ ?_
        · intro v h' w' hv r' f
          have hnd' : (i :: (pre ++ post).map (·.1)).Nodup := by
            have hperm : ((pre ++ (i, c) :: post).map (·.1)).Perm (i :: (pre ++ post).map (·.1)) := by
              simp
            exact hperm.nodup_iff.mp hnd
          obtain ⟨hni, hnd''⟩ := List.nodup_cons.mp hnd'
          refine any_sound hC hM hL han n (pre ++ post) _ (putE e oi.dst v) h' _ w' k (by simp at hlen ⊢; omega) ?_ hnd'' ?_ ?_ ?_ (he.putE _ _) (by rw [put_defers]; exact hd) r' hv.2 ?_ ?_
          · intro j
            rw [listed_set hiu, ← hu j]
            constructor
            · rintro ⟨d, hd⟩
              refine ⟨fun hji => hni (List.mem_map.mpr ⟨(j, d), hd, hji⟩), d, ?_⟩
              rcases List.mem_append.mp hd with h1 | h1
              · simp [h1]
              · simp [h1]
            · rintro ⟨hne, d, hd⟩
              refine ⟨d, ?_⟩
              rcases List.mem_append.mp hd with h1 | h1
              · simp [h1]
              · rcases List.mem_cons.mp h1 with h1 | h1
                · exact absurd (congrArg Prod.fst h1) hne
                · simp [h1]
          · have : ∀ (l1 l2 : List (Nat × List Nat)) (y : Nat × List Nat), okFrom P L an (l1 ++ y :: l2) = true → okFrom P L an (l1 ++ l2) = true := by
              intro l1
              induction l1 with
              | nil => intro l2 y h; simp only [List.nil_append, okFrom, Bool.and_eq_true] at h ⊢; exact h.2
              | cons z l1 ih =>
                intro l2 y h
                simp only [List.cons_append, okFrom, Bool.and_eq_true, List.all_append, List.all_cons] at h ⊢
                exact ⟨⟨h.1.1, h.1.2.1, h.1.2.2.2⟩, ih _ _ h.2⟩
            exact this _ _ _ hok
          · intro j hj m hm
            rw [listed_set' hiu] at hj ⊢
            rcases hj with rfl | hj
            · simp only [edgesAt, hLi] at hm
              exact .inr (hie m hm)
            · exact .inr (hcl j hj m hm)
          · intro p x q hpq j hj
            rw [listed_set' hiu]
            rcases List.append_eq_append_iff.mp hpq with ⟨s, rfl, hq⟩ | ⟨s, hs, hq⟩
            · have := hrd (pre ++ (i, c) :: s) x q (by rw [hq]; simp) j hj
              rcases this with h1 | h1
              · exact .inl (.inr h1)
              · simp only [List.map_append, List.map_cons, List.mem_append, List.mem_cons] at h1 ⊢
                rcases h1 with h1 | h1 | h1
                · exact .inr (.inl h1)
                · exact .inl (.inl h1)
                · exact .inr (.inr h1)
            · cases s with
              | nil =>
                simp at hs hq
                subst hs hq
                have := hrd (pre ++ [(i, c)]) x q (by simp) j hj
                rcases this with h1 | h1
                · exact .inl (.inr h1)
                · simp only [List.map_append, List.map_cons, List.mem_append, List.mem_cons, List.map_nil, List.not_mem_nil, or_false] at h1
                  rcases h1 with h1 | h1
                  · exact .inr h1
                  · exact .inl (.inl h1)
              | cons z s =>
                simp only [List.cons_append, List.cons.injEq] at hq
                obtain ⟨rfl, hq⟩ := hq
                subst hs
                have := hrd p x (s ++ (i, c) :: post) (by simp) j hj
                rcases this with h1 | h1
                · exact .inl (.inr h1)
                · exact .inr h1
          · intro e'' h'' a'' w'' hk' he' hd' r'' f'
            exact hn _ _ _ _ hk' he' hd' r'' (f.trans f')
          · intro c h'' a'' w'' hc hd' r'' f'
            exact hp _ _ _ _ hc hd' r'' (f.trans f')
        · intro c h' w' hc r' f
          exact hp _ _ _ _ hc hd r' f
      · intro z hz
        obtain ⟨x, hx, hxz⟩ := List.mem_filterMap.mp hz
        obtain ⟨ox, hox, hce⟩ := hsingle x (by simp [hx])
        simp only [item, hox, Option.map_some, Option.some.injEq] at hxz
        subst hxz
        have hpo := pass_of hL han hcl hox hLi hie ((hu x.1).mp ⟨x.2, by simp [hx]⟩) (hcross x hx (i, c) (by simp))
        refine ⟨hpo, ?_⟩
        rw [hce hpo.2.1]; rfl
      · have hpw' : (pre.filterMap (item L)).Pairwise fun r x => clOf P r.1.op = .r → clOf P x.1.op ≠ .e → quiet ops r.1 x.1 = true := by
          refine List.Pairwise.filterMap (item L) ?_ hpre
          intro x y hxy z hz u hu' hcr hce
          unfold okPair at hxy
          unfold item at hz hu'
          cases hox : L[x.1]? with
          | none => simp [hox] at hxy
          | some ox =>
            cases hoy : L[y.1]? with
            | none => simp [hox, hoy] at hxy
            | some oy =>
              simp only [hox, Option.map_some] at hz
              simp only [hoy, Option.map_some] at hu'
              simp only [Option.mem_def, Option.some.injEq] at hz hu'
              subst hz hu'
              simp only [hox, hoy, Bool.and_eq_true, Bool.or_eq_true] at hxy
              rcases hxy.1 with (h1 | h1) | h1
              · rw [hL] at h1; simpa using h1
              · simp [hcr] at h1
              · simp at h1; exact absurd h1 hce
        refine hpw'.imp_of_mem ?_
        intro r x hr hx hrx hcr
        obtain ⟨x', hx', hxz⟩ := List.mem_filterMap.mp hx
        obtain ⟨ox, hox, hce⟩ := hsingle x' (by simp [hx'])
        simp only [item, hox, Option.map_some, Option.some.injEq] at hxz
        subst hxz
        have hpo := pass_of hL han hcl hox hLi hie ((hu x'.1).mp ⟨x'.2, by simp [hx']⟩) (hcross x' hx' (i, c) (by simp))
        exact hrx hcr hpo.2.1

theorem okReady_spec {L : List Oper} : ∀ {is done : List Nat}, okReady L done is = true →
    (∀ i ∈ is, i < L.length ∧ i ∉ done) ∧ is.Nodup ∧ ∀ pre x post, is = pre ++ x :: post → ∀ j ∈ edgesAt L x, j ∈ done ∨ j ∈ pre
  | [], done, _ => ⟨by simp, .nil, fun pre x post h => by simp at h⟩
  | i :: is, done, h => by
    simp only [okReady, Bool.and_eq_true, Bool.not_eq_true'] at h
    obtain ⟨⟨h1, h2⟩, h3⟩ := h
    obtain ⟨g1, g2, g3⟩ := okReady_spec h3
    have hi : i < L.length := by
      unfold readyIn at h1
      split at h1
      · rename_i o ho
        exact (List.getElem?_eq_some_iff.mp ho).1
      · cases h1
    have h2 : i ∉ done := by simpa using h2
    refine ⟨fun j hj => ?_, List.nodup_cons.mpr ⟨fun hm => (g1 i hm).2 (by simp), g2⟩, fun pre x post hs j hj => ?_⟩
    · rcases List.mem_cons.mp hj with rfl | hj
      · exact ⟨hi, h2⟩
      · exact ⟨(g1 j hj).1, fun hd => (g1 j hj).2 (by simp [hd])⟩
    · cases pre with
      | nil =>
        simp only [List.nil_append, List.cons.injEq] at hs
        obtain ⟨rfl, rfl⟩ := hs
        unfold readyIn at h1
        unfold edgesAt at hj
        split at h1
        · rename_i o ho
          simp only [ho] at hj
          simp only [List.all_eq_true] at h1
          exact .inl (by simpa using h1 j hj)
        · cases h1
      | cons y pre =>
        simp only [List.cons_append, List.cons.injEq] at hs
        obtain ⟨rfl, hs⟩ := hs
        rcases g3 pre x post hs j hj with h | h
        · rcases List.mem_cons.mp h with rfl | h
          · exact .inr (by simp)
          · exact .inl h
        · exact .inr (by simp [h])

theorem idxOf_fst {L : List Oper} {an : List (Nat × List Nat)} : ∀ (ahead is : List Nat), (idxOf P L an ahead is).map (·.1) = is
  | _, [] => rfl
  | ahead, i :: is => by simp [idxOf, idxOf_fst (i :: ahead) is]

theorem draw_sound (hw : P.follows .mixedOrders = true) (hC : Sound P C) (hM : Mono C) (hok : okRgn P ops.toList = true) {id : Nat} {e : Env} {h : H} {a : Act} {w : World} {k : Env → H → Prop}
    (he : EnvR e a.tmps) (hd : a.defers = []) (r : Rel h w) (hk : rgn P C ops ((canon P ops.toList).filterMap (item ops.toList)) e h k kp)
    (hn : ∀ e h' a w', k e h' → EnvR e a.tmps → a.defers = [] → Rel h' w' → Frame h w h' w' → Q .normal a w') (hp : ∀ c h' a w', kp c h' → a.defers = [] → Rel h' w' → Frame h w h' w' → Q (.panic c) a w') :
    (Code.region id ops true).wp P Q a w := by
  unfold okRgn at hok
  simp only [Bool.and_eq_true, beq_iff_eq, List.all_eq_true, List.mem_range] at hok
  obtain ⟨⟨⟨h1, h2⟩, h3⟩, h4⟩ := hok
  obtain ⟨g1, g2, g3⟩ := okReady_spec h3
  have hs : SameHeap w { w with drawn := w.drawn + 1 } := ⟨rfl, rfl, rfl, rfl⟩
  have hmem : ∀ i, (∃ c, (i, c) ∈ canon P ops.toList) ↔ i < ops.size := by
    intro i
    have : (∃ c, (i, c) ∈ canon P ops.toList) ↔ i ∈ (canon P ops.toList).map (·.1) := by
      constructor
      · rintro ⟨c, hc⟩; exact List.mem_map.mpr ⟨_, hc, rfl⟩
      · intro h
        obtain ⟨x, hx, rfl⟩ := List.mem_map.mp h
        exact ⟨x.2, hx⟩
    rw [this]
    unfold canon
    simp only [idxOf_fst]
    constructor
    · intro hi; simpa using (g1 i hi).1
    · intro hi; simpa using h2 i (by simpa using hi)
  refine wp_region_any hw (any_sound (kp := kp) hC hM rfl (ancs_ok _ [] ?_) ops.size (canon P ops.toList) _ e h a _ k ?_ ?_ ?_ h4 ?_ ?_ he hd (r.same hs) (rgn_srun hM hk) ?_ ?_)
  · intro i x hx
    simp [ancOf] at hx
  · have := congrArg List.length (idxOf_fst (P := P) (L := ops.toList) (an := ancs ops.toList (orderOf P ops.toList ops.toList.length (List.range ops.toList.length) []) []) [] (orderOf P ops.toList ops.toList.length (List.range ops.toList.length) []))
    rw [List.length_map, h1] at this
    simpa [canon] using this
  · intro i
    rw [hmem i]
    simp only [Array.getD_eq_getD_getElem?, Array.getElem?_replicate]
    by_cases hi : i < ops.size <;> simp [hi]
  · unfold canon
    rw [idxOf_fst]; exact g2
  · intro i hi
    simp only [Array.getD_eq_getD_getElem?, Array.getElem?_replicate] at hi
    by_cases hi' : i < ops.size <;> simp [hi'] at hi
  · intro pre x post hs j hj
    have := congrArg (List.map (·.1)) hs
    unfold canon at this
    rw [idxOf_fst, List.map_append, List.map_cons] at this
    rcases g3 _ _ _ this j hj with h | h
    · simp at h
    · exact .inr h
  · intro e' h' a' w' hk' he' hd' r' f'
    exact hn _ _ _ _ hk' he' hd' r' ((Frame.same hs).trans f')
  · intro c h' a' w' hc hd' r' f'
    exact hp _ _ _ _ hc hd' r' ((Frame.same hs).trans f')

theorem text_sound (hC : Sound P C) {id : Nat} {e : Env} {h : H} {a : Act} {w : World} {k : Env → H → Prop}
    (he : EnvR e a.tmps) (hd : a.defers = []) (r : Rel h w) (hk : rgn P C ops (ops.toList.map fun o => (o, [])) e h k kp)
    (hn : ∀ e h' a w', k e h' → EnvR e a.tmps → a.defers = [] → Rel h' w' → Frame h w h' w' → Q .normal a w') (hp : ∀ c h' a w', kp c h' → a.defers = [] → Rel h' w' → Frame h w h' w' → Q (.panic c) a w') :
    (Code.region id ops false).wp P Q a w := by
  refine wp_region (seq_sound hC _ _ e h a w k ?_ ?_ he hd r hk hn hp)
  · rw [List.map_map]
    have := filterMap_range ops.toList
    simp only [Array.getElem?_toList, Array.length_toList] at this
    rw [this]
    exact List.map_id _
  · intro i hi
    have := List.mem_range.mp hi
    exact ⟨ops[i], by simp [this]⟩
end
end Go.Proofs.YtkgjpdadeakacaaDoor.Am
