/-
  Packed: Unification of terms in rows: plain Lean, with no program in sight. The program's board of nodes in memory: ends, making one. The program makes two nodes one. The program lays out a term on its board. Whether two terms can be made one.
-/
import Derived.Test.YtnlhnlmnlfmojaaDoorPkS
import Derived.Test.YtnlhnlmnlfmojaaDoorAmFnsP
import Derived.Test.YtnlhnlmnlfmojaaDoorPkB
import Derived.Test.YtnlhnlmnlfmojaaDoorPkT
set_option linter.unusedVariables false
set_option linter.unusedSimpArgs false
set_option linter.unnecessarySimpa false
namespace Go.Proofs.Sys

/-- Binds laid into a row. -/
def app (τ : Int → List Int) (l : List Int) : List Int := l.flatMap fun c => if c < 0 then τ c else [c]
theorem app_nil {τ : Int → List Int} : app τ [] = [] := rfl
theorem app_append {τ : Int → List Int} {a b : List Int} : app τ (a ++ b) = app τ a ++ app τ b := by simp [app]
theorem app_neg {τ : Int → List Int} {c : Int} {l : List Int} (h : c < 0) : app τ (c :: l) = τ c ++ app τ l := by simp [app, h]
theorem app_pos {τ : Int → List Int} {c : Int} {l : List Int} (h : ¬ c < 0) : app τ (c :: l) = c :: app τ l := by simp [app, h]
theorem app_flatten {τ : Int → List Int} : ∀ us : List (List Int), app τ us.flatten = (us.map (app τ)).flatten
  | [] => rfl
  | u :: us => by rw [List.flatten_cons, app_append, app_flatten us]; rfl
def Sub (sig : Sg) (τ : Int → List Int) : Prop := ∀ c, isTerm sig (τ c)
/-- A term is eaten whole, whatever is behind it. -/
theorem scan_eat_app (sig : Sg) : ∀ (u : List Int) (n : Nat) (r : List Int), scan sig n u = 0 → eat sig n (u ++ r) = (0, r)
  | [], 0, r, _ => by cases r <;> simp [eat]
  | [], n + 1, r, h => by simp [scan] at h
  | c :: u, 0, r, h => by simp [scan] at h
  | c :: u, n + 1, r, h => by
    unfold scan at h
    split at h
    · simp at h
    · rename_i hb
      rw [List.cons_append, eat, if_neg hb]
      exact scan_eat_app sig u _ r h
theorem scan_add (sig : Sg) : ∀ (u : List Int) (m n : Nat) (r : List Int), scan sig m u = 0 → scan sig (m + n) (u ++ r) = scan sig n r
  | [], 0, n, r, _ => by simp
  | [], m + 1, n, r, h => by simp [scan] at h
  | c :: u, 0, n, r, h => by simp [scan] at h
  | c :: u, m + 1, n, r, h => by
    unfold scan at h
    split at h
    · simp at h
    · rename_i hb
      rw [List.cons_append, show m + 1 + n = (m + n) + 1 by omega, scan, if_neg hb, show m + n + kids sig c = (m + kids sig c) + n by omega]
      exact scan_add sig u _ n r h
theorem scan_flat (sig : Sg) : ∀ us : List (List Int), (∀ u ∈ us, isTerm sig u) → scan sig us.length us.flatten = 0
  | [], _ => rfl
  | u :: us, h => by
    rw [List.flatten_cons, List.length_cons, Nat.add_comm]
    rw [scan_add sig u 1 us.length us.flatten (h u (by simp))]
    exact scan_flat sig us fun v hv => h v (by simp [hv])
theorem app_scan (sig : Sg) {τ : Int → List Int} (hτ : Sub sig τ) : ∀ (u : List Int) (n : Nat), scan sig n u = 0 → scan sig n (app τ u) = 0
  | [], 0, _ => rfl
  | [], n + 1, h => by simp [scan] at h
  | c :: u, 0, h => by simp [scan] at h
  | c :: u, n + 1, h => by
    unfold scan at h
    split at h
    · simp at h
    · rename_i hb
      by_cases hc : c < 0
      · rw [app_neg hc, Nat.add_comm]
        rw [scan_add sig (τ c) 1 n (app τ u) (hτ c)]
        refine app_scan sig hτ u n ?_
        have : kids sig c = 0 := by unfold kids; rw [if_pos hc]
        rw [this] at h; exact h
      · rw [app_pos hc, scan, if_neg hb]
        exact app_scan sig hτ u _ h
theorem app_term {sig : Sg} {τ : Int → List Int} (hτ : Sub sig τ) {u : List Int} (h : isTerm sig u) : isTerm sig (app τ u) := app_scan sig hτ u 1 h
theorem term_prefix {sig : Sg} {u v r s : List Int} (hu : isTerm sig u) (hv : isTerm sig v) (h : u ++ r = v ++ s) : u = v ∧ r = s := by
  have h1 := scan_eat_app sig u 1 r hu
  have h2 := scan_eat_app sig v 1 s hv
  rw [h, h2] at h1
  have : r = s := by injection h1 with _ e; exact e.symm
  subst this
  exact ⟨List.append_cancel_right h, rfl⟩
theorem flat_inj {sig : Sg} : ∀ {us vs : List (List Int)}, (∀ u ∈ us, isTerm sig u) → (∀ v ∈ vs, isTerm sig v) → us.length = vs.length → us.flatten = vs.flatten → us = vs
  | [], [], _, _, _, _ => rfl
  | [], _ :: _, _, _, h, _ => by simp at h
  | _ :: _, [], _, _, h, _ => by simp at h
  | u :: us, v :: vs, hu, hv, hl, h => by
    rw [List.flatten_cons, List.flatten_cons] at h
    obtain ⟨e1, e2⟩ := term_prefix (hu u (by simp)) (hv v (by simp)) h
    rw [e1, flat_inj (fun x hx => hu x (by simp [hx])) (fun x hx => hv x (by simp [hx])) (by simpa using hl) e2]

/-! ### a board of nodes -/
inductive Nd
  | var (c : Int)
  | tree (c : Int) (ks : List Nat)
structure Bd (sig : Sg) where
  nd : Nat → Option Nd
  row : Nat → List Int
  var : ∀ {x c}, nd x = some (.var c) → c < 0 ∧ -1048576 ≤ c ∧ row x = [c]
  tree : ∀ {x c ks}, nd x = some (.tree c ks) → 0 ≤ c ∧ row x = c :: (ks.map row).flatten ∧ ks.length = kids sig c ∧ ∀ k ∈ ks, nd k ≠ none
  term : ∀ {x}, nd x ≠ none → isTerm sig (row x)
  same : ∀ {x y c}, nd x = some (.var c) → nd y = some (.var c) → x = y
abbrev Is := Nat → Option Nat
def setIs (is : Is) (x y : Nat) : Is := fun z => if z = x then some y else is z
theorem setIs_here {is : Is} {x y : Nat} : setIs is x y x = some y := by simp [setIs]
theorem setIs_away {is : Is} {x y z : Nat} (h : z ≠ x) : setIs is x y z = is z := by simp [setIs, h]
/-- What a node was made one with, in the end. -/
inductive End (is : Is) : Nat → Nat → Prop
  | here {x : Nat} : is x = none → End is x x
  | next {x y e : Nat} : is x = some y → End is y e → End is x e
theorem End.none {is : Is} {x e : Nat} (h : End is x e) : is e = none := by
  induction h with
  | here h => exact h
  | next _ _ ih => exact ih
theorem End.fn {is : Is} {x e e' : Nat} (h : End is x e) (h' : End is x e') : e = e' := by
  induction h with
  | here h =>
    cases h' with
    | here _ => rfl
    | next h2 _ => rw [h] at h2; cases h2
  | next h1 _ ih =>
    cases h' with
    | here h2 => rw [h1] at h2; cases h2
    | next h2 h3 => rw [h1] at h2; cases h2; exact ih h3
theorem End.self {is : Is} {x e : Nat} (h : End is x e) : End is e e := .here h.none
def Rel (is : Is) (x y : Nat) : Prop := ∃ e, End is x e ∧ End is y e
theorem Rel.symm {is : Is} {x y : Nat} (h : Rel is x y) : Rel is y x := let ⟨e, a, b⟩ := h; ⟨e, b, a⟩
theorem Rel.trans {is : Is} {x y z : Nat} (h : Rel is x y) (k : Rel is y z) : Rel is x z := by
  obtain ⟨e, a, b⟩ := h
  obtain ⟨e', c, d⟩ := k
  obtain rfl := b.fn c
  exact ⟨e, a, d⟩
variable {sig : Sg} {U : Bd sig}
/-- Nodes lead to nodes, each to an end; trees to trees. -/
structure Good (U : Bd sig) (is : Is) : Prop where
  has : ∀ x, U.nd x ≠ none → ∃ e, End is x e ∧ U.nd e ≠ none
  tr : ∀ x y c ks, is x = some y → U.nd x = some (.tree c ks) → ∃ ks', U.nd y = some (.tree c ks')
  dom : ∀ x y, is x = some y → U.nd x ≠ none ∧ U.nd y ≠ none
def Le (is is' : Is) : Prop := ∀ x y, is x = some y → is' x = some y
theorem End.le {is is' : Is} (hl : Le is is') {x e e' : Nat} (h : End is x e) (h' : End is' e e') : End is' x e' := by
  induction h with
  | here _ => exact h'
  | next h1 _ ih => exact .next (hl _ _ h1) (ih h')
theorem Rel.le {is is' : Is} (hl : Le is is') (g : Good U is') {x y : Nat} (hx : U.nd x ≠ none) (h : Rel is x y) (gi : Good U is) : Rel is' x y := by
  obtain ⟨e, a, b⟩ := h
  obtain ⟨e0, a0, h0⟩ := gi.has x hx
  obtain rfl := a.fn a0
  obtain ⟨e', c, _⟩ := g.has e h0
  exact ⟨e', a.le hl c, b.le hl c⟩
theorem le_set {is : Is} {e y : Nat} (h : is e = none) : Le is (setIs is e y) := fun x z hz => by
  rw [setIs_away fun hh => by rw [hh, h] at hz; cases hz]; exact hz
theorem Good.set {is : Is} (g : Good U is) {e e' : Nat} (h : is e = none) (h' : is e' = none) (hne : e ≠ e') (hn : U.nd e ≠ none) (hn' : U.nd e' ≠ none) (ht : ∀ c ks, U.nd e = some (.tree c ks) → ∃ ks', U.nd e' = some (.tree c ks')) : Good U (setIs is e e') := by
  have h2 : setIs is e e' e' = none := by rw [setIs_away hne.symm]; exact h'
  refine ⟨fun x hx => ?_, fun x y c ks hxy hx => ?_, fun x y hxy => ?_⟩
  · obtain ⟨a, ha, hna⟩ := g.has x hx
    by_cases hae : a = e
    · subst hae
      exact ⟨e', ha.le (le_set h) (.next setIs_here (.here h2)), hn'⟩
    · exact ⟨a, ha.le (le_set h) (.here (by rw [setIs_away hae]; exact ha.none)), hna⟩
  · by_cases hxe : x = e
    · subst hxe
      rw [setIs_here] at hxy
      cases hxy
      exact ht c ks hx
    · rw [setIs_away hxe] at hxy
      exact g.tr x y c ks hxy hx
  · by_cases hxe : x = e
    · subst hxe
      rw [setIs_here] at hxy
      cases hxy
      exact ⟨hn, hn'⟩
    · rw [setIs_away hxe] at hxy
      exact g.dom x y hxy
/-- Pairs of nodes are made one, one after the other; false: two symbols clash. -/
inductive One (U : Bd sig) : Is → List (Nat × Nat) → Bool → Is → Prop
  | nil {is : Is} : One U is [] true is
  | same {is is' : Is} {x y e : Nat} {ps : List (Nat × Nat)} {b : Bool} : End is x e → End is y e → One U is ps b is' → One U is ((x, y) :: ps) b is'
  | left {is is' : Is} {x y e e' : Nat} {c : Int} {ps : List (Nat × Nat)} {b : Bool} : End is x e → End is y e' → e ≠ e' → U.nd e = some (.var c) → One U (setIs is e e') ps b is' → One U is ((x, y) :: ps) b is'
  | right {is is' : Is} {x y e e' : Nat} {c : Int} {ps : List (Nat × Nat)} {b : Bool} : End is x e → End is y e' → e ≠ e' → U.nd e' = some (.var c) → One U (setIs is e' e) ps b is' → One U is ((x, y) :: ps) b is'
  | clash {is : Is} {x y e e' : Nat} {c c' : Int} {ks ks' : List Nat} {ps : List (Nat × Nat)} : End is x e → End is y e' → U.nd e = some (.tree c ks) → U.nd e' = some (.tree c' ks') → c ≠ c' → One U is ((x, y) :: ps) false is
  | tree {is is1 is' : Is} {x y e e' : Nat} {c : Int} {ks ks' : List Nat} {ps : List (Nat × Nat)} {b : Bool} : End is x e → End is y e' → e ≠ e' → U.nd e = some (.tree c ks) → U.nd e' = some (.tree c ks') →
      One U (setIs is e e') (ks.zip ks') true is1 → One U is1 ps b is' → One U is ((x, y) :: ps) b is'
  | treeF {is is1 : Is} {x y e e' : Nat} {c : Int} {ks ks' : List Nat} {ps : List (Nat × Nat)} : End is x e → End is y e' → e ≠ e' → U.nd e = some (.tree c ks) → U.nd e' = some (.tree c ks') →
      One U (setIs is e e') (ks.zip ks') false is1 → One U is ((x, y) :: ps) false is1
/-- What any binds that make the pairs the same keep the same. -/
def Sound (U : Bd sig) (τ : Int → List Int) (is : Is) : Prop := ∀ x y, is x = some y → app τ (U.row x) = app τ (U.row y)
theorem Sound.fin {τ : Int → List Int} {is : Is} (s : Sound U τ is) {x e : Nat} (h : End is x e) : app τ (U.row x) = app τ (U.row e) := by
  induction h with
  | here _ => rfl
  | next h1 _ ih => exact (s _ _ h1).trans ih
theorem Sound.set {τ : Int → List Int} {is : Is} (s : Sound U τ is) {e e' : Nat} (h : app τ (U.row e) = app τ (U.row e')) : Sound U τ (setIs is e e') := fun x y hxy => by
  by_cases hxe : x = e
  · subst hxe
    rw [setIs_here] at hxy
    cases hxy; exact h
  · rw [setIs_away hxe] at hxy
    exact s x y hxy
theorem map_row_term {ks : List Nat} (h : ∀ k ∈ ks, U.nd k ≠ none) {τ : Int → List Int} (hτ : Sub sig τ) : ∀ u ∈ (ks.map U.row).map (app τ), isTerm sig u := fun u hu => by
  obtain ⟨v, hv, rfl⟩ := List.mem_map.mp hu
  obtain ⟨k, hk, rfl⟩ := List.mem_map.mp hv
  exact app_term hτ (U.term (h k hk))
theorem tree_kids {τ : Int → List Int} (hτ : Sub sig τ) {e e' : Nat} {c c' : Int} {ks ks' : List Nat} (h1 : U.nd e = some (.tree c ks)) (h2 : U.nd e' = some (.tree c' ks')) (h : app τ (U.row e) = app τ (U.row e')) :
    c = c' ∧ ∀ p ∈ ks.zip ks', app τ (U.row p.1) = app τ (U.row p.2) := by
  obtain ⟨a1, a2, a3, a4⟩ := U.tree h1
  obtain ⟨b1, b2, b3, b4⟩ := U.tree h2
  rw [a2, b2, app_pos (by omega), app_pos (by omega)] at h
  have hc := (List.cons.inj h).1
  have h := (List.cons.inj h).2
  refine ⟨hc, ?_⟩
  rw [app_flatten, app_flatten] at h
  have := flat_inj (map_row_term a4 hτ) (map_row_term b4 hτ) (by simp [a3, b3, hc]) h
  rw [List.map_map, List.map_map] at this
  have key : ∀ (l l' : List Nat), l.map (app τ ∘ U.row) = l'.map (app τ ∘ U.row) → ∀ p ∈ l.zip l', app τ (U.row p.1) = app τ (U.row p.2) := by
    intro l
    induction l with
    | nil => intro l' _ p hp; simp at hp
    | cons a l ih =>
      intro l' h p hp
      cases l' with
      | nil => simp at hp
      | cons b l' =>
        rw [List.map_cons, List.map_cons] at h
        obtain ⟨h1, h2⟩ := List.cons.inj h
        rw [List.zip_cons_cons] at hp
        rcases List.mem_cons.mp hp with rfl | hp
        · exact h1
        · exact ih l' h2 p hp
  exact key ks ks' this
theorem One.sound {is is' : Is} {ps : List (Nat × Nat)} {b : Bool} (o : One U is ps b is') {τ : Int → List Int} (hτ : Sub sig τ) : Sound U τ is → (∀ p ∈ ps, app τ (U.row p.1) = app τ (U.row p.2)) → b = true ∧ Sound U τ is' := by
  induction o with
  | nil => exact fun s _ => ⟨rfl, s⟩
  | same _ _ _ ih => exact fun s h => ih s fun p hp => h p (by simp [hp])
  | left h1 h2 _ _ _ ih =>
    intro s h
    have h0 := h _ (List.mem_cons_self ..)
    exact ih (s.set ((s.fin h1).symm.trans (h0.trans (s.fin h2)))) fun p hp => h p (by simp [hp])
  | right h1 h2 _ _ _ ih =>
    intro s h
    have h0 := h _ (List.mem_cons_self ..)
    exact ih (s.set ((s.fin h2).symm.trans (h0.symm.trans (s.fin h1)))) fun p hp => h p (by simp [hp])
  | clash h1 h2 h3 h4 hne =>
    intro s h
    have h0 := h _ (List.mem_cons_self ..)
    exact absurd (tree_kids hτ h3 h4 ((s.fin h1).symm.trans (h0.trans (s.fin h2)))).1 hne
  | tree h1 h2 _ h3 h4 _ _ ih1 ih2 =>
    intro s h
    have h0 := (s.fin h1).symm.trans ((h _ (List.mem_cons_self ..)).trans (s.fin h2))
    obtain ⟨_, s1⟩ := ih1 (s.set h0) (tree_kids hτ h3 h4 h0).2
    exact ih2 s1 fun p hp => h p (by simp [hp])
  | treeF h1 h2 _ h3 h4 _ ih1 =>
    intro s h
    have h0 := (s.fin h1).symm.trans ((h _ (List.mem_cons_self ..)).trans (s.fin h2))
    obtain ⟨hb, _⟩ := ih1 (s.set h0) (tree_kids hτ h3 h4 h0).2
    cases hb
/-- Kids of trees that were made one are one. -/
def Kin (U : Bd sig) (is is' : Is) : Prop := ∀ p q c ks c' ks', is p = none → is' p = some q → U.nd p = some (.tree c ks) → U.nd q = some (.tree c' ks') → ∀ z ∈ ks.zip ks', Rel is' z.1 z.2
theorem Good.end_nd {is : Is} (g : Good U is) {x e : Nat} (h : End is x e) (hx : U.nd x ≠ none) : U.nd e ≠ none := by
  obtain ⟨e', a, b⟩ := g.has x hx
  rw [h.fn a]; exact b
theorem One.good {is is' : Is} {ps : List (Nat × Nat)} {b : Bool} (o : One U is ps b is') : Good U is → (∀ p ∈ ps, U.nd p.1 ≠ none ∧ U.nd p.2 ≠ none) → Good U is' ∧ Le is is' := by
  induction o with
  | nil => exact fun g _ => ⟨g, fun _ _ h => h⟩
  | same _ _ _ ih => exact fun g h => ih g fun p hp => h p (by simp [hp])
  | left h1 h2 hne hv _ ih =>
    intro g h
    obtain ⟨n1, n2⟩ := h _ (List.mem_cons_self ..)
    have g' := g.set h1.none h2.none hne (g.end_nd h1 n1) (g.end_nd h2 n2) fun c ks ht => by rw [hv] at ht; cases ht
    obtain ⟨a, b⟩ := ih g' fun p hp => h p (by simp [hp])
    exact ⟨a, fun x y hxy => b x y (le_set h1.none x y hxy)⟩
  | right h1 h2 hne hv _ ih =>
    intro g h
    obtain ⟨n1, n2⟩ := h _ (List.mem_cons_self ..)
    have g' := g.set h2.none h1.none hne.symm (g.end_nd h2 n2) (g.end_nd h1 n1) fun c ks ht => by rw [hv] at ht; cases ht
    obtain ⟨a, b⟩ := ih g' fun p hp => h p (by simp [hp])
    exact ⟨a, fun x y hxy => b x y (le_set h2.none x y hxy)⟩
  | clash _ _ _ _ _ => exact fun g _ => ⟨g, fun _ _ h => h⟩
  | tree h1 h2 hne h3 h4 _ _ ih1 ih2 =>
    intro g h
    obtain ⟨n1, n2⟩ := h _ (List.mem_cons_self ..)
    have g' := g.set h1.none h2.none hne (g.end_nd h1 n1) (g.end_nd h2 n2) fun c ks ht => by rw [h3] at ht; cases ht; exact ⟨_, h4⟩
    obtain ⟨g1, l1⟩ := ih1 g' fun p hp => ⟨(U.tree h3).2.2.2 _ (List.of_mem_zip hp).1, (U.tree h4).2.2.2 _ (List.of_mem_zip hp).2⟩
    obtain ⟨g2, l2⟩ := ih2 g1 fun p hp => h p (by simp [hp])
    exact ⟨g2, fun x y hxy => l2 x y (l1 x y (le_set h1.none x y hxy))⟩
  | treeF h1 h2 hne h3 h4 _ ih1 =>
    intro g h
    obtain ⟨n1, n2⟩ := h _ (List.mem_cons_self ..)
    have g' := g.set h1.none h2.none hne (g.end_nd h1 n1) (g.end_nd h2 n2) fun c ks ht => by rw [h3] at ht; cases ht; exact ⟨_, h4⟩
    obtain ⟨g1, l1⟩ := ih1 g' fun p hp => ⟨(U.tree h3).2.2.2 _ (List.of_mem_zip hp).1, (U.tree h4).2.2.2 _ (List.of_mem_zip hp).2⟩
    exact ⟨g1, fun x y hxy => l1 x y (le_set h1.none x y hxy)⟩
theorem rel_set {is : Is} {x y e e' : Nat} (h1 : End is x e) (h2 : End is y e') (hne : e ≠ e') : Rel (setIs is e e') x y := by
  have h' : setIs is e e' e' = none := by rw [setIs_away hne.symm]; exact h2.none
  exact ⟨e', h1.le (le_set h1.none) (.next setIs_here (.here h')), h2.le (le_set h1.none) (.here h')⟩
theorem Kin.step {is is1 is' : Is} {e q : Nat} (k : Kin U (setIs is e q) is') (hk : ∀ c ks c' ks', U.nd e = some (.tree c ks) → U.nd q = some (.tree c' ks') → ∀ z ∈ ks.zip ks', Rel is' z.1 z.2) (hq : is' e = some q) : Kin U is is' := by
  intro p q' c ks c' ks' hp hp' h1 h2
  by_cases hpe : p = e
  · subst hpe
    rw [hq] at hp'
    cases hp'
    exact hk c ks c' ks' h1 h2
  · exact k p q' c ks c' ks' (by rw [setIs_away hpe]; exact hp) hp' h1 h2
theorem One.kin {is is' : Is} {ps : List (Nat × Nat)} {b : Bool} (o : One U is ps b is') : b = true → Good U is → (∀ p ∈ ps, U.nd p.1 ≠ none ∧ U.nd p.2 ≠ none) → (∀ p ∈ ps, Rel is' p.1 p.2) ∧ Kin U is is' := by
  induction o with
  | nil => exact fun _ _ _ => ⟨by simp, fun p q c ks c' ks' h1 h2 => by rw [h1] at h2; cases h2⟩
  | @same is is' x y e ps b h1 h2 o ih =>
    intro hb g h
    have ht : ∀ p ∈ ps, U.nd p.1 ≠ none ∧ U.nd p.2 ≠ none := fun p hp => h p (by simp [hp])
    obtain ⟨a, k⟩ := ih hb g ht
    obtain ⟨g', l⟩ := o.good g ht
    refine ⟨fun p hp => ?_, k⟩
    rcases List.mem_cons.mp hp with rfl | hp
    · exact Rel.le l g' (h _ (List.mem_cons_self ..)).1 ⟨e, h1, h2⟩ g
    · exact a p hp
  | @left is is' x y e e' c ps b h1 h2 hne hv o ih =>
    intro hb g h
    have ht : ∀ p ∈ ps, U.nd p.1 ≠ none ∧ U.nd p.2 ≠ none := fun p hp => h p (by simp [hp])
    obtain ⟨n1, n2⟩ := h _ (List.mem_cons_self ..)
    have g1 := g.set h1.none h2.none hne (g.end_nd h1 n1) (g.end_nd h2 n2) fun c ks ht => by rw [hv] at ht; cases ht
    obtain ⟨a, k⟩ := ih hb g1 ht
    obtain ⟨g', l⟩ := o.good g1 ht
    refine ⟨fun p hp => ?_, k.step (is1 := is) (fun c ks c' ks' h3 => by rw [hv] at h3; cases h3) (l _ _ setIs_here)⟩
    rcases List.mem_cons.mp hp with rfl | hp
    · exact Rel.le l g' n1 (rel_set h1 h2 hne) g1
    · exact a p hp
  | @right is is' x y e e' c ps b h1 h2 hne hv o ih =>
    intro hb g h
    have ht : ∀ p ∈ ps, U.nd p.1 ≠ none ∧ U.nd p.2 ≠ none := fun p hp => h p (by simp [hp])
    obtain ⟨n1, n2⟩ := h _ (List.mem_cons_self ..)
    have g1 := g.set h2.none h1.none hne.symm (g.end_nd h2 n2) (g.end_nd h1 n1) fun c ks ht => by rw [hv] at ht; cases ht
    obtain ⟨a, k⟩ := ih hb g1 ht
    obtain ⟨g', l⟩ := o.good g1 ht
    refine ⟨fun p hp => ?_, k.step (is1 := is) (fun c ks c' ks' h3 => by rw [hv] at h3; cases h3) (l _ _ setIs_here)⟩
    rcases List.mem_cons.mp hp with rfl | hp
    · exact Rel.le l g' n1 (rel_set h2 h1 hne.symm).symm g1
    · exact a p hp
  | clash _ _ _ _ _ => exact fun hb => by cases hb
  | @tree is is1 is' x y e e' c ks ks' ps b h1 h2 hne h3 h4 o1 o2 ih1 ih2 =>
    intro hb g h
    have ht : ∀ p ∈ ps, U.nd p.1 ≠ none ∧ U.nd p.2 ≠ none := fun p hp => h p (by simp [hp])
    obtain ⟨n1, n2⟩ := h _ (List.mem_cons_self ..)
    have g0 := g.set h1.none h2.none hne (g.end_nd h1 n1) (g.end_nd h2 n2) fun c ks ht => by rw [h3] at ht; cases ht; exact ⟨_, h4⟩
    have hz : ∀ p ∈ ks.zip ks', U.nd p.1 ≠ none ∧ U.nd p.2 ≠ none := fun p hp => ⟨(U.tree h3).2.2.2 _ (List.of_mem_zip hp).1, (U.tree h4).2.2.2 _ (List.of_mem_zip hp).2⟩
    obtain ⟨a1, k1⟩ := ih1 rfl g0 hz
    obtain ⟨g1, l1⟩ := o1.good g0 hz
    obtain ⟨a2, k2⟩ := ih2 hb g1 ht
    obtain ⟨g2, l2⟩ := o2.good g1 ht
    have hzz : ∀ z ∈ ks.zip ks', Rel is' z.1 z.2 := fun z hz' => Rel.le l2 g2 (hz z hz').1 (a1 z hz') g1
    refine ⟨fun p hp => ?_, ?_⟩
    · rcases List.mem_cons.mp hp with rfl | hp
      · exact Rel.le l2 g2 n1 (Rel.le l1 g1 n1 (rel_set h1 h2 hne) g0) g1
      · exact a2 p hp
    · intro p q c1 js c2 js' hp hp' q1 q2 z hz'
      cases hx : is1 p with
      | none => exact k2 p q c1 js c2 js' hx hp' q1 q2 z hz'
      | some q1' =>
        have := l2 p q1' hx
        rw [hp'] at this
        cases this
        have : Rel is1 z.1 z.2 := by
          by_cases hpe : p = e
          · subst hpe
            have := l1 _ _ (setIs_here (is := is) (x := p) (y := e'))
            rw [hx] at this
            cases this
            rw [h3] at q1
            rw [h4] at q2
            cases q1; cases q2
            exact a1 z hz'
          · exact k1 p q c1 js c2 js' (by rw [setIs_away hpe]; exact hp) hx q1 q2 z hz'
        exact Rel.le l2 g2 ((U.tree q1).2.2.2 _ (List.of_mem_zip hz').1) this g1
  | treeF _ _ _ _ _ _ _ => exact fun hb => by cases hb

theorem flat_mem_len {u : List Int} : ∀ {us : List (List Int)}, u ∈ us → u.length ≤ us.flatten.length
  | [], h => by cases h
  | v :: us, h => by
    rw [List.flatten_cons, List.length_append]
    rcases List.mem_cons.mp h with rfl | h
    · omega
    · have := flat_mem_len h; omega

/-! ### how big a node's term is -/
abbrev Sz := Nat → Int
def setSz (sz : Sz) (x : Nat) (v : Int) : Sz := fun z => if z = x then v else sz z
def big : Nat := 65537
/-- Nodes are measured, one after the other; false: a term has no end. -/
inductive Meas (U : Bd sig) (is : Is) (M : Nat) : Sz → List Nat → Nat → Nat → Bool → Sz → Prop
  | nil {sz : Sz} {a : Nat} : Meas U is M sz [] a a true sz
  | var {sz sz' : Sz} {k e : Nat} {c : Int} {ks : List Nat} {a r : Nat} {ok : Bool} : End is k e → U.nd e = some (.var c) → Meas U is M sz ks (min (a + 1) M) r ok sz' → Meas U is M sz (k :: ks) a r ok sz'
  | known {sz sz' : Sz} {k e s : Nat} {c : Int} {js ks : List Nat} {a r : Nat} {ok : Bool} : End is k e → U.nd e = some (.tree c js) → sz e = (s : Int) → 0 < s → Meas U is M sz ks (min (a + s) M) r ok sz' → Meas U is M sz (k :: ks) a r ok sz'
  | bad {sz : Sz} {k e : Nat} {c : Int} {js ks : List Nat} {a r : Nat} : End is k e → U.nd e = some (.tree c js) → sz e < 0 → Meas U is M sz (k :: ks) a r false sz
  | new {sz sz1 sz' : Sz} {k e s : Nat} {c : Int} {js ks : List Nat} {a r : Nat} {ok : Bool} : End is k e → U.nd e = some (.tree c js) → sz e = 0 → Meas U is M (setSz sz e (-1)) js 1 s true sz1 →
      Meas U is M (setSz sz1 e s) ks (min (a + s) M) r ok sz' → Meas U is M sz (k :: ks) a r ok sz'
  | newF {sz sz1 : Sz} {k e s : Nat} {c : Int} {js ks : List Nat} {a r : Nat} : End is k e → U.nd e = some (.tree c js) → sz e = 0 → Meas U is M (setSz sz e (-1)) js 1 s false sz1 → Meas U is M sz (k :: ks) a r false sz1
/-- The terms that nodes stand for. -/
inductive Gr (U : Bd sig) (is : Is) : List Nat → List (List Int) → Prop
  | nil : Gr U is [] []
  | var {k e : Nat} {c : Int} {ks : List Nat} {us : List (List Int)} : End is k e → U.nd e = some (.var c) → Gr U is ks us → Gr U is (k :: ks) ([c] :: us)
  | tree {k e : Nat} {c : Int} {js ks : List Nat} {vs us : List (List Int)} : End is k e → U.nd e = some (.tree c js) → Gr U is js vs → Gr U is ks us → Gr U is (k :: ks) ((c :: vs.flatten) :: us)
theorem Gr.fn {is : Is} {ks : List Nat} {us vs : List (List Int)} (h : Gr U is ks us) (h' : Gr U is ks vs) : us = vs := by
  induction h generalizing vs with
  | nil => cases h'; rfl
  | var h1 h2 _ ih =>
    cases h' with
    | var k1 k2 k3 =>
      obtain rfl := h1.fn k1
      rw [h2] at k2
      cases k2
      rw [ih k3]
    | tree k1 k2 k3 k4 =>
      obtain rfl := h1.fn k1
      rw [h2] at k2; cases k2
  | tree h1 h2 _ _ ih1 ih2 =>
    cases h' with
    | var k1 k2 k3 =>
      obtain rfl := h1.fn k1
      rw [h2] at k2; cases k2
    | tree k1 k2 k3 k4 =>
      obtain rfl := h1.fn k1
      rw [h2] at k2
      cases k2
      rw [ih1 k3, ih2 k4]
theorem Gr.cons {is : Is} {k : Nat} {ks : List Nat} {u : List Int} {us : List (List Int)} (h : Gr U is [k] [u]) (h' : Gr U is ks us) : Gr U is (k :: ks) (u :: us) := by
  cases h with
  | var a b _ => exact .var a b h'
  | tree a b c _ => exact .tree a b c h'
theorem Gr.head {is : Is} {k : Nat} {ks : List Nat} {u : List Int} {us : List (List Int)} (h : Gr U is (k :: ks) (u :: us)) : Gr U is [k] [u] ∧ Gr U is ks us := by
  cases h with
  | var a b c => exact ⟨.var a b .nil, c⟩
  | tree a b c d => exact ⟨.tree a b c .nil, d⟩
theorem Gr.len {is : Is} {ks : List Nat} {us : List (List Int)} (h : Gr U is ks us) : us.length = ks.length := by
  induction h with
  | nil => rfl
  | var _ _ _ ih => simp [ih]
  | tree _ _ _ _ _ ih => simp [ih]
/-- The terms of nodes that were made one are one. -/
theorem Gr.rel {is : Is} {k k' : Nat} {u : List Int} (h : Gr U is [k] [u]) (r : Rel is k k') : Gr U is [k'] [u] := by
  obtain ⟨e, a, b⟩ := r
  cases h with
  | var h1 h2 _ => obtain rfl := h1.fn a; exact .var b h2 .nil
  | tree h1 h2 h3 _ => obtain rfl := h1.fn a; exact .tree b h2 h3 .nil
/-- What is noted of sizes is right. -/
def Sized (U : Bd sig) (is : Is) (M : Nat) (sz : Sz) : Prop := ∀ e, 0 < sz e → is e = none → U.nd e ≠ none → ∃ u, Gr U is [e] [u] ∧ sz e = ((min u.length M : Nat) : Int)
theorem Meas.ok {is : Is} {M : Nat} {sz sz' : Sz} {ks : List Nat} {a r : Nat} {b : Bool} (m : Meas U is M sz ks a r b sz') : b = true → 0 < M → a ≤ M → Sized U is M sz → (∃ us, Gr U is ks us ∧ r = min (a + us.flatten.length) M) ∧ Sized U is M sz' ∧ (∀ e, sz' e < 0 ↔ sz e < 0) := by
  induction m with
  | @nil sz a => exact fun _ _ ha s => ⟨⟨[], .nil, by simp; omega⟩, s, fun _ => Iff.rfl⟩
  | @var sz sz' k e c ks a r ok h1 h2 _ ih =>
    intro hb hM ha s
    obtain ⟨⟨us, h3, h4⟩, s', hn⟩ := ih hb hM (by omega) s
    refine ⟨⟨_, .var h1 h2 h3, ?_⟩, s', hn⟩
    rw [h4, List.flatten_cons, List.length_append, List.length_singleton]
    omega
  | @known sz sz' k e t c js ks a r ok h1 h2 h3 h4 _ ih =>
    intro hb hM ha s
    obtain ⟨⟨us, h5, h6⟩, s', hn⟩ := ih hb hM (by omega) s
    obtain ⟨u, hu, hu2⟩ := s e (by omega) h1.none (by rw [h2]; simp)
    rw [h3] at hu2
    refine ⟨⟨u :: us, (hu.rel ⟨e, h1.self, h1⟩).cons h5, ?_⟩, s', hn⟩
    rw [h6, List.flatten_cons, List.length_append]
    omega
  | bad _ _ _ => exact fun hb => by cases hb
  | @new sz sz1 sz' k e t c js ks a r ok h1 h2 h3 m1 _ ih1 ih2 =>
    intro hb hM ha s
    have s0 : Sized U is M (setSz sz e (-1)) := fun x hx => by
      unfold setSz at hx ⊢
      split at hx
      · omega
      · rename_i hxe
        rw [if_neg hxe]; exact s x hx
    obtain ⟨⟨vs, h4, h5⟩, s1, n1⟩ := ih1 rfl hM hM s0
    have hg : Gr U is [e] [c :: vs.flatten] := .tree h1.self h2 h4 .nil
    have ht : t = min (c :: vs.flatten).length M := by rw [h5, List.length_cons]; omega
    have s2 : Sized U is M (setSz sz1 e t) := fun x hx hi hn => by
      unfold setSz at hx ⊢
      split at hx
      · rename_i hxe
        subst hxe
        rw [if_pos rfl]
        exact ⟨_, hg, by rw [ht]⟩
      · rename_i hxe
        rw [if_neg hxe]; exact s1 x hx hi hn
    obtain ⟨⟨us, h6, h7⟩, s', n2⟩ := ih2 hb hM (by omega) s2
    refine ⟨⟨_, .tree h1 h2 h4 h6, ?_⟩, s', fun x => ?_⟩
    · rw [h7, List.flatten_cons, List.length_append]
      omega
    · rw [n2]
      unfold setSz
      split
      · rename_i hxe
        subst hxe
        constructor
        · intro h
          have : 0 < (t : Int) ∨ (t : Int) = 0 := by omega
          omega
        · intro h; omega
      · rename_i hxe
        rw [n1]
        unfold setSz
        rw [if_neg hxe]
  | newF _ _ _ _ _ => exact fun hb => by cases hb
/-- Where binds make all the same that was made one, a term that is measured has an end. -/
theorem Meas.ends {is : Is} {M : Nat} {sz sz' : Sz} {ks : List Nat} {a r : Nat} {b : Bool} (m : Meas U is M sz ks a r b sz') {τ : Int → List Int} (hτ : Sub sig τ) (s : Sound U τ is) :
    0 < M → a ≤ M → Sized U is M sz → (∀ k ∈ ks, U.nd k ≠ none) → (∀ p, sz p < 0 → ∀ k ∈ ks, (app τ (U.row k)).length < (app τ (U.row p)).length) → b = true := by
  have kid : ∀ {e : Nat} {c : Int} {js : List Nat}, U.nd e = some (.tree c js) → ∀ k ∈ js, (app τ (U.row k)).length < (app τ (U.row e)).length := fun {e c js} h k hk => by
    obtain ⟨a1, a2, a3, a4⟩ := U.tree h
    rw [a2, app_pos (by omega), app_flatten, List.length_cons]
    have : (app τ (U.row k)).length ≤ ((js.map U.row).map (app τ)).flatten.length := flat_mem_len (List.mem_map.mpr ⟨_, List.mem_map.mpr ⟨k, hk, rfl⟩, rfl⟩)
    omega
  induction m with
  | nil => exact fun _ _ _ _ _ => rfl
  | var h1 h2 _ ih => exact fun hM ha hs hn hc => ih hM (by omega) hs (fun k hk => hn k (by simp [hk])) fun p hp k hk => hc p hp k (by simp [hk])
  | known h1 h2 h3 h4 _ ih => exact fun hM ha hs hn hc => ih hM (by omega) hs (fun k hk => hn k (by simp [hk])) fun p hp k hk => hc p hp k (by simp [hk])
  | bad h1 h2 h3 =>
    intro hM ha hs hn hc
    have := hc _ h3 _ (List.mem_cons_self ..)
    rw [s.fin h1] at this
    omega
  | @new sz sz1 sz' k e t c js ks a r ok h1 h2 h3 m1 _ ih1 ih2 =>
    intro hM ha hs hn hc
    have s0 : Sized U is M (setSz sz e (-1)) := fun x hx => by
      unfold setSz at hx ⊢
      split at hx
      · omega
      · rename_i hxe
        rw [if_neg hxe]; exact hs x hx
    obtain ⟨⟨vs, h4, h5⟩, s1, n1⟩ := m1.ok rfl hM hM s0
    have hg : Gr U is [e] [c :: vs.flatten] := .tree h1.self h2 h4 .nil
    have ht : t = min (c :: vs.flatten).length M := by rw [h5, List.length_cons]; omega
    have s2 : Sized U is M (setSz sz1 e t) := fun x hx hi hn => by
      unfold setSz at hx ⊢
      split at hx
      · rename_i hxe
        subst hxe
        rw [if_pos rfl]
        exact ⟨_, hg, by rw [ht]⟩
      · rename_i hxe
        rw [if_neg hxe]; exact s1 x hx hi hn
    refine ih2 hM (by omega) s2 (fun k hk => hn k (by simp [hk])) fun p hp k hk => hc p ?_ k (by simp [hk])
    unfold setSz at hp
    split at hp
    · omega
    · rename_i hpe
      have := (n1 p).mp hp
      unfold setSz at this
      rw [if_neg hpe] at this; exact this
  | @newF sz sz1 k e t c js ks a r h1 h2 h3 _ ih1 =>
    intro hM ha hs hn hc
    refine ih1 hM hM (fun x hx => ?_) (U.tree h2).2.2.2 fun p hp k' hk' => ?_
    · unfold setSz at hx ⊢
      split at hx
      · omega
      · rename_i hxe
        rw [if_neg hxe]; exact hs x hx
    · have h4 := kid h2 k' hk'
      unfold setSz at hp
      split at hp
      · rename_i hpe
        subst hpe; exact h4
      · have := hc p hp k (by simp)
        rw [s.fin h1] at this
        omega

/-! ### what comes of it -/
/-- All nodes below one whose term ends have terms that end. -/
theorem kid_rel {is : Is} (g : Good U is) (kin : Kin U (fun _ => none) is) {x e : Nat} (h : End is x e) : ∀ {c : Int} {ks : List Nat}, U.nd x = some (.tree c ks) → ∃ ks', U.nd e = some (.tree c ks') ∧ ∀ z ∈ ks.zip ks', Rel is z.1 z.2 := by
  induction h with
  | here h0 =>
    intro c ks hx
    refine ⟨ks, hx, fun z hz => ?_⟩
    obtain ⟨i, hi⟩ := List.getElem?_of_mem hz
    have : z.1 = z.2 := by
      have h2 := List.getElem?_zip_eq_some.mp hi
      rw [h2.1] at h2
      exact Option.some.inj h2.2
    rw [← this]
    obtain ⟨e, a, _⟩ := g.has z.1 ((U.tree hx).2.2.2 _ (List.of_mem_zip hz).1)
    exact ⟨e, a, a⟩
  | @next x y e h1 h2 ih =>
    intro c ks hx
    obtain ⟨js, hy⟩ := g.tr x y c ks h1 hx
    obtain ⟨ks', he, hz⟩ := ih hy
    refine ⟨ks', he, fun z hzz => ?_⟩
    have l1 : ks.length = js.length := by rw [(U.tree hx).2.2.1, (U.tree hy).2.2.1]
    have l2 : js.length = ks'.length := by rw [(U.tree hy).2.2.1, (U.tree he).2.2.1]
    obtain ⟨i, hi⟩ := List.getElem?_of_mem hzz
    have h3 := List.getElem?_zip_eq_some.mp hi
    have hil : i < js.length := by rw [← l1]; exact (List.getElem?_eq_some_iff.mp h3.1).1
    have r1 := kin x y c ks c js rfl h1 hx hy (z.1, js[i]) (List.mem_of_getElem? (List.getElem?_zip_eq_some.mpr ⟨h3.1, List.getElem?_eq_getElem hil⟩))
    have r2 := hz (js[i], z.2) (List.mem_of_getElem? (List.getElem?_zip_eq_some.mpr ⟨List.getElem?_eq_getElem hil, h3.2⟩))
    exact r1.trans r2
/-- The binds that a board tells. -/
def Told (U : Bd sig) (is : Is) (σ : Int → List Int) : Prop := ∀ x c, U.nd x = some (.var c) → Gr U is [x] [σ c]
theorem gr_zip {is : Is} : ∀ {ks ks' : List Nat} {us : List (List Int)}, ks.length = ks'.length → (∀ z ∈ ks.zip ks', Rel is z.1 z.2) → Gr U is ks us → Gr U is ks' us
  | [], [], _, _, _, h => h
  | [], _ :: _, _, hl, _, _ => by simp at hl
  | _ :: _, [], _, hl, _, _ => by simp at hl
  | k :: ks, k' :: ks', us, hl, hz, h => by
    cases us with
    | nil => cases h
    | cons u us =>
      obtain ⟨h1, h2⟩ := h.head
      exact (h1.rel (hz (k, k') (by simp))).cons (gr_zip (by simpa using hl) (fun z hz' => hz z (by simp [hz'])) h2)
theorem told_row {is : Is} {σ : Int → List Int} (g : Good U is) (kin : Kin U (fun _ => none) is) (t : Told U is σ) : ∀ (n x : Nat) (u : List Int), (U.row x).length ≤ n → U.nd x ≠ none → Gr U is [x] [u] → app σ (U.row x) = u := by
  intro n
  induction n with
  | zero =>
    intro x u hn hx _
    have := isTerm_ne (U.term hx)
    exact absurd (List.length_eq_zero_iff.mp (by omega)) this
  | succ n ih =>
    intro x u hn hx h
    cases hd : U.nd x with
    | none => exact absurd hd hx
    | some d =>
      cases d with
      | var c =>
        obtain ⟨a1, a2, a3⟩ := U.var hd
        rw [a3, app_neg a1, app_nil, List.append_nil]
        have := (t x c hd).fn h
        exact (List.cons.inj this).1
      | tree c ks =>
        obtain ⟨a1, a2, a3, a4⟩ := U.tree hd
        cases h with
        | var h1 h2 _ =>
          obtain ⟨ks', he, _⟩ := kid_rel g kin h1 hd
          rw [h2] at he; cases he
        | @tree _ e c' js _ vs _ h1 h2 h3 _ =>
          obtain ⟨ks', he, hz⟩ := kid_rel g kin h1 hd
          rw [h2] at he
          cases he
          have h4 : Gr U is ks vs := gr_zip (by rw [a3, (U.tree h2).2.2.1]) (fun z hz' => by
            have : (z.2, z.1) ∈ ks.zip js := by
              obtain ⟨i, hi⟩ := List.getElem?_of_mem hz'
              obtain ⟨q1, q2⟩ := List.getElem?_zip_eq_some.mp hi
              exact List.mem_of_getElem? (List.getElem?_zip_eq_some.mpr ⟨q2, q1⟩)
            exact (hz _ this).symm) h3
          rw [a2, app_pos (by omega), app_flatten]
          congr 2
          rw [a2] at hn
          have key : ∀ (ks : List Nat) (vs : List (List Int)), (∀ k ∈ ks, U.nd k ≠ none) → (ks.map U.row).flatten.length ≤ n → Gr U is ks vs → (ks.map U.row).map (app σ) = vs := by
            intro ks
            induction ks with
            | nil => intro vs _ _ h; cases h; rfl
            | cons k ks ihk =>
              intro vs hk hl h
              rw [List.map_cons, List.flatten_cons, List.length_append] at hl
              cases vs with
              | nil => cases h
              | cons v vs =>
                obtain ⟨q1, q2⟩ := h.head
                rw [List.map_cons, List.map_cons, ih k v (by omega) (hk k (by simp)) q1, ihk vs (fun x hx => hk x (by simp [hx])) (by omega) q2]
          exact key ks vs a4 (by simp only [List.length_cons] at hn; omega) h4
/-- All other binds are made of those that are told. -/
theorem told_most {is : Is} {τ : Int → List Int} (s : Sound U τ is) {ks : List Nat} {us : List (List Int)} (h : Gr U is ks us) : us.map (app τ) = ks.map fun k => app τ (U.row k) := by
  induction h with
  | nil => rfl
  | @var k e c ks us h1 h2 _ ih =>
    rw [List.map_cons, List.map_cons, ih, s.fin h1, (U.var h2).2.2]
  | @tree k e c js ks vs us h1 h2 _ _ ih1 ih2 =>
    obtain ⟨a1, a2, _⟩ := U.tree h2
    rw [List.map_cons, List.map_cons, ih2, s.fin h1, a2, app_pos (by omega), app_pos (by omega), app_flatten, app_flatten, ih1, List.map_map]; rfl
theorem gr_term {is : Is} (g : Good U is) {ks : List Nat} {us : List (List Int)} (h : Gr U is ks us) : (∀ k ∈ ks, U.nd k ≠ none) → ∀ u ∈ us, isTerm sig u := by
  induction h with
  | nil => exact fun _ u hu => by cases hu
  | @var k e c ks us h1 h2 _ ih =>
    intro hk u hu
    rcases List.mem_cons.mp hu with rfl | hu
    · have := U.term (x := e) (by rw [h2]; simp)
      rw [(U.var h2).2.2] at this; exact this
    · exact ih (fun x hx => hk x (by simp [hx])) u hu
  | @tree k e c js ks vs us h1 h2 h3 _ ih1 ih2 =>
    intro hk u hu
    rcases List.mem_cons.mp hu with rfl | hu
    · obtain ⟨a1, a2, a3, a4⟩ := U.tree h2
      have ht := U.term (x := e) (by rw [h2]; simp)
      rw [a2] at ht
      unfold isTerm scan at ht ⊢
      split at ht
      · simp at ht
      · rename_i hb
        rw [if_neg hb, Nat.zero_add, ← a3, ← h3.len]
        exact scan_flat sig vs (ih1 a4)
    · exact ih2 (fun x hx => hk x (by simp [hx])) u hu
end Go.Proofs.Sys

namespace Go.Proofs.YtnlhnlmnlfmojaaDoor.Am
open Go Go.Proofs Sys Go.Lib
set_option linter.unusedVariables false
set_option linter.unusedSimpArgs false
set_option maxRecDepth 100000
variable {D : Orc} {sig : Sg} {U : Bd sig} {ksv : Nat → Value} {is : Is} {sz : Sz} {h h' : H}

theorem down_ind {P : Nat → Prop} (n : Nat) (step : ∀ j, j ≤ n → (j < n → P (j + 1)) → P j) : ∀ j, j ≤ n → P j := by
  have key : ∀ m j, n - j ≤ m → j ≤ n → P j := by
    intro m
    induction m with
    | zero => exact fun j h1 h2 => step j h2 fun h3 => by omega
    | succ m ih => exact fun j h1 h2 => step j h2 fun h3 => ih (j + 1) (by omega) (by omega)
  exact fun j hj => key n j (by omega) hj
def nv (U : Bd sig) (x : Nat) : Value := match U.nd x with
  | some (.tree _ _) => .iface 155 (Pt x)
  | _ => .iface 149 (Pt x)
theorem nv_var {x : Nat} {c : Int} (h : U.nd x = some (.var c)) : nv U x = .iface 149 (Pt x) := by unfold nv; rw [h]
theorem nv_tree {x : Nat} {c : Int} {ks : List Nat} (h : U.nd x = some (.tree c ks)) : nv U x = .iface 155 (Pt x) := by unfold nv; rw [h]
theorem nv_one {x : Nat} : one (nv U x) = true := by unfold nv; split <;> rfl
def isV (U : Bd sig) : Option Nat → Value
  | none => .nilIface
  | some y => nv U y
/-- The board's nodes lie in memory. -/
structure BdM (U : Bd sig) (ksv : Nat → Value) (is : Is) (sz : Sz) (h : H) : Prop where
  var : ∀ x c, U.nd x = some (.var c) → h x = some (.cells [.int .i64 (-1 - c), isV U (is x)])
  tree : ∀ x c ks, U.nd x = some (.tree c ks) → h x = some (.cells [.int .i64 c, ksv x, isV U (is x), .int .i64 (sz x)])
  kids : ∀ x c ks, U.nd x = some (.tree c ks) → Row h (ksv x) (ks.map (nv U)) ∧ ks.length < 2 ^ 40
  sep : ∀ x c ks y, U.nd x = some (.tree c ks) → U.nd y ≠ none → Blk (ksv x) ≠ some y
def OffU (U : Bd sig) (h h' : H) : Prop := ∀ d, U.nd d = none → h' d = h d
theorem OffU.refl : OffU U h h := fun _ _ => rfl
theorem OffU.trans {h'' : H} (a : OffU U h h') (b : OffU U h' h'') : OffU U h h'' := fun d hd => (b d hd).trans (a d hd)
theorem row_at {s : Value} {vs : List Value} (r : Row h s vs) {x : Nat} (hx : Blk s ≠ some x) (o : VObj) : Row (h.set x o) s vs := r.kept fun d u hb hd => by
  rw [set_away fun e => hx (by rw [← e]; exact hb)]; exact hd
theorem BdM.set (m : BdM U ksv is sz h) {x : Nat} (hx : U.nd x ≠ none) {is' : Is} {sz' : Sz} {l : List Value} (hi : ∀ y, y ≠ x → is' y = is y) (hs : ∀ y, y ≠ x → sz' y = sz y)
    (hv : ∀ c, U.nd x = some (.var c) → l = [.int .i64 (-1 - c), isV U (is' x)]) (ht : ∀ c ks, U.nd x = some (.tree c ks) → l = [.int .i64 c, ksv x, isV U (is' x), .int .i64 (sz' x)]) :
    BdM U ksv is' sz' (h.set x (.cells l)) ∧ OffU U h (h.set x (.cells l)) := by
  refine ⟨⟨fun y c hy => ?_, fun y c ks hy => ?_, fun y c ks hy => ⟨row_at (m.kids y c ks hy).1 (m.sep y c ks x hy hx) _, (m.kids y c ks hy).2⟩, m.sep⟩, fun d hd => set_away fun e => hx (by rw [← e]; exact hd)⟩
  · by_cases hyx : y = x
    · subst hyx; rw [set_here, hv c hy]
    · rw [set_away hyx, hi y hyx]; exact m.var y c hy
  · by_cases hyx : y = x
    · subst hyx; rw [set_here, ht c ks hy]
    · rw [set_away hyx, hi y hyx, hs y hyx]; exact m.tree y c ks hy
theorem nd_cases {x : Nat} (hx : U.nd x ≠ none) : (∃ c, U.nd x = some (.var c)) ∨ ∃ c ks, U.nd x = some (.tree c ks) := by
  cases hd : U.nd x with
  | none => exact absurd hd hx
  | some d => cases d with
    | var c => exact .inl ⟨c, rfl⟩
    | tree c ks => exact .inr ⟨c, ks, rfl⟩
theorem wr_at {b j : Nat} {l : List Value} {v : Value} (hb : h b = some (.cells l)) (hj : j < l.length) : wr1 h (Addr.add ⟨b, 0, none⟩ j) v = some (h.set b (.cells (l.set j v))) := by
  rw [add_at, Nat.zero_add]
  simp only [wr1, hb]
  rw [if_pos hj]
theorem BdM.st_var (m : BdM U ksv is sz h) {x y : Nat} {c : Int} (hx : U.nd x = some (.var c)) {T : Prop} (hT : T) {K : H → Prop} (hK : ∀ h', BdM U ksv (setIs is x y) sz h' → OffU U h h' → K h') :
    ptrW (Pt x) fun ad => one (nv U y) = true ∧ T ∧ ∃ h', wr1 h (Addr.add ad 1) (nv U y) = some h' ∧ K h' := by
  obtain ⟨a, b⟩ := m.set (x := x) (is' := setIs is x y) (sz' := sz) (l := [.int .i64 (-1 - c), nv U y]) (by rw [hx]; simp) (fun z hz => setIs_away hz) (fun _ _ => rfl) (fun c' h' => by rw [hx] at h'; cases h'; rw [setIs_here]; rfl) fun c' ks h' => by rw [hx] at h'; cases h'
  exact ⟨nv_one, hT, _, wr_at (m.var x c hx) (by simp), hK _ a b⟩
theorem BdM.st_tree (m : BdM U ksv is sz h) {x y : Nat} {c : Int} {ks : List Nat} (hx : U.nd x = some (.tree c ks)) {T : Prop} (hT : T) {K : H → Prop} (hK : ∀ h', BdM U ksv (setIs is x y) sz h' → OffU U h h' → K h') :
    ptrW (Pt x) fun ad => one (nv U y) = true ∧ T ∧ ∃ h', wr1 h (Addr.add ad 2) (nv U y) = some h' ∧ K h' := by
  obtain ⟨a, b⟩ := m.set (x := x) (is' := setIs is x y) (sz' := sz) (l := [.int .i64 c, ksv x, nv U y, .int .i64 (sz x)]) (by rw [hx]; simp) (fun z hz => setIs_away hz) (fun _ _ => rfl) (fun c' h' => by rw [hx] at h'; cases h') fun c' ks' h' => by
    rw [hx] at h'; cases h'; rw [setIs_here]; rfl
  exact ⟨nv_one, hT, _, wr_at (m.tree x c ks hx) (by simp), hK _ a b⟩
theorem BdM.st_size (m : BdM U ksv is sz h) {x : Nat} {c n : Int} {ks : List Nat} (hx : U.nd x = some (.tree c ks)) {T : Prop} (hT : T) {K : H → Prop} (hK : ∀ h', BdM U ksv is (setSz sz x n) h' → OffU U h h' → K h') :
    ptrW (Pt x) fun ad => one (.int .i64 n) = true ∧ T ∧ ∃ h', wr1 h (Addr.add ad 3) (.int .i64 n) = some h' ∧ K h' := by
  obtain ⟨a, b⟩ := m.set (x := x) (is' := is) (sz' := setSz sz x n) (l := [.int .i64 c, ksv x, isV U (is x), .int .i64 n]) (by rw [hx]; simp) (fun _ _ => rfl) (fun z hz => by simp [setSz, hz]) (fun c' h' => by rw [hx] at h'; cases h') fun c' ks' h' => by
    rw [hx] at h'; cases h'; simp [setSz]
  exact ⟨rfl, hT, _, wr_at (m.tree x c ks hx) (by simp), hK _ a b⟩
theorem ldjV {b j : Nat} {l : List Value} {v : Value} (hb : h b = some (.cells l)) (hj : l[j]? = some v) {K : Value → Prop} (hK : K v) : ptrW (Pt b) fun ad => ∃ v, rd h (Addr.add ad j) = some v ∧ K v := ldj hb hj hK

/-! ### what a node was made one with -/
theorem exIf {φ : Value → Prop} : exR Tryd.prog (resTypes Tryd.prog 144) φ = ∃ v : Value, φ v := by kernel_rfl
theorem meth_v : methF Tryd.prog 149 "lodestone/unify.behind" = some 137 := by kernel_rfl
theorem meth_t : methF Tryd.prog 155 "lodestone/unify.behind" = some 138 := by kernel_rfl
theorem body137 : hasBody Tryd.prog 137 = true := by kernel_rfl
theorem body138 : hasBody Tryd.prog 138 = true := by kernel_rfl
theorem behind (c1 : Cl137 D) (c2 : Cl138 D) (m : BdM U ksv is sz h) {x : Nat} (hx : U.nd x ≠ none) {k : Kv} {kp : Kp} (hk : k (isV U (is x)) h) : invW Tryd.prog D 144 (nv U x) "lodestone/unify.behind" [] h k kp := by
  rcases nd_cases hx with ⟨c, hx⟩ | ⟨c, ks, hx⟩
  · rw [nv_var hx]
    unfold invW
    simp only [meth_v]
    unfold callW
    rw [body137]
    simp only [exIf]
    refine c1 _ _ _ _ ?_
    unfold F137
    exact ⟨rfl, ldj (m.var x c hx) rfl ⟨_, rfl, hk⟩⟩
  · rw [nv_tree hx]
    unfold invW
    simp only [meth_t]
    unfold callW
    rw [body138]
    simp only [exIf]
    refine c2 _ _ _ _ ?_
    unfold F138
    exact ⟨rfl, ldj (m.tree x c ks hx) rfl ⟨_, rfl, hk⟩⟩
theorem eq_nil_if {o : Option Nat} {k : Bool → Prop} (h : k o.isNone) : eqIf true (isV U o) .nilIface k := by
  cases o with
  | none => exact ⟨rfl, h⟩
  | some y =>
    show eqIf true (nv U y) .nilIface k
    unfold nv
    split
    · exact h
    · exact h
def SpecEnd (D : Orc) (f : Nat) : Prop := ∀ {sig : Sg} (U : Bd sig) ksv is sz h (x e : Nat) (k : Kv) kp, BdM U ksv is sz h → Sys.Good U is → U.nd x ≠ none → Sys.End is x e → k (nv U e) h → D f [nv U x] h k kp
theorem spec119 (c : Cl119 D) (c1 : Cl137 D) (c2 : Cl138 D) : SpecEnd D 119 := by
  intro sig U ksv is sz h x e k kp m g hx he hk
  refine c _ _ _ _ ?_
  unfold F119
  intro I hI
  induction he with
  | @here x h0 =>
    refine hI _ _ ?_
    unfold round119_1
    refine behind c1 c2 m hx (eq_nil_if ?_)
    rw [h0]
    show cond (!true) _ _
    rw [Bool.not_true, cond_false]
    dsimp only
    rw [xs_e]
    show cond true _ _
    rw [cond_true, nth0]
    exact hk
  | @next x y e h0 _ ih =>
    refine hI _ _ ?_
    unfold round119_1
    refine behind c1 c2 m hx (eq_nil_if ?_)
    rw [h0]
    show cond (!false) _ _
    rw [Bool.not_false, cond_true]
    refine behind c1 c2 m hx ?_
    rw [h0]
    exact ih (g.dom x y h0).2 hk

/-! ### two nodes are made one -/
theorem cells_in {b n : Nat} {l : List Value} (hb : h b = some (.cells l)) (hl : 0 < l.length) : inCells h ⟨b, 0, none⟩ := ⟨rfl, l, hb, hl⟩
theorem und144 : ∃ ms, Tryd.prog.underlying 144 = some (.interface ms) := by
  have h : (match Tryd.prog.underlying 144 with | some (.interface _) => true | _ => false) = true := by kernel_rfl
  split at h
  · rename_i ms hu; exact ⟨ms, hu⟩
  · cases h
theorem cmp149 : cmpOk Tryd.prog 149 = true := by kernel_rfl
theorem cmp155 : cmpOk Tryd.prog 155 = true := by kernel_rfl
theorem ptr149 {a b : Nat} {k : Bool → Prop} (ha : inCells h ⟨a, 0, none⟩) (hb : inCells h ⟨b, 0, none⟩) (hk : k (decide (a = b))) : ptrE Tryd.prog h 149 ⟨a, 0, none⟩ ⟨b, 0, none⟩ k := by
  have e : ∀ (x y : Addr) (k : Bool → Prop), ptrE Tryd.prog h 149 x y k = (((Tryd.prog.info? 154).isSome = true ∧ szOf Tryd.prog 154 ≠ 0) ∧ inCells h x ∧ inCells h y ∧ k (decide (x = y))) := fun x y k => by kernel_rfl
  rw [e]
  refine ⟨⟨by kernel_rfl, by rw [show szOf Tryd.prog 154 = 2 by kernel_rfl]; decide⟩, ha, hb, ?_⟩
  have : decide ((⟨a, 0, none⟩ : Addr) = ⟨b, 0, none⟩) = decide (a = b) := by simp
  rw [this]; exact hk
theorem ptr155 {a b : Nat} {k : Bool → Prop} (ha : inCells h ⟨a, 0, none⟩) (hb : inCells h ⟨b, 0, none⟩) (hk : k (decide (a = b))) : ptrE Tryd.prog h 155 ⟨a, 0, none⟩ ⟨b, 0, none⟩ k := by
  have e : ∀ (x y : Addr) (k : Bool → Prop), ptrE Tryd.prog h 155 x y k = (((Tryd.prog.info? 158).isSome = true ∧ szOf Tryd.prog 158 ≠ 0) ∧ inCells h x ∧ inCells h y ∧ k (decide (x = y))) := fun x y k => by kernel_rfl
  rw [e]
  refine ⟨⟨by kernel_rfl, by rw [show szOf Tryd.prog 158 = 4 by kernel_rfl]; decide⟩, ha, hb, ?_⟩
  have : decide ((⟨a, 0, none⟩ : Addr) = ⟨b, 0, none⟩) = decide (a = b) := by simp
  rw [this]; exact hk
theorem ref_nodes (m : BdM U ksv is sz h) {x y : Nat} (hx : U.nd x ≠ none) (hy : U.nd y ≠ none) {k : Bool → Prop} (hk : k (decide (x = y))) : refE Tryd.prog h 144 (nv U x) (nv U y) k := by
  obtain ⟨ms, hu⟩ := und144
  unfold refE
  rw [hu]
  rcases nd_cases hx with ⟨c, hx⟩ | ⟨c, ks, hx⟩ <;> rcases nd_cases hy with ⟨d, hy⟩ | ⟨d, js, hy⟩
  · rw [nv_var hx, nv_var hy]
    exact ⟨cmp149, ptr149 (cells_in (n := 0) (m.var x c hx) (by simp)) (cells_in (n := 0) (m.var y d hy) (by simp)) hk⟩
  · rw [nv_var hx, nv_tree hy]
    have : decide (x = y) = false := by
      rw [decide_eq_false_iff_not]
      intro e
      rw [e, hy] at hx; cases hx
    rw [this] at hk
    exact hk
  · rw [nv_tree hx, nv_var hy]
    have : decide (x = y) = false := by
      rw [decide_eq_false_iff_not]
      intro e
      rw [e, hy] at hx; cases hx
    rw [this] at hk
    exact hk
  · rw [nv_tree hx, nv_tree hy]
    exact ⟨cmp155, ptr155 (cells_in (n := 0) (m.tree x c ks hx) (by simp)) (cells_in (n := 0) (m.tree y d js hy) (by simp)) hk⟩
theorem as_var {x : Nat} (hx : U.nd x ≠ none) {k : Value → Prop} (h1 : ∀ c, U.nd x = some (.var c) → k (.tuple #[Pt x, .bool true])) (h2 : ∀ c ks, U.nd x = some (.tree c ks) → k (.tuple #[.pointer none, .bool false])) :
    assertW Tryd.prog (nv U x) 149 true k := by
  have e : ∀ (u : TypeId) (v : Value) (k : Value → Prop), assertW Tryd.prog (.iface u v) 149 true k = ((u = 149 → k (.tuple #[v, .bool true])) ∧ (u ≠ 149 → k (.tuple #[.pointer none, .bool false]))) := fun u v k => by kernel_rfl
  rcases nd_cases hx with ⟨c, hx⟩ | ⟨c, ks, hx⟩
  · rw [nv_var hx, e]
    exact ⟨fun _ => h1 c hx, fun hn => absurd rfl hn⟩
  · rw [nv_tree hx, e]
    exact ⟨fun hn => absurd hn (by decide), fun _ => h2 c ks hx⟩
theorem as_tree {x : Nat} {c : Int} {ks : List Nat} (hx : U.nd x = some (.tree c ks)) {k : Value → Prop} (hk : k (Pt x)) : assertW Tryd.prog (nv U x) 155 false k := by
  have e : ∀ (u : TypeId) (v : Value) (k : Value → Prop), assertW Tryd.prog (.iface u v) 155 false k = (u = 155 ∧ k v) := fun u v k => by kernel_rfl
  rw [nv_tree hx, e]
  exact ⟨rfl, hk⟩
end Go.Proofs.YtnlhnlmnlfmojaaDoor.Am

namespace Go.Proofs.YtnlhnlmnlfmojaaDoor.Am
open Go Go.Proofs Sys Go.Lib
set_option linter.unusedVariables false
set_option linter.unusedSimpArgs false
set_option maxRecDepth 100000
variable {D : Orc}

theorem cnt_le {l : List Nat} {p q : Nat → Bool} (hpq : ∀ x, q x = true → p x = true) : (l.filter q).length ≤ (l.filter p).length := by
  have e : l.filter q = (l.filter p).filter q := by
    rw [List.filter_filter]
    apply List.filter_congr
    intro x _
    cases hq : q x with
    | false => rfl
    | true => rw [hpq x hq]; rfl
  rw [e]
  exact List.length_filter_le _ _
theorem cnt_lt {l : List Nat} {p q : Nat → Bool} (hpq : ∀ x, q x = true → p x = true) {a : Nat} (ha : a ∈ l) (hp : p a = true) (hq : q a = false) : (l.filter q).length < (l.filter p).length := by
  have e : l.filter q = (l.filter p).filter q := by
    rw [List.filter_filter]
    apply List.filter_congr
    intro x _
    cases hq : q x with
    | false => rfl
    | true => rw [hpq x hq]; rfl
  rw [e, List.length_filter_lt_length_iff_exists]
  exact ⟨a, List.mem_filter.mpr ⟨ha, hp⟩, by rw [hq]; simp⟩
def isTr {sig : Sg} (U : Bd sig) (x : Nat) : Bool := match U.nd x with
  | some (.tree _ _) => true
  | _ => false
theorem isTr_tree {sig : Sg} {U : Bd sig} {x : Nat} {c : Int} {ks : List Nat} (h : U.nd x = some (.tree c ks)) : isTr U x = true := by unfold isTr; rw [h]
def openN {sig : Sg} (U : Bd sig) (dom : List Nat) (is : Is) : Nat := (dom.filter fun x => isTr U x && (is x).isNone).length
theorem openN_le {sig : Sg} {U : Bd sig} {dom : List Nat} {is is' : Is} (l : Sys.Le is is') : openN U dom is' ≤ openN U dom is := by
  refine cnt_le fun x hx => ?_
  rw [Bool.and_eq_true] at hx ⊢
  refine ⟨hx.1, ?_⟩
  cases h : is x with
  | none => rfl
  | some y => rw [l x y h] at hx; exact absurd hx.2 (by simp)
theorem openN_lt {sig : Sg} {U : Bd sig} {dom : List Nat} {is : Is} {e y : Nat} (hd : e ∈ dom) (ht : isTr U e = true) (h : is e = none) : openN U dom (setIs is e y) < openN U dom is := by
  refine cnt_lt (fun x hx => ?_) hd (by rw [ht, h]; rfl) (by rw [setIs_here]; simp)
  rw [Bool.and_eq_true] at hx ⊢
  refine ⟨hx.1, ?_⟩
  by_cases hxe : x = e
  · subst hxe; rw [h]; rfl
  · rw [setIs_away hxe] at hx; exact hx.2
theorem One.cons {sig : Sg} {U : Bd sig} {is is1 is' : Is} {p : Nat × Nat} {ps : List (Nat × Nat)} {b : Bool} (o : Sys.One U is [p] true is1) (o2 : Sys.One U is1 ps b is') : Sys.One U is (p :: ps) b is' := by
  cases o with
  | same h1 h2 h3 => cases h3; exact .same h1 h2 o2
  | left h1 h2 h3 h4 h5 => cases h5; exact .left h1 h2 h3 h4 o2
  | right h1 h2 h3 h4 h5 => cases h5; exact .right h1 h2 h3 h4 o2
  | tree h1 h2 h3 h4 h5 h6 h7 => cases h7; exact .tree h1 h2 h3 h4 h5 h6 o2
theorem One.consF {sig : Sg} {U : Bd sig} {is is1 : Is} {p : Nat × Nat} {ps : List (Nat × Nat)} (o : Sys.One U is [p] false is1) : Sys.One U is (p :: ps) false is1 := by
  cases o with
  | same h1 h2 h3 => cases h3
  | left h1 h2 h3 h4 h5 => cases h5
  | right h1 h2 h3 h4 h5 => cases h5
  | clash h1 h2 h3 h4 h5 => exact .clash h1 h2 h3 h4 h5
  | tree h1 h2 h3 h4 h5 h6 h7 => cases h7
  | treeF h1 h2 h3 h4 h5 h6 => exact .treeF h1 h2 h3 h4 h5 h6
def SpecOne (D : Orc) (f : Nat) : Prop := ∀ {sig : Sg} (U : Bd sig) ksv sz (dom : List Nat) (m : Nat) (is : Is) (x y : Nat) h (k : Kv) kp, (∀ z, U.nd z ≠ none → z ∈ dom) → openN U dom is ≤ m → Sys.Good U is → BdM U ksv is sz h → U.nd x ≠ none → U.nd y ≠ none →
  (∀ b is' h', Sys.One U is [(x, y)] b is' → BdM U ksv is' sz h' → OffU U h h' → k (.bool b) h') → D f [nv U x, nv U y] h k kp
theorem extract0 {a b : Value} {k : Value → Prop} : extractW (.tuple #[a, b]) 0 k = k a := rfl
theorem extract1 {a b : Value} {k : Value → Prop} : extractW (.tuple #[a, b]) 1 k = k b := rfl
theorem grdW_b {b : Bool} {t : Bool → Prop} {f : Prop} : grdW (.bool b) t f = t b := rfl
theorem spec116 (c : Cl116 D) (sE : SpecEnd D 119) : SpecOne D 116 := by
  intro sig U ksv sz dom m
  induction m using Nat.strongRecOn with
  | _ m ih =>
  intro is x y h k kp hdom hcnt g bm hx hy hk
  refine c _ _ _ _ _ ?_
  unfold F116
  obtain ⟨e, he, hne⟩ := g.has x hx
  obtain ⟨e', he', hne'⟩ := g.has y hy
  refine sE U ksv is sz h x e _ _ bm g hx he ⟨_, rfl, ?_⟩
  refine sE U ksv is sz h y e' _ _ bm g hy he' ⟨_, rfl, ?_⟩
  refine ref_nodes bm hne hne' ?_
  by_cases hee : e = e'
  · subst hee
    rw [show decide (e = e) = true by simp, cond_true]
    exact hk true is h (.same he he' .nil) bm OffU.refl
  rw [show decide (e = e') = false by simpa using hee, cond_false]
  -- the ways to go on
  have left : ∀ d, U.nd e = some (.var d) → ∀ {T : Prop}, T → nonNil (Pt e) = true ∧ ptrW (Pt e) fun ad => one (nv U e') = true ∧ T ∧ ∃ h', wr1 h (Addr.add ad 1) (nv U e') = some h' ∧ k (.bool true) h' := fun d hd T hT =>
    ⟨rfl, bm.st_var hd hT fun h' bm' off => hk true _ h' (.left he he' hee hd .nil) bm' off⟩
  have right : ∀ d, U.nd e' = some (.var d) → ∀ {T : Prop}, T → nonNil (Pt e') = true ∧ ptrW (Pt e') fun ad => one (nv U e) = true ∧ T ∧ ∃ h', wr1 h (Addr.add ad 1) (nv U e) = some h' ∧ k (.bool true) h' := fun d hd T hT =>
    ⟨rfl, bm.st_var hd hT fun h' bm' off => hk true _ h' (.right he he' hee hd .nil) bm' off⟩
  refine as_var hne (fun d hd => ?_) (fun d ks hd => ?_)
  · rw [extract0, extract1]
    refine as_var hne' (fun d' hd' => ?_) (fun d' ks' hd' => ?_)
    · rw [extract0, extract1, grdW_b, cond_true, grdW_b, cond_true]
      refine ⟨rfl, ?_⟩
      refine ldjI (bm.var e d hd) rfl ⟨rfl, ldjI (bm.var e' d' hd') rfl ?_⟩
      unfold j116__7
      rw [boolW_bool, boolW_bool, boolW_bool, cond_dec]
      refine ⟨fun _ => ?_, fun _ => ?_⟩
      · have := left d hd (T := 1 = 1) rfl
        rw [nv_var hd'] at this; exact this
      · rw [cond_true]
        unfold j116__10
        rw [boolW_bool, boolW_bool, boolW_bool, cond_true]
        have := right d' hd' (T := 1 = 1) rfl
        rw [nv_var hd] at this; exact this
    · rw [extract0, extract1, grdW_b, cond_true, grdW_b, cond_false]
      unfold j116__7
      rw [boolW_bool, boolW_bool, boolW_bool, cond_false, cond_true]
      unfold j116__10
      rw [boolW_bool, boolW_bool, boolW_bool, cond_false, cond_true]
      exact left d hd (T := 1 = 1) rfl
  · rw [extract0, extract1]
    refine as_var hne' (fun d' hd' => ?_) (fun d' ks' hd' => ?_)
    · rw [extract0, extract1, grdW_b, cond_false]
      unfold j116__7
      rw [boolW_bool, boolW_bool, boolW_bool, cond_false, cond_false]
      unfold j116__10
      rw [boolW_bool, boolW_bool, boolW_bool, cond_false, cond_false, cond_true]
      exact right d' hd' (T := 1 = 1) rfl
    · rw [extract0, extract1, grdW_b, cond_false]
      unfold j116__7
      rw [boolW_bool, boolW_bool, boolW_bool, cond_false, cond_false]
      unfold j116__10
      rw [boolW_bool, boolW_bool, boolW_bool, cond_false, cond_false, cond_false]
      refine as_tree hd (as_tree hd' ⟨rfl, ldjI (bm.tree e d ks hd) rfl ⟨rfl, ldjI (bm.tree e' d' ks' hd') rfl ?_⟩⟩)
      rw [cond_ne]
      refine ⟨fun hcl => hk false is h (.clash he he' hd hd' hcl) bm OffU.refl, fun hcl => ?_⟩
      subst hcl
      obtain ⟨hk1, hk1l⟩ := bm.kids e d ks hd
      obtain ⟨hk2, hk2l⟩ := bm.kids e' d ks' hd'
      have hkl : ks.length = ks'.length := by rw [(U.tree hd).2.2.1, (U.tree hd').2.2.1]
      refine ⟨rfl, ?_⟩
      rw [← nv_tree hd']
      refine bm.st_tree hd rfl fun h2 bm2 off2 => ?_
      have g2 := g.set he.none he'.none hee hne hne' fun c ks0 ht => by rw [hd] at ht; cases ht; exact ⟨_, hd'⟩
      have hlt := openN_lt (U := U) (dom := dom) (y := e') (hdom e hne) (isTr_tree hd) he.none
      refine ⟨rfl, ldj (bm2.tree e d ks hd) rfl ?_⟩
      rw [(bm2.kids e d ks hd).1.len, List.length_map]
      intro I hI
      have key := down_ind (P := fun j => ∀ (is3 : Is) (h3 : H), Sys.Good U is3 → BdM U ksv is3 sz h3 → OffU U h h3 → Sys.Le (setIs is e e') is3 → (∀ b is4, Sys.One U is3 ((ks.zip ks').drop j) b is4 → Sys.One U (setIs is e e') (ks.zip ks') b is4) →
          I [Pt e, Pt e', .int .i64 ((ks.length : Nat) : Int), .int .i64 ((j : Nat) : Int)] h3) ks.length fun j hj ih2 is3 h3 g3 bm3 off3 le3 hone => by
        refine hI _ _ _ _ _ ?_
        unfold round116_23
        rw [intK_int, intK_int, cond_dec]
        refine ⟨fun hlt => ?_, fun hge => ?_⟩
        · have hj1 : j < ks.length := by omega
          have hj2 : j < ks'.length := by omega
          obtain ⟨r1, _⟩ := bm3.kids e d ks hd
          obtain ⟨r2, _⟩ := bm3.kids e' d ks' hd'
          refine ⟨rfl, ldj (bm3.tree e d ks hd) rfl ?_⟩
          refine r1.at_ (by omega) (by rw [List.length_map]; omega) fun ad v hv hrd => ⟨v, hrd, rfl, ldj (bm3.tree e' d ks' hd') rfl ?_⟩
          refine r2.at_ (by omega) (by rw [List.length_map]; omega) fun ad v' hv' hrd' => ⟨v', hrd', ?_⟩
          rw [Int.toNat_natCast, List.getElem?_map, List.getElem?_eq_getElem hj1] at hv
          rw [Int.toNat_natCast, List.getElem?_map, List.getElem?_eq_getElem hj2] at hv'
          obtain rfl := Option.some.inj hv
          obtain rfl := Option.some.inj hv'
          have n1 := (U.tree hd).2.2.2 _ (List.getElem_mem hj1)
          have n2 := (U.tree hd').2.2.2 _ (List.getElem_mem hj2)
          have hdrop : (ks.zip ks').drop j = (ks[j], ks'[j]) :: (ks.zip ks').drop (j + 1) := by
            rw [List.drop_eq_getElem_cons (by simp; omega)]
            simp
          have hle := openN_le (U := U) (dom := dom) le3
          refine ih (openN U dom is3) (by omega) is3 ks[j] ks'[j] h3 _ _ hdom (Nat.le_refl _) g3 bm3 n1 n2 fun b is4 h4 o4 bm4 off4 => ⟨b, rfl, ?_⟩
          have hgl := o4.good g3 (fun p hp => by simp only [List.mem_singleton] at hp; subst hp; exact ⟨n1, n2⟩)
          cases b with
          | false =>
            rw [Bool.not_false, cond_true]
            dsimp only
            rw [xs_r, nth0, boolW_bool]
            refine hk false is4 h4 (.treeF he he' hee hd hd' ?_) bm4 (off3.trans off4)
            refine hone false is4 ?_
            rw [hdrop]
            exact One.consF o4
          | true =>
            rw [Bool.not_true, cond_false, i64_id (by omega) (by omega)]
            refine ih2 hj1 is4 h4 hgl.1 bm4 (off3.trans off4) (fun a b hab => hgl.2 a b (le3 a b hab)) fun b is5 o5 => hone b is5 ?_
            rw [hdrop]
            exact One.cons o4 o5
        · dsimp only
          rw [xs_e]
          show cond true _ _
          rw [cond_true]
          refine hk true is3 h3 (.tree he he' hee hd hd' ?_ .nil) bm3 off3
          refine hone true is3 ?_
          rw [List.drop_eq_nil_of_le (by simp; omega)]
          exact .nil
      exact key 0 (by omega) (setIs is e e') h2 g2 bm2 off2 (fun _ _ h => h) fun b is4 o => o

/-! ### how big a node's term is -/
def openS {sig : Sg} (U : Bd sig) (dom : List Nat) (sz : Sz) : Nat := (dom.filter fun x => isTr U x && decide (sz x = 0)).length
def MeasPost {sig : Sg} (U : Bd sig) (is : Is) (sz : Sz) (x : Nat) (v : Int) (ok : Bool) (sz' : Sz) : Prop :=
  (ok = true → ∃ s : Nat, v = (s : Int) ∧ 0 < s ∧ s ≤ 513 ∧ ∀ ks a r ok' sz'', Meas U is 513 sz' ks (min (a + s) 513) r ok' sz'' → Meas U is 513 sz (x :: ks) a r ok' sz'') ∧ (ok = false → ∀ ks a r, Meas U is 513 sz (x :: ks) a r false sz')
def SpecMeas (D : Orc) (f : Nat) : Prop := ∀ {sig : Sg} (U : Bd sig) ksv (is : Is) (dom : List Nat) (m : Nat) (sz : Sz) (x : Nat) h (k : Kv) kp, (∀ z, U.nd z ≠ none → z ∈ dom) → openS U dom sz ≤ m → Sys.Good U is → BdM U ksv is sz h → U.nd x ≠ none → (∀ e, sz e ≤ 513) →
  (∀ v ok sz' h', MeasPost U is sz x v ok sz' → BdM U ksv is sz' h' → OffU U h h' → (∀ e, sz' e ≤ 513) → (∀ e, sz e ≠ 0 → sz' e ≠ 0) → k (.tuple #[.int .i64 v, .bool ok]) h') → D f [nv U x] h k kp
theorem min_ii {a b : Int} {k : Value → Prop} (hk : k (.int .i64 (if b < a then b else a))) : minMax false [.int .i64 a, .int .i64 b] k := ⟨rfl, hk⟩
theorem setSz_ne {sz : Sz} {e x : Nat} {v : Int} (h : x ≠ e) : setSz sz e v x = sz x := by simp [setSz, h]
theorem setSz_at {sz : Sz} {e : Nat} {v : Int} : setSz sz e v e = v := by simp [setSz]
theorem spec117 (c : Cl117 D) (sE : SpecEnd D 119) : SpecMeas D 117 := by
  intro sig U ksv is dom m
  induction m using Nat.strongRecOn with
  | _ m ih =>
  intro sz x h k kp hdom hcnt g bm hx hs hk
  refine c _ _ _ _ ?_
  unfold F117
  obtain ⟨e, he, hne⟩ := g.has x hx
  refine sE U ksv is sz h x e _ _ bm g hx he ⟨_, rfl, ?_⟩
  refine as_var hne (fun d hd => ?_) (fun d ks hd => ?_)
  · rw [extract0, extract1, boolW_bool, cond_true]
    refine (hk 1 true sz h ⟨fun _ => ⟨1, rfl, by decide, by decide, fun ks a r ok' sz'' hm => .var he hd hm⟩, fun hb => by cases hb⟩ bm OffU.refl hs fun _ h => h)
  · rw [extract0, extract1, boolW_bool, cond_false]
    refine as_tree hd ⟨rfl, ldjI (bm.tree e d ks hd) rfl ?_⟩
    rw [cond_ne]
    refine ⟨fun hnz => ⟨rfl, ldjI (bm.tree e d ks hd) rfl ⟨rfl, ldjI (bm.tree e d ks hd) rfl ?_⟩⟩, fun hz => ?_⟩
    · have hs1 := hs e
      by_cases hp : sz e > 0
      · rw [decide_eq_true hp]
        obtain ⟨s, hse⟩ := Int.eq_ofNat_of_zero_le (show 0 ≤ sz e by omega)
        refine hk _ true sz h ⟨fun _ => ⟨s, hse, by omega, by omega, fun ks0 a r ok' sz'' hm => .known he hd hse (by omega) hm⟩, fun hb => by cases hb⟩ bm OffU.refl hs fun _ h => h
      · rw [decide_eq_false hp]
        exact hk _ false sz h ⟨(fun hb => nomatch hb), fun _ ks0 a r => .bad he hd (by omega)⟩ bm OffU.refl hs fun _ h => h
    · refine ⟨rfl, bm.st_size hd rfl fun h2 bm2 off2 => ⟨rfl, ldj (bm2.tree e d ks hd) rfl ?_⟩⟩
      have hkl := (bm2.kids e d ks hd).2
      rw [(bm2.kids e d ks hd).1.len, List.length_map]
      have hlt : openS U dom (setSz sz e (-1)) < openS U dom sz := by
        refine cnt_lt (fun y hy => ?_) (hdom e hne) (by rw [isTr_tree hd]; simpa using hz) (by rw [setSz_at]; simp)
        rw [Bool.and_eq_true] at hy ⊢
        refine ⟨hy.1, ?_⟩
        by_cases hye : y = e
        · subst hye; simpa using hz
        · have := hy.2
          rw [setSz_ne hye] at this; exact this
      intro I hI
      have key := down_ind (P := fun j => ∀ (sz3 : Sz) (h3 : H) (a : Nat), 0 < a → a ≤ 513 → BdM U ksv is sz3 h3 → OffU U h h3 → (∀ y, sz3 y ≤ 513) → (∀ y, setSz sz e (-1) y ≠ 0 → sz3 y ≠ 0) →
          (∀ r ok sz4, Meas U is 513 sz3 (ks.drop j) a r ok sz4 → Meas U is 513 (setSz sz e (-1)) ks 1 r ok sz4) →
          I [Pt e, .int .i64 ((a : Nat) : Int), ksv e, .int .i64 ((ks.length : Nat) : Int), .int .i64 ((j : Nat) : Int)] h3) ks.length fun j hj ih2 sz3 h3 a ha ha2 bm3 off3 hs3 hnz3 hmeas => by
        refine hI _ _ _ _ _ _ ?_
        unfold round117_11
        rw [intK_int, intK_int, intK_int, cond_dec]
        refine ⟨fun hlt => ?_, fun hge => ?_⟩
        · have hj1 : j < ks.length := by omega
          obtain ⟨r1, _⟩ := bm3.kids e d ks hd
          refine r1.at_ (by omega) (by rw [List.length_map]; omega) fun ad v hv hrd => ⟨v, hrd, ?_⟩
          rw [Int.toNat_natCast, List.getElem?_map, List.getElem?_eq_getElem hj1] at hv
          obtain rfl := Option.some.inj hv
          have n1 := (U.tree hd).2.2.2 _ (List.getElem_mem hj1)
          have hdrop : ks.drop j = ks[j] :: ks.drop (j + 1) := List.drop_eq_getElem_cons hj1
          have hle : openS U dom sz3 ≤ openS U dom (setSz sz e (-1)) := by
            refine cnt_le fun y hy => ?_
            rw [Bool.and_eq_true] at hy ⊢
            refine ⟨hy.1, ?_⟩
            have h1 : sz3 y = 0 := by simpa using hy.2
            have : setSz sz e (-1) y = 0 := Classical.byContradiction fun h => hnz3 y h h1
            simpa using this
          refine ih (openS U dom sz3) (by omega) sz3 ks[j] h3 _ _ hdom (Nat.le_refl _) g bm3 n1 hs3 fun v ok sz4 h4 mp bm4 off4 hs4 hnz4 => ⟨v, ok, rfl, ?_⟩
          cases ok with
          | false =>
            rw [Bool.not_false, cond_true]
            dsimp only
            rw [xs_r, nth0, nth1, intK_int, boolW_bool]
            refine hk 0 false sz4 h4 ⟨(fun hb => nomatch hb), fun _ ks0 a0 r0 => ?_⟩ bm4 (off3.trans off4) hs4 (fun y hy => hnz4 y (hnz3 y ?_))
            · refine .newF (s := 0) he hd hz (hmeas 0 false sz4 ?_)
              rw [hdrop]
              exact mp.2 rfl _ _ _
            · by_cases hye : y = e
              · subst hye; rw [setSz_at]; decide
              · rw [setSz_ne hye]; exact hy
          | true =>
            rw [Bool.not_true, cond_false]
            obtain ⟨s, rfl, hs0, hs5, hder⟩ := mp.1 rfl
            refine min_ii ?_
            rw [i64_id (by omega) (by omega), i64_id (by omega) (by omega)]
            have hmin : (if (513 : Int) < ((a : Nat) : Int) + ((s : Nat) : Int) then (513 : Int) else ((a : Nat) : Int) + ((s : Nat) : Int)) = ((min (a + s) 513 : Nat) : Int) := by
              split <;> omega
            rw [hmin]
            refine ih2 hj1 sz4 h4 (min (a + s) 513) (by omega) (by omega) bm4 (off3.trans off4) hs4 (fun y hy => hnz4 y (hnz3 y hy)) fun r ok sz5 hm => hmeas r ok sz5 ?_
            rw [hdrop]
            exact hder _ _ _ _ _ hm
        · dsimp only
          rw [xs_e]
          show cond true _ _
          rw [cond_true, nth0, nth1, intK_int]
          refine ⟨rfl, bm3.st_size hd rfl fun h4 bm4 off4 => ?_⟩
          refine hk _ true _ h4 ⟨fun _ => ⟨a, rfl, ha, ha2, fun ks0 a0 r0 ok' sz'' hm => ?_⟩, fun hb => by cases hb⟩ bm4 (off3.trans off4) (fun y => ?_) (fun y hy => ?_)
          · refine .new he hd hz (hmeas a true sz3 ?_) hm
            rw [List.drop_eq_nil_of_le (by omega)]
            exact .nil
          · by_cases hye : y = e
            · subst hye; rw [setSz_at]; omega
            · rw [setSz_ne hye]; exact hs3 y
          · by_cases hye : y = e
            · subst hye; rw [setSz_at]; omega
            · rw [setSz_ne hye]
              exact hnz3 y (by rw [setSz_ne hye]; exact hy)
      refine key 0 (by omega) (setSz sz e (-1)) h2 1 (by decide) (by decide) bm2 off2 (fun y => ?_) (fun _ h => h) fun r ok sz4 h => h
      by_cases hye : y = e
      · subst hye; rw [setSz_at]; decide
      · rw [setSz_ne hye]; exact hs y
end Go.Proofs.YtnlhnlmnlfmojaaDoor.Am

namespace Go.Proofs.YtnlhnlmnlfmojaaDoor.Am
open Go Go.Proofs Sys Go.Lib
set_option linter.unusedVariables false
set_option linter.unusedSimpArgs false
set_option maxRecDepth 100000
variable {D : Orc}

/-! ### boards that grow -/
def updF {α : Type} (f : Nat → α) (x : Nat) (v : α) : Nat → α := fun y => if y = x then v else f y
theorem updF_here {α : Type} {f : Nat → α} {x : Nat} {v : α} : updF f x v x = v := by simp [updF]
theorem updF_away {α : Type} {f : Nat → α} {x y : Nat} {v : α} (h : y ≠ x) : updF f x v y = f y := by simp [updF, h]
section
variable {sig : Sg}
theorem kids_ne {U : Bd sig} {x : Nat} (hx : U.nd x = none) {ks : List Nat} (h : ∀ k ∈ ks, U.nd k ≠ none) : ∀ k ∈ ks, k ≠ x := fun k hk e => h k hk (by rw [e]; exact hx)
theorem map_updF {α : Type} {f : Nat → α} {x : Nat} {v : α} {ks : List Nat} (h : ∀ k ∈ ks, k ≠ x) : ks.map (updF f x v) = ks.map f := List.map_congr_left fun k hk => updF_away (h k hk)
def Bd.addVar (U : Bd sig) (x : Nat) (c : Int) (hx : U.nd x = none) (hc : c < 0 ∧ -1048576 ≤ c) (hn : ∀ y, U.nd y ≠ some (.var c)) : Bd sig where
  nd := updF U.nd x (some (.var c))
  row := updF U.row x [c]
  var := fun {y d} h => by
    by_cases hy : y = x
    · subst hy
      rw [updF_here] at h ⊢
      cases h
      exact ⟨hc.1, hc.2, rfl⟩
    · rw [updF_away hy] at h ⊢
      exact U.var h
  tree := fun {y d ks} h => by
    by_cases hy : y = x
    · subst hy
      rw [updF_here] at h; cases h
    · rw [updF_away hy] at h
      obtain ⟨a, b, e, f⟩ := U.tree h
      refine ⟨a, ?_, e, fun k hk => ?_⟩
      · rw [updF_away hy, b, map_updF (kids_ne hx f)]
      · rw [updF_away (kids_ne hx f k hk)]; exact f k hk
  term := fun {y} h => by
    by_cases hy : y = x
    · subst hy
      rw [updF_here]
      unfold isTerm scan
      have hb : badC sig.length c = false := by
        simp only [badC, Bool.or_eq_false_iff, decide_eq_false_iff_not]
        omega
      rw [hb]
      have : kids sig c = 0 := by unfold kids; rw [if_pos hc.1]
      simp [this, scan]
    · rw [updF_away hy] at h ⊢
      exact U.term h
  same := fun {y z d} h1 h2 => by
    by_cases hy : y = x <;> by_cases hz : z = x
    · rw [hy, hz]
    · subst hy
      rw [updF_here] at h1
      rw [updF_away hz] at h2
      cases h1
      exact absurd h2 (hn z)
    · subst hz
      rw [updF_here] at h2
      rw [updF_away hy] at h1
      cases h2
      exact absurd h1 (hn y)
    · rw [updF_away hy] at h1
      rw [updF_away hz] at h2
      exact U.same h1 h2
def Bd.addTree (U : Bd sig) (x : Nat) (c : Int) (ks : List Nat) (hx : U.nd x = none) (h0 : 0 ≤ c) (hl : ks.length = kids sig c) (hk : ∀ k ∈ ks, U.nd k ≠ none) (ht : isTerm sig (c :: (ks.map U.row).flatten)) : Bd sig where
  nd := updF U.nd x (some (.tree c ks))
  row := updF U.row x (c :: (ks.map U.row).flatten)
  var := fun {y d} h => by
    by_cases hy : y = x
    · subst hy
      rw [updF_here] at h; cases h
    · rw [updF_away hy] at h ⊢
      exact U.var h
  tree := fun {y d js} h => by
    by_cases hy : y = x
    · subst hy
      rw [updF_here] at h
      cases h
      refine ⟨h0, ?_, hl, fun k hk' => ?_⟩
      · rw [updF_here, map_updF (kids_ne hx hk)]
      · rw [updF_away (kids_ne hx hk k hk')]; exact hk k hk'
    · rw [updF_away hy] at h
      obtain ⟨a, b, e, f⟩ := U.tree h
      refine ⟨a, ?_, e, fun k hk => ?_⟩
      · rw [updF_away hy, b, map_updF (kids_ne hx f)]
      · rw [updF_away (kids_ne hx f k hk)]; exact f k hk
  term := fun {y} h => by
    by_cases hy : y = x
    · subst hy
      rw [updF_here]; exact ht
    · rw [updF_away hy] at h ⊢
      exact U.term h
  same := fun {y z d} h1 h2 => by
    by_cases hy : y = x
    · subst hy
      rw [updF_here] at h1; cases h1
    · by_cases hz : z = x
      · subst hz
        rw [updF_here] at h2; cases h2
      · rw [updF_away hy] at h1
        rw [updF_away hz] at h2
        exact U.same h1 h2
structure Grow (U U' : Bd sig) : Prop where
  nd : ∀ x, U.nd x ≠ none → U'.nd x = U.nd x
  row : ∀ x, U.nd x ≠ none → U'.row x = U.row x
theorem Grow.refl (U : Bd sig) : Grow U U := ⟨fun _ _ => rfl, fun _ _ => rfl⟩
theorem Grow.trans {U U' U'' : Bd sig} (a : Grow U U') (b : Grow U' U'') : Grow U U'' :=
  ⟨fun x hx => (b.nd x (by rw [a.nd x hx]; exact hx)).trans (a.nd x hx), fun x hx => (b.row x (by rw [a.nd x hx]; exact hx)).trans (a.row x hx)⟩
theorem Grow.nv {U U' : Bd sig} (g : Grow U U') {x : Nat} (hx : U.nd x ≠ none) : nv U' x = nv U x := by unfold Am.nv; rw [g.nd x hx]
theorem Grow.has {U U' : Bd sig} (g : Grow U U') {x : Nat} (hx : U.nd x ≠ none) : U'.nd x ≠ none := by rw [g.nd x hx]; exact hx
theorem grow_var {U : Bd sig} {x : Nat} {c : Int} {hx : U.nd x = none} {hc} {hn} : Grow U (Bd.addVar U x c hx hc hn) :=
  ⟨fun y hy => updF_away fun e => hy (by rw [e]; exact hx), fun y hy => updF_away fun e => hy (by rw [e]; exact hx)⟩
theorem grow_tree {U : Bd sig} {x : Nat} {c : Int} {ks : List Nat} {hx : U.nd x = none} {h0} {hl} {hk} {ht} : Grow U (Bd.addTree U x c ks hx h0 hl hk ht) :=
  ⟨fun y hy => updF_away fun e => hy (by rw [e]; exact hx), fun y hy => updF_away fun e => hy (by rw [e]; exact hx)⟩

/-! ### the board in memory, in parts -/
def recR (U : Bd sig) (ksv : Nat → Value) (x : Nat) : List Res := match U.nd x with
  | some (.var c) => [cellR x [.int .i64 (-1 - c), .nilIface]]
  | some (.tree c ks) => [cellR x [.int .i64 c, ksv x, .nilIface, .int .i64 0], bufR (ksv x) (ks.map (nv U))]
  | none => []
def boL (U : Bd sig) (ksv : Nat → Value) (N : List Nat) (b mb : Nat) (sgv vf vv : Value) (xs : List Nat) (es : List MapEntry) (cl : Nat) (R : List Res) : List Res :=
  cellR b [sgv, vf, .map (some mb)] :: mapR mb es cl :: bufR vv (xs.map Pt) :: (R ++ N.flatMap (recR U ksv))
structure BoI (U : Bd sig) (N xs : List Nat) (cs : List Int) (es : List MapEntry) : Prop where
  mem : ∀ x, x ∈ N ↔ U.nd x ≠ none
  nod : N.Nodup
  pl : Places es cs
  len : xs.length = cs.length
  code : ∀ (i x : Nat) (c : Int), xs[i]? = some x → cs[i]? = some c → U.nd x = some (.var c)
  all : ∀ x c, U.nd x = some (.var c) → c ∈ cs
  few : ∀ x c ks, U.nd x = some (.tree c ks) → ks.length < 2 ^ 40
theorem recR_grow {U U' : Bd sig} (g : Grow U U') {ksv ksv' : Nat → Value} {x : Nat} (hx : U.nd x ≠ none) (hk : ksv' x = ksv x) : recR U' ksv' x = recR U ksv x := by
  unfold recR
  rw [g.nd x hx, hk]
  split
  · rfl
  · rename_i c ks hd
    have : ks.map (nv U') = ks.map (nv U) := List.map_congr_left fun k hk => g.nv ((U.tree hd).2.2.2 k hk)
    rw [this]
  · rfl
theorem recs_grow {U U' : Bd sig} (g : Grow U U') {ksv ksv' : Nat → Value} {N : List Nat} (h : ∀ x ∈ N, U.nd x ≠ none ∧ ksv' x = ksv x) : N.flatMap (recR U' ksv') = N.flatMap (recR U ksv) := by
  induction N with
  | nil => rfl
  | cons a N ih =>
    rw [List.flatMap_cons, List.flatMap_cons, recR_grow g (h a (by simp)).1 (h a (by simp)).2, ih fun x hx => h x (by simp [hx])]
theorem nd_known {U : Bd sig} {ksv : Nat → Value} {N : List Nat} {b mb : Nat} {sgv vf vv : Value} {xs : List Nat} {es : List MapEntry} {cl : Nat} {R : List Res} {h0 h : H} {cs : List Int} (o : Hp h0 h (boL U ksv N b mb sgv vf vv xs es cl R)) (I : BoI U N xs cs es) {x : Nat} (hx : U.nd x ≠ none) : h x ≠ none := by
  have hm := (I.mem x).mpr hx
  have : ∀ r ∈ recR U ksv x, r ∈ boL U ksv N b mb sgv vf vv xs es cl R := fun r hr => by
    unfold boL
    simp only [List.mem_cons, List.mem_append, List.mem_flatMap]
    exact .inr (.inr (.inr (.inr ⟨x, hm, hr⟩)))
  rcases nd_cases hx with ⟨c, hd⟩ | ⟨c, ks, hd⟩
  · have hr : cellR x [.int .i64 (-1 - c), .nilIface] ∈ recR U ksv x := by unfold recR; rw [hd]; simp
    exact (o.new _ (this _ hr) x rfl).2
  · have hr : cellR x [.int .i64 c, ksv x, .nilIface, .int .i64 0] ∈ recR U ksv x := by unfold recR; rw [hd]; simp
    exact (o.new _ (this _ hr) x rfl).2
end
theorem sl_one' {s : Value} {h : H} {vs : List Value} (r : Row h s vs) : one s = true := by
  have := r.isSl
  cases s <;> first | rfl | exact this.elim
def SpecLay (D : Orc) (f : Nat) : Prop := ∀ (sg : List Sy) (n : Nat) (U : Bd (S2 sg)) (ksv : Nat → Value) (N : List Nat) (b mb : Nat) (sgv vv tv : Value) (xs : List Nat) (cs : List Int) (es : List MapEntry) (cl : Nat) (R : List Res) (h0 h : H) (l u r : List Int) (k : Kv) (kp : Kp),
  Sr h0 sgv sg → ArOk sg → Ir h0 tv l → l = u ++ r → isTerm (S2 sg) u → u.length ≤ n → cs.length + u.length < 2 ^ 40 → Hp h0 h (boL U ksv N b mb sgv vv vv xs es cl R) → BoI U N xs cs es →
  (∀ (U' : Bd (S2 sg)) ksv' N' vv' xs' cs' es' cl' h' x tv', Grow U U' → Hp h0 h' (boL U' ksv' N' b mb sgv vv' vv' xs' es' cl' R) → BoI U' N' xs' cs' es' → cs'.length ≤ cs.length + u.length → U'.nd x ≠ none → U'.row x = u → Ir h0 tv' r → k (.tuple #[nv U' x, tv']) h') →
  D f [Pt b, tv] h k kp
theorem Ir.part {h : H} {s : Value} {l : List Int} (r : Ir h s l) {i : Nat} (hi : i ≤ l.length) {k : Value → Prop} (hk : ∀ s', Ir h s' (l.drop i) → k s') : slCutW s (some (i : Int)) none none 1 k := by
  refine r.row.part (i := i) (j := l.length) rfl (by simp [Z_len]) hi (by rw [Z_len]; omega) fun s' r' _ => hk s' ⟨?_, by rw [List.length_drop]; have := r.len; omega, fun x hx => r.rng x (List.mem_of_mem_drop hx)⟩
  have e : ((Z l).take l.length).drop i = Z (l.drop i) := by
    rw [List.take_of_length_le (by rw [Z_len]; omega)]
    simp [Z]
  rw [e] at r'; exact r'
/-- A row of terms behind a symbol, one after the other. -/
theorem split_terms {sig : Sg} : ∀ (n : Nat) (t : List Int), scan sig n t = 0 → ∃ us : List (List Int), us.length = n ∧ (∀ u ∈ us, isTerm sig u) ∧ us.flatten = t
  | 0, t, h => by
    cases t with
    | nil => exact ⟨[], rfl, by simp, rfl⟩
    | cons c t => simp [scan] at h
  | n + 1, t, h => by
    have h1 := scan_eat sig t (n + 1)
    rw [h] at h1
    have he : (eat sig (n + 1) t).1 = 0 := by
      rcases eat_err sig t (n + 1) with e | e | e
      · exact e
      · rw [e] at h1; simp at h1
      · rw [e] at h1; simp at h1
    rw [he] at h1
    have h2 : (eat sig (n + 1) t).2 = [] := Classical.byContradiction fun hn => by simp [hn] at h1
    rw [Nat.add_comm, eat_add] at he h2
    have he1 : (eat sig 1 t).1 = 0 := Classical.byContradiction fun hn => by
      rw [if_neg hn] at he; exact hn he
    rw [if_pos he1] at he h2
    obtain ⟨u, hu⟩ := eat_suffix sig t 1
    have hut : isTerm sig u := by
      unfold isTerm
      have key : ∀ (u : List Int) (m : Nat) (r : List Int), eat sig m (u ++ r) = (0, r) → scan sig m u = 0 := by
        intro u
        induction u with
        | nil =>
          intro m r hh
          cases m with
          | zero => rfl
          | succ m =>
            exfalso
            have := eat_lt sig (t := r) (n := m) (by rw [List.nil_append] at hh; rw [hh])
            rw [List.nil_append] at hh
            rw [hh] at this; simp at this
        | cons c u ih =>
          intro m r hh
          cases m with
          | zero =>
            simp only [List.cons_append, eat] at hh
            have := congrArg (fun x : Int × List Int => x.2.length) hh
            simp at this; omega
          | succ m =>
            rw [List.cons_append, eat] at hh
            unfold scan
            split at hh
            · cases hh
            · rename_i hb
              rw [if_neg hb]
              exact ih _ r hh
      refine key u 1 (eat sig 1 t).2 ?_
      rw [← hu]
      exact Prod.ext he1 rfl
    obtain ⟨us, h3, h4, h5⟩ := split_terms n (eat sig 1 t).2 (by
      rw [scan_eat, he, h2]; rfl)
    refine ⟨u :: us, by simp [h3], fun v hv => ?_, ?_⟩
    · rcases List.mem_cons.mp hv with rfl | hv
      · exact hut
      · exact h4 v hv
    · rw [List.flatten_cons, h5]; exact hu.symm
theorem scan_sym {sig : Sg} {c : Int} {t : List Int} (h : isTerm sig (c :: t)) (hc : 0 ≤ c) : c < sig.length ∧ scan sig (kids sig c) t = 0 := by
  unfold isTerm scan at h
  split at h
  · simp at h
  · rename_i hb
    simp only [badC, Bool.or_eq_true, decide_eq_true_eq, not_or] at hb
    rw [Nat.zero_add] at h
    exact ⟨by omega, h⟩
theorem scan_var {sig : Sg} {c : Int} {t : List Int} (h : isTerm sig (c :: t)) (hc : c < 0) : t = [] ∧ -1048576 ≤ c := by
  unfold isTerm scan at h
  split at h
  · simp at h
  · rename_i hb
    simp only [badC, Bool.or_eq_true, decide_eq_true_eq, not_or] at hb
    have : kids sig c = 0 := by unfold kids; rw [if_pos hc]
    rw [this] at h
    refine ⟨?_, by omega⟩
    cases t with
    | nil => rfl
    | cons d t => simp [scan] at h
theorem spec115 (c : Cl115 D) : SpecLay D 115 := by
  intro sg n
  induction n with
  | zero =>
    intro U ksv N b mb sgv vv tv xs cs es cl R h0 h l u r k kp hs ha ht hl hu hn
    exact absurd (List.length_eq_zero_iff.mp (by omega)) (isTerm_ne hu)
  | succ n ih =>
    intro U ksv N b mb sgv vv tv xs cs es cl R h0 h l u r k kp hs ha ht hl hu hn hcs o I hk
    refine c _ _ _ _ _ ?_
    unfold F115
    obtain ⟨d, u1, rfl⟩ := List.exists_cons_of_ne_nil (isTerm_ne hu)
    rw [List.cons_append] at hl
    have htl := ht.len
    have htr := ht.rng d (by rw [hl]; simp)
    unfold inI at htr
    refine ht.at_ (n := 0) (by omega) (by rw [hl]; simp; omega) fun ad x hx _ hrd => ⟨x, rd_ext o.ext hrd, ?_⟩
    rw [hl] at hx
    have hx : d = x := by simpa using hx
    subst hx
    refine ht.part (i := 1) (by rw [hl]; simp) fun tv1 ht1 => ?_
    have ht1 : Ir h0 tv1 (u1 ++ r) := by
      rw [hl] at ht1
      exact ht1
    have hpl := I.pl.len
    have hxl := I.len
    rw [cond_dec]
    refine ⟨fun hneg => ?_, fun hpos => ?_⟩
    · -- a variable
      obtain ⟨rfl, hd1⟩ := scan_var hu hneg
      rw [List.nil_append] at ht1
      refine ⟨rfl, ldj (o.cell (i := 0) rfl) rfl ?_⟩
      refine ⟨es, cl, o.map_ (i := 1) rfl, ?_⟩
      have fin : ∀ (U' : Bd (S2 sg)) ksv' N' vv' xs' cs' es' cl' h' (i x : Nat), Grow U U' → Hp h0 h' (boL U' ksv' N' b mb sgv vv' vv' xs' es' cl' R) → BoI U' N' xs' cs' es' → cs'.length ≤ cs.length + 1 → xs'[i]? = some x → cs'[i]? = some d →
          j115__8 D k kp (Pt b) tv1 (.int .i64 ((i : Nat) : Int)) h' := by
        intro U' ksv' N' vv' xs' cs' es' cl' h' i x g o' I' hc' hxi hci
        unfold j115__8
        rw [intK_int]
        refine ⟨rfl, ldj (o'.cell (i := 0) rfl) rfl ?_⟩
        have hil := (List.getElem?_eq_some_iff.mp hxi).1
        refine (o'.row (i := 2) rfl).at_ (by omega) (by rw [List.length_map]; omega) fun ad v hv hrd => ⟨v, hrd, ?_⟩
        rw [Int.toNat_natCast, List.getElem?_map, hxi] at hv
        obtain rfl := Option.some.inj hv
        have hnd := I'.code i x d hxi hci
        have := hk U' ksv' N' vv' xs' cs' es' cl' h' x tv1 g o' I' (by simpa using hc') (by rw [hnd]; simp) (U'.var hnd).2.2 ht1
        rw [nv_var hnd] at this
        exact this
      refine I.pl.look (fun hin => ⟨_, rfl, ?_⟩) (fun hout => ⟨0, rfl, ?_⟩)
      · rw [Bool.not_true, cond_false]
        have hi : cs.idxOf d < cs.length := List.idxOf_lt_length_of_mem hin
        obtain ⟨x, hx⟩ : ∃ x, xs[cs.idxOf d]? = some x := ⟨_, List.getElem?_eq_getElem (by omega)⟩
        exact fin U ksv N vv xs cs es cl h _ x (Grow.refl U) o I (by omega) hx (by rw [List.getElem?_eq_getElem hi, List.getElem_idxOf])
      · rw [Bool.not_false, cond_true]
        refine ⟨rfl, ldj (o.cell (i := 0) rfl) rfl ?_⟩
        rw [(o.row (i := 2) rfl).len, List.length_map]
        refine ⟨rfl, ldj (o.cell (i := 0) rfl) rfl ?_⟩
        refine mapU_new (o.map_ (i := 1) rfl) I.pl.keys hout ?_
        have o2 := o.set_map (i := 1) (es' := es ++ [{ key := .int .i64 d, val := .int .i64 ((xs.length : Nat) : Int), born := cl }]) (c' := cl + 1) rfl
        refine ⟨rfl, ldj (o2.cell (i := 0) rfl) rfl ?_⟩
        rw [i64_id (by omega) (by omega)]
        refine ⟨rfl, by decide, o2.new_ fun p h3 hp o3 => ?_⟩
        refine ⟨rfl, by decide, ?_⟩
        refine (o3.push (i := 3) rfl (by decide) (by rw [List.length_map]; have : cs.length < 2 ^ 40 := by { simp at hcs; omega }; omega) rfl (O := True) (U := True) trivial trivial fun vv' h4 o4 => ?_).2.2
        refine ⟨rfl, ?_⟩
        refine o4.stj (i := 1) (j := 1) rfl (by simp) (sl_one' (o4.row (i := 3) rfl)) rfl fun h5 o5 => ?_
        have hpn : U.nd p = none := Classical.byContradiction fun hne => nd_known o I hne (by
          have : (h.set mb (.map (es ++ [{ key := .int .i64 d, val := .int .i64 ((xs.length : Nat) : Int), born := cl }]) (cl + 1))) p = none := hp
          by_cases hpm : p = mb
          · rw [hpm, set_here] at this; cases this
          · rw [set_away hpm] at this; exact this)
        have hno : ∀ y, U.nd y ≠ some (.var d) := fun y hy => hout (I.all y d hy)
        have g : Grow U (Bd.addVar U p d hpn ⟨hneg, hd1⟩ hno) := grow_var
        have hndp : (Bd.addVar U p d hpn ⟨hneg, hd1⟩ hno).nd p = some (.var d) := updF_here
        have hnda : ∀ y, y ≠ p → (Bd.addVar U p d hpn ⟨hneg, hd1⟩ hno).nd y = U.nd y := fun y hy => updF_away hy
        generalize Bd.addVar U p d hpn ⟨hneg, hd1⟩ hno = U' at g hndp hnda
        have hN : ∀ x ∈ N, U.nd x ≠ none ∧ ksv x = ksv x := fun x hx => ⟨(I.mem x).mp hx, rfl⟩
        have hrec : (p :: N).flatMap (recR U' ksv) = cellR p [.int .i64 (-1 - d), .nilIface] :: N.flatMap (recR U ksv) := by
          rw [List.flatMap_cons, recs_grow g hN]
          unfold recR
          rw [hndp]; rfl
        refine fin U' ksv (p :: N) vv' (xs ++ [p]) (cs ++ [d]) (es ++ [{ key := .int .i64 d, val := .int .i64 ((xs.length : Nat) : Int), born := cl }]) (cl + 1) h5 xs.length p g ?_ ?_ (by simp) (by simp) (by rw [hxl]; simp)
        · refine o5.perm ?_
          unfold boL
          rw [hrec]
          show List.Perm _ (cellR p [.int .i64 (-1 - d), .nilIface] :: cellR b [sgv, vv', .map (some mb)] :: mapR mb _ (cl + 1) :: bufR vv' (xs.map Pt ++ [Pt p]) :: (R ++ N.flatMap (recR U ksv)))
          rw [List.map_append]
          refine List.Perm.trans ?_ (List.perm_middle (l₁ := [cellR b [sgv, vv', .map (some mb)], mapR mb _ (cl + 1), bufR vv' (xs.map Pt ++ [Pt p])]) (a := cellR p [.int .i64 (-1 - d), .nilIface]) (l₂ := R ++ N.flatMap (recR U ksv)))
          show List.Perm ([cellR b [sgv, vv', .map (some mb)], mapR mb _ (cl + 1), bufR vv' (xs.map Pt ++ [Pt p])] ++ (R ++ cellR p [.int .i64 (-1 - d), .nilIface] :: N.flatMap (recR U ksv))) ([cellR b [sgv, vv', .map (some mb)], mapR mb _ (cl + 1), bufR vv' (xs.map Pt ++ [Pt p])] ++ (cellR p [.int .i64 (-1 - d), .nilIface] :: (R ++ N.flatMap (recR U ksv))))
          exact List.perm_middle.append_left _
        · refine ⟨fun x => ?_, ?_, ?_, by simp [hxl], fun i x e hxi hei => ?_, fun x e hx => ?_, fun x e ks hx => ?_⟩
          · rw [List.mem_cons]
            by_cases hxp : x = p
            · subst hxp; rw [hndp]; simp
            · rw [hnda x hxp, ← I.mem]; simp [hxp]
          · rw [List.nodup_cons]
            exact ⟨fun hm => (I.mem p).mp hm hpn, I.nod⟩
          · have := I.pl.add (x := d) (c := cl)
            rw [hpl, ← hxl] at this
            exact this
          · rw [List.getElem?_append] at hxi hei
            split at hxi
            · rename_i hil
              rw [if_pos (by omega)] at hei
              have := I.code i x e hxi hei
              have hxp : x ≠ p := fun hh => by rw [hh, hpn] at this; cases this
              rw [hnda x hxp]; exact this
            · rename_i hil
              rw [if_neg (by omega)] at hei
              by_cases h0 : i - xs.length = 0
              · rw [h0] at hxi
                rw [show i - cs.length = 0 by omega] at hei
                simp at hxi hei
                rw [← hxi, ← hei]; exact hndp
              · obtain ⟨w, hw⟩ : ∃ w, i - xs.length = w + 1 := ⟨i - xs.length - 1, by omega⟩
                rw [hw] at hxi; simp at hxi
          · by_cases hxp : x = p
            · subst hxp
              rw [hndp] at hx
              cases hx; simp
            · rw [hnda x hxp] at hx
              simp [I.all x e hx]
          · by_cases hxp : x = p
            · subst hxp
              rw [hndp] at hx; cases hx
            · rw [hnda x hxp] at hx
              exact I.few x e ks hx
    · -- a symbol
      have hd0 : 0 ≤ d := by omega
      obtain ⟨hds, hscan⟩ := scan_sym hu hd0
      rw [S2_len] at hds
      obtain ⟨us, hus1, hus2, rfl⟩ := split_terms _ _ hscan
      refine ⟨rfl, by decide, o.new_ fun p h2 hp o2 => ?_⟩
      refine ⟨rfl, ldj (o2.cell (i := 1) rfl) rfl ?_⟩
      refine (hs.ext o2.ext).row.at_ (by omega) (by rw [sgRow_len]; exact hds) fun ad2 v hv _ hj => ?_
      obtain ⟨y, hy, rfl⟩ := sgRow_at hv
      refine ⟨y.2, hj 1 _ rfl, ?_⟩
      have hay := ha y (List.mem_of_getElem? hy)
      have hkid := kids_of (sig := sg) hd0 hy
      have e8 : (y.2 : Int) = ((us.length : Nat) : Int) := by omega
      rw [e8]
      have hus8 : us.length ≤ 8 := by omega
      have hpn : U.nd p = none := Classical.byContradiction fun hne => nd_known o I hne hp
      intro II hI
      have key := down_ind (P := fun j => ∀ (U' : Bd (S2 sg)) ksv' N' vv' xs' cs' es' cl' h' (kv tv' : Value) (ks : List Nat), Grow U U' → Hp h0 h' (boL U' ksv' N' b mb sgv vv' vv' xs' es' cl' (cellR p [.int .i64 d, kv, .nilIface, .int .i64 0] :: bufR kv (ks.map (nv U')) :: R)) → BoI U' N' xs' cs' es' →
          cs'.length ≤ cs.length + (us.take j).flatten.length → ks.length = j → (∀ x ∈ ks, U'.nd x ≠ none) → ks.map U'.row = us.take j → U'.nd p = none → Ir h0 tv' ((us.drop j).flatten ++ r) → II [Pt b, tv', Pt p, .int .i64 ((us.length : Nat) : Int), .int .i64 ((j : Nat) : Int)] h') us.length
        fun j hj ih2 U' ksv' N' vv' xs' cs' es' cl' h' kv tv' ks g o' I' hcs' hkl hkn hkr hpn' ht' => by
        refine hI _ _ _ _ _ _ ?_
        unfold round115_11
        rw [intK_int, intK_int, cond_dec]
        have hnl : ∀ j, (us.take j).flatten.length + (us.drop j).flatten.length = us.flatten.length := fun j => by
          rw [← List.length_append, ← List.flatten_append, List.take_append_drop]
        refine ⟨fun hlt => ?_, fun hge => ?_⟩
        · have hj1 : j < us.length := by omega
          have hdrop : (us.drop j).flatten = us[j] ++ (us.drop (j + 1)).flatten := by
            rw [List.drop_eq_getElem_cons hj1, List.flatten_cons]
          have htake : (us.take (j + 1)) = us.take j ++ [us[j]] := by rw [List.take_add_one, List.getElem?_eq_getElem hj1]; rfl
          have hl1 := hnl j
          rw [hdrop, List.length_append] at hl1
          simp only [List.length_cons] at hn hcs
          refine ih U' ksv' N' b mb sgv vv' tv' xs' cs' es' cl' _ h0 h' _ us[j] ((us.drop (j + 1)).flatten ++ r) _ _ hs ha ht' (by rw [hdrop, List.append_assoc]) (hus2 _ (List.getElem_mem hj1)) (by omega) (by omega) o' I' fun U2 ksv2 N2 vv2 xs2 cs2 es2 cl2 h2 x tv2 g2 o2 I2 hc2 hxn hxr ht2 => ⟨_, _, rfl, rfl, ?_⟩
          refine ldj (o2.cell (i := 3) rfl) rfl ?_
          refine ⟨nv_one, by decide, ?_⟩
          have hkk : ks.map (nv U') = ks.map (nv U2) := List.map_congr_left fun z hz => (g2.nv (hkn z hz)).symm
          refine (o2.push (i := 4) rfl (by decide) (by rw [List.length_map]; omega) nv_one (O := True) (U := True) trivial trivial fun kv' h3 o3 => ?_).2.2
          refine ⟨rfl, ?_⟩
          refine o3.stj (i := 3) (j := 1) rfl (by simp) (sl_one' (o3.row (i := 4) rfl)) rfl fun h4 o4 => ?_
          rw [i64_id (by omega) (by omega)]
          have hpn2 : U2.nd p = none := Classical.byContradiction fun hne => by
            have hm := (I2.mem p).mpr hne
            obtain ⟨A, B, hAB⟩ := List.append_of_mem hm
            have hr : ∃ l rest, recR U2 ksv2 p = cellR p l :: rest := by
              rcases nd_cases hne with ⟨e, hd⟩ | ⟨e, js, hd⟩
              · exact ⟨_, [], by unfold recR; rw [hd]⟩
              · exact ⟨_, _, by unfold recR; rw [hd]⟩
            obtain ⟨l, rest, hr⟩ := hr
            have o5 := o2
            unfold boL at o5
            rw [hAB, List.flatMap_append, List.flatMap_cons, hr] at o5
            have := Hp.apart (l1 := [cellR b [sgv, vv2, .map (some mb)], mapR mb es2 cl2, bufR vv2 (xs2.map Pt)]) (r := cellR p [.int .i64 d, kv, .nilIface, .int .i64 0]) (l2 := bufR kv (ks.map (nv U')) :: (R ++ A.flatMap (recR U2 ksv2))) (q := cellR p l) (l3 := rest ++ B.flatMap (recR U2 ksv2)) (by simpa using o5) (b := p) rfl
            exact this rfl
          refine ih2 hj1 U2 ksv2 N2 vv2 xs2 cs2 es2 cl2 h4 kv' tv2 (ks ++ [x]) (g.trans g2) ?_ I2 ?_ (by simp [hkl]) (fun z hz => ?_) ?_ hpn2 ht2
          · rw [List.map_append, ← hkk]
            exact o4
          · have e1 : [us[j]].flatten = us[j] := by simp
            rw [htake, List.flatten_append, List.length_append, e1]
            omega
          · rcases List.mem_append.mp hz with hz | hz
            · exact g2.has (hkn z hz)
            · simp only [List.mem_singleton] at hz
              subst hz; exact hxn
          · rw [List.map_append, htake, ← hkr]
            congr 1
            · exact List.map_congr_left fun z hz => g2.row z (hkn z hz)
            · simp [hxr]
        · dsimp only
          rw [xs_e]
          show cond true _ _
          rw [cond_true, nth0, nth1]
          have hju : j = us.length := by omega
          rw [List.take_of_length_le (by omega)] at hkr hcs'
          rw [List.drop_eq_nil_of_le (by omega), List.flatten_nil, List.nil_append] at ht'
          have htt : isTerm (S2 sg) (d :: (ks.map U'.row).flatten) := by rw [hkr]; exact hu
          have hkl2 : ks.length = kids (S2 sg) d := by rw [hkl, hju, hus1]
          have g2 : Grow U' (Bd.addTree U' p d ks hpn' hd0 hkl2 hkn htt) := grow_tree
          have hndp : (Bd.addTree U' p d ks hpn' hd0 hkl2 hkn htt).nd p = some (.tree d ks) := updF_here
          have hrow : (Bd.addTree U' p d ks hpn' hd0 hkl2 hkn htt).row p = d :: (ks.map U'.row).flatten := updF_here
          have hnda : ∀ y, y ≠ p → (Bd.addTree U' p d ks hpn' hd0 hkl2 hkn htt).nd y = U'.nd y := fun y hy => updF_away hy
          generalize Bd.addTree U' p d ks hpn' hd0 hkl2 hkn htt = U2 at g2 hndp hrow hnda
          have hNp : p ∉ N' := fun hm => (I'.mem p).mp hm hpn'
          have hN : ∀ x ∈ N', U'.nd x ≠ none ∧ updF ksv' p kv x = ksv' x := fun x hx => ⟨(I'.mem x).mp hx, updF_away fun e => hNp (by rw [← e]; exact hx)⟩
          have hkk : ks.map (nv U2) = ks.map (nv U') := List.map_congr_left fun z hz => g2.nv (hkn z hz)
          have hrec : (p :: N').flatMap (recR U2 (updF ksv' p kv)) = cellR p [.int .i64 d, kv, .nilIface, .int .i64 0] :: bufR kv (ks.map (nv U')) :: N'.flatMap (recR U' ksv') := by
            rw [List.flatMap_cons, recs_grow g2 hN]
            unfold recR
            rw [hndp]
            simp only [updF_here, hkk]; rfl
          rw [show (Value.iface 155 (Pt p)) = nv U2 p from (nv_tree hndp).symm]
          refine hk U2 (updF ksv' p kv) (p :: N') vv' xs' cs' es' cl' h' p tv' (g.trans g2) ?_ ?_ ?_ (by rw [hndp]; simp) (by rw [hrow, hkr]) ht'
          · refine o'.perm ?_
            unfold boL
            rw [hrec]
            show List.Perm ([cellR b [sgv, vv', .map (some mb)], mapR mb es' cl', bufR vv' (xs'.map Pt)] ++ (R ++ ([cellR p [.int .i64 d, kv, .nilIface, .int .i64 0], bufR kv (ks.map (nv U'))] ++ N'.flatMap (recR U' ksv')))) ([cellR b [sgv, vv', .map (some mb)], mapR mb es' cl', bufR vv' (xs'.map Pt)] ++ ([cellR p [.int .i64 d, kv, .nilIface, .int .i64 0], bufR kv (ks.map (nv U'))] ++ (R ++ N'.flatMap (recR U' ksv'))))
            refine List.Perm.append_left _ ?_
            rw [← List.append_assoc, ← List.append_assoc]
            exact List.perm_append_comm.append_right _
          · refine ⟨fun x => ?_, ?_, I'.pl, I'.len, fun i x e hxi hei => ?_, fun x e hx => ?_, fun x e js hx => ?_⟩
            · rw [List.mem_cons]
              by_cases hxp : x = p
              · subst hxp; rw [hndp]; simp
              · rw [hnda x hxp, ← I'.mem]; simp [hxp]
            · rw [List.nodup_cons]
              exact ⟨hNp, I'.nod⟩
            · have := I'.code i x e hxi hei
              have hxp : x ≠ p := fun hh => by rw [hh, hpn'] at this; cases this
              rw [hnda x hxp]; exact this
            · by_cases hxp : x = p
              · subst hxp
                rw [hndp] at hx; cases hx
              · rw [hnda x hxp] at hx
                exact I'.all x e hx
            · by_cases hxp : x = p
              · subst hxp
                rw [hndp] at hx
                cases hx
                omega
              · rw [hnda x hxp] at hx
                exact I'.few x e js hx
          · simp only [List.length_cons]
            omega
      refine key 0 (by omega) U ksv N vv xs cs es cl h2 (.slice none 0 0) tv1 [] (Grow.refl U) ?_ I (by simp) rfl (by simp) rfl hpn (by simpa using ht1)
      refine (o2.add_nil (a := none)).perm ?_
      unfold boL
      show List.Perm ([cellR b [sgv, vv, .map (some mb)], mapR mb es cl, bufR vv (xs.map Pt)] ++ ([cellR p [.int .i64 d, .slice none 0 0, .nilIface, .int .i64 0], bufR (.slice none 0 0) []] ++ (R ++ N.flatMap (recR U ksv)))) ([bufR (.slice none 0 0) [], cellR p [.int .i64 d, .slice none 0 0, .nilIface, .int .i64 0]] ++ ([cellR b [sgv, vv, .map (some mb)], mapR mb es cl, bufR vv (xs.map Pt)] ++ (R ++ N.flatMap (recR U ksv))))
      exact (List.perm_append_comm_assoc _ _ _).trans (.swap _ _ _)
end Go.Proofs.YtnlhnlmnlfmojaaDoor.Am

namespace Go.Proofs.Sys
/-- Some binds make two terms one. -/
def Unif (sig : Sg) (a b : List Int) : Prop := ∃ τ, Sub sig τ ∧ app τ a = app τ b
open Classical in
theorem unif_true {sig : Sg} {U : Bd sig} {is : Is} {x y : Nat} (g : Good U is) (kin : Kin U (fun _ => none) is) (hx : U.nd x ≠ none) (hy : U.nd y ≠ none) (rel : Rel is x y)
    (hv : ∀ z c, U.nd z = some (.var c) → ∃ u, Gr U is [z] [u]) (hr : ∃ u, Gr U is [x] [u]) : Unif sig (U.row x) (U.row y) := by
  let σ : Int → List Int := fun c => if h : ∃ u, ∃ z, U.nd z = some (.var c) ∧ Gr U is [z] [u] then Classical.choose h else [-1]
  have hσ : ∀ z c, U.nd z = some (.var c) → Gr U is [z] [σ c] := fun z c hz => by
    obtain ⟨u, hu⟩ := hv z c hz
    have h : ∃ u, ∃ z, U.nd z = some (.var c) ∧ Gr U is [z] [u] := ⟨u, z, hz, hu⟩
    have e : σ c = Classical.choose h := dif_pos h
    obtain ⟨z', h1, h2⟩ := Classical.choose_spec h
    rw [e]
    rw [U.same hz h1]; exact h2
  have hs : Sub sig σ := fun c => by
    by_cases h : ∃ u, ∃ z, U.nd z = some (.var c) ∧ Gr U is [z] [u]
    · have e : σ c = Classical.choose h := dif_pos h
      obtain ⟨z', h1, h2⟩ := Classical.choose_spec h
      rw [e]
      exact gr_term g h2 (by intro k hk; simp only [List.mem_singleton] at hk; subst hk; rw [h1]; simp) _ (by simp)
    · have e : σ c = [-1] := dif_neg h
      rw [e]
      unfold isTerm scan
      have hb : badC sig.length (-1) = false := by
        simp only [badC, Bool.or_eq_false_iff, decide_eq_false_iff_not]
        omega
      rw [hb]
      simp [kids, scan]
  obtain ⟨u, hu⟩ := hr
  refine ⟨σ, hs, ?_⟩
  rw [told_row g kin hσ _ x u (Nat.le_refl _) hx hu, told_row g kin hσ _ y u (Nat.le_refl _) hy (hu.rel rel)]
end Go.Proofs.Sys
namespace Go.Proofs.YtnlhnlmnlfmojaaDoor.Am
open Go Go.Proofs Sys Go.Lib
set_option linter.unusedVariables false
set_option linter.unusedSimpArgs false
set_option maxRecDepth 100000
variable {D : Orc}

abbrev noIs : Is := fun _ => none
abbrev noSz : Sz := fun _ => 0
section
variable {sig : Sg} {U : Bd sig} {ksv : Nat → Value} {N : List Nat} {b mb : Nat} {sgv vf vv : Value} {xs : List Nat} {cs : List Int} {es : List MapEntry} {cl : Nat} {h0 h : H}
theorem rec_head {x : Nat} (hx : U.nd x ≠ none) : ∃ l rest, recR U ksv x = cellR x l :: rest := by
  rcases nd_cases hx with ⟨e, hd⟩ | ⟨e, js, hd⟩
  · exact ⟨_, [], by unfold recR; rw [hd]⟩
  · exact ⟨_, _, by unfold recR; rw [hd]⟩
theorem boL_split (x : Nat) (hx : U.nd x ≠ none) (I : BoI U N xs cs es) : ∃ A B, boL U ksv N b mb sgv vf vv xs es cl [] = (cellR b [sgv, vf, .map (some mb)] :: mapR mb es cl :: bufR vv (xs.map Pt) :: A) ++ (recR U ksv x ++ B) := by
  obtain ⟨A, B, hAB⟩ := List.append_of_mem ((I.mem x).mpr hx)
  refine ⟨A.flatMap (recR U ksv), B.flatMap (recR U ksv), ?_⟩
  unfold boL
  rw [hAB, List.flatMap_append, List.flatMap_cons]
  simp
theorem boL_away (o : Hp h0 h (boL U ksv N b mb sgv vf vv xs es cl [])) (I : BoI U N xs cs es) : U.nd b = none ∧ U.nd mb = none ∧ ∀ d, Blk vv = some d → U.nd d = none := by
  have key : ∀ x, U.nd x ≠ none → x ≠ b ∧ x ≠ mb ∧ Blk vv ≠ some x := fun x hx => by
    obtain ⟨A, B, e⟩ := boL_split (ksv := ksv) (b := b) (mb := mb) (sgv := sgv) (vf := vf) (vv := vv) (cl := cl) x hx I
    obtain ⟨l, rest, hr⟩ := rec_head (ksv := ksv) hx
    rw [e, hr] at o
    refine ⟨fun hh => ?_, fun hh => ?_, fun hh => ?_⟩
    · refine Hp.apart (h0 := h0) (h := h) (l1 := []) (l2 := mapR mb es cl :: bufR vv (xs.map Pt) :: A) (l3 := rest ++ B) (r := cellR b [sgv, vf, .map (some mb)]) (q := cellR x l) o (b := b) rfl hh.symm
    · refine Hp.apart (h0 := h0) (h := h) (l1 := [cellR b [sgv, vf, .map (some mb)]]) (l2 := bufR vv (xs.map Pt) :: A) (l3 := rest ++ B) (r := mapR mb es cl) (q := cellR x l) o (b := mb) rfl hh.symm
    · refine Hp.apart (h0 := h0) (h := h) (l1 := [cellR b [sgv, vf, .map (some mb)], mapR mb es cl]) (l2 := A) (l3 := rest ++ B) (r := bufR vv (xs.map Pt)) (q := cellR x l) o (b := x) hh rfl
  refine ⟨Classical.byContradiction fun hn => (key b hn).1 rfl, Classical.byContradiction fun hn => (key mb hn).2.1 rfl, fun d hd => Classical.byContradiction fun hn => (key d hn).2.2 hd⟩
theorem boL_mem {x : Nat} (hx : U.nd x ≠ none) (I : BoI U N xs cs es) {r : Res} (hr : r ∈ recR U ksv x) : r ∈ boL U ksv N b mb sgv vf vv xs es cl [] := by
  obtain ⟨A, B, e⟩ := boL_split (ksv := ksv) (b := b) (mb := mb) (sgv := sgv) (vf := vf) (vv := vv) (cl := cl) x hx I
  rw [e]
  simp [hr]
theorem boL_bd (o : Hp h0 h (boL U ksv N b mb sgv vf vv xs es cl [])) (I : BoI U N xs cs es) : BdM U ksv noIs noSz h := by
  refine ⟨fun x c hd => ?_, fun x c ks hd => ?_, fun x c ks hd => ⟨?_, I.few x c ks hd⟩, fun x c ks y hd hy hb => ?_⟩
  · exact o.ok _ (boL_mem (by rw [hd]; simp) I (r := cellR x [.int .i64 (-1 - c), .nilIface]) (by unfold recR; rw [hd]; simp))
  · exact o.ok _ (boL_mem (by rw [hd]; simp) I (r := cellR x [.int .i64 c, ksv x, .nilIface, .int .i64 0]) (by unfold recR; rw [hd]; simp))
  · have := o.ok _ (boL_mem (by rw [hd]; simp) I (r := bufR (ksv x) (ks.map (nv U))) (by unfold recR; rw [hd]; simp))
    exact Buf.row this
  · have hx : U.nd x ≠ none := by rw [hd]; simp
    have hrx : recR U ksv x = [cellR x [.int .i64 c, ksv x, .nilIface, .int .i64 0], bufR (ksv x) (ks.map (nv U))] := by unfold recR; rw [hd]
    by_cases hxy : x = y
    · subst hxy
      obtain ⟨A, B, e⟩ := boL_split (ksv := ksv) (b := b) (mb := mb) (sgv := sgv) (vf := vf) (vv := vv) (cl := cl) x hx I
      rw [e, hrx] at o
      exact Hp.apart (h0 := h0) (h := h) (l1 := cellR b [sgv, vf, .map (some mb)] :: mapR mb es cl :: bufR vv (xs.map Pt) :: A) (l2 := []) (l3 := B) (r := cellR x [.int .i64 c, ksv x, .nilIface, .int .i64 0]) (q := bufR (ksv x) (ks.map (nv U))) o (b := x) rfl hb
    · obtain ⟨l, rest, hr⟩ := rec_head (ksv := ksv) hy
      obtain ⟨A, B, hAB⟩ := List.append_of_mem ((I.mem x).mpr hx)
      have hyN := (I.mem y).mpr hy
      rw [hAB] at hyN
      unfold boL at o
      rw [hAB, List.flatMap_append, List.flatMap_cons, hrx] at o
      rcases List.mem_append.mp hyN with hyA | hyB
      · obtain ⟨A1, A2, hA⟩ := List.append_of_mem hyA
        rw [hA, List.flatMap_append, List.flatMap_cons, hr] at o
        refine Hp.apart (h0 := h0) (h := h) (l1 := cellR b [sgv, vf, .map (some mb)] :: mapR mb es cl :: bufR vv (xs.map Pt) :: A1.flatMap (recR U ksv)) (l2 := rest ++ (A2.flatMap (recR U ksv) ++ [cellR x [.int .i64 c, ksv x, .nilIface, .int .i64 0]])) (l3 := B.flatMap (recR U ksv)) (r := cellR y l) (q := bufR (ksv x) (ks.map (nv U))) ?_ (b := y) rfl hb
        simpa using o
      · rcases List.mem_cons.mp hyB with e | hyB
        · exact hxy e.symm
        · obtain ⟨B1, B2, hB⟩ := List.append_of_mem hyB
          rw [hB, List.flatMap_append, List.flatMap_cons, hr] at o
          refine Hp.apart (h0 := h0) (h := h) (l1 := cellR b [sgv, vf, .map (some mb)] :: mapR mb es cl :: bufR vv (xs.map Pt) :: (A.flatMap (recR U ksv) ++ [cellR x [.int .i64 c, ksv x, .nilIface, .int .i64 0]])) (l2 := B1.flatMap (recR U ksv)) (l3 := rest ++ B2.flatMap (recR U ksv)) (r := bufR (ksv x) (ks.map (nv U))) (q := cellR y l) ?_ (b := y) hb rfl
          simpa using o
theorem good_none (U : Bd sig) : Sys.Good U noIs := ⟨fun x hx => ⟨x, .here rfl, hx⟩, fun x y c ks h => (by cases h), fun x y h => (by cases h)⟩
end
/-- What comes of a board that is solved. -/
structure SolvedM (sig : Sg) (a b : List Int) (h0 : H) (v : Value) (h : H) (U : Bd sig) (ksv : Nat → Value) (is : Is) (sz : Sz) (xs : List Nat) (cs : List Int) (x y : Nat) : Prop where
  bd : BdM U ksv is sz h
  good : Sys.Good U is
  kin : Sys.Kin U noIs is
  rel : Sys.Rel is x y
  ends : Sys.One U noIs [(x, y)] true is
  rows : U.row x = a ∧ U.row y = b ∧ U.nd x ≠ none ∧ U.nd y ≠ none
  vars : ∃ bb mb sgv vv, v = Pt bb ∧ h bb = some (.cells [sgv, vv, .map (some mb)]) ∧ Row h vv (xs.map Pt)
  len : xs.length = cs.length ∧ cs.length < 2 ^ 40
  code : ∀ (i x : Nat) (c : Int), xs[i]? = some x → cs[i]? = some c → U.nd x = some (.var c)
  all : ∀ x c, U.nd x = some (.var c) → c ∈ cs
  gr : ∀ z c, U.nd z = some (.var c) → ∃ u, Gr U is [z] [u]
  root : ∃ u, Gr U is [x] [u]
  sized : Sized U is 513 sz
  szle : ∀ e, sz e ≤ 513
  szpos : ∀ e, ¬ sz e < 0
  dom : ∃ dom : List Nat, ∀ z, U.nd z ≠ none → z ∈ dom
def SpecSolved (D : Orc) (f : Nat) : Prop := ∀ (sg : List Sy) (sgv av bv : Value) (a b : List Int) (h : H) (k : Kv) (kp : Kp), Sr h sgv sg → ArOk sg → Ir h av a → Ir h bv b → isTerm (S2 sg) a → isTerm (S2 sg) b → a.length + b.length < 2 ^ 39 →
  (∀ t v h', Ext h h' → (t = false → ¬ Unif (S2 sg) a b) → (t = true → ∃ U ksv is sz xs cs x y, SolvedM (S2 sg) a b h v h' U ksv is sz xs cs x y) → k (.tuple #[v, .bool t]) h') → D f [sgv, av, bv] h k kp
theorem SolvedM.unif {sig : Sg} {a b : List Int} {h0 h : H} {v : Value} {U : Bd sig} {ksv : Nat → Value} {is : Is} {sz : Sz} {xs : List Nat} {cs : List Int} {x y : Nat} (s : SolvedM sig a b h0 v h U ksv is sz xs cs x y) : Unif sig a b := by
  obtain ⟨r1, r2, r3, r4⟩ := s.rows
  rw [← r1, ← r2]
  exact unif_true s.good s.kin r3 r4 s.rel s.gr s.root
theorem spec107 (c : Cl107 D) (sL : SpecLay D 115) (sO : SpecOne D 116) (sM : SpecMeas D 117) : SpecSolved D 107 := by
  intro sg sgv av bv a b h k kp hs hao ha hb hta htb hlen hk
  refine c _ _ _ _ _ _ ?_
  unfold F107
  refine (Hp.nil_ h).new_map fun mb h1 f1 o1 => ?_
  have hone : one sgv = true := by
    have := hs.row.isSl
    cases sgv <;> first | rfl | exact this.elim
  refine ⟨hone, by decide, rfl, by decide, o1.new_ fun bb h2 f2 o2 => ?_⟩
  let U0 : Bd (S2 sg) := ⟨fun _ => none, fun _ => [], fun h => (by cases h), fun h => (by cases h), fun h => absurd rfl h, fun h => (by cases h)⟩
  have o3 : Hp h h2 (boL U0 (fun _ => .slice none 0 0) [] bb mb sgv (.slice none 0 0) (.slice none 0 0) [] [] 0 []) := by
    refine (o2.add_nil (a := none)).perm ?_
    show List.Perm [cellR bb [sgv, .slice none 0 0, .map (some mb)], mapR mb [] 0, bufR (.slice none 0 0) []] [bufR (.slice none 0 0) [], cellR bb [sgv, .slice none 0 0, .map (some mb)], mapR mb [] 0]
    exact (List.perm_append_comm (l₁ := [cellR bb [sgv, .slice none 0 0, .map (some mb)], mapR mb [] 0]) (l₂ := [bufR (.slice none 0 0) []]))
  have I0 : BoI U0 [] [] [] [] := ⟨fun x => by simp [U0], .nil, ⟨rfl, fun p e he => (by simp at he)⟩, rfl, fun i x c h => (by simp at h), fun x c h => (by cases h), fun x c ks h => (by cases h)⟩
  refine sL sg a.length U0 _ [] bb mb sgv _ av [] [] [] 0 [] h h2 a a [] _ _ hs hao ha (by simp) hta (Nat.le_refl _) (by simp; omega) o3 I0 fun U1 ksv1 N1 vv1 xs1 cs1 es1 cl1 h3 x tv1 g1 o4 I1 hc1 hx hxr ht1 => ⟨_, _, rfl, ?_⟩
  refine sL sg b.length U1 ksv1 N1 bb mb sgv vv1 bv xs1 cs1 es1 cl1 [] h h3 b b [] _ _ hs hao hb (by simp) htb (Nat.le_refl _) (by simp at hc1; omega) o4 I1 fun U ksv N vv xs cs es cl h4 y tv2 g2 o5 I2 hc2 hy hyr ht2 => ⟨_, _, rfl, ?_⟩
  have hxn := g2.has hx
  rw [← g2.nv hx]
  have hxr2 : U.row x = a := (g2.row x hx).trans hxr
  have bm := boL_bd o5 I2
  obtain ⟨ab, am, av'⟩ := boL_away o5 I2
  have hdom : ∀ z, U.nd z ≠ none → z ∈ N := fun z hz => (I2.mem z).mpr hz
  have hnew : ∀ z, U.nd z ≠ none → h z = none := fun z hz => by
    obtain ⟨l, rest, hr⟩ := rec_head (ksv := ksv) hz
    have := o5.new (cellR z l) (boL_mem hz I2 (by rw [hr]; simp)) z rfl
    exact this.1
  have hext : ∀ h', OffU U h4 h' → Ext h h' := fun h' off d o hd => by
    have hn : U.nd d = none := Classical.byContradiction fun hne => by rw [hnew d hne] at hd; cases hd
    rw [off d hn]; exact o5.ext d o hd
  have hcl : cs.length < 2 ^ 40 := by simp at hc1; omega
  have hxcl := I2.len
  refine sO U ksv noSz N _ noIs x y h4 _ _ hdom (Nat.le_refl _) (good_none U) bm hxn hy fun t is h5 one_ bm5 off5 => ⟨t, rfl, ?_⟩
  have hnodes : ∀ p ∈ [(x, y)], U.nd p.1 ≠ none ∧ U.nd p.2 ≠ none := fun p hp => by
    simp only [List.mem_singleton] at hp
    subst hp; exact ⟨hxn, hy⟩
  have sound : ∀ τ, Sub (S2 sg) τ → app τ a = app τ b → t = true ∧ Sys.Sound U τ is := fun τ hτ he => one_.sound hτ (fun x y h => by cases h) fun p hp => by
    simp only [List.mem_singleton] at hp
    subst hp
    show app τ (U.row x) = app τ (U.row y)
    rw [hxr2, hyr]; exact he
  cases t with
  | false =>
    rw [Bool.not_false, cond_true]
    refine hk false _ h5 (hext h5 off5) (fun _ ⟨τ, hτ, he⟩ => ?_) fun hb => by cases hb
    have := (sound τ hτ he).1
    cases this
  | true =>
    rw [Bool.not_true, cond_false]
    obtain ⟨good, _⟩ := one_.good (good_none U) hnodes
    obtain ⟨hrel, kin⟩ := one_.kin rfl (good_none U) hnodes
    have hrel := hrel (x, y) (by simp)
    have hno : ∀ τ, Sub (S2 sg) τ → app τ a = app τ b → ∀ {sz sz' : Sz} {z : Nat} {r : Nat} {ok : Bool}, Meas U is 513 sz [z] 0 r ok sz' → U.nd z ≠ none → Sized U is 513 sz → (∀ p, ¬ sz p < 0) → ok = true := fun τ hτ he sz sz' z r ok m hz hsz hneg =>
      m.ends hτ (sound τ hτ he).2 (by decide) (by decide) hsz (fun k hk => by simp only [List.mem_singleton] at hk; subst hk; exact hz) fun p hp => absurd hp (hneg p)
    refine sM U ksv is N _ noSz x h5 _ _ hdom (Nat.le_refl _) good bm5 hxn (fun _ => by simp) fun v1 ok1 sz1 h6 mp1 bm6 off6 hle6 hnz6 => ⟨v1, ok1, rfl, rfl, ?_⟩
    have off6 := off5.trans off6
    have hcell : ∀ h', OffU U h4 h' → h' bb = some (.cells [sgv, vv, .map (some mb)]) ∧ Row h' vv (xs.map Pt) := fun h' off => by
      refine ⟨by rw [off bb ab]; exact o5.cell (i := 0) rfl, (o5.row (i := 2) rfl).kept fun d o hd hx => ?_⟩
      rw [off d (av' d hd)]; exact hx
    refine ldj (hcell h6 off6).1 rfl ?_
    rw [(hcell h6 off6).2.len, List.length_map]
    have hs0 : Sized U is 513 noSz := fun e he => by simp at he
    -- what is known while the variables are measured
    let Inv : Nat → Bool → Sz → Prop := fun j t sz => (t = false → ¬ Unif (S2 sg) a b) ∧ (t = true → Sized U is 513 sz ∧ (∀ p, ¬ sz p < 0) ∧ (∃ u, Gr U is [x] [u]) ∧ ∀ i z, i < j → xs[i]? = some z → ∃ u, Gr U is [z] [u])
    have step : ∀ {sz sz' : Sz} {z : Nat} {v : Int} {ok : Bool}, MeasPost U is sz z v ok sz' → U.nd z ≠ none → Sized U is 513 sz → (∀ p, ¬ sz p < 0) → (ok = false → ¬ Unif (S2 sg) a b) ∧ (ok = true → Sized U is 513 sz' ∧ (∀ p, ¬ sz' p < 0) ∧ ∃ u, Gr U is [z] [u]) := fun {sz sz' z v ok} mp hz hsz hneg => by
      refine ⟨fun hok ⟨τ, hτ, he⟩ => ?_, fun hok => ?_⟩
      · subst hok
        have := hno τ hτ he (mp.2 rfl [] 0 0) hz hsz hneg
        cases this
      · subst hok
        obtain ⟨s, _, h1, h2, hder⟩ := mp.1 rfl
        have m := hder [] 0 _ true sz' .nil
        obtain ⟨⟨us, h3, _⟩, h4, h5⟩ := m.ok rfl (by decide) (by decide) hsz
        refine ⟨h4, fun p hp => hneg p ((h5 p).mp hp), ?_⟩
        cases us with
        | nil => cases h3
        | cons u us =>
          cases us with
          | nil => exact ⟨u, h3⟩
          | cons _ _ => have := h3.len; simp at this
    have hinv0 : Inv 0 ok1 sz1 := by
      obtain ⟨q1, q2⟩ := step mp1 hxn hs0 (fun p => by simp)
      exact ⟨q1, fun hok => ⟨(q2 hok).1, (q2 hok).2.1, (q2 hok).2.2, fun i z hi => by omega⟩⟩
    intro I hI
    have key := down_ind (P := fun j => ∀ (t : Bool) (sz : Sz) (h7 : H), BdM U ksv is sz h7 → OffU U h4 h7 → (∀ e, sz e ≤ 513) → Inv j t sz → I [Pt bb, .bool t, vv, .int .i64 ((xs.length : Nat) : Int), .int .i64 ((j : Nat) : Int)] h7) xs.length fun j hj ih2 t sz h7 bm7 off7 hle7 inv => by
      refine hI _ _ _ _ _ _ ?_
      unfold round107_8
      rw [boolW_bool, intK_int, intK_int, cond_dec]
      refine ⟨fun hlt => ?_, fun hge => ?_⟩
      · have hj1 : j < xs.length := by omega
        refine (hcell h7 off7).2.at_ (by omega) (by rw [List.length_map]; omega) fun ad v hv hrd => ⟨v, hrd, ?_⟩
        rw [Int.toNat_natCast, List.getElem?_map, List.getElem?_eq_getElem hj1] at hv
        obtain rfl := Option.some.inj hv
        have hxj : xs[j]? = some xs[j] := List.getElem?_eq_getElem hj1
        obtain ⟨cj, hcj⟩ : ∃ c, cs[j]? = some c := ⟨_, List.getElem?_eq_getElem (by rw [← I2.len]; exact hj1)⟩
        have hnd := I2.code j _ _ hxj hcj
        have hndn : U.nd xs[j] ≠ none := by rw [hnd]; simp
        rw [← nv_var hnd]
        refine sM U ksv is N _ sz xs[j] h7 _ _ hdom (Nat.le_refl _) good bm7 hndn hle7 fun v ok sz' h8 mp bm8 off8 hle8 _ => ⟨v, ok, rfl, ?_⟩
        have next : ∀ t' K, Inv (j + 1) t' sz' → j107_8_12 D I K (Pt bb) (.bool t') vv (.int .i64 ((xs.length : Nat) : Int)) (.int .i64 ((j : Nat) : Int)) h8 := fun t' K inv' => by
          unfold j107_8_12
          rw [boolW_bool, intK_int, intK_int, i64_id (by omega) (by omega)]
          exact ih2 hj1 t' sz' h8 bm8 (off7.trans off8) hle8 inv'
        cases t with
        | true =>
          rw [cond_true]
          obtain ⟨i1, i2, i3, i4⟩ := inv.2 rfl
          obtain ⟨q1, q2⟩ := step mp hndn i1 i2
          refine next ok _ ⟨q1, fun hok => ⟨(q2 hok).1, (q2 hok).2.1, i3, fun i z hi hz => ?_⟩⟩
          by_cases hij : i = j
          · subst hij
            rw [hxj] at hz
            cases hz
            exact (q2 hok).2.2
          · exact i4 i z (by omega) hz
        | false =>
          rw [cond_false]
          exact next false _ ⟨inv.1, fun hb => by cases hb⟩
      · dsimp only
        rw [xs_e]
        show cond true _ _
        rw [cond_true, nth0, nth1, boolW_bool]
        refine hk t _ h7 (hext h7 off7) inv.1 fun ht => ?_
        obtain ⟨i1, i2, i3, i4⟩ := inv.2 ht
        refine ⟨U, ksv, is, sz, xs, cs, x, y, bm7, good, kin, hrel, one_, ⟨hxr2, hyr, hxn, hy⟩, ⟨bb, mb, sgv, vv, rfl, (hcell h7 off7).1, (hcell h7 off7).2⟩, ⟨I2.len, hcl⟩, I2.code, I2.all, fun z c hz => ?_, i3, i1, hle7, i2, N, hdom⟩
        have hc := I2.all z c hz
        obtain ⟨i, hi⟩ := List.getElem?_of_mem hc
        have hil := (List.getElem?_eq_some_iff.mp hi).1
        obtain ⟨w, hw⟩ : ∃ w, xs[i]? = some w := ⟨_, List.getElem?_eq_getElem (by rw [I2.len]; exact hil)⟩
        rw [U.same hz (I2.code i w c hw hi)]
        exact i4 i w (by have := (List.getElem?_eq_some_iff.mp hw).1; omega) hw
    exact key 0 (by omega) ok1 sz1 h6 bm6 off6 hle6 hinv0
open Classical in
noncomputable def canB (sg : List Sy) (a b : List Int) : Bool := chkTerm sg a == 0 && (chkTerm sg b == 0 && decide (Unif (S2 sg) a b))
def SpecCan (D : Orc) (f : Nat) (T : H → Prop) : Prop := ∀ (sg : List Sy) (sgv av bv : Value) (a b : List Int) (h : H) (k : Kv) (kp : Kp), Sr h sgv sg → T h → Ir h av a → Ir h bv b → a.length + b.length < 2 ^ 39 → (∀ h', Ext h h' → k (.bool (canB sg a b)) h') → D f [sgv, av, bv] h k kp
theorem chkTerm_ok {sg : List Sy} {a : List Int} (h : chkTerm sg a = 0) : ArOk sg ∧ isTerm (S2 sg) a := by
  unfold chkTerm at h
  split at h
  · rename_i hne; exact absurd h hne
  · rename_i he
    exact ⟨ar_of (Classical.not_not.mp he), h⟩
open Classical in
theorem spec87 {T : H → Prop} (hT : Stays T) (c : Cl87 D) (c106 : Cl106 D) (sC : SpecCheck D 66 T) (sS : SpecSolved D 107) : SpecCan D 87 T := by
  intro sg sgv av bv a b h k kp hs ht ha hb hl hk
  refine c _ _ _ _ _ _ ?_
  unfold F87
  refine c106 _ _ _ _ _ _ ?_
  unfold F106
  refine sC _ _ _ _ _ _ _ hs ht ha fun h1 e1 => ⟨_, rfl, ?_⟩
  unfold canB at hk
  rw [cond_ne]
  refine ⟨fun hne => ⟨_, rfl, ?_⟩, fun he => ?_⟩
  · rw [cond_ne]
    refine ⟨fun _ => ?_, fun h => absurd h hne⟩
    have : (chkTerm sg a == 0) = false := by simpa using hne
    rw [this, Bool.false_and] at hk
    exact hk h1 e1
  · refine sC _ _ _ _ _ _ _ (hs.ext e1) (hT _ _ e1 ht) (hb.ext e1) fun h2 e2 => ⟨_, rfl, ⟨_, rfl, ?_⟩⟩
    have h1a : (chkTerm sg a == 0) = true := by simpa using he
    rw [h1a, Bool.true_and] at hk
    have e12 := e1.trans e2
    rw [cond_ne]
    refine ⟨fun hne => ?_, fun hb0 => ?_⟩
    · have : (chkTerm sg b == 0) = false := by simpa using hne
      rw [this, Bool.false_and] at hk
      exact hk h2 e12
    · have h1b : (chkTerm sg b == 0) = true := by simpa using hb0
      rw [h1b, Bool.true_and] at hk
      obtain ⟨ao, ta⟩ := chkTerm_ok he
      obtain ⟨_, tb⟩ := chkTerm_ok hb0
      refine sS sg sgv av bv a b h2 _ _ (hs.ext e12) ao (ha.ext e12) (hb.ext e12) ta tb hl fun t v h3 e3 hf ht' => ⟨v, t, rfl, ?_⟩
      have : decide (Unif (S2 sg) a b) = t := by
        cases t with
        | false => exact decide_eq_false (hf rfl)
        | true =>
          obtain ⟨U, ksv, is, sz, xs, cs, x, y, s⟩ := ht' rfl
          exact decide_eq_true s.unif
      rw [← this]
      exact hk h3 (e12.trans e3)
end Go.Proofs.YtnlhnlmnlfmojaaDoor.Am
