/-
  Packed: Unification by classes of places: plain Lean, with no program in sight. The places of two terms, and which stand below which. The document's board of two terms. The document's board of two terms, whole. The document's board: heads, joins, closing. The document's board is closed. How big the classes' terms are; whether two terms can be made one: by the document. Whether a pair may be followed by another one: by the document. Variables numbered anew, an edge: by the document. An edge, by the document; the law on edges. The graph of pairs, by the document; the law on graphs. The law on graphs of pairs.
-/
import Derived.Test.YtnlhnlmnlfmojaaGreatDoorPkP
import Derived.Test.YtnlhnlmnlfmojaaGreatDoorPkQ
set_option linter.unusedVariables false
set_option linter.unusedSimpArgs false
set_option linter.unnecessarySimpa false
namespace Go.Proofs.Sys
/-- Places of terms. -/
structure Pl (sig : Sg) where
  n : Nat
  code : Nat → Int
  kid : Nat → List Nat
  row : Nat → List Int
  var : ∀ {i}, i < n → code i < 0 → row i = [code i]
  tree : ∀ {i}, i < n → 0 ≤ code i → row i = code i :: ((kid i).map row).flatten ∧ (kid i).length = kids sig (code i) ∧ ∀ k ∈ kid i, k < n
  term : ∀ {i}, i < n → isTerm sig (row i)
variable {sig : Sg} {P : Pl sig}
theorem Pl.kids_eq (P : Pl sig) {τ : Int → List Int} (hτ : Sub sig τ) {i j : Nat} (hi : i < P.n) (hj : j < P.n) (h0 : 0 ≤ P.code i) (h1 : 0 ≤ P.code j) (h : app τ (P.row i) = app τ (P.row j)) :
    P.code i = P.code j ∧ ∀ (m x y : Nat), (P.kid i)[m]? = some x → (P.kid j)[m]? = some y → app τ (P.row x) = app τ (P.row y) := by
  obtain ⟨a2, a3, a4⟩ := P.tree hi h0
  obtain ⟨b2, b3, b4⟩ := P.tree hj h1
  rw [a2, b2, app_pos (by omega), app_pos (by omega)] at h
  have hc := (List.cons.inj h).1
  have h := (List.cons.inj h).2
  refine ⟨hc, fun m x y hx hy => ?_⟩
  rw [app_flatten, app_flatten] at h
  have tm : ∀ l : List Nat, (∀ k ∈ l, k < P.n) → ∀ u ∈ (l.map P.row).map (app τ), isTerm sig u := fun l hl u hu => by
    obtain ⟨v, hv, rfl⟩ := List.mem_map.mp hu
    obtain ⟨k, hk, rfl⟩ := List.mem_map.mp hv
    exact app_term hτ (P.term (hl k hk))
  have e := flat_inj (tm _ a4) (tm _ b4) (by simp [a3, b3, hc]) h
  have e1 := congrArg (fun l => l[m]?) e
  simpa [hx, hy] using e1

/-! ### classes -/
/-- Classes: each told by a place that is its own. -/
structure Cls (P : Pl sig) (cl : Nat → Nat) : Prop where
  lt : ∀ i, i < P.n → cl i < P.n
  root : ∀ i, i < P.n → cl (cl i) = cl i
  vars : ∀ i j, i < P.n → j < P.n → P.code i < 0 → P.code i = P.code j → cl i = cl j
def Snd (P : Pl sig) (τ : Int → List Int) (cl : Nat → Nat) : Prop := ∀ i j, i < P.n → j < P.n → cl i = cl j → app τ (P.row i) = app τ (P.row j)
/-- Two classes are made one. -/
def joinC (cl : Nat → Nat) (i k : Nat) : Nat → Nat := fun x => if cl x = max (cl i) (cl k) then min (cl i) (cl k) else cl x
theorem joinC_same {cl : Nat → Nat} {i k x y : Nat} (h : cl x = cl y) : joinC cl i k x = joinC cl i k y := by unfold joinC; rw [h]
theorem joinC_both {cl : Nat → Nat} {i k : Nat} : joinC cl i k i = joinC cl i k k := by
  unfold joinC
  split <;> split <;> omega
theorem joinC_eq {cl : Nat → Nat} {i k x y : Nat} (h : joinC cl i k x = joinC cl i k y) : cl x = cl y ∨ ((cl x = cl i ∨ cl x = cl k) ∧ (cl y = cl i ∨ cl y = cl k)) := by
  unfold joinC at h
  split at h <;> split at h <;> omega
theorem Cls.join {cl : Nat → Nat} (c : Cls P cl) {i k : Nat} (hi : i < P.n) (hk : k < P.n) (hne : cl i ≠ cl k) : Cls P (joinC cl i k) := by
  have l1 := c.lt i hi
  have l2 := c.lt k hk
  have r1 := c.root i hi
  have r2 := c.root k hk
  refine ⟨fun x hx => ?_, fun x hx => ?_, fun x y hx hy h0 he => joinC_same (c.vars x y hx hy h0 he)⟩
  · have := c.lt x hx
    unfold joinC; split <;> omega
  · have r3 := c.root x hx
    have hmin : cl (min (cl i) (cl k)) = min (cl i) (cl k) := by
      rcases Nat.lt_or_ge (cl i) (cl k) with h | h
      · rw [Nat.min_eq_left (by omega)]; exact r1
      · rw [Nat.min_eq_right (by omega)]; exact r2
    unfold joinC
    split
    · rw [hmin, if_neg (by omega)]
    · rename_i h
      rw [r3, if_neg h]
theorem Snd.join {τ : Int → List Int} {cl : Nat → Nat} (s : Snd P τ cl) {i k : Nat} (hi : i < P.n) (hk : k < P.n) (he : app τ (P.row i) = app τ (P.row k)) : Snd P τ (joinC cl i k) := fun x y hx hy h => by
  rcases joinC_eq h with h | ⟨h1, h2⟩
  · exact s x y hx hy h
  · have e1 : app τ (P.row x) = app τ (P.row i) := by
      rcases h1 with h1 | h1
      · exact s x i hx hi h1
      · rw [he]; exact s x k hx hk h1
    have e2 : app τ (P.row y) = app τ (P.row i) := by
      rcases h2 with h2 | h2
      · exact s y i hy hi h2
      · rw [he]; exact s y k hy hk h2
    rw [e1, e2]
/-- How many places are their own. -/
def rootsN (n : Nat) (cl : Nat → Nat) : Nat := ((List.range n).filter fun x => decide (cl x = x)).length
theorem filter_lt {l : List Nat} {p q : Nat → Bool} (hpq : ∀ x ∈ l, q x = true → p x = true) {b : Nat} (hb : b ∈ l) (hp : p b = true) (hq : q b = false) : (l.filter q).length < (l.filter p).length := by
  induction l with
  | nil => cases hb
  | cons a l ih =>
    have hle : (l.filter q).length ≤ (l.filter p).length := by
      have : ∀ l : List Nat, (∀ x ∈ l, q x = true → p x = true) → (l.filter q).length ≤ (l.filter p).length := by
        intro l
        induction l with
        | nil => intro _; simp
        | cons a l ih =>
          intro h
          have := ih fun x hx => h x (by simp [hx])
          rw [List.filter_cons, List.filter_cons]
          cases hqa : q a with
          | true => rw [h a (by simp) hqa]; simpa using this
          | false =>
            rw [if_neg (by simp)]
            split
            · simp; omega
            · exact this
      exact this l fun x hx => hpq x (by simp [hx])
    rw [List.filter_cons, List.filter_cons]
    rcases List.mem_cons.mp hb with rfl | hb
    · rw [hp, hq, if_pos rfl, if_neg (by simp)]
      simp; omega
    · have := ih (fun x hx => hpq x (by simp [hx])) hb
      cases hqa : q a with
      | true => rw [hpq a (by simp) hqa, if_pos rfl, if_pos rfl]; simpa using this
      | false =>
        rw [if_neg (by simp)]
        split
        · simp; omega
        · exact this
theorem Cls.roots {cl : Nat → Nat} (c : Cls P cl) {i k : Nat} (hi : i < P.n) (hk : k < P.n) (hne : cl i ≠ cl k) : rootsN P.n (joinC cl i k) < rootsN P.n cl := by
  have l1 := c.lt i hi
  have l2 := c.lt k hk
  have r1 := c.root i hi
  have r2 := c.root k hk
  have hmx : cl (max (cl i) (cl k)) = max (cl i) (cl k) := by
    rcases Nat.lt_or_ge (cl i) (cl k) with h | h
    · rw [Nat.max_eq_right (by omega)]; exact r2
    · rw [Nat.max_eq_left (by omega)]; exact r1
  have hmn : cl (min (cl i) (cl k)) = min (cl i) (cl k) := by
    rcases Nat.lt_or_ge (cl i) (cl k) with h | h
    · rw [Nat.min_eq_left (by omega)]; exact r1
    · rw [Nat.min_eq_right (by omega)]; exact r2
  refine filter_lt (b := max (cl i) (cl k)) (fun x hx hq => ?_) (List.mem_range.mpr (by omega)) (by simpa using hmx) ?_
  · have hq : joinC cl i k x = x := by simpa using hq
    unfold joinC at hq
    split at hq
    · rename_i h
      rw [← hq, hmn] at h
      omega
    · simpa using hq
  · have : joinC cl i k (max (cl i) (cl k)) ≠ max (cl i) (cl k) := by
      unfold joinC
      rw [hmx, if_pos rfl]; omega
    simpa using this

/-! ### what classes that are closed tell -/
/-- The first place of a class that is no variable. -/
def HeadC (P : Pl sig) (cl : Nat → Nat) (c : Nat) (h : Option Nat) : Prop := match h with
  | none => ∀ i, i < P.n → cl i = c → P.code i < 0
  | some h => h < P.n ∧ cl h = c ∧ 0 ≤ P.code h
def OkAt (P : Pl sig) (cl : Nat → Nat) (i : Nat) : Prop := 0 ≤ P.code i → ∀ h, h < P.n → cl h = cl i → 0 ≤ P.code h → (∀ j, j < h → cl j = cl i → P.code j < 0) → P.code h = P.code i ∧ ∀ (m x y : Nat), (P.kid i)[m]? = some x → (P.kid h)[m]? = some y → cl x = cl y
/-- The term of a class. -/
inductive Td (P : Pl sig) (cl : Nat → Nat) : Nat → List Int → Prop
  | var {c : Nat} : c < P.n → cl c = c → (∀ i, i < P.n → cl i = c → P.code i < 0) → Td P cl c [P.code c]
  | tree {c h : Nat} {us : List (List Int)} : h < P.n → cl h = c → 0 ≤ P.code h → (∀ j, j < h → cl j = c → P.code j < 0) → us.length = (P.kid h).length → (∀ (m x : Nat) u, (P.kid h)[m]? = some x → us[m]? = some u → Td P cl (cl x) u) → Td P cl c (P.code h :: us.flatten)
theorem Td.fn {cl : Nat → Nat} {c : Nat} {u : List Int} (t : Td P cl c u) : ∀ {u' : List Int}, Td P cl c u' → u = u' := by
  induction t with
  | var h1 h2 h3 =>
    intro u' t'
    cases t' with
    | var => rfl
    | tree q1 q2 q3 => have := h3 _ q1 q2; omega
  | @tree c h us h1 h2 h3 h4 h5 h6 ih =>
    intro u' t'
    cases t' with
    | var q1 q2 q3 => have := q3 _ h1 h2; omega
    | @tree _ h' us' q1 q2 q3 q4 q5 q6 =>
      have hh : h = h' := by
        rcases Nat.lt_trichotomy h h' with hl | hl | hl
        · have := q4 h hl h2; omega
        · exact hl
        · have := h4 h' hl q2; omega
      subst hh
      have : us = us' := by
        apply List.ext_getElem?
        intro m
        by_cases hm : m < us.length
        · have hx : (P.kid h)[m]? = some (P.kid h)[m] := List.getElem?_eq_getElem (by omega)
          have hu : us[m]? = some us[m] := List.getElem?_eq_getElem hm
          have hu' : us'[m]? = some us'[m] := List.getElem?_eq_getElem (by omega)
          rw [hu, hu', ih m _ _ hx hu (q6 m _ _ hx hu')]
        · rw [List.getElem?_eq_none (by omega), List.getElem?_eq_none (by omega)]
      rw [this]
theorem Td.term {cl : Nat → Nat} {c : Nat} {u : List Int} (t : Td P cl c u) : isTerm sig u := by
  induction t with
  | var h1 h2 h3 =>
    rename_i c
    have := P.term h1
    rw [P.var h1 (h3 c h1 h2)] at this
    exact this
  | @tree c h us h1 h2 h3 h4 h5 h6 ih =>
    obtain ⟨a2, a3, a4⟩ := P.tree h1 h3
    have ht := P.term h1
    rw [a2] at ht
    have hall : ∀ u ∈ us, isTerm sig u := fun u hu => by
      obtain ⟨m, hm⟩ := List.getElem?_of_mem hu
      have hml := (List.getElem?_eq_some_iff.mp hm).1
      exact ih m _ _ (List.getElem?_eq_getElem (by omega)) hm
    have hs := scan_flat sig us hall
    unfold isTerm scan at ht ⊢
    split at ht
    · cases ht
    · rename_i hb
      rw [if_neg hb, Nat.zero_add, ← a3, ← h5]
      exact hs
theorem told_all {cl : Nat → Nat} (c : Cls P cl) (ok : ∀ i, i < P.n → OkAt P cl i) {τ : Int → List Int} (hv : ∀ i, i < P.n → P.code i < 0 → Td P cl (cl i) (τ (P.code i))) (hall : ∀ i, i < P.n → ∃ u, Td P cl (cl i) u) : ∀ (n i : Nat), i < P.n → (P.row i).length ≤ n → Td P cl (cl i) (app τ (P.row i)) := by
  intro n
  induction n with
  | zero =>
    intro i hi hn
    exact absurd (List.length_eq_zero_iff.mp (Nat.le_zero.mp hn)) (isTerm_ne (P.term hi))
  | succ n ih =>
    intro i hi hn
    by_cases h0 : P.code i < 0
    · rw [P.var hi h0, app_neg h0, app_nil, List.append_nil]
      exact hv i hi h0
    · obtain ⟨a2, a3, a4⟩ := P.tree hi (by omega)
      obtain ⟨u, hu⟩ := hall i hi
      generalize hc : cl i = ci at hu ⊢
      cases hu with
      | var q1 q2 q3 => have := q3 i hi hc; omega
      | @tree _ h us q1 q2 q3 q4 q5 q6 =>
        obtain ⟨e1, e2⟩ := ok i hi (by omega) h q1 (by rw [q2, hc]) q3 (fun j hj hjc => q4 j hj (by rw [hjc, hc]))
        obtain ⟨b2, b3, b4⟩ := P.tree q1 q3
        rw [a2, app_pos h0, app_flatten, ← e1]
        refine .tree q1 q2 q3 q4 (by simp [a3, b3, e1]) fun m y v hy hv' => ?_
        simp only [List.getElem?_map, Option.map_eq_some_iff] at hv'
        obtain ⟨r, ⟨x, hx, rfl⟩, rfl⟩ := hv'
        rw [← e2 m x y hx hy]
        refine ih x (a4 x (List.mem_of_getElem? hx)) ?_
        have hlen := congrArg List.length a2
        have hsub : (P.row x).length ≤ (((P.kid i).map P.row).flatten).length := by
          have : ∀ l : List (List Int), ∀ r ∈ l, r.length ≤ l.flatten.length := by
            intro l
            induction l with
            | nil => intro r hr; cases hr
            | cons s l ihl =>
              intro r hr
              rw [List.flatten_cons, List.length_append]
              rcases List.mem_cons.mp hr with rfl | hr
              · omega
              · have := ihl r hr; omega
          exact this _ _ (List.mem_map_of_mem (List.mem_of_getElem? hx))
        simp only [List.length_cons] at hlen
        omega
/-- Closed classes that all tell a term: there is a unifier. -/
theorem unif_closed {cl : Nat → Nat} (c : Cls P cl) (ok : ∀ i, i < P.n → OkAt P cl i) (hall : ∀ i, i < P.n → ∃ u, Td P cl (cl i) u) {x y : Nat} (hx : x < P.n) (hy : y < P.n) (hxy : cl x = cl y) : ∃ τ, Sub sig τ ∧ app τ (P.row x) = app τ (P.row y) := by
  classical
  let σ : Int → List Int := fun v => if h : ∃ u, ∃ z, z < P.n ∧ P.code z < 0 ∧ P.code z = v ∧ Td P cl (cl z) u then Classical.choose h else [-1]
  have hσ : ∀ z, z < P.n → P.code z < 0 → Td P cl (cl z) (σ (P.code z)) := fun z hz h0 => by
    obtain ⟨u, hu⟩ := hall z hz
    have h : ∃ u, ∃ w, w < P.n ∧ P.code w < 0 ∧ P.code w = P.code z ∧ Td P cl (cl w) u := ⟨u, z, hz, h0, rfl, hu⟩
    have e : σ (P.code z) = Classical.choose h := dif_pos h
    obtain ⟨w, h1, h2, h3, h4⟩ := Classical.choose_spec h
    rw [e, c.vars z w hz h1 h0 h3.symm]
    exact h4
  have hs : Sub sig σ := fun v => by
    by_cases h : ∃ u, ∃ z, z < P.n ∧ P.code z < 0 ∧ P.code z = v ∧ Td P cl (cl z) u
    · have e : σ v = Classical.choose h := dif_pos h
      obtain ⟨w, h1, h2, h3, h4⟩ := Classical.choose_spec h
      rw [e]; exact h4.term
    · have e : σ v = [-1] := dif_neg h
      rw [e]
      unfold isTerm scan
      have hb : badC sig.length (-1) = false := by
        simp only [badC, Bool.or_eq_false_iff, decide_eq_false_iff_not]
        omega
      rw [hb]
      simp [kids, scan]
  have key := told_all c ok hσ hall
  have t1 := key _ x hx (Nat.le_refl _)
  have t2 := key _ y hy (Nat.le_refl _)
  rw [hxy] at t1
  exact ⟨σ, hs, t1.fn t2⟩
/-- A class that never comes to an end: there is none. -/
theorem no_unif {cl : Nat → Nat} (c : Cls P cl) {τ : Int → List Int} (hs : Snd P τ cl) {N : Nat → Prop} (hN : ∀ r, r < P.n → cl r = r → N r → ∃ h, h < P.n ∧ cl h = r ∧ 0 ≤ P.code h ∧ ∃ k ∈ P.kid h, N (cl k)) : ∀ (m r : Nat), r < P.n → cl r = r → N r → (app τ (P.row r)).length ≤ m → False := by
  intro m
  induction m with
  | zero =>
    intro r hr hc hn hm
    obtain ⟨h, h1, h2, h3, k, hk, hnk⟩ := hN r hr hc hn
    have e := hs r h hr h1 (by rw [hc, h2])
    rw [e, (P.tree h1 h3).1, app_pos (by omega)] at hm
    simp at hm
  | succ m ih =>
    intro r hr hc hn hm
    obtain ⟨h, h1, h2, h3, k, hk, hnk⟩ := hN r hr hc hn
    obtain ⟨a2, a3, a4⟩ := P.tree h1 h3
    have e := hs r h hr h1 (by rw [hc, h2])
    rw [e, a2, app_pos (by omega), app_flatten] at hm
    have hkn := a4 k hk
    have e2 := hs (cl k) k (c.lt k hkn) hkn (c.root k hkn)
    refine ih (cl k) (c.lt k hkn) (c.root k hkn) hnk ?_
    rw [e2]
    have : ∀ l : List (List Int), ∀ r ∈ l, r.length ≤ l.flatten.length := by
      intro l
      induction l with
      | nil => intro r hr; cases hr
      | cons s l ihl =>
        intro r hr
        rw [List.flatten_cons, List.length_append]
        rcases List.mem_cons.mp hr with rfl | hr
        · omega
        · have := ihl r hr; omega
    have h5 := this _ _ (List.mem_map_of_mem (f := app τ) (List.mem_map_of_mem (f := P.row) hk))
    simp only [List.length_cons] at hm
    omega
end Go.Proofs.Sys

namespace Go.Proofs.YtnlhnlmnlfmojaaGreatDoor.Am
open Go Go.Proofs Sys Go.Lib
set_option linter.unusedVariables false
set_option linter.unusedSimpArgs false
set_option maxRecDepth 100000

/-- Where the terms of a row begin. -/
def sts (sig : Sg) : Nat → List Int → List Nat
  | _, [] => []
  | p, c :: t => p :: (sts sig (p + 1) t).drop (kids sig c)
def starts : Nat → List (List Int) → List Nat
  | _, [] => []
  | p, u :: us => p :: starts (p + u.length) us
theorem starts_len : ∀ (us : List (List Int)) (p : Nat), (starts p us).length = us.length
  | [], _ => rfl
  | u :: us, p => by rw [starts, List.length_cons, starts_len us, List.length_cons]
theorem sts_both (sig : Sg) : ∀ n : Nat, (∀ (u r : List Int) (p : Nat), isTerm sig u → u.length ≤ n → sts sig p (u ++ r) = p :: sts sig (p + u.length) r) := by
  intro n
  induction n with
  | zero => intro u r p hu hn; exact absurd (List.length_eq_zero_iff.mp (by omega)) (isTerm_ne hu)
  | succ n ih =>
    intro u r p hu hn
    obtain ⟨c, u1, rfl⟩ := List.exists_cons_of_ne_nil (isTerm_ne hu)
    have hk : ∃ us : List (List Int), us.length = kids sig c ∧ (∀ u ∈ us, isTerm sig u) ∧ us.flatten = u1 := by
      have h := hu
      unfold isTerm scan at h
      split at h
      · cases h
      · rw [Nat.zero_add] at h
        exact split_terms _ _ h
    obtain ⟨us, h1, h2, rfl⟩ := hk
    simp only [List.length_cons] at hn
    have many : ∀ (vs : List (List Int)) (q : Nat), (∀ v ∈ vs, isTerm sig v ∧ v.length ≤ n) → sts sig q (vs.flatten ++ r) = starts q vs ++ sts sig (q + vs.flatten.length) r := by
      intro vs
      induction vs with
      | nil => intro q _; simp [starts]
      | cons v vs ihv =>
        intro q hv
        rw [List.flatten_cons, List.append_assoc, ih v _ q (hv v (by simp)).1 (hv v (by simp)).2, ihv _ fun w hw => hv w (by simp [hw]), starts, List.length_append, Nat.add_assoc]
        rfl
    have hle : ∀ l : List (List Int), ∀ r ∈ l, r.length ≤ l.flatten.length := by
      intro l
      induction l with
      | nil => intro r hr; cases hr
      | cons s l ihl =>
        intro r hr
        rw [List.flatten_cons, List.length_append]
        rcases List.mem_cons.mp hr with rfl | hr
        · omega
        · have := ihl r hr; omega
    rw [List.cons_append, sts, many us (p + 1) fun v hv => ⟨h2 v hv, by have := hle us v hv; omega⟩, List.drop_left' (by rw [starts_len, h1]), List.length_cons]
    congr 2; omega
theorem sts_terms (sig : Sg) (r : List Int) : ∀ (us : List (List Int)) (p : Nat), (∀ u ∈ us, isTerm sig u) → sts sig p (us.flatten ++ r) = starts p us ++ sts sig (p + us.flatten.length) r
  | [], p, _ => by simp [starts]
  | u :: us, p, h => by
    rw [List.flatten_cons, List.append_assoc, sts_both sig u.length u _ p (h u (by simp)) (Nat.le_refl _), sts_terms sig r us _ fun w hw => h w (by simp [hw]), starts, List.length_append, Nat.add_assoc]
    rfl
theorem starts_rows {sig : Sg} {l r : List Int} : ∀ (us : List (List Int)) (p : Nat), l.drop p = us.flatten ++ r → (∀ u ∈ us, isTerm sig u) → (starts p us).map (subT sig l) = us ∧ ∀ k ∈ starts p us, k < l.length
  | [], p, _, _ => ⟨rfl, fun k hk => by cases hk⟩
  | u :: us, p, hd, h => by
    rw [List.flatten_cons, List.append_assoc] at hd
    have hu := h u (by simp)
    have hd2 : l.drop (p + u.length) = us.flatten ++ r := by rw [← List.drop_drop, hd, List.drop_left]
    obtain ⟨e1, e2⟩ := starts_rows us (p + u.length) hd2 fun w hw => h w (by simp [hw])
    refine ⟨by rw [starts, List.map_cons, e1, subT_of hd hu], fun k hk => ?_⟩
    rw [starts] at hk
    rcases List.mem_cons.mp hk with rfl | hk
    · have h1 := congrArg List.length hd
      have := List.length_pos_iff.mpr (isTerm_ne hu)
      simp only [List.length_drop, List.length_append] at h1
      omega
    · exact e2 k hk
/-- The places right below a place of one term. -/
def kidP (sig : Sg) (t : List Int) (i : Nat) : List Nat := (sts sig (i + 1) (t.drop (i + 1))).take (kids sig (t.getD i (-1)))
theorem getD_at {t : List Int} {i : Nat} (hi : i < t.length) {d : Int} : t.getD i d = t[i] := by rw [List.getD_eq_getElem?_getD, List.getElem?_eq_getElem hi]; rfl
theorem one_place {sig : Sg} {t : List Int} (ht : isTerm sig t) {i : Nat} (hi : i < t.length) : isTerm sig (subT sig t i) ∧ (t.getD i (-1) < 0 → subT sig t i = [t.getD i (-1)]) ∧
    (0 ≤ t.getD i (-1) → subT sig t i = t.getD i (-1) :: ((kidP sig t i).map (subT sig t)).flatten ∧ (kidP sig t i).length = kids sig (t.getD i (-1)) ∧ ∀ k ∈ kidP sig t i, k < t.length) := by
  obtain ⟨u, r, hd, hu⟩ := scan_at sig t 1 i ht hi
  have hs := subT_of hd hu
  rw [hs]
  obtain ⟨c, u1, rfl⟩ := List.exists_cons_of_ne_nil (isTerm_ne hu)
  have hc : t.getD i (-1) = c := by
    rw [getD_at hi]
    have : (t.drop i)[0]? = some c := by rw [hd]; rfl
    rw [List.getElem?_drop, Nat.add_zero, List.getElem?_eq_getElem hi] at this
    exact Option.some.inj this
  have hd1 : t.drop (i + 1) = u1 ++ r := by rw [← List.drop_drop, hd]; rfl
  refine ⟨hu, fun h0 => ?_, fun h0 => ?_⟩
  · rw [hc] at h0 ⊢
    obtain ⟨rfl, _⟩ := scan_var hu h0
    rfl
  · rw [hc] at h0
    obtain ⟨hcs, hsc⟩ := scan_sym hu h0
    obtain ⟨us, h1, h2, rfl⟩ := split_terms _ _ hsc
    have hk : kidP sig t i = starts (i + 1) us := by
      unfold kidP
      rw [hc, hd1, sts_terms sig r us _ h2, List.take_left' (by rw [starts_len, h1])]
    obtain ⟨e1, e2⟩ := starts_rows (l := t) us (i + 1) hd1 h2
    rw [hc, hk, e1]
    exact ⟨rfl, by rw [starts_len, h1], e2⟩
theorem sts_head {sig : Sg} {t : List Int} {i : Nat} (hi : i < t.length) : sts sig i (t.drop i) = i :: (sts sig (i + 1) (t.drop (i + 1))).drop (kids sig (t.getD i (-1))) := by
  rw [List.drop_eq_getElem_cons hi, sts, getD_at hi]
/-- The places of two terms, one behind the other. -/
def kid2 (sig : Sg) (a b : List Int) (i : Nat) : List Nat := if i < a.length then kidP sig a i else (kidP sig b (i - a.length)).map (· + a.length)
def pl2 {sig : Sg} {a b : List Int} (ha : isTerm sig a) (hb : isTerm sig b) : Pl sig where
  n := a.length + b.length
  code i := (a ++ b).getD i (-1)
  kid := kid2 sig a b
  row i := if i < a.length then subT sig a i else subT sig b (i - a.length)
  var := fun {i} hi h0 => by
    by_cases h : i < a.length
    · rw [if_pos h]
      have e : (a ++ b).getD i (-1) = a.getD i (-1) := by rw [List.getD_eq_getElem?_getD, List.getD_eq_getElem?_getD, List.getElem?_append_left h]
      rw [e] at h0 ⊢
      exact (one_place ha h).2.1 h0
    · rw [if_neg h]
      have e : (a ++ b).getD i (-1) = b.getD (i - a.length) (-1) := by rw [List.getD_eq_getElem?_getD, List.getD_eq_getElem?_getD, List.getElem?_append_right (by omega)]
      rw [e] at h0 ⊢
      exact (one_place hb (by omega)).2.1 h0
  tree := fun {i} hi h0 => by
    by_cases h : i < a.length
    · have e : (a ++ b).getD i (-1) = a.getD i (-1) := by rw [List.getD_eq_getElem?_getD, List.getD_eq_getElem?_getD, List.getElem?_append_left h]
      rw [e] at h0 ⊢
      obtain ⟨h1, h2, h3⟩ := (one_place ha h).2.2 h0
      unfold kid2
      rw [if_pos h, if_pos h]
      refine ⟨?_, h2, fun k hk => by have := h3 k hk; omega⟩
      conv => lhs; rw [h1]
      congr 2
      exact List.map_congr_left fun k hk => by rw [if_pos (h3 k hk)]
    · have e : (a ++ b).getD i (-1) = b.getD (i - a.length) (-1) := by rw [List.getD_eq_getElem?_getD, List.getD_eq_getElem?_getD, List.getElem?_append_right (by omega)]
      rw [e] at h0 ⊢
      obtain ⟨h1, h2, h3⟩ := (one_place hb (show i - a.length < b.length by omega)).2.2 h0
      unfold kid2
      rw [if_neg h, if_neg h]
      refine ⟨?_, by rw [List.length_map]; exact h2, fun k hk => ?_⟩
      · conv => lhs; rw [h1]
        congr 2
        rw [List.map_map]
        exact List.map_congr_left fun k hk => by
          show _ = if k + a.length < a.length then _ else subT sig b (k + a.length - a.length)
          rw [if_neg (by omega), Nat.add_sub_cancel]
      · obtain ⟨q, hq, rfl⟩ := List.mem_map.mp hk
        have := h3 q hq
        omega
  term := fun {i} hi => by
    by_cases h : i < a.length
    · rw [if_pos h]; exact (one_place ha h).1
    · rw [if_neg h]; exact (one_place hb (by omega)).1
/-- The classes at the beginning. -/
def cls0 (L : List Int) (i : Nat) : Nat := if L.getD i (-1) < 0 then L.idxOf (L.getD i (-1)) else i
theorem cls0_ok {sig : Sg} {a b : List Int} (ha : isTerm sig a) (hb : isTerm sig b) : Cls (pl2 ha hb) (cls0 (a ++ b)) ∧ ∀ τ, Snd (pl2 ha hb) τ (cls0 (a ++ b)) := by
  have mem : ∀ i, i < (a ++ b).length → (a ++ b).getD i (-1) ∈ a ++ b := fun i hi => by rw [getD_at hi]; exact List.getElem_mem hi
  have hn : (pl2 ha hb).n = (a ++ b).length := by simp [pl2]
  have at_ : ∀ i, i < (a ++ b).length → (a ++ b).getD i (-1) < 0 → cls0 (a ++ b) i < (a ++ b).length ∧ (a ++ b).getD (cls0 (a ++ b) i) (-1) = (a ++ b).getD i (-1) := fun i hi h0 => by
    have hl := List.idxOf_lt_length_of_mem (mem i hi)
    unfold cls0
    rw [if_pos h0]
    refine ⟨hl, ?_⟩
    rw [getD_at hl, List.getElem_idxOf hl]
  refine ⟨⟨fun i hi => ?_, fun i hi => ?_, fun i j hi hj h0 he => ?_⟩, fun τ i j hi hj h => ?_⟩
  · rw [hn] at hi ⊢
    by_cases h0 : (a ++ b).getD i (-1) < 0
    · exact (at_ i hi h0).1
    · unfold cls0; rw [if_neg h0]; exact hi
  · rw [hn] at hi
    by_cases h0 : (a ++ b).getD i (-1) < 0
    · have e := (at_ i hi h0).2
      have e1 : cls0 (a ++ b) i = (a ++ b).idxOf ((a ++ b).getD i (-1)) := by unfold cls0; rw [if_pos h0]
      have gen : ∀ j, (a ++ b).getD j (-1) < 0 → cls0 (a ++ b) j = (a ++ b).idxOf ((a ++ b).getD j (-1)) := fun j hj => if_pos hj
      rw [gen _ (by rw [e]; exact h0), e, ← e1]
    · have : cls0 (a ++ b) i = i := by unfold cls0; rw [if_neg h0]
      rw [this, this]
  · have h0 : (a ++ b).getD i (-1) < 0 := h0
    have he : (a ++ b).getD i (-1) = (a ++ b).getD j (-1) := he
    unfold cls0
    rw [if_pos h0, ← he, if_pos h0]
  · rw [hn] at hi hj
    -- one class at the beginning: one code, or one place
    have key : i = j ∨ ((a ++ b).getD i (-1) < 0 ∧ (a ++ b).getD i (-1) = (a ++ b).getD j (-1)) := by
      by_cases h0 : (a ++ b).getD i (-1) < 0
      · by_cases h1 : (a ++ b).getD j (-1) < 0
        · right
          refine ⟨h0, ?_⟩
          rw [← (at_ i hi h0).2, ← (at_ j hj h1).2, h]
        · have e : cls0 (a ++ b) j = j := by unfold cls0; rw [if_neg h1]
          have := (at_ i hi h0).2
          rw [h, e] at this
          rw [this] at h1
          exact absurd h0 h1
      · have e : cls0 (a ++ b) i = i := by unfold cls0; rw [if_neg h0]
        by_cases h1 : (a ++ b).getD j (-1) < 0
        · have := (at_ j hj h1).2
          rw [← h, e] at this
          rw [this] at h0
          exact absurd h1 h0
        · have e2 : cls0 (a ++ b) j = j := by unfold cls0; rw [if_neg h1]
          left
          rw [← e, ← e2]; exact h
    rcases key with rfl | ⟨h0, he⟩
    · rfl
    · have r1 := (pl2 ha hb).var (by rw [hn]; exact hi) h0
      have r2 := (pl2 ha hb).var (i := j) (by rw [hn]; exact hj) (by show (a ++ b).getD j (-1) < 0; rw [← he]; exact h0)
      rw [r1, r2]
      show app τ [(a ++ b).getD i (-1)] = app τ [(a ++ b).getD j (-1)]
      rw [he]
end Go.Proofs.YtnlhnlmnlfmojaaGreatDoor.Am

namespace Go.Proofs.YtnlhnlmnlfmojaaGreatDoor.Am
open Go Go.Proofs Sys Go.Lib
set_option linter.unusedVariables false
set_option linter.unusedSimpArgs false
set_option maxRecDepth 100000
variable {D : Orc} {T : H → Prop}

theorem Hp.freeze_rows {h0 h : H} {R : List Res} : ∀ (xs : List (Value × List Int)) {g : H}, Hp h0 h (rowsR xs ++ frzR g :: R) → ∃ g', Ext g g' ∧ (∀ x ∈ xs, Row g' x.1 (Z x.2)) ∧ Hp h0 h (frzR g' :: R)
  | [], g, o => ⟨g, Ext.refl g, by simp, o⟩
  | x :: xs, g, o => by
    have o1 : Hp h0 h (bufR x.1 (Z x.2) :: frzR g :: (rowsR xs ++ R)) := o.perm (List.Perm.cons _ List.perm_middle.symm)
    obtain ⟨g1, e1, r1, o2⟩ := o1.freeze
    obtain ⟨g2, e2, r2, o3⟩ := Hp.freeze_rows xs (o2.perm List.perm_middle)
    refine ⟨g2, e1.trans e2, fun y hy => ?_, o3⟩
    rcases List.mem_cons.mp hy with rfl | hy
    · exact (Buf.row r1).ext e2
    · exact r2 y hy
theorem rowsR_set {xs : List (Value × List Int)} {R : List Res} {i : Nat} {v : Value} {l : List Int} (hi : i < xs.length) : (rowsR xs ++ R).set i (bufR v (Z l)) = rowsR (xs.set i (v, l)) ++ R := by
  rw [List.set_append_left _ _ (by simp [rowsR]; exact hi)]
  unfold rowsR
  rw [List.map_set]
theorem rowsR_in {xs : List (Value × List Int)} {R : List Res} {i : Nat} {x : Value × List Int} (h : xs[i]? = some x) : (rowsR xs ++ R)[i]? = some (bufR x.1 (Z x.2)) := by
  rw [List.getElem?_append_left (by have := (List.getElem?_eq_some_iff.mp h).1; simpa [rowsR] using this)]
  exact rowsR_at h
theorem fst_one {h0 h : H} {L : List Res} {xs : List (Value × List Int)} (o : Hp h0 h L) (hm : ∀ x ∈ xs, bufR x.1 (Z x.2) ∈ L) : (xs.map Prod.fst).all one = true := by
  rw [List.all_eq_true]
  intro v hv
  obtain ⟨x, hx, rfl⟩ := List.mem_map.mp hv
  exact sl_one' (Buf.row (o.ok _ (hm x hx)))
def natZ (l : List Nat) : List Int := l.map fun k => ((k : Nat) : Int)
/-- A term's rows of places are laid out from the back. -/
theorem lay_rows {sg : List Sy} {sgv tv s2 : Value} {p0 rb n fr : Nat} {t : List Int} {h0 h1 : H} {O : List Res} (hs : Sr h0 sgv sg) (har : ArOk sg) (it : Ir h0 tv t) (ht : isTerm (S2 sg) t) (hfr : fr + t.length < 2 ^ 39)
    {K : Kl} {I : List Value → H → Prop} (hI : ∀ a0 a1 a2 a3 a4 a5 a6 a7 a8 h, round83_12 D I K a0 a1 a2 a3 a4 a5 a6 a7 a8 h → I [a0, a1, a2, a3, a4, a5, a6, a7, a8] h)
    (hK : ∀ (xs : List (Value × List Int)) (wv : Value) (W : List Value) (h : H), Hp h0 h (bufR wv W :: cellR rb (xs.map Prod.fst) :: (rowsR xs ++ O)) → xs.length = t.length → (∀ j x, xs[j]? = some x → x.2 = (kidP (S2 sg) t j).map fun k => ((fr + k : Nat) : Int)) → K (.e 2) [sgv, Pt p0, s2, .int .i64 ((n : Nat) : Int), .slice (some ⟨rb, 0, none⟩) t.length t.length] h) :
    ∀ (m : Nat) (xs : List (Value × List Int)) (wv : Value) (h : H), m ≤ t.length → Hp h0 h (bufR wv (Z (natZ (sts (S2 sg) m (t.drop m)).reverse)) :: cellR rb (xs.map Prod.fst) :: (rowsR xs ++ O)) → xs.length = t.length → (∀ j x, xs[j]? = some x → x.2 = if m ≤ j then (kidP (S2 sg) t j).map fun k => ((fr + k : Nat) : Int) else []) →
      I [sgv, Pt p0, s2, .int .i64 ((n : Nat) : Int), tv, .int .i64 ((fr : Nat) : Int), .slice (some ⟨rb, 0, none⟩) t.length t.length, wv, .int .i64 (((m : Nat) : Int) - 1)] h := by
  have hlen := it.len
  have hsl := hs.len
  have stl : ∀ (l : List Int) (q : Nat), (sts (S2 sg) q l).length ≤ l.length := by
    intro l
    induction l with
    | nil => intro q; simp [sts]
    | cons c l ih => intro q; rw [sts, List.length_cons, List.length_drop, List.length_cons]; have := ih (q + 1); omega
  have str : ∀ (l : List Int) (q : Nat), ∀ x ∈ sts (S2 sg) q l, x < q + l.length := by
    intro l
    induction l with
    | nil => intro q x hx; simp [sts] at hx
    | cons c l ih =>
      intro q x hx
      rw [sts] at hx
      rcases List.mem_cons.mp hx with rfl | hx
      · simp
      · have := ih (q + 1) x (List.mem_of_mem_drop hx)
        simp only [List.length_cons]; omega
  intro m
  induction m with
  | zero =>
    intro xs wv h hm o hxl hx
    refine hI _ _ _ _ _ _ _ _ _ _ ?_
    unfold round83_12
    rw [intK_int, intK_int, intK_int, cond_dec]
    refine ⟨fun hge => by omega, fun _ => hK xs wv _ h o hxl fun j x hj => by rw [hx j x hj, if_pos (by omega)]⟩
  | succ m ihm =>
    intro xs wv h hm o hxl hx
    refine hI _ _ _ _ _ _ _ _ _ _ ?_
    unfold round83_12
    have em : ((m + 1 : Nat) : Int) - 1 = ((m : Nat) : Int) := by omega
    rw [em, intK_int, intK_int, intK_int, cond_dec]
    have hmt : m < t.length := by omega
    have hq := one_place ht hmt
    have hgd : t.getD m (-1) = t[m] := getD_at hmt
    have htm : t[m]? = some t[m] := List.getElem?_eq_getElem hmt
    refine ⟨fun _ => ?_, fun hlt => by omega⟩
    refine (it.ext o.ext).at_ (by omega) (by omega) fun ad c hc _ hrd => ⟨c, hrd, ?_⟩
    rw [Int.toNat_natCast, htm] at hc
    obtain rfl := Option.some.inj hc
    rw [hgd] at hq
    -- the row of waiting terms, and how many stand below the place
    let S : List Nat := sts (S2 sg) (m + 1) (t.drop (m + 1))
    let kk : Nat := kids (S2 sg) t[m]
    have hkp : kidP (S2 sg) t m = S.take kk := by unfold kidP; rw [hgd]
    have hk8 : kk ≤ 8 ∧ kk ≤ S.length := by
      by_cases h0 : t[m] < 0
      · have : kk = 0 := by show kids (S2 sg) t[m] = 0; unfold kids; rw [if_pos h0]
        omega
      · obtain ⟨_, h2, _⟩ := hq.2.2 (by omega)
        rw [hkp, List.length_take] at h2
        have hcs := scan_codes (S2 sg) t 1 ht t[m] (List.getElem_mem hmt)
        rw [S2_len] at hcs
        obtain ⟨y, hy⟩ : ∃ y, sg[t[m].toNat]? = some y := ⟨sg[t[m].toNat]'(by omega), List.getElem?_eq_getElem (by omega)⟩
        have hkid := kids_of (sig := sg) (by omega) hy
        have hay := har y (List.mem_of_getElem? hy)
        have : kk = kids (S2 sg) t[m] := rfl
        omega
    have hSl : S.length ≤ t.length := by
      have := stl (t.drop (m + 1)) (m + 1)
      rw [List.length_drop] at this
      show (sts (S2 sg) (m + 1) (t.drop (m + 1))).length ≤ _
      omega
    have hSr : ∀ x ∈ S, x < t.length := fun x hx => by
      have := str (t.drop (m + 1)) (m + 1) x hx
      rw [List.length_drop] at this
      omega
    have hW : (natZ S.reverse).length = S.length := by simp [natZ]
    have go : j83_12_17 D I K sgv (Pt p0) s2 (.int .i64 ((n : Nat) : Int)) tv (.int .i64 ((fr : Nat) : Int)) (.slice (some ⟨rb, 0, none⟩) t.length t.length) wv (.int .i64 ((m : Nat) : Int)) (.int .i64 ((kk : Nat) : Int)) h := by
      unfold j83_12_17
      rw [intK_int, intK_int, intK_int, intK_int]
      intro I2 hI2
      have key := down_ind (P := fun j => ∀ (xs : List (Value × List Int)) (h : H), Hp h0 h (bufR wv (Z (natZ S.reverse)) :: cellR rb (xs.map Prod.fst) :: (rowsR xs ++ O)) → xs.length = t.length → (∀ q x, xs[q]? = some x → x.2 = if m + 1 ≤ q then (kidP (S2 sg) t q).map fun k => ((fr + k : Nat) : Int) else if q = m then (S.take j).map fun k => ((fr + k : Nat) : Int) else []) →
          I2 [sgv, Pt p0, s2, .int .i64 ((n : Nat) : Int), tv, .int .i64 ((fr : Nat) : Int), .slice (some ⟨rb, 0, none⟩) t.length t.length, wv, .int .i64 ((m : Nat) : Int), .int .i64 ((kk : Nat) : Int), .int .i64 ((j : Nat) : Int)] h) kk
        fun j hj ih2 xs h o hxl hx => by
        refine hI2 _ _ _ _ _ _ _ _ _ _ _ _ ?_
        unfold round83_18
        rw [intK_int, intK_int, intK_int, intK_int, intK_int, cond_dec]
        obtain ⟨x, hxm⟩ : ∃ x, xs[m]? = some x := ⟨_, List.getElem?_eq_getElem (by omega)⟩
        have hx2 := hx m x hxm
        rw [if_neg (by omega), if_pos rfl] at hx2
        refine ⟨fun hlt => ?_, fun hge => ?_⟩
        · have hj1 : j < kk := by omega
          have hjS : j < S.length := by omega
          have hfm : (xs.map Prod.fst)[m]? = some x.1 := by simp [hxm]
          refine (Row.cells (o.cell (i := 1) rfl) (by simp [hxl])).at_ (by omega) (by simp; omega) fun ad v hv hrd => ⟨v, hrd, ?_⟩
          rw [Int.toNat_natCast, hfm] at hv
          obtain rfl := Option.some.inj hv
          rw [(o.row (i := 0) rfl).len, Z_len, hW, i64_id (n := ((S.length : Nat) : Int) - 1) (by omega) (by omega), i64_id (by omega) (by omega)]
          refine (o.row (i := 0) rfl).at_ (by omega) (by rw [Z_len, hW]; omega) fun ad v hv hrd2 => ?_
          have hv2 : v = .int .i64 ((S[j] : Nat) : Int) := by
            have e : (((S.length : Nat) : Int) - 1 - ((j : Nat) : Int)).toNat = S.length - 1 - j := by omega
            rw [e] at hv
            unfold Z natZ at hv
            rw [List.getElem?_map, List.getElem?_map, List.getElem?_reverse (by omega), List.getElem?_eq_getElem (by omega)] at hv
            simp only [Option.map_some, Option.some.injEq] at hv
            rw [← hv]
            congr 3
            congr 1
            omega
          subst hv2
          have hSj := hSr S[j] (List.getElem_mem hjS)
          refine ⟨_, hrd2, rfl, by decide, ?_⟩
          rw [i64_id (by omega) (by omega)]
          have hrow : (bufR wv (Z (natZ S.reverse)) :: cellR rb (xs.map Prod.fst) :: (rowsR xs ++ O))[m + 2]? = some (bufR x.1 (Z x.2)) := rowsR_in hxm
          refine (o.push (i := m + 2) hrow (by decide) (by rw [Z_len, hx2]; simp; omega) rfl (O := True) (U := True) trivial trivial fun s' h9 o9 => ?_).2.2
          refine o9.stA (i := 1) (j := m) (l := xs.map Prod.fst) rfl hmt (by simp; omega) (sl_one' (o9.row (i := m + 2) (by rw [List.getElem?_set_self (List.getElem?_eq_some_iff.mp hrow).1]))) rfl fun h10 o10 => ?_
          rw [i64_id (by omega) (by omega)]
          have hz : Z x.2 ++ [Value.int .i64 (((fr : Nat) : Int) + ((S[j] : Nat) : Int))] = Z ((S.take (j + 1)).map fun k => ((fr + k : Nat) : Int)) := by
            have e : S.take (j + 1) = S.take j ++ [S[j]] := by rw [List.take_add_one, List.getElem?_eq_getElem hjS]; rfl
            rw [hx2, e, List.map_append]
            unfold Z
            rw [List.map_append]
            rfl
          rw [hz] at o10
          refine ih2 hj1 (xs.set m (s', (S.take (j + 1)).map fun k => ((fr + k : Nat) : Int))) h10 ?_ (by simp [hxl]) fun q y hy => ?_
          · have e : bufR wv (Z (natZ S.reverse)) :: cellR rb ((xs.set m (s', (S.take (j + 1)).map fun k => ((fr + k : Nat) : Int))).map Prod.fst) :: (rowsR (xs.set m (s', (S.take (j + 1)).map fun k => ((fr + k : Nat) : Int))) ++ O) = ((bufR wv (Z (natZ S.reverse)) :: cellR rb (xs.map Prod.fst) :: (rowsR xs ++ O)).set (m + 2) (bufR s' (Z ((S.take (j + 1)).map fun k => ((fr + k : Nat) : Int))))).set 1 (cellR rb ((xs.map Prod.fst).set m s')) := by
              rw [← rowsR_set (by omega), List.map_set]; rfl
            rw [e]; exact o10
          · rw [List.getElem?_set] at hy
            split at hy
            · rename_i hq'
              subst hq'
              rw [if_pos (by omega)] at hy
              obtain rfl := Option.some.inj hy
              rw [if_neg (by omega), if_pos rfl]
            · rename_i hq'
              have hqm : ¬ q = m := fun e => hq' e.symm
              rw [hx q y hy]
              by_cases h1 : m + 1 ≤ q
              · rw [if_pos h1, if_pos h1]
              · rw [if_neg h1, if_neg h1, if_neg hqm, if_neg hqm]
        · have hjk : j = kk := by omega
          dsimp only
          rw [xs_e]
          show cond true _ _
          rw [cond_true, nth0, nth1, nth2, nth3, nth4, nth5, nth6, nth7, nth8, nth9, intK_int, intK_int, intK_int, intK_int]
          rw [(o.row (i := 0) rfl).len, Z_len, hW, i64_id (n := ((S.length : Nat) : Int) - ((kk : Nat) : Int)) (by omega) (by omega)]
          refine o.upto (i := 0) rfl (by omega) (by rw [Z_len, hW]; omega) fun o2 => ?_
          refine ⟨rfl, by decide, ?_⟩
          have e1 : (((S.length : Nat) : Int) - ((kk : Nat) : Int)).toNat = S.length - kk := by omega
          rw [e1] at o2 ⊢
          have e2 : (Z (natZ S.reverse)).take (S.length - kk) = Z (natZ (S.drop kk).reverse) := by
            unfold Z natZ
            rw [← List.map_take, ← List.map_take, List.take_reverse]
            congr 4
            omega
          rw [e2] at o2
          refine (o2.push (i := 0) rfl (by decide) (by rw [Z_len]; simp [natZ]; omega) rfl (O := True) (U := True) trivial trivial fun s' h9 o9 => ?_).2.2
          rw [i64_id (by omega) (by omega)]
          have hd := sts_head (sig := S2 sg) hmt
          have e3 : Z (natZ (S.drop kk).reverse) ++ [Value.int .i64 ((m : Nat) : Int)] = Z (natZ (sts (S2 sg) m (t.drop m)).reverse) := by
            rw [hd, hgd, List.reverse_cons]
            simp [Z, natZ]; rfl
          rw [e3] at o9
          refine ihm xs s' h9 (by omega) o9 hxl fun q y hy => ?_
          rw [hx q y hy]
          by_cases h1 : m + 1 ≤ q
          · rw [if_pos h1, if_pos (by omega)]
          · by_cases h2 : q = m
            · subst h2
              rw [if_neg h1, if_pos rfl, if_pos (by omega), hkp, hjk]
            · rw [if_neg h1, if_neg h2, if_neg (by omega)]
      refine key 0 (by omega) xs h o hxl fun q x hq' => ?_
      rw [hx q x hq']
      by_cases h1 : m + 1 ≤ q
      · rw [if_pos h1, if_pos h1]
      · rw [if_neg h1, if_neg h1]
        split <;> rfl
    rw [cond_dec]
    refine ⟨fun hpos => ?_, fun hneg => ?_⟩
    · refine (it.ext o.ext).at_ (by omega) (by omega) fun ad c hc _ hrd => ⟨c, hrd, ?_⟩
      rw [Int.toNat_natCast, htm] at hc
      obtain rfl := Option.some.inj hc
      have hcs := scan_codes (S2 sg) t 1 ht t[m] (List.getElem_mem hmt)
      rw [S2_len] at hcs
      refine (hs.ext o.ext).row.at_ hpos (by rw [sgRow_len]; exact hcs.2) fun ad2 v hv _ hj => ?_
      obtain ⟨y, hy, rfl⟩ := sgRow_at hv
      refine ⟨y.2, hj 1 _ rfl, ?_⟩
      have hkid := kids_of (sig := sg) hpos hy
      have hay := har y (List.mem_of_getElem? hy)
      have : y.2 = ((kk : Nat) : Int) := by
        have : kk = kids (S2 sg) t[m] := rfl
        omega
      rw [this]
      exact go
    · have : kk = 0 := by show kids (S2 sg) t[m] = 0; unfold kids; rw [if_pos (by omega)]
      rw [this] at go
      exact go
end Go.Proofs.YtnlhnlmnlfmojaaGreatDoor.Am

namespace Go.Proofs.YtnlhnlmnlfmojaaGreatDoor.Am
open Go Go.Proofs Sys Go.Lib
set_option linter.unusedVariables false
set_option linter.unusedSimpArgs false
set_option maxRecDepth 100000
variable {D : Orc} {T : H → Prop}

theorem zat {h : H} {s : Value} {l : List Int} (r : Row h s (Z l)) {i : Nat} {x : Int} (hx : l[i]? = some x) {K : Int → Prop} (hK : K x) : slAtW s ((i : Nat) : Int) 1 fun ad => ∃ x : Int, rd h ad = some (.int .i64 x) ∧ K x := by
  have hi := (List.getElem?_eq_some_iff.mp hx).1
  refine r.at_ (by omega) (by rw [Z_len]; omega) fun ad v hv hrd => ?_
  rw [Int.toNat_natCast] at hv
  unfold Z at hv
  rw [List.getElem?_map, hx] at hv
  obtain rfl := Option.some.inj hv
  exact ⟨x, hrd, hK⟩
theorem vat {h : H} {s : Value} {vs : List Value} (r : Row h s vs) {i : Nat} {v : Value} (hx : vs[i]? = some v) {K : Value → Prop} (hK : K v) : slAtW s ((i : Nat) : Int) 1 fun ad => ∃ v : Value, rd h ad = some v ∧ K v := by
  have hi := (List.getElem?_eq_some_iff.mp hx).1
  refine r.at_ (by omega) (by omega) fun ad w hw hrd => ?_
  rw [Int.toNat_natCast, hx] at hw
  obtain rfl := Option.some.inj hw
  exact ⟨v, hrd, hK⟩
theorem apl {h : H} {sz bytes : Nat} {z ws : List Value} {s : Value} {m n : Nat} {K : Value → H → Prop} (hw : apW h sz bytes z s m ws K) (e : m = n) : apW h sz bytes z s n ws K := by subst e; exact hw
theorem idx_first {l : List Int} {q : Nat} {x : Int} (hq : l[q]? = some x) (hno : ∀ q', q' < q → l[q']? ≠ some x) : l.idxOf x = q := by
  have hql := (List.getElem?_eq_some_iff.mp hq).1
  have hm := List.mem_of_getElem? hq
  have hl := List.idxOf_lt_length_of_mem hm
  rcases Nat.lt_trichotomy (l.idxOf x) q with h | h | h
  · exact absurd (by rw [List.getElem?_eq_getElem hl, List.getElem_idxOf hl]) (hno _ h)
  · exact h
  · have h' : q < l.findIdx (· == x) := h
    have := List.not_of_lt_findIdx h'
    obtain ⟨_, hx⟩ := List.getElem?_eq_some_iff.mp hq
    simp [hx] at this
/-- What stays of a board. -/
structure BoM (g : H) (p0 : Nat) (L : List Int) (kid : Nat → List Nat) (cv kv clv : Value) : Prop where
  cell : g p0 = some (.cells [cv, kv, clv])
  codes : Row g cv (Z L)
  kids : ∃ ws, Row g kv ws ∧ ws.length = L.length ∧ ∀ i w, ws[i]? = some w → Row g w (Z (natZ (kid i)))
theorem kid2_fst {sig : Sg} {a b : List Int} {j : Nat} (hj : j < a.length) : (kidP sig a j).map (fun k => ((0 + k : Nat) : Int)) = natZ (kid2 sig a b (0 + j)) := by
  unfold kid2 natZ
  rw [if_pos (by omega)]
  simp
theorem kid2_snd {sig : Sg} {a b : List Int} {j : Nat} : (kidP sig b j).map (fun k => ((a.length + k : Nat) : Int)) = natZ (kid2 sig a b (a.length + j)) := by
  unfold kid2 natZ
  rw [if_neg (by omega), Nat.add_sub_cancel_left, List.map_map]
  exact List.map_congr_left fun k _ => by show _ = ((k + a.length : Nat) : Int); omega
def SpecLaid (D : Orc) (f : Nat) : Prop := ∀ sgv av bv sg (a b : List Int) h (k : Kv) kp, Sr h sgv sg → ArOk sg → Ir h av a → Ir h bv b → isTerm (S2 sg) a → isTerm (S2 sg) b → a.length + b.length < 2 ^ 38 →
  (∀ p0 g cv kv clv h', Hp h h' [frzR g, bufR clv (Z (natZ ((List.range (a.length + b.length)).map (cls0 (a ++ b)))))] → BoM g p0 (a ++ b) (kid2 (S2 sg) a b) cv kv clv → k (Pt p0) h') → D f [sgv, av, bv] h k kp
theorem spec83 (c : Cl83 D) : SpecLaid D 83 := by
  intro sgv av bv sg a b h k kp hs har ia ib hta htb hlen hk
  refine c _ _ _ _ _ _ ?_
  unfold F83
  refine (Hp.nil_ h).new_ fun p0 h1 hp0 o1 => ⟨sl_one' ia.row, by decide, sl_one' ib.row, by decide, ?_⟩
  refine o1.newSlN (n := 2) rfl fun s2 h3 o3 => ?_
  let Ot : Value → Value → List Int → List Value → H → List Res := fun cv kv l ws g => [cellR p0 [cv, kv, .slice none 0 0], bufR cv (Z l), bufR kv ws, frzR g, bufR s2 [av, bv]]
  have o4 : Hp h h3 (Ot (.slice none 0 0) (.slice none 0 0) [] [] noH) := by
    have := ((o3.add_frz.add_nil (a := none)).add_nil (a := none))
    refine this.perm ?_
    show List.Perm [cellR p0 _, bufR _ (Z []), bufR _ [], frzR noH, bufR s2 [av, bv]] [bufR _ [], bufR _ [], frzR noH, bufR s2 [av, bv], cellR p0 _]
    exact (List.perm_append_comm (l₁ := [cellR p0 _]) (l₂ := [bufR _ [], bufR _ [], frzR noH, bufR s2 [av, bv]]))
  let pre : Nat → List Int := fun n => if n = 0 then [] else if n = 1 then a else a ++ b
  have term : ∀ n, n < 2 → ∃ t tv, ([av, bv] : List Value)[n]? = some tv ∧ Ir h tv t ∧ isTerm (S2 sg) t ∧ pre (n + 1) = pre n ++ t ∧ ∀ j, j < t.length → (kidP (S2 sg) t j).map (fun k => (((pre n).length + k : Nat) : Int)) = natZ (kid2 (S2 sg) a b ((pre n).length + j)) := fun n hn => by
    match n, hn with
    | 0, _ => exact ⟨a, av, rfl, ia, hta, rfl, fun j hj => kid2_fst hj⟩
    | 1, _ => exact ⟨b, bv, rfl, ib, htb, rfl, fun j hj => kid2_snd⟩
  have prel : ∀ n, (pre n).length ≤ a.length + b.length := fun n => by
    show (if n = 0 then [] else if n = 1 then a else a ++ b).length ≤ _
    split
    · simp
    · split
      · omega
      · simp
  intro I hI
  have key := down_ind (P := fun n => ∀ (cv kv : Value) (ws : List Value) (g : H) (h' : H), Hp h h' (Ot cv kv (pre n) ws g) → ws.length = (pre n).length → (∀ i w, ws[i]? = some w → Row g w (Z (natZ (kid2 (S2 sg) a b i)))) → I [sgv, Pt p0, s2, .int .i64 ((n : Nat) : Int)] h') 2
    fun n hn ih cv kv ws g h' o hwl hw => by
    refine hI _ _ _ _ _ ?_
    unfold round83_4
    rw [intK_int, cond_dec]
    refine ⟨fun hlt => ?_, fun hge => ?_⟩
    · obtain ⟨t, tv, htv, it, ht, hpre, hkid⟩ := term n (by omega)
      have hpl := prel n
      have hpl2 := prel (n + 1)
      rw [hpre, List.length_append] at hpl2
      refine vat (o.row (i := 4) rfl) htv ⟨rfl, ldj (o.cell (i := 0) rfl) rfl ?_⟩
      rw [(o.row (i := 1) rfl).len, Z_len]
      refine ⟨rfl, ldj (o.cell (i := 0) rfl) rfl ?_⟩
      have it1 := it.ext o.ext
      rw [it1.row.slen]
      refine it1.row.src (Nat.le_refl _) ?_
      rw [List.take_length]
      refine o.app (i := 1) rfl Z_one (by decide) (by rw [Z_len, Z_len]; omega) fun cv' h5 o5 => ?_
      have hz : Z (pre n) ++ Z t = Z (pre (n + 1)) := by rw [hpre]; simp [Z]
      rw [hz] at o5
      refine ⟨rfl, o5.stj (i := 0) (j := 0) rfl (by simp) (sl_one' (o5.row (i := 1) rfl)) rfl fun h6 o6 => ?_⟩
      have o6 : Hp h h6 (Ot cv' kv (pre (n + 1)) ws g) := o6
      rw [(it.ext o6.ext).len_]
      refine o6.mkS (by omega) (by decide) fun rb h7 hrb o7 => ?_
      refine o7.newSl0 fun wv h8 o8 => ?_
      rw [(it.ext o8.ext).len_, i64_id (by omega) (by omega)]
      intro I2 hI2
      refine lay_rows (h1 := h) (O := Ot cv' kv (pre (n + 1)) ws g) hs har it ht (fr := (pre n).length) (by omega) hI2 (fun xs wv2 W h9 o9 hxl hx => ?_) t.length (List.replicate t.length (.slice none 0 0, [])) wv h8 (Nat.le_refl _) ?_ (by simp) fun j x hj => ?_
      · have o9 : Hp h h9 (Ot cv' kv (pre (n + 1)) ws g ++ (bufR wv2 W :: cellR rb (xs.map Prod.fst) :: rowsR xs)) := o9.perm List.perm_append_comm
        dsimp only
        rw [xs_e]
        show cond true _ _
        rw [cond_true, nth0, nth1, nth2, nth3, nth4, intK_int]
        refine ⟨rfl, ldj (o9.cell (i := 0) rfl) rfl ?_⟩
        rw [slenW_slice]
        have hrow : Row h9 (.slice (some ⟨rb, 0, none⟩) t.length t.length) (xs.map Prod.fst) := Row.cells (o9.cell (i := 6) rfl) (by simp [hxl])
        refine hrow.src (by simp [hxl]) ?_
        rw [List.take_of_length_le (by simp [hxl])]
        have hone := fst_one o9 (xs := xs) fun x hx => by
          have : bufR x.1 (Z x.2) ∈ rowsR xs := List.mem_map_of_mem hx
          simp [this]
        refine apl (o9.app (i := 2) rfl hone (by decide) (by simp [hxl, hwl]; omega) fun kv' h10 o10 => ?_) (by simp [hxl])
        refine ⟨rfl, o10.stj (i := 0) (j := 1) rfl (by simp) (sl_one' (o10.row (i := 2) rfl)) rfl fun h11 o11 => ?_⟩
        have o11 : Hp h h11 ([cellR p0 [cv', kv', .slice none 0 0], bufR cv' (Z (pre (n + 1))), bufR kv' (ws ++ xs.map Prod.fst), frzR g, bufR s2 [av, bv]] ++ ([bufR wv2 W, cellR rb (xs.map Prod.fst)] ++ rowsR xs)) := o11
        have o12 : Hp h h11 ([cellR p0 [cv', kv', .slice none 0 0], bufR cv' (Z (pre (n + 1))), bufR kv' (ws ++ xs.map Prod.fst), frzR g, bufR s2 [av, bv]] ++ rowsR xs) := o11.sub ((List.sublist_append_right _ _).append_left _)
        have o13 : Hp h h11 (rowsR xs ++ frzR g :: [cellR p0 [cv', kv', .slice none 0 0], bufR cv' (Z (pre (n + 1))), bufR kv' (ws ++ xs.map Prod.fst), bufR s2 [av, bv]]) := by
          refine o12.perm ?_
          refine List.Perm.trans ?_ List.perm_append_comm
          refine List.Perm.append_left _ ?_
          exact (List.perm_append_comm_assoc [frzR g] [cellR p0 [cv', kv', .slice none 0 0], bufR cv' (Z (pre (n + 1))), bufR kv' (ws ++ xs.map Prod.fst)] [bufR s2 [av, bv]])
        obtain ⟨g', eg, hr, o14⟩ := o13.freeze_rows
        have o15 : Hp h h11 (Ot cv' kv' (pre (n + 1)) (ws ++ xs.map Prod.fst) g') := o14.perm (List.perm_append_comm_assoc [cellR p0 [cv', kv', .slice none 0 0], bufR cv' (Z (pre (n + 1))), bufR kv' (ws ++ xs.map Prod.fst)] [frzR g'] [bufR s2 [av, bv]])
        rw [i64_id (by omega) (by omega)]
        refine ih (by omega) cv' kv' _ g' h11 o15 (by rw [hpre]; simp [hwl, hxl]) fun i w hi => ?_
        rw [List.getElem?_append] at hi
        split at hi
        · exact (hw i w hi).ext eg
        · rename_i hlt2
          simp only [List.getElem?_map, Option.map_eq_some_iff] at hi
          obtain ⟨x, hxi, rfl⟩ := hi
          have hr1 := hr x (List.mem_of_getElem? hxi)
          have hj := (List.getElem?_eq_some_iff.mp hxi).1
          rw [hx _ x hxi, hkid _ (by omega)] at hr1
          have e : (pre n).length + (i - ws.length) = i := by omega
          rw [e] at hr1
          exact hr1
      · have o9 := o8.add_nils t.length
        have e0 : natZ (sts (S2 sg) t.length (t.drop t.length)).reverse = [] := by rw [List.drop_length]; rfl
        rw [e0]
        refine o9.perm ?_
        show List.Perm (bufR wv (Z []) :: cellR rb ((List.replicate t.length ((Value.slice none 0 0, ([] : List Int)) : Value × List Int)).map Prod.fst) :: (rowsR _ ++ _)) _
        rw [List.map_replicate]
        exact List.perm_append_comm_assoc [bufR wv (Z []), cellR rb _] (rowsR _) _
      · rw [List.getElem?_replicate] at hj
        split at hj
        · rename_i hjl
          obtain rfl := Option.some.inj hj
          rw [if_neg (by omega)]
        · cases hj
    · -- the classes at the beginning
      obtain rfl : n = 2 := by omega
      have hp2 : pre 2 = a ++ b := rfl
      rw [hp2] at o hwl
      rw [xs_e]
      show cond true _ _
      rw [cond_true, nth0]
      generalize hL : a ++ b = L at o hwl hk
      have hLl : L.length = a.length + b.length := by rw [← hL]; simp
      let Oc : Value → List Nat → List Res := fun clv cs => [cellR p0 [cv, kv, clv], bufR cv (Z L), bufR clv (Z (natZ cs)), bufR kv ws, frzR g]
      have o5 : Hp h h' (Oc (.slice none 0 0) []) := by
        have o6 : Hp h h' ([cellR p0 [cv, kv, .slice none 0 0], bufR cv (Z L), bufR kv ws, frzR g] ++ [bufR s2 [av, bv]]) := o
        have o7 := o6.sub (List.sublist_append_left _ _)
        exact (o7.add_nil (a := none)).perm (List.perm_append_comm_assoc [cellR p0 [cv, kv, .slice none 0 0], bufR cv (Z L)] [bufR (.slice none 0 0) []] [bufR kv ws, frzR g])
      intro I2 hI2
      have key2 := down_ind (P := fun i => ∀ (clv : Value) (h' : H), Hp h h' (Oc clv ((List.range i).map (cls0 L))) → I2 [Pt p0, .int .i64 ((i : Nat) : Int)] h') L.length
        fun i hi ih2 clv h' o => by
        refine hI2 _ _ _ ?_
        unfold round83_24
        rw [intK_int]
        refine ⟨rfl, ldj (o.cell (i := 0) rfl) rfl ?_⟩
        rw [(o.row (i := 1) rfl).len, Z_len, cond_dec]
        refine ⟨fun hlt => ?_, fun hge2 => ?_⟩
        · have hi1 : i < L.length := by omega
          have hgi : L.getD i (-1) = L[i] := getD_at hi1
          intro I3 hI3
          have key3 := down_ind (P := fun q => (L[i] < 0 → ∀ q', q' < q → L[q']? ≠ some L[i]) → I3 [Pt p0, .int .i64 ((i : Nat) : Int), .int .i64 ((i : Nat) : Int), .int .i64 ((q : Nat) : Int)] h') i
            fun q hq ih3 hno => by
            refine hI3 _ _ _ _ _ ?_
            unfold round83_28
            rw [intK_int, intK_int, intK_int, cond_dec]
            -- a class is found
            have out : ∀ c : Nat, c = cls0 L i → (fun (x114 : X) (vs115 : List Value) (h113 : H) => xs x114 (True) (fun i116 => cond (Nat.beq i116 8) (intK IntKind.i64 (nth vs115 1) (fun x117 => intK IntKind.i64 (nth vs115 2) (fun x118 => nonNil (nth vs115 0) = true ∧ ptrW (nth vs115 0) (fun ad119 => ∃ v120 : Value, rd h113 (Addr.add ad119 2) = some v120 ∧ one (Value.int IntKind.i64 x118) = true ∧ 0 < 1 ∧ newSl h113 1 [(Value.int IntKind.i64 x118)] (fun s121 h122 => slenW s121 (fun n123 => srcW h122 1 s121 (n123) (fun w124 => apW h122 1 8 [(Value.int IntKind.i64 (0 : Int))] v120 (n123) w124 (fun s125 h126 => nonNil (nth vs115 0) = true ∧ ptrW (nth vs115 0) (fun ad127 => one s125 = true ∧ 1 = 1 ∧ ∃ h128, wr1 h126 (Addr.add ad127 2) s125 = some h128 ∧ I2 [(nth vs115 0), (Value.int IntKind.i64 (IntKind.wrap IntKind.i64 (x117 + (1 : Int))))] h128))))))))) (False)) (fun c => False)) (.e 8) [Pt p0, .int .i64 ((i : Nat) : Int), .int .i64 ((c : Nat) : Int)] h' := fun c hc => by
              dsimp only
              rw [xs_e]
              show cond true _ _
              rw [cond_true, nth0, nth1, nth2, intK_int, intK_int]
              refine ⟨rfl, ldj (o.cell (i := 0) rfl) rfl ⟨rfl, by decide, ?_⟩⟩
              refine (o.push (i := 2) rfl (by decide) (by simp [Z, natZ]; omega) rfl (O := True) (U := True) trivial trivial fun s' h9 o9 => ?_).2.2
              refine ⟨rfl, o9.stj (i := 0) (j := 2) rfl (by simp) (sl_one' (o9.row (i := 2) rfl)) rfl fun h10 o10 => ?_⟩
              rw [i64_id (by omega) (by omega)]
              refine ih2 hi1 s' h10 ?_
              have e : Z (natZ ((List.range i).map (cls0 L))) ++ [Value.int .i64 ((c : Nat) : Int)] = Z (natZ ((List.range (i + 1)).map (cls0 L))) := by
                rw [List.range_succ, hc]
                simp [Z, natZ]
              rw [e] at o10
              exact o10
            refine ⟨fun hlt2 => ?_, fun hge2 => ?_⟩
            · refine ⟨rfl, ldj (o.cell (i := 0) rfl) rfl (zat (o.row (i := 1) rfl) (List.getElem?_eq_getElem hi1) ?_)⟩
              rw [cond_dec]
              refine ⟨fun hneg => ?_, fun hpos => ?_⟩
              · have hqL : q < L.length := by omega
                refine ⟨rfl, ldj (o.cell (i := 0) rfl) rfl (zat (o.row (i := 1) rfl) (List.getElem?_eq_getElem hqL) ?_)⟩
                refine ⟨rfl, ldj (o.cell (i := 0) rfl) rfl (zat (o.row (i := 1) rfl) (List.getElem?_eq_getElem hi1) ?_)⟩
                rw [cond_eq]
                refine ⟨fun heq => ?_, fun hne => ?_⟩
                · refine out q ?_
                  unfold cls0
                  rw [hgi, if_pos hneg]
                  exact (idx_first (List.getElem?_eq_getElem hqL |>.trans (by rw [heq])) (hno hneg)).symm
                · rw [i64_id (by omega) (by omega)]
                  refine ih3 (by omega) fun hneg' q' hq' => ?_
                  by_cases e : q' = q
                  · subst e
                    rw [List.getElem?_eq_getElem hqL]
                    exact fun h => hne (Option.some.inj h)
                  · exact hno hneg' q' (by omega)
              · refine out i ?_
                unfold cls0
                rw [hgi, if_neg hpos]
            · refine out i ?_
              unfold cls0
              rw [hgi]
              by_cases hneg : L[i] < 0
              · rw [if_pos hneg]
                obtain rfl : q = i := by omega
                exact (idx_first (List.getElem?_eq_getElem hi1) (hno hneg)).symm
              · rw [if_neg hneg]
          exact key3 0 (by omega) fun _ q' hq' => by omega
        · dsimp only
          rw [xs_e]
          show cond true _ _
          rw [cond_true, nth0]
          obtain rfl : i = L.length := by omega
          have o6 : Hp h h' [cellR p0 [cv, kv, clv], bufR cv (Z L), bufR clv (Z (natZ ((List.range L.length).map (cls0 L)))), bufR kv ws, frzR g] := o
          have o7 : Hp h h' (cellR p0 [cv, kv, clv] :: frzR g :: [bufR cv (Z L), bufR kv ws, bufR clv (Z (natZ ((List.range L.length).map (cls0 L))))]) := by
            refine o6.perm (.cons _ ?_)
            refine (List.perm_append_comm_assoc [frzR g] [bufR cv (Z L)] [bufR kv ws, bufR clv _]).trans (.cons _ ?_)
            refine (List.perm_append_comm (l₁ := [frzR g]) (l₂ := [bufR kv ws, bufR clv _])).trans ?_
            exact List.Perm.swap _ _ _
          obtain ⟨g1, eg1, f1, o8⟩ := o7.freeze
          obtain ⟨g2, eg2, f2, o9⟩ := (o8.perm (.swap _ _ _)).freeze
          obtain ⟨g3, eg3, f3, o10⟩ := (o9.perm (.swap _ _ _)).freeze
          rw [hLl] at o10
          exact hk p0 g3 cv kv clv h' o10 ⟨eg3 _ _ (eg2 _ _ f1), (Buf.row f2).ext eg3, ws, Buf.row f3, hwl, fun j w hj => (hw j w hj).ext (eg1.trans (eg2.trans eg3))⟩
      exact key2 0 (by omega) _ h' o5
  exact key 0 (by omega) _ _ [] noH h3 o4 rfl fun i w hi => by cases hi
end Go.Proofs.YtnlhnlmnlfmojaaGreatDoor.Am

namespace Go.Proofs.YtnlhnlmnlfmojaaGreatDoor.Am
open Go Go.Proofs Sys Go.Lib
set_option linter.unusedVariables false
set_option linter.unusedSimpArgs false
set_option maxRecDepth 100000
variable {D : Orc} {T : H → Prop}

theorem max_ii {a b : Int} {k : Value → Prop} (hk : k (.int .i64 (if a < b then b else a))) : minMax true [.int .i64 a, .int .i64 b] k := ⟨rfl, hk⟩
structure BoP {sig : Sg} (P : Pl sig) (g : H) (p0 : Nat) (L : List Int) (cv kv clv : Value) : Prop where
  bm : BoM g p0 L P.kid cv kv clv
  n : P.n = L.length
  code : ∀ i, P.code i = L.getD i (-1)
  few : P.n < 2 ^ 38
  kidl : ∀ i, i < P.n → (P.kid i).length < 2 ^ 40
abbrev clZ (n : Nat) (cl : Nat → Nat) : List Value := Z (natZ ((List.range n).map cl))
theorem clZ_len (n : Nat) (cl : Nat → Nat) : (clZ n cl).length = n := by simp [clZ, Z, natZ]
theorem cl_set {n q : Nat} {f f' : Nat → Nat} {y : Nat} (h1 : f' q = y) (h2 : ∀ x, x ≠ q → f' x = f x) : (clZ n f).set q (.int .i64 ((y : Nat) : Int)) = clZ n f' := by
  apply List.ext_getElem?
  intro x
  unfold clZ Z natZ
  rw [List.getElem?_set]
  simp only [List.getElem?_map, List.length_map, List.length_range]
  by_cases hx : x < n
  · rw [List.getElem?_range hx]
    split
    · rename_i e
      subst e
      rw [if_pos hx]
      simp [h1]
    · rename_i e
      simp [h2 x (fun h => e h.symm)]
  · rw [List.getElem?_eq_none (by simpa using hx)]
    split
    · rename_i e
      subst e
      rw [if_neg hx]; rfl
    · rfl
section
variable {sig : Sg} {P : Pl sig} {g h h0 : H} {p0 : Nat} {L : List Int} {cv kv clv : Value} {cl : Nat → Nat}
theorem BoP.cat (B : BoP P g p0 L cv kv clv) (e : Ext g h) {i : Nat} (hi : i < P.n) {K : Int → Prop} (hK : K (P.code i)) : slAtW cv ((i : Nat) : Int) 1 fun ad => ∃ x : Int, rd h ad = some (.int .i64 x) ∧ K x := by
  have hi' : i < L.length := by rw [← B.n]; exact hi
  refine zat (B.bm.codes.ext e) (List.getElem?_eq_getElem hi') ?_
  have : P.code i = L[i] := by rw [B.code, getD_at hi']
  rw [← this]; exact hK
theorem cl_at (rc : Row h clv (clZ P.n cl)) {i : Nat} (hi : i < P.n) {K : Int → Prop} (hK : K ((cl i : Nat) : Int)) : slAtW clv ((i : Nat) : Int) 1 fun ad => ∃ x : Int, rd h ad = some (.int .i64 x) ∧ K x :=
  zat rc (by simp [natZ, hi]) hK
theorem BoP.kat (B : BoP P g p0 L cv kv clv) (e : Ext g h) {i : Nat} (hi : i < P.n) {K : Value → Prop} (hK : ∀ w, Row h w (Z (natZ (P.kid i))) → K w) : slAtW kv ((i : Nat) : Int) 1 fun ad => ∃ v : Value, rd h ad = some v ∧ K v := by
  obtain ⟨ws, h1, h2, h3⟩ := B.bm.kids
  obtain ⟨w, hw⟩ : ∃ w, ws[i]? = some w := ⟨ws[i]'(by rw [h2, ← B.n]; exact hi), List.getElem?_eq_getElem (by rw [h2, ← B.n]; exact hi)⟩
  exact vat (h1.ext e) hw (hK w ((h3 i w hw).ext e))
/-- A class's head, as a number. -/
def HeadZ (P : Pl sig) (cl : Nat → Nat) (c : Nat) (hd : Int) : Prop := (hd = -1 ∧ ∀ i, i < P.n → cl i = c → P.code i < 0) ∨ ∃ q : Nat, hd = (q : Int) ∧ q < P.n ∧ cl q = c ∧ 0 ≤ P.code q ∧ ∀ j, j < q → cl j = c → P.code j < 0
theorem spec104 (c104 : Cl104 D) (B : BoP P g p0 L cv kv clv) (e : Ext g h) (rc : Row h clv (clZ P.n cl)) {c : Nat} {k : Kv} {kp : Kp} (hk : ∀ hd, HeadZ P cl c hd → k (.int .i64 hd) h) : D 104 [Pt p0, .int .i64 ((c : Nat) : Int)] h k kp := by
  refine c104 _ _ _ _ _ ?_
  unfold F104
  rw [intK_int]
  have hb := e _ _ B.bm.cell
  have few := B.few
  intro I hI
  have key := down_ind (P := fun i => (∀ j, j < i → cl j = c → P.code j < 0) → I [Pt p0, .int .i64 ((c : Nat) : Int), .int .i64 ((i : Nat) : Int)] h) P.n fun i hi ih hno => by
    refine hI _ _ _ _ ?_
    unfold round104_2
    rw [intK_int, intK_int]
    refine ⟨rfl, ldj hb rfl ?_⟩
    rw [(B.bm.codes.ext e).len, Z_len, ← B.n, cond_dec]
    refine ⟨fun hlt => ?_, fun hge => ?_⟩
    · have hi1 : i < P.n := by omega
      have next : ∀ {K : Kl}, (cl i = c → P.code i < 0) → j104_2_5 D I K (Pt p0) (.int .i64 ((c : Nat) : Int)) (.int .i64 ((i : Nat) : Int)) (.bool false) h := fun hn => by
        unfold j104_2_5
        rw [intK_int, intK_int, boolW_bool, cond_false, i64_id (by omega) (by omega)]
        refine ih hi1 fun j hj hc => ?_
        by_cases hji : j = i
        · subst hji; exact hn hc
        · exact hno j (by omega) hc
      refine ⟨rfl, ldj hb rfl (cl_at rc hi1 ?_)⟩
      rw [cond_eq]
      refine ⟨fun heq => ?_, fun hne => next fun h => absurd (by rw [h]) hne⟩
      refine ⟨rfl, ldj hb rfl (B.cat e hi1 ?_)⟩
      by_cases h0 : P.code i ≥ 0
      · rw [decide_eq_true h0]
        unfold j104_2_5
        rw [intK_int, intK_int, boolW_bool, cond_true]
        dsimp only
        rw [xs_r, nth0, intK_int]
        exact hk _ (.inr ⟨i, rfl, hi1, by omega, h0, hno⟩)
      · rw [decide_eq_false h0]
        exact next fun _ => by omega
    · dsimp only
      rw [xs_e]
      show cond true _ _
      rw [cond_true]
      exact hk _ (.inl ⟨rfl, fun j hj hc => hno j (by omega) hc⟩)
  exact key 0 (by omega) (by omega)
theorem spec84 (c84 : Cl84 D) (B : BoP P g p0 L cv kv clv) (o : Hp h0 h [frzR g, bufR clv (clZ P.n cl)]) (hc : Cls P cl) {i k : Nat} (hi : i < P.n) (hk : k < P.n) {K : Kv} {kp : Kp}
    (h1 : cl i = cl k → K (.bool false) h) (h2 : cl i ≠ cl k → ∀ h', Hp h0 h' [frzR g, bufR clv (clZ P.n (joinC cl i k))] → K (.bool true) h') : D 84 [Pt p0, .int .i64 ((i : Nat) : Int), .int .i64 ((k : Nat) : Int)] h K kp := by
  refine c84 _ _ _ _ _ _ ?_
  unfold F84
  rw [intK_int, intK_int]
  have e : Ext g h := o.get (i := 0) rfl
  have hb := e _ _ B.bm.cell
  have few := B.few
  have rc := o.row (i := 1) rfl
  have l1 := hc.lt i hi
  have l2 := hc.lt k hk
  refine ⟨rfl, ldj hb rfl (cl_at rc hi ⟨rfl, ldj hb rfl (cl_at rc hk (min_ii ?_))⟩)⟩
  refine ⟨rfl, ldj hb rfl (cl_at rc hi ⟨rfl, ldj hb rfl (cl_at rc hk (max_ii ?_))⟩)⟩
  have emin : (if ((cl k : Nat) : Int) < ((cl i : Nat) : Int) then ((cl k : Nat) : Int) else ((cl i : Nat) : Int)) = ((min (cl i) (cl k) : Nat) : Int) := by split <;> omega
  have emax : (if ((cl i : Nat) : Int) < ((cl k : Nat) : Int) then ((cl k : Nat) : Int) else ((cl i : Nat) : Int)) = ((max (cl i) (cl k) : Nat) : Int) := by split <;> omega
  rw [emin, emax, intK_int, intK_int, cond_eq]
  refine ⟨fun heq => h1 (by omega), fun hne => ?_⟩
  have hne' : cl i ≠ cl k := by omega
  intro I hI
  have key := down_ind (P := fun q => ∀ h', Hp h0 h' [frzR g, bufR clv (clZ P.n (fun x => if x < q then joinC cl i k x else cl x))] → I [Pt p0, .int .i64 ((min (cl i) (cl k) : Nat) : Int), .int .i64 ((max (cl i) (cl k) : Nat) : Int), .int .i64 ((q : Nat) : Int)] h') P.n fun q hq ih h' o' => by
    refine hI _ _ _ _ _ ?_
    unfold round84_6
    rw [intK_int, intK_int, intK_int]
    have hb' := (o'.get (i := 0) rfl : Ext g h') _ _ B.bm.cell
    have rc' := o'.row (i := 1) rfl
    refine ⟨rfl, ldj hb' rfl ?_⟩
    rw [rc'.len, clZ_len, cond_dec]
    refine ⟨fun hlt => ?_, fun hge => ?_⟩
    · have hq1 : q < P.n := by omega
      have next : ∀ {K : Kl} h', Hp h0 h' [frzR g, bufR clv (clZ P.n (fun x => if x < q + 1 then joinC cl i k x else cl x))] → j84_6_7 D I K (Pt p0) (.int .i64 ((min (cl i) (cl k) : Nat) : Int)) (.int .i64 ((max (cl i) (cl k) : Nat) : Int)) (.int .i64 ((q : Nat) : Int)) h' := fun h' o' => by
        unfold j84_6_7
        rw [intK_int, intK_int, intK_int, i64_id (by omega) (by omega)]
        exact ih hq1 h' o'
      refine ⟨rfl, ldj hb' rfl (cl_at rc' hq1 ?_)⟩
      rw [if_neg (show ¬ q < q by omega), cond_eq]
      refine ⟨fun heq => ?_, fun hne2 => ?_⟩
      · refine ⟨rfl, ldj hb' rfl ?_⟩
        refine o'.put (i := 1) (j := q) rfl (by rw [clZ_len]; exact hq1) rfl rfl fun h2' o2 => next h2' ?_
        have eset : (clZ P.n (fun x => if x < q then joinC cl i k x else cl x)).set q (.int .i64 ((min (cl i) (cl k) : Nat) : Int)) = clZ P.n (fun x => if x < q + 1 then joinC cl i k x else cl x) := by
          refine cl_set ?_ fun x hx => ?_
          · rw [if_pos (by omega)]
            unfold joinC
            rw [if_pos (by omega)]
          · by_cases h : x < q
            · rw [if_pos h, if_pos (by omega)]
            · rw [if_neg h, if_neg (by omega)]
        rw [eset] at o2
        exact o2
      · refine next h' ?_
        have : (fun x => if x < q + 1 then joinC cl i k x else cl x) = (fun x => if x < q then joinC cl i k x else cl x) := by
          funext x
          by_cases h : x < q
          · rw [if_pos h, if_pos (by omega)]
          · by_cases hx : x = q
            · subst hx
              rw [if_neg h, if_pos (by omega)]
              unfold joinC
              rw [if_neg (by omega)]
            · rw [if_neg h, if_neg (by omega)]
        rw [this]; exact o'
    · dsimp only
      rw [xs_e]
      show cond true _ _
      rw [cond_true]
      refine h2 hne' h' ?_
      have : clZ P.n (fun x => if x < q then joinC cl i k x else cl x) = clZ P.n (joinC cl i k) := by
        unfold clZ
        congr 2
        exact List.map_congr_left fun x hx => by rw [List.mem_range] at hx; rw [if_pos (by omega)]
      rw [this] at o'
      exact o'
  exact key 0 (by omega) h (by simpa using o)
end
end Go.Proofs.YtnlhnlmnlfmojaaGreatDoor.Am

namespace Go.Proofs.YtnlhnlmnlfmojaaGreatDoor.Am
open Go Go.Proofs Sys Go.Lib
set_option linter.unusedVariables false
set_option linter.unusedSimpArgs false
set_option maxRecDepth 100000
variable {D : Orc} {T : H → Prop}
section
variable {sig : Sg} {P : Pl sig} {g h h0 : H} {p0 : Nat} {L : List Int} {cv kv clv : Value}
/-- What holds of the classes all the while. -/
structure Jn (P : Pl sig) (x y : Nat) (cl : Nat → Nat) : Prop where
  cls : Cls P cl
  both : cl x = cl y
  snd : ∀ τ, Sub sig τ → app τ (P.row x) = app τ (P.row y) → Snd P τ cl
theorem Jn.join {x y : Nat} {cl : Nat → Nat} (j : Jn P x y cl) {i k : Nat} (hi : i < P.n) (hk : k < P.n) (hne : cl i ≠ cl k) (he : ∀ τ, Sub sig τ → app τ (P.row x) = app τ (P.row y) → app τ (P.row i) = app τ (P.row k)) : Jn P x y (joinC cl i k) :=
  ⟨j.cls.join hi hk hne, joinC_same j.both, fun τ hτ h => (j.snd τ hτ h).join hi hk (he τ hτ h)⟩
theorem head_first {cl : Nat → Nat} {i : Nat} (hi : i < P.n) (h0 : 0 ≤ P.code i) {hd : Int} (hh : HeadZ P cl (cl i) hd) : ∃ q : Nat, hd = (q : Int) ∧ q < P.n ∧ cl q = cl i ∧ 0 ≤ P.code q ∧ ∀ j, j < q → cl j = cl i → P.code j < 0 := by
  rcases hh with ⟨_, h1⟩ | h1
  · have := h1 i hi rfl; omega
  · exact h1
theorem spec85 (c85 : Cl85 D) (c84 : Cl84 D) (c104 : Cl104 D) (B : BoP P g p0 L cv kv clv) {x y : Nat} {cl : Nat → Nat} (jn : Jn P x y cl) (o : Hp h0 h [frzR g, bufR clv (clZ P.n cl)]) {K : Kv} {kp : Kp}
    (hno : ∀ h', Ext h0 h' → (∀ τ, Sub sig τ → app τ (P.row x) ≠ app τ (P.row y)) → K (.bool false) h') (hyes : ∀ cl' h', Jn P x y cl' → (∀ i, i < P.n → OkAt P cl' i) → Hp h0 h' [frzR g, bufR clv (clZ P.n cl')] → K (.bool true) h') : D 85 [Pt p0] h K kp := by
  refine c85 _ _ _ _ ?_
  unfold F85
  have few := B.few
  intro I hI
  have key : ∀ (m : Nat) (cl : Nat → Nat) (h : H), rootsN P.n cl ≤ m → Jn P x y cl → Hp h0 h [frzR g, bufR clv (clZ P.n cl)] → I [Pt p0, .bool true] h := by
    intro m
    induction m using Nat.strongRecOn with
    | _ m ihm =>
    intro cl h hm jn o
    refine hI _ _ _ ?_
    unfold round85_2
    rw [boolW_bool, cond_true]
    intro I2 hI2
    have key2 := down_ind (P := fun i => ∀ (t : Bool) (cl' : Nat → Nat) (h' : H), Jn P x y cl' → Hp h0 h' [frzR g, bufR clv (clZ P.n cl')] → (t = false → cl' = cl ∧ ∀ j, j < i → OkAt P cl j) → (t = true → rootsN P.n cl' < rootsN P.n cl) → I2 [Pt p0, .bool t, .int .i64 ((i : Nat) : Int)] h') P.n
      fun i hi ih t cl' h' jn' o' hf ht => by
      refine hI2 _ _ _ _ ?_
      unfold round85_5
      rw [boolW_bool, intK_int]
      have e : Ext g h' := o'.get (i := 0) rfl
      have hb := e _ _ B.bm.cell
      have rc := o'.row (i := 1) rfl
      refine ⟨rfl, ldj hb rfl ?_⟩
      rw [(B.bm.codes.ext e).len, Z_len, ← B.n, cond_dec]
      refine ⟨fun hlt => ?_, fun hge => ?_⟩
      · have hi1 : i < P.n := by omega
        have next : ∀ {K : Kl} (t : Bool) (cl' : Nat → Nat) (h' : H), Jn P x y cl' → Hp h0 h' [frzR g, bufR clv (clZ P.n cl')] → (t = false → cl' = cl ∧ ∀ j, j < i + 1 → OkAt P cl j) → (t = true → rootsN P.n cl' < rootsN P.n cl) → j85_5_6 D I2 K (Pt p0) (.bool t) (.int .i64 ((i : Nat) : Int)) h' := fun t cl' h' j' o' hf ht => by
          unfold j85_5_6
          rw [boolW_bool, intK_int, i64_id (by omega) (by omega)]
          exact ih hi1 t cl' h' j' o' hf ht
        have more : OkAt P cl' i → (t = false → cl' = cl ∧ ∀ j, j < i + 1 → OkAt P cl j) := fun hok hft => by
          obtain ⟨e1, e2⟩ := hf hft
          refine ⟨e1, fun j hj => ?_⟩
          by_cases hji : j = i
          · subst hji; rw [← e1]; exact hok
          · exact e2 j (by omega)
        refine ⟨rfl, ldj hb rfl (cl_at rc hi1 ?_)⟩
        refine spec104 c104 B e rc fun hd hh => ⟨_, rfl, ?_⟩
        refine ⟨rfl, ldj hb rfl (B.cat e hi1 ?_)⟩
        rw [cond_not, cond_dec]
        refine ⟨fun hneg => next t cl' h' jn' o' (more fun hp => by omega) ht, fun hpos => ?_⟩
        have hp : 0 ≤ P.code i := by omega
        obtain ⟨q, rfl, q1, q2, q3, q4⟩ := head_first hi1 hp hh
        rw [cond_eq]
        refine ⟨fun heq => ?_, fun hne => ?_⟩
        · have hqi : q = i := by omega
          subst hqi
          refine next t cl' h' jn' o' (more fun _ w w1 w2 w3 w4 => ?_) ht
          have hwq : w = q := by
            rcases Nat.lt_trichotomy w q with hl | hl | hl
            · have := q4 w hl w2; omega
            · exact hl
            · have := w4 q hl rfl; omega
          subst hwq
          exact ⟨rfl, fun m a b ha hb' => by rw [ha] at hb'; rw [Option.some.inj hb']⟩
        · refine ⟨rfl, ldj hb rfl (B.cat e q1 ⟨rfl, ldj hb rfl (B.cat e hi1 ?_)⟩)⟩
          have heqτ : ∀ τ, Sub sig τ → app τ (P.row x) = app τ (P.row y) → app τ (P.row i) = app τ (P.row q) := fun τ hτ he => jn'.snd τ hτ he i q hi1 q1 q2.symm
          rw [cond_ne]
          refine ⟨fun hcl => ?_, fun hceq => ?_⟩
          · show K (.bool false) h'
            refine hno h' o'.ext fun τ hτ he => ?_
            exact hcl (P.kids_eq hτ q1 hi1 q3 hp (heqτ τ hτ he).symm).1
          · obtain ⟨_, a3, a4⟩ := P.tree hi1 hp
            obtain ⟨_, b3, b4⟩ := P.tree q1 q3
            have hkl : (P.kid i).length = (P.kid q).length := by rw [a3, b3, hceq]
            intro I3 hI3
            have key3 := down_ind (P := fun m => ∀ (t' : Bool) (cl2 : Nat → Nat) (h2 : H), Jn P x y cl2 → Hp h0 h2 [frzR g, bufR clv (clZ P.n cl2)] → (t' = false → cl2 = cl ∧ (t = false ∧ ∀ j, j < i → OkAt P cl j) ∧ ∀ (m' u v : Nat), m' < m → (P.kid i)[m']? = some u → (P.kid q)[m']? = some v → cl u = cl v) → (t' = true → rootsN P.n cl2 < rootsN P.n cl) →
                I3 [Pt p0, .bool t', .int .i64 ((i : Nat) : Int), .int .i64 ((q : Nat) : Int), .int .i64 ((m : Nat) : Int)] h2) (P.kid i).length
              fun m hm ih3 t' cl2 h2 jn2 o2 hf2 ht2 => by
              refine hI3 _ _ _ _ _ _ ?_
              unfold round85_12
              rw [boolW_bool, intK_int, intK_int, intK_int]
              have e2 : Ext g h2 := o2.get (i := 0) rfl
              have hb2 := e2 _ _ B.bm.cell
              refine ⟨rfl, ldj hb2 rfl (B.kat e2 hi1 fun w rw_ => ?_)⟩
              rw [rw_.len, Z_len]
              have hnl : (natZ (P.kid i)).length = (P.kid i).length := by simp [natZ]
              rw [hnl, cond_dec]
              refine ⟨fun hlt2 => ?_, fun hge2 => ?_⟩
              · have hm1 : m < (P.kid i).length := by omega
                have hm2 : m < (P.kid q).length := by omega
                have hu := List.getElem?_eq_getElem hm1
                have hv := List.getElem?_eq_getElem hm2
                refine ⟨rfl, ldj hb2 rfl (B.kat e2 hi1 fun w1 r1 => zat r1 (x := (((P.kid i)[m] : Nat) : Int)) (by simp [natZ, hu]) ⟨rfl, ldj hb2 rfl (B.kat e2 q1 fun w2 r2 => zat r2 (x := (((P.kid q)[m] : Nat) : Int)) (by simp [natZ, hv]) ?_)⟩)⟩
                have hun := a4 _ (List.getElem_mem hm1)
                have hvn := b4 _ (List.getElem_mem hm2)
                have hm40 := B.kidl i hi1
                have fin : ∀ {K : Kl} (t' : Bool) (cl2 : Nat → Nat) (h2 : H), Jn P x y cl2 → Hp h0 h2 [frzR g, bufR clv (clZ P.n cl2)] → (t' = false → cl2 = cl ∧ (t = false ∧ ∀ j, j < i → OkAt P cl j) ∧ ∀ (m' u v : Nat), m' < m + 1 → (P.kid i)[m']? = some u → (P.kid q)[m']? = some v → cl u = cl v) → (t' = true → rootsN P.n cl2 < rootsN P.n cl) →
                    j85_12_13 D I3 K (Pt p0) (.bool t') (.int .i64 ((i : Nat) : Int)) (.int .i64 ((q : Nat) : Int)) (.int .i64 ((m : Nat) : Int)) h2 := fun t' cl2 h2 j2 o2 hf2 ht2 => by
                  unfold j85_12_13
                  rw [boolW_bool, intK_int, intK_int, intK_int, i64_id (by omega) (by omega)]
                  exact ih3 hm1 t' cl2 h2 j2 o2 hf2 ht2
                refine spec84 c84 B o2 jn2.cls hun hvn (fun hsame => ⟨_, rfl, ?_⟩) fun hdiff h3 o3 => ⟨_, rfl, ?_⟩
                · rw [cond_false]
                  refine fin t' cl2 h2 jn2 o2 (fun hft => ?_) ht2
                  obtain ⟨f1, f2, f3⟩ := hf2 hft
                  refine ⟨f1, f2, fun m' u v hm' hu' hv' => ?_⟩
                  by_cases hmm : m' = m
                  · subst hmm
                    rw [hu] at hu'
                    rw [hv] at hv'
                    rw [← Option.some.inj hu', ← Option.some.inj hv', ← f1]
                    exact hsame
                  · exact f3 m' u v (by omega) hu' hv'
                · rw [cond_true]
                  have hlt3 := jn2.cls.roots hun hvn hdiff
                  refine fin true _ h3 (jn2.join hun hvn hdiff fun τ hτ he => (P.kids_eq hτ hi1 q1 hp q3 (heqτ τ hτ he)).2 m _ _ hu hv) o3 (fun hb => by cases hb) fun _ => ?_
                  cases t' with
                  | true => have := ht2 rfl; omega
                  | false => rw [← (hf2 rfl).1]; exact hlt3
              · dsimp only
                rw [xs_e]
                show cond true _ _
                rw [cond_true, nth0, nth1, nth2, boolW_bool, intK_int]
                refine next t' cl2 h2 jn2 o2 (fun hft => ?_) ht2
                obtain ⟨f1, f2, f3⟩ := hf2 hft
                refine ⟨f1, fun j hj => ?_⟩
                by_cases hji : j = i
                · subst hji
                  intro _ w w1 w2 w3 w4
                  have hcl : t = false → cl' = cl := fun h => (hf h).1
                  have hq2 : cl q = cl j ∧ ∀ j', j' < q → cl j' = cl j → P.code j' < 0 := by
                    rw [← hcl f2.1]; exact ⟨q2, q4⟩
                  have hwq : w = q := by
                    rcases Nat.lt_trichotomy w q with hl | hl | hl
                    · have := hq2.2 w hl w2; omega
                    · exact hl
                    · have := w4 q hl hq2.1; omega
                  subst hwq
                  exact ⟨hceq, fun m' u v hu' hv' => f3 m' u v (by have := (List.getElem?_eq_some_iff.mp hu').1; omega) hu' hv'⟩
                · exact f2.2 j (by omega)
            exact key3 0 (by omega) t cl' h' jn' o' (fun hft => ⟨(hf hft).1, ⟨hft, (hf hft).2⟩, fun m' u v hm' => by omega⟩) ht
      · dsimp only
        rw [xs_e]
        show cond true _ _
        rw [cond_true, nth0, nth1, boolW_bool]
        cases t with
        | true => exact ihm (rootsN P.n cl') (by have := ht rfl; omega) cl' h' (Nat.le_refl _) jn' o'
        | false =>
          refine hI _ _ _ ?_
          unfold round85_2
          rw [boolW_bool, cond_false]
          obtain ⟨f1, f2⟩ := hf rfl
          subst f1
          exact hyes cl' h' jn' (fun j hj => f2 j (by omega)) o'
    exact key2 0 (by omega) false cl h jn o (fun _ => ⟨rfl, fun j hj => by omega⟩) fun hb => by cases hb
  exact key _ cl h (Nat.le_refl _) jn o
end
end Go.Proofs.YtnlhnlmnlfmojaaGreatDoor.Am

namespace Go.Proofs.YtnlhnlmnlfmojaaGreatDoor.Am
open Go Go.Proofs Sys Go.Lib
set_option linter.unusedVariables false
set_option linter.unusedSimpArgs false
set_option maxRecDepth 100000
variable {D : Orc} {T : H → Prop}
def nuL (n : Nat) (N : Nat → Int) : List Int := (List.range n).map N
theorem nu_at {n : Nat} {N : Nat → Int} {i : Nat} (hi : i < n) : (nuL n N)[i]? = some (N i) := by simp [nuL, hi]
theorem nu_set {n q : Nat} {N N' : Nat → Int} {y : Int} (h1 : N' q = y) (h2 : ∀ x, x ≠ q → N' x = N x) : (Z (nuL n N)).set q (.int .i64 y) = Z (nuL n N') := by
  apply List.ext_getElem?
  intro x
  unfold Z nuL
  rw [List.getElem?_set]
  simp only [List.getElem?_map, List.length_map, List.length_range]
  by_cases hx : x < n
  · rw [List.getElem?_range hx]
    split
    · rename_i e
      subst e
      rw [if_pos hx]
      simp [h1]
    · rename_i e
      simp [h2 x (fun h => e h.symm)]
  · rw [List.getElem?_eq_none (by simpa using hx)]
    split
    · rename_i e
      subst e
      rw [if_neg hx]; rfl
    · rfl
theorem nu_len (n : Nat) (N : Nat → Int) : (Z (nuL n N)).length = n := by simp [nuL, Z]
section
variable {sig : Sg} {P : Pl sig} {g h h0 : H} {p0 : Nat} {L : List Int} {cv kv clv : Value} {cl : Nat → Nat}
/-- What the sizes tell. -/
structure Szs (P : Pl sig) (cl : Nat → Nat) (N : Nat → Int) : Prop where
  rng : ∀ x, 0 ≤ N x ∧ N x ≤ 513
  td : ∀ r, r < P.n → cl r = r → N r > 0 → ∃ u, Td P cl r u
def Stuck (P : Pl sig) (cl : Nat → Nat) (N : Nat → Int) (r : Nat) : Prop := ∃ h, h < P.n ∧ cl h = r ∧ 0 ≤ P.code h ∧ ∃ k ∈ P.kid h, ¬ N (cl k) > 0
def unsN (n : Nat) (N : Nat → Int) : Nat := ((List.range n).filter fun x => decide (¬ N x > 0)).length
theorem td_list : ∀ l : List Nat, (∀ x ∈ l, ∃ u, Td P cl (cl x) u) → ∃ us : List (List Int), us.length = l.length ∧ ∀ (m x : Nat) u, l[m]? = some x → us[m]? = some u → Td P cl (cl x) u
  | [], _ => ⟨[], rfl, fun m x u h => by simp at h⟩
  | x :: l, h => by
    obtain ⟨u, hu⟩ := h x (by simp)
    obtain ⟨us, h1, h2⟩ := td_list l fun y hy => h y (by simp [hy])
    refine ⟨u :: us, by simp [h1], fun m y w hy hw => ?_⟩
    cases m with
    | zero =>
      obtain rfl : x = y := by simpa using hy
      obtain rfl : u = w := by simpa using hw
      exact hu
    | succ m => exact h2 m y w (by simpa using hy) (by simpa using hw)
theorem spec86 (c86 : Cl86 D) (c104 : Cl104 D) (B : BoP P g p0 L cv kv clv) (hc : Cls P cl) (o : Hp h0 h [frzR g, bufR clv (clZ P.n cl)]) {K : Kv} {kp : Kp}
    (hK : ∀ nv N h', Hp h0 h' [bufR nv (Z (nuL P.n N)), frzR g, bufR clv (clZ P.n cl)] → Szs P cl N → (∀ r, r < P.n → cl r = r → ¬ N r > 0 → Stuck P cl N r) → K nv h') : D 86 [Pt p0] h K kp := by
  refine c86 _ _ _ _ ?_
  unfold F86
  have few := B.few
  have e : Ext g h := o.get (i := 0) rfl
  refine ⟨rfl, ldj (e _ _ B.bm.cell) rfl ?_⟩
  rw [(B.bm.codes.ext e).len, Z_len, ← B.n]
  refine o.mkS (by omega) (by decide) fun nb h1 hnb o1 => ?_
  have o2 : Hp h0 h1 [bufR (.slice (some ⟨nb, 0, none⟩) P.n P.n) (Z (nuL P.n fun _ => 0)), frzR g, bufR clv (clZ P.n cl)] := by
    have := o1.cell_buf (i := 0) rfl (n := P.n) (by simp)
    have e : Z (nuL P.n fun _ => 0) = List.replicate P.n (Value.int .i64 0) := by
      unfold Z nuL
      rw [List.map_map]
      exact List.map_const' .. |>.trans (by simp)
    rw [e]; exact this
  generalize (Value.slice (some ⟨nb, 0, none⟩) P.n P.n) = nv at o2
  intro I hI
  have key : ∀ (m : Nat) (N : Nat → Int) (h : H), unsN P.n N ≤ m → Hp h0 h [bufR nv (Z (nuL P.n N)), frzR g, bufR clv (clZ P.n cl)] → Szs P cl N → I [Pt p0, nv, .bool true] h := by
    intro m
    induction m using Nat.strongRecOn with
    | _ m ihm =>
    intro N h hm o sz
    refine hI _ _ _ _ ?_
    unfold round86_3
    rw [boolW_bool, cond_true]
    intro I2 hI2
    have key2 := down_ind (P := fun c => ∀ (t : Bool) (N' : Nat → Int) (h' : H), Hp h0 h' [bufR nv (Z (nuL P.n N')), frzR g, bufR clv (clZ P.n cl)] → Szs P cl N' → (t = false → N' = N ∧ ∀ r, r < c → cl r = r → ¬ N r > 0 → Stuck P cl N r) → (t = true → unsN P.n N' < unsN P.n N) → (∀ x, N x > 0 → N' x > 0) →
        I2 [Pt p0, nv, .bool t, .int .i64 ((c : Nat) : Int)] h') P.n
      fun c hcn ih t N' h' o' sz' hf ht hmono => by
      refine hI2 _ _ _ _ _ ?_
      unfold round86_6
      rw [boolW_bool, intK_int]
      have e : Ext g h' := o'.get (i := 1) rfl
      have hb := e _ _ B.bm.cell
      have rc := o'.row (i := 2) rfl
      refine ⟨rfl, ldj hb rfl ?_⟩
      rw [(B.bm.codes.ext e).len, Z_len, ← B.n, cond_dec]
      refine ⟨fun hlt => ?_, fun hge => ?_⟩
      · have hc1 : c < P.n := by omega
        have next : ∀ {K : Kl} (t : Bool) (N' : Nat → Int) (h' : H), Hp h0 h' [bufR nv (Z (nuL P.n N')), frzR g, bufR clv (clZ P.n cl)] → Szs P cl N' → (t = false → N' = N ∧ ∀ r, r < c + 1 → cl r = r → ¬ N r > 0 → Stuck P cl N r) → (t = true → unsN P.n N' < unsN P.n N) → (∀ x, N x > 0 → N' x > 0) →
            j86_6_7 D I2 K (Pt p0) nv (.bool t) (.int .i64 ((c : Nat) : Int)) h' := fun t N' h' o' sz' hf ht hm => by
          unfold j86_6_7
          rw [boolW_bool, intK_int, i64_id (by omega) (by omega)]
          exact ih hc1 t N' h' o' sz' hf ht hm
        have more : (t = false → cl c = c → ¬ N c > 0 → Stuck P cl N c) → (t = false → N' = N ∧ ∀ r, r < c + 1 → cl r = r → ¬ N r > 0 → Stuck P cl N r) := fun hs hft => by
          obtain ⟨e1, e2⟩ := hf hft
          refine ⟨e1, fun r hr => ?_⟩
          by_cases hrc : r = c
          · subst hrc; exact hs hft
          · exact e2 r (by omega)
        refine ⟨rfl, ldj hb rfl (cl_at rc hc1 ?_)⟩
        rw [cond_not, cond_ne]
        refine ⟨fun hne => next t N' h' o' sz' (more fun _ hcc => absurd (by rw [hcc]) hne) ht hmono, fun heq => ?_⟩
        have hcc : cl c = c := by omega
        refine zat (o'.row (i := 0) rfl) (nu_at hc1) ?_
        rw [cond_dec]
        refine ⟨fun hpos => next t N' h' o' sz' (more fun hft _ hn => absurd (by rw [← (hf hft).1]; exact hpos) hn) ht hmono, fun hnpos => ?_⟩
        refine spec104 c104 B e rc fun hd hh => ⟨_, rfl, ?_⟩
        -- what is known once the head's kids have been looked at
        let Got : Bool → Prop := fun kn => (kn = true → ∃ u, Td P cl c u) ∧ (kn = false → Stuck P cl N' c)
        have fin : ∀ (s : Int) (kn : Bool), 1 ≤ s → s ≤ 513 → Got kn → ∀ {K : Kl}, (cond kn (slAtW nv ((c : Nat) : Int) 1 (fun ad66 => one (Value.int IntKind.i64 s) = true ∧ 1 = 1 ∧ ∃ h67, wr1 h' ad66 (Value.int IntKind.i64 s) = some h67 ∧ j86_6_7 D I2 K (Pt p0) nv (.bool true) (.int .i64 ((c : Nat) : Int)) h67)) (j86_6_7 D I2 K (Pt p0) nv (.bool t) (.int .i64 ((c : Nat) : Int)) h')) := fun s kn hs1 hs2 got => by
          intro K
          cases kn with
          | true =>
            rw [cond_true]
            obtain ⟨u, hu⟩ := got.1 rfl
            refine o'.put (i := 0) (j := c) rfl (by rw [nu_len]; exact hc1) rfl rfl fun h2 o2 => ?_
            have es : (Z (nuL P.n N')).set c (.int .i64 s) = Z (nuL P.n fun x => if x = c then s else N' x) := nu_set (by rw [if_pos rfl]) fun x hx => by rw [if_neg hx]
            rw [es] at o2
            have hlt2 : unsN P.n (fun x => if x = c then s else N' x) < unsN P.n N' := by
              refine Sys.filter_lt (b := c) (fun x _ hq => ?_) (List.mem_range.mpr hc1) (by simpa using hnpos) ?_
              · have hq : ¬ (if x = c then s else N' x) > 0 := by simpa using hq
                by_cases hx : x = c
                · rw [if_pos hx] at hq; omega
                · rw [if_neg hx] at hq; simpa using hq
              · simp; omega
            refine next true _ h2 o2 ⟨fun x => ?_, fun r hr hrr hp => ?_⟩ (fun hb => by cases hb) (fun _ => ?_) fun x hx => ?_
            · by_cases hx : x = c
              · rw [if_pos hx]; omega
              · rw [if_neg hx]; exact sz'.rng x
            · by_cases hx : r = c
              · subst hx; exact ⟨u, hu⟩
              · rw [if_neg hx] at hp; exact sz'.td r hr hrr hp
            · cases t with
              | true => have := ht rfl; omega
              | false => rw [← (hf rfl).1]; exact hlt2
            · by_cases hxc : x = c
              · rw [if_pos hxc]; omega
              · rw [if_neg hxc]; exact hmono x hx
          | false =>
            rw [cond_false]
            exact next t N' h' o' sz' (more fun hft _ _ => by rw [← (hf hft).1]; exact got.2 rfl) ht hmono
        intro I3 hI3
        rcases hh with ⟨rfl, hv⟩ | ⟨q, rfl, q1, q2, q3, q4⟩
        · refine hI3 _ _ _ _ _ _ _ _ _ ?_
          unfold round86_13
          rw [boolW_bool, intK_int, intK_int, boolW_bool, intK_int, intK_int, cond_dec]
          refine ⟨fun h => absurd h (by decide), fun _ => ?_⟩
          dsimp only
          rw [xs_e]
          show cond true _ _
          rw [cond_true, nth0, nth1, nth2, nth3, nth4, nth5, boolW_bool, intK_int, intK_int, boolW_bool]
          exact fin 1 true (by decide) (by decide) ⟨fun _ => ⟨_, .var hc1 hcc hv⟩, fun hb => by cases hb⟩
        · obtain ⟨_, a3, a4⟩ := P.tree q1 q3
          have hkl := B.kidl q q1
          have key3 := down_ind (P := fun m => ∀ (s : Int) (kn : Bool), 1 ≤ s → s ≤ 513 → (kn = true → ∀ (m' u : Nat), m' < m → (P.kid q)[m']? = some u → N' (cl u) > 0) → (kn = false → ∃ u ∈ P.kid q, ¬ N' (cl u) > 0) →
              I3 [Pt p0, nv, .bool t, .int .i64 ((c : Nat) : Int), .int .i64 s, .bool kn, .int .i64 ((q : Nat) : Int), .int .i64 ((m : Nat) : Int)] h') (P.kid q).length
            fun m hm ih3 s kn hs1 hs2 hk1 hk2 => by
            refine hI3 _ _ _ _ _ _ _ _ _ ?_
            unfold round86_13
            rw [boolW_bool, intK_int, intK_int, boolW_bool, intK_int, intK_int, decide_eq_true (by omega), cond_true]
            refine ⟨rfl, ldj hb rfl (B.kat e q1 fun w rw_ => ?_)⟩
            have hnl : (natZ (P.kid q)).length = (P.kid q).length := by simp [natZ]
            rw [rw_.len, Z_len, hnl, cond_dec]
            refine ⟨fun hlt2 => ?_, fun hge2 => ?_⟩
            · have hm1 : m < (P.kid q).length := by omega
              have hu := List.getElem?_eq_getElem hm1
              have hun := a4 _ (List.getElem_mem hm1)
              refine ⟨rfl, ldj hb rfl ⟨rfl, ldj hb rfl (B.kat e q1 fun w1 r1 => zat r1 (x := (((P.kid q)[m] : Nat) : Int)) (by simp [natZ, hu]) (cl_at rc hun (zat (o'.row (i := 0) rfl) (nu_at (hc.lt _ hun)) ?_)))⟩⟩
              have hr := sz'.rng (cl (P.kid q)[m])
              have go : ∀ {K : Kl} (kn' : Bool), (kn' = true → ∀ (m' u : Nat), m' < m + 1 → (P.kid q)[m']? = some u → N' (cl u) > 0) → (kn' = false → ∃ u ∈ P.kid q, ¬ N' (cl u) > 0) → j86_13_17 D I3 K (Pt p0) nv (.bool t) (.int .i64 ((c : Nat) : Int)) (.int .i64 s) (.bool kn') (.int .i64 ((q : Nat) : Int)) (.int .i64 ((m : Nat) : Int)) (.int .i64 (N' (cl (P.kid q)[m]))) h' := fun kn' g1 g2 => by
                unfold j86_13_17
                rw [boolW_bool, intK_int, intK_int, boolW_bool, intK_int, intK_int, intK_int]
                refine min_ii ?_
                rw [i64_id (n := s + N' (cl (P.kid q)[m])) (by omega) (by omega), i64_id (by omega) (by omega)]
                refine ih3 hm1 _ kn' ?_ ?_ g1 g2 <;> split <;> omega
              cases kn with
              | false => rw [cond_false]; exact go false (fun hb => by cases hb) hk2
              | true =>
                rw [cond_true]
                by_cases hp : N' (cl (P.kid q)[m]) > 0
                · rw [decide_eq_true hp]
                  refine go true (fun _ m' u hm' hu' => ?_) fun hb => by cases hb
                  by_cases hmm : m' = m
                  · subst hmm
                    rw [hu] at hu'
                    rw [← Option.some.inj hu']; exact hp
                  · exact hk1 rfl m' u (by omega) hu'
                · rw [decide_eq_false hp]
                  exact go false (fun hb => by cases hb) fun _ => ⟨_, List.getElem_mem hm1, hp⟩
            · dsimp only
              rw [xs_e]
              show cond true _ _
              rw [cond_true, nth0, nth1, nth2, nth3, nth4, nth5, boolW_bool, intK_int, intK_int, boolW_bool]
              refine fin s kn hs1 hs2 ⟨fun hkn => ?_, fun hkn => ?_⟩
              · obtain ⟨us, u1, u2⟩ := td_list (P := P) (cl := cl) (P.kid q) fun x hx => by
                  obtain ⟨m', hm'⟩ := List.getElem?_of_mem hx
                  have hml := (List.getElem?_eq_some_iff.mp hm').1
                  exact sz'.td _ (hc.lt x (a4 x hx)) (hc.root x (a4 x hx)) (hk1 hkn m' x (by omega) hm')
                exact ⟨_, .tree q1 q2 q3 q4 u1 u2⟩
              · obtain ⟨u, hu, hnu⟩ := hk2 hkn
                exact ⟨q, q1, q2, q3, u, hu, hnu⟩
          exact key3 0 (by omega) 1 true (by decide) (by decide) (fun _ m' u hm' => by omega) fun hb => by cases hb
      · dsimp only
        rw [xs_e]
        show cond true _ _
        rw [cond_true, nth0, nth1, nth2, boolW_bool]
        cases t with
        | true => exact ihm (unsN P.n N') (by have := ht rfl; omega) N' h' (Nat.le_refl _) o' sz'
        | false =>
          refine hI _ _ _ _ ?_
          unfold round86_3
          rw [boolW_bool, cond_false]
          obtain ⟨f1, f2⟩ := hf rfl
          subst f1
          exact hK nv N' h' o' sz' fun r hr hrr hn => f2 r (by omega) hrr hn
    exact key2 0 (by omega) false N h o sz (fun _ => ⟨rfl, fun r hr => by omega⟩) (fun hb => by cases hb) fun x hx => hx
  exact key _ _ h1 (Nat.le_refl _) o2 ⟨fun x => by simp, fun r _ _ hp => by simp at hp⟩
end
/-! ### two terms -/
def SpecSolvedR (D : Orc) (f : Nat) : Prop := ∀ (sg : List Sy) (sgv av bv : Value) (a b : List Int) (h : H) (k : Kv) (kp : Kp), Sr h sgv sg → ArOk sg → Ir h av a → Ir h bv b → isTerm (S2 sg) a → isTerm (S2 sg) b → a.length + b.length < 2 ^ 38 →
  (∀ v w t h', Ext h h' → (t = true ↔ Unif (S2 sg) a b) → k (.tuple #[v, w, .bool t]) h') → D f [sgv, av, bv] h k kp
theorem kidP_len {sig : Sg} {t : List Int} {i : Nat} : (kidP sig t i).length ≤ t.length := by
  have stl : ∀ (l : List Int) (q : Nat), (sts sig q l).length ≤ l.length := by
    intro l
    induction l with
    | nil => intro q; simp [sts]
    | cons c l ih => intro q; rw [sts, List.length_cons, List.length_drop, List.length_cons]; have := ih (q + 1); omega
  unfold kidP
  have := stl (t.drop (i + 1)) (i + 1)
  rw [List.length_drop] at this
  rw [List.length_take]; omega
theorem spec58 (c58 : Cl58 D) (sL : SpecLaid D 83) (c84 : Cl84 D) (c85 : Cl85 D) (c86 : Cl86 D) (c104 : Cl104 D) : SpecSolvedR D 58 := by
  intro sg sgv av bv a b h k kp hs har ia ib hta htb hlen hk
  refine c58 _ _ _ _ _ _ ?_
  unfold F58
  refine sL sgv av bv sg a b _ _ _ hs har ia ib hta htb hlen fun p0 g cv kv clv h1 o1 bm => ⟨_, rfl, ?_⟩
  let P := pl2 hta htb
  have hPn : P.n = a.length + b.length := rfl
  have B : BoP P g p0 (a ++ b) cv kv clv := ⟨bm, by rw [hPn]; simp, fun i => rfl, by rw [hPn]; exact hlen, fun i hi => by
    show (kid2 (S2 sg) a b i).length < _
    unfold kid2
    split
    · have := kidP_len (sig := S2 sg) (t := a) (i := i); omega
    · rw [List.length_map]
      have := kidP_len (sig := S2 sg) (t := b) (i := i - a.length); omega⟩
  obtain ⟨hcls, hsnd⟩ := cls0_ok hta htb
  have hal := List.length_pos_iff.mpr (isTerm_ne hta)
  have hbl := List.length_pos_iff.mpr (isTerm_ne htb)
  have h0n : 0 < P.n := by omega
  have han : a.length < P.n := by omega
  have r0 : P.row 0 = a := by
    show (if 0 < a.length then subT (S2 sg) a 0 else _) = a
    rw [if_pos hal]
    exact subT_of (r := []) (by simp) hta
  have ra : P.row a.length = b := by
    show (if a.length < a.length then _ else subT (S2 sg) b (a.length - a.length)) = b
    rw [if_neg (by omega), Nat.sub_self]
    exact subT_of (r := []) (by simp) htb
  rw [(ia.ext o1.ext).len_]
  have rest : ∀ (t : Bool) (cl : Nat → Nat) (h2 : H), Jn P 0 a.length cl → Hp h h2 [frzR g, bufR clv (clZ P.n cl)] → (D 85 [Pt p0] h2 (fun v7 h8 => ∃ t9 : Bool, v7 = (Value.bool t9) ∧ cond (!t9) (
      k (Value.tuple #[(Value.pointer none), (Value.slice none 0 0), (Value.bool false)]) h8) (
      D 86 [Pt p0] h8 (fun v10 h11 => ∃ v12 : Value, v10 = v12 ∧ loop58_7 D [Pt p0, v12, (Value.int IntKind.i64 (0 : Int))] h11 (fun x25 vs26 h24 => xs x25 (boolW (nth vs26 2) (fun t28 => k (Value.tuple #[(nth vs26 0), (nth vs26 1), (Value.bool t28)]) h24)) (fun i27 => cond (Nat.beq i27 0) (
      k (Value.tuple #[(nth vs26 0), (nth vs26 1), (Value.bool true)]) h24) (False)) (fun c => kp c h24))) kp)) kp) := fun _ cl h2 jn o2 => by
    refine spec85 c85 c84 c104 B jn o2 (fun h3 e3 hno => ⟨_, rfl, ?_⟩) fun cl' h3 jn' hok o3 => ⟨_, rfl, ?_⟩
    · rw [Bool.not_false, cond_true]
      refine hk _ _ false h3 e3 ⟨fun hb => (by cases hb), fun ⟨τ, hτ, he⟩ => absurd (by rw [r0, ra]; exact he) (hno τ hτ)⟩
    · rw [Bool.not_true, cond_false]
      refine spec86 c86 c104 B jn'.cls o3 fun nv N h4 o4 sz stuck => ⟨_, rfl, ?_⟩
      have e4 : Ext g h4 := o4.get (i := 1) rfl
      have hb := e4 _ _ B.bm.cell
      have rc := o4.row (i := 2) rfl
      have few := B.few
      intro I hI
      have key := down_ind (P := fun i => (∀ j, j < i → N (cl' j) > 0) → I [Pt p0, nv, .int .i64 ((i : Nat) : Int)] h4) P.n fun i hi ih hpos => by
        refine hI _ _ _ _ ?_
        unfold round58_7
        rw [intK_int]
        refine ⟨rfl, ldj hb rfl ?_⟩
        rw [(B.bm.codes.ext e4).len, Z_len, ← B.n, cond_dec]
        refine ⟨fun hlt => ?_, fun hge => ?_⟩
        · have hi1 : i < P.n := by omega
          refine ⟨rfl, ldj hb rfl (cl_at rc hi1 (zat (o4.row (i := 0) rfl) (nu_at (jn'.cls.lt i hi1)) ?_))⟩
          have hr := sz.rng (cl' i)
          rw [cond_eq]
          refine ⟨fun h0 => ?_, fun hne => ?_⟩
          · dsimp only
            rw [xs_r, nth0, nth1, nth2, boolW_bool]
            refine hk _ _ false h4 o4.ext ⟨fun hb => (by cases hb), fun ⟨τ, hτ, he⟩ => ?_⟩
            exact (no_unif jn'.cls (jn'.snd τ hτ (by rw [r0, ra]; exact he)) (N := fun r => ¬ N r > 0) (fun r hr hrr hn => stuck r hr hrr hn) _ (cl' i) (jn'.cls.lt i hi1) (jn'.cls.root i hi1) (by omega) (Nat.le_refl _)).elim
          · rw [i64_id (by omega) (by omega)]
            refine ih hi1 fun j hj => ?_
            by_cases hji : j = i
            · subst hji; omega
            · exact hpos j (by omega)
        · dsimp only
          rw [xs_e]
          show cond true _ _
          rw [cond_true, nth0, nth1]
          refine hk _ _ true h4 o4.ext ⟨fun _ => ?_, fun _ => rfl⟩
          obtain ⟨τ, hτ, he⟩ := unif_closed jn'.cls hok (fun j hj => sz.td _ (jn'.cls.lt j hj) (jn'.cls.root j hj) (hpos j (by omega))) h0n han jn'.both
          rw [r0, ra] at he
          exact ⟨τ, hτ, he⟩
      exact key 0 (by omega) fun j hj => by omega
  have o1 : Hp h h1 [frzR g, bufR clv (clZ P.n (cls0 (a ++ b)))] := o1
  refine spec84 (i := 0) (k := a.length) c84 B o1 hcls h0n han (fun hsame => ⟨_, rfl, ?_⟩) fun hdiff h2 o2 => ⟨_, rfl, ?_⟩
  · exact rest false _ h1 ⟨hcls, hsame, fun τ _ _ => hsnd τ⟩ o1
  · refine rest true _ h2 ⟨hcls.join h0n han hdiff, joinC_both, fun τ hτ he => (hsnd τ).join h0n han he⟩ o2
open Classical in
theorem spec29 (hT : Stays T) (c29 : Cl29 D) (c57 : Cl57 D) (sC : SpecCheck D 36 T) (sS : SpecSolvedR D 58) : ∀ (sg : List Sy) (sgv av bv : Value) (a b : List Int) (h : H) (k : Kv) (kp : Kp), Sr h sgv sg → T h → Ir h av a → Ir h bv b → a.length + b.length < 2 ^ 38 → (∀ h', Ext h h' → k (.bool (canB sg a b)) h') → D 29 [sgv, av, bv] h k kp := by
  intro sg sgv av bv a b h k kp hs ht ha hb hl hk
  refine c29 _ _ _ _ _ _ ?_
  unfold F29
  refine c57 _ _ _ _ _ _ ?_
  unfold F57
  refine sC _ _ _ _ _ _ _ hs ht ha fun h1 e1 => ⟨_, rfl, ?_⟩
  unfold canB at hk
  rw [cond_ne]
  refine ⟨fun hne => ⟨_, rfl, ?_⟩, fun he => ?_⟩
  · rw [cond_ne]
    refine ⟨fun _ => ?_, fun h => absurd h hne⟩
    have : (chkTerm sg a == 0) = false := by simpa using hne
    rw [this, Bool.false_and] at hk
    exact hk h1 e1
  · refine sC _ _ _ _ _ _ _ (hs.ext e1) (hT _ _ e1 ht) (hb.ext e1) fun h2 e2 => ⟨_, rfl, ⟨_, rfl, ?_⟩⟩
    have h1a : (chkTerm sg a == 0) = true := by simpa using he
    rw [h1a, Bool.true_and] at hk
    have e12 := e1.trans e2
    rw [cond_ne]
    refine ⟨fun hne => ?_, fun hb0 => ?_⟩
    · have : (chkTerm sg b == 0) = false := by simpa using hne
      rw [this, Bool.false_and] at hk
      exact hk h2 e12
    · have h1b : (chkTerm sg b == 0) = true := by simpa using hb0
      rw [h1b, Bool.true_and] at hk
      obtain ⟨ao, ta⟩ := chkTerm_ok he
      obtain ⟨_, tb⟩ := chkTerm_ok hb0
      refine sS sg sgv av bv a b h2 _ _ (hs.ext e12) ao (ha.ext e12) (hb.ext e12) ta tb hl fun v w t h3 e3 hiff => ⟨v, w, t, rfl, ?_⟩
      have : decide (Unif (S2 sg) a b) = t := by
        cases t with
        | false => exact decide_eq_false fun h => by cases hiff.mpr h
        | true => exact decide_eq_true (hiff.mp rfl)
      rw [← this]
      exact hk h3 (e12.trans e3)
end Go.Proofs.YtnlhnlmnlfmojaaGreatDoor.Am

namespace Go.Proofs.Sys
theorem canonGo_app : ∀ (a b met : List Int), canonGo met (a ++ b) = canonGo met a ++ canonGo (metGo met a) b
  | [], b, met => rfl
  | c :: a, b, met => by
    rw [List.cons_append, canonGo, canonGo, metGo]
    by_cases hc : c < 0
    · rw [if_pos hc, if_pos hc, List.cons_append]
      by_cases hm : c ∈ met
      · rw [if_pos hm, if_neg (fun h => h.2 hm), canonGo_app a b]
      · rw [if_neg hm, if_pos ⟨hc, hm⟩, canonGo_app a b]
    · rw [if_neg hc, if_neg hc, if_neg (fun h => hc h.1), List.cons_append, canonGo_app a b]
end Go.Proofs.Sys
namespace Go.Proofs.YtnlhnlmnlfmojaaGreatDoor.Am
open Go Go.Proofs Sys Go.Lib
set_option linter.unusedVariables false
set_option linter.unusedSimpArgs false
set_option maxRecDepth 100000
variable {D : Orc} {T : H → Prop}

def SpecBegins (D : Orc) (f : Nat) (T : H → Prop) : Prop := ∀ ev tv ext (n : Int) t h (k : Kv) kp, Sr h ev ext → T h → Ir h tv t → (∀ h', Ext h h' → k (.bool (mayB ext n t)) h') → D f [ev, tv, .int .i64 n] h k kp
theorem spec24 (hT : Stays T) (c : Cl24 D) (s36 : SpecCheck D 36 T) : SpecBegins D 24 T := by
  intro ev tv ext n t h k kp he ht hl hk
  refine c _ _ _ _ _ _ ?_
  unfold F24
  rw [intK_int]
  refine s36 _ _ _ _ _ _ _ he ht hl fun h2 e2 => ⟨_, rfl, ?_⟩
  have hlen := hl.len
  unfold mayB at hk
  rw [cond_eq]
  refine ⟨fun h0 => ?_, fun hne => ?_⟩
  · rw [(hl.ext e2).len_]
    have e0 : (chkTerm ext t == 0) = true := by rw [h0]; rfl
    rw [e0, Bool.true_and] at hk
    rw [cond_dec]
    refine ⟨fun h5 => ?_, fun h5 => ?_⟩
    · refine at_head (hl.ext e2) (isTerm_ne (chkTerm_ok h0).2) ?_
      rw [decide_eq_true (show t.length ≤ 512 by omega), Bool.true_and] at hk
      exact hk h2 e2
    · rw [decide_eq_false (show ¬ t.length ≤ 512 by omega), Bool.false_and] at hk
      exact hk h2 e2
  · have e0 : (chkTerm ext t == 0) = false := by simpa using hne
    rw [e0, Bool.false_and] at hk
    exact hk h2 e2
def SpecCapR (D : Orc) (f : Nat) : Prop := ∀ ev dv tv ext (d l : List Int) h (k : Kv) kp, Sr h ev ext → ArOk ext → Ir h dv d → Ir h tv l → isTerm (S2 ext) l → l.length ≤ 512 →
  (∀ v o g h', Ext h h' → Buf h h' v (Z (l.headD 0 :: o)) → Cap (S2 ext) d l.tail 0 o g → k (.tuple #[v, .int .i64 ((g : Nat) : Int)]) h') → D f [ev, dv, tv] h k kp
theorem spec25 (c : Cl25 D) (h31 : SpecHasI D 31) (s33 : SpecEndT D 33) : SpecCapR D 25 := by
  intro ev dv tv ext d l h k kp he har hd hl hu h512 hk
  refine c _ _ _ _ _ _ ?_
  unfold F25
  obtain ⟨x, l1, rfl⟩ := List.exists_cons_of_ne_nil (isTerm_ne hu)
  refine zat hl.row (i := 0) (x := x) rfl ⟨rfl, by decide, ?_⟩
  refine (Hp.nil_ h).newSlN (n := 1) rfl fun s2 h1 o1 => ?_
  generalize hL : x :: l1 = L at hl hu h512 hk
  intro I hI
  have key : ∀ (m p f : Nat) (out : Value) (o : List Int) (h' : H), L.length - p ≤ m → 1 ≤ p → p ≤ L.length → f ≤ p → o.length ≤ p → Hp h h' [bufR out (Z (x :: o))] → (∀ o2 g2, Cap (S2 ext) d (L.drop p) f o2 g2 → Cap (S2 ext) d l1 0 (o ++ o2) g2) → I [ev, dv, tv, out, .int .i64 ((f : Nat) : Int), .int .i64 ((p : Nat) : Int)] h' := by
    intro m
    have fin : ∀ (p f : Nat) (out : Value) (o : List Int) (h' : H), p = L.length → Hp h h' [bufR out (Z (x :: o))] → (∀ o2 g2, Cap (S2 ext) d (L.drop p) f o2 g2 → Cap (S2 ext) d l1 0 (o ++ o2) g2) → k (.tuple #[out, .int .i64 ((f : Nat) : Int)]) h' := fun p f out o h' hp o' hc => by
      rw [hp, List.drop_length] at hc
      have := hc [] f .nil
      rw [List.append_nil] at this
      have e1 : L.headD 0 = x := by rw [← hL]; rfl
      have e2 : L.tail = l1 := by rw [← hL]; rfl
      refine hk out o f h' o'.ext ?_ (by rw [e2]; exact this)
      rw [e1]
      exact (o'.buf (i := 0) rfl).of_new fun q hq => (o'.new _ (List.mem_cons_self ..) q hq).1
    induction m with
    | zero =>
      intro p f out o h' hm hp1 hpl hf hol o' hc
      refine hI _ _ _ _ _ _ _ ?_
      unfold round25_4
      rw [intK_int, intK_int, (hl.ext o'.ext).len_, cond_dec]
      refine ⟨fun hlt => by omega, fun _ => ?_⟩
      dsimp only
      rw [xs_e]
      show cond true _ _
      rw [cond_true, nth0, nth1, intK_int]
      exact fin p f out o h' (by omega) o' hc
    | succ m ih =>
      intro p f out o h' hm hp1 hpl hf hol o' hc
      refine hI _ _ _ _ _ _ _ ?_
      unfold round25_4
      rw [intK_int, intK_int, (hl.ext o'.ext).len_, cond_dec]
      refine ⟨fun hlt => ?_, fun hge => ?_⟩
      · have hp : p < L.length := by omega
        have hx : L[p]? = some L[p] := List.getElem?_eq_getElem hp
        refine zat (hl.ext o'.ext).row hx ?_
        obtain ⟨u, r, hdr, hut⟩ := scan_at (S2 ext) L 1 p hu hp
        obtain ⟨c, u1, rfl⟩ := List.exists_cons_of_ne_nil (isTerm_ne hut)
        have hcx : L[p] = c := by
          have : (L.drop p)[0]? = some c := by rw [hdr]; rfl
          rw [List.getElem?_drop, Nat.add_zero, hx] at this
          exact Option.some.inj this
        rw [hcx]
        have hul := congrArg List.length hdr
        simp only [List.length_drop, List.length_append, List.length_cons] at hul
        have cut : (c < 0 ∨ c ∈ d) → ∀ {K : Kl}, j25_4_6 D I K ev dv tv out (.int .i64 ((f : Nat) : Int)) (.int .i64 ((p : Nat) : Int)) (.bool true) h' := fun hcd => by
          intro K
          unfold j25_4_6
          rw [intK_int, intK_int, boolW_bool, cond_true]
          refine ⟨rfl, by decide, ?_⟩
          rw [i64_id (by omega) (by omega)]
          refine (o'.push (i := 0) rfl (by decide) (by rw [Z_len]; simp; omega) rfl (O := True) (U := True) trivial trivial fun s' h2 o2 => ?_).2.2
          refine s33 _ _ ext L p _ _ _ _ _ (he.ext o2.ext) har (hl.ext o2.ext) hdr hut ⟨_, rfl, ?_⟩
          rw [i64_id (by omega) (by omega)]
          have hz : Z (x :: o) ++ [Value.int .i64 (-1 - ((f : Nat) : Int))] = Z (x :: (o ++ [-1 - ((f : Nat) : Int)])) := by simp [Z]
          rw [hz] at o2
          simp only [List.length_cons]
          refine ih (p + (u1.length + 1)) (f + 1) s' (o ++ [-1 - ((f : Nat) : Int)]) h2 (by omega) (by omega) (by omega) (by omega) (by simp; omega) o2 fun o3 g3 h3 => ?_
          have e : L.drop (p + (u1.length + 1)) = r := by
            rw [← List.drop_drop, hdr]
            exact List.drop_left' (by simp)
          rw [e] at h3
          rw [List.append_assoc]
          refine hc _ g3 ?_
          rw [hdr]
          exact .cut hcd hut h3
        rw [cond_not, cond_dec]
        refine ⟨fun hneg => cut (.inl hneg), fun hpos => ?_⟩
        refine zat (hl.ext o'.ext).row hx ?_
        rw [hcx]
        refine h31 _ _ _ _ _ _ (hd.ext o'.ext) ⟨_, rfl, ?_⟩
        by_cases hm2 : c ∈ d
        · rw [decide_eq_true hm2]; exact cut (.inr hm2)
        · rw [decide_eq_false hm2]
          unfold j25_4_6
          rw [intK_int, intK_int, boolW_bool, cond_false]
          refine zat (hl.ext o'.ext).row hx ⟨rfl, by decide, ?_⟩
          refine (o'.push (i := 0) rfl (by decide) (by rw [Z_len]; simp; omega) rfl (O := True) (U := True) trivial trivial fun s' h2 o2 => ?_).2.2
          rw [i64_id (by omega) (by omega)]
          have hz : Z (x :: o) ++ [Value.int .i64 L[p]] = Z (x :: (o ++ [c])) := by rw [hcx]; simp [Z]
          rw [hz] at o2
          refine ih (p + 1) f s' (o ++ [c]) h2 (by omega) (by omega) (by omega) (by omega) (by simp; omega) o2 fun o3 g3 h3 => ?_
          rw [List.append_assoc]
          refine hc _ g3 ?_
          have e : L.drop p = c :: L.drop (p + 1) := by rw [List.drop_eq_getElem_cons hp, hcx]
          rw [e]
          exact .keep (by omega) hm2 h3
      · dsimp only
        rw [xs_e]
        show cond true _ _
        rw [cond_true, nth0, nth1, intK_int]
        exact fin p f out o h' (by omega) o' hc
  refine key L.length 1 0 s2 [] h1 (by omega) (Nat.le_refl _) (by rw [← hL]; simp) (by omega) (by simp) o1 fun o2 g2 h2 => ?_
  have e : L.drop 1 = l1 := by rw [← hL]; rfl
  rw [e] at h2
  exact h2
theorem spec28r (c : Cl28 D) : SpecShift D 28 := by
  intro t l b h k kp r hb0 hb1 hlow hk
  refine c _ _ _ _ _ ?_
  unfold F28
  rw [intK_int]
  have hlen := r.len
  refine (Hp.nil_ h).newSl0 fun s1 h1 o1 => ?_
  intro I hI
  have key := down_ind (P := fun j => ∀ (v : Value) (h' : H), Hp h h' [bufR v (Z ((l.take j).map (shC b)))] → I [t, .int .i64 b, v, .int .i64 ((j : Nat) : Int)] h') l.length
    fun j hj ih v h' o => by
    refine hI _ _ _ _ _ ?_
    unfold round28_3
    rw [intK_int, intK_int, (r.ext o.ext).len_, cond_dec]
    refine ⟨fun hlt => ?_, fun hge => ?_⟩
    · have hj1 : j < l.length := by omega
      have hx : l[j]? = some l[j] := List.getElem?_eq_getElem hj1
      have hxi := r.rng _ (List.getElem_mem hj1)
      have htk : Z ((l.take j).map (shC b)) ++ [.int .i64 (shC b l[j])] = Z ((l.take (j + 1)).map (shC b)) := by
        rw [(split_at hx).2.1, List.map_append]
        unfold Z
        rw [List.map_append]
        rfl
      have next : ∀ {K : Kl} (v : Value) (h' : H), Hp h h' [bufR v (Z ((l.take (j + 1)).map (shC b)))] → j28_3_4 D I K t (.int .i64 b) v (.int .i64 ((j : Nat) : Int)) h' := fun v h' o => by
        unfold j28_3_4
        rw [intK_int, intK_int, i64_id (by omega) (by omega)]
        exact ih hj1 v h' o
      refine zat (r.ext o.ext).row hx (zat (r.ext o.ext).row hx ?_)
      rw [cond_dec]
      refine ⟨fun hpos => ?_, fun hneg => ?_⟩
      · refine zat (r.ext o.ext).row hx ⟨rfl, by decide, ?_⟩
        refine (o.push (i := 0) rfl (by decide) (by rw [Z_len]; simp; omega) rfl (O := True) (U := True) trivial trivial fun s' h2 o2 => ?_).2.2
        refine next s' h2 ?_
        have e : shC b l[j] = l[j] := by unfold shC; rw [if_neg (by omega)]
        rw [← htk, e]; exact o2
      · have hxl := hlow _ (List.getElem_mem hj1) (by omega)
        rw [decide_eq_false (show ¬ b ≥ 1048576 by omega), Bool.not_false, cond_true, decide_eq_true hb0, cond_true]
        rw [i64_id (n := -1 - l[j]) (by omega) (by omega), i64_id (n := 1048576 - b) (by omega) (by omega), decide_eq_false (by omega)]
        unfold j28_3_9
        rw [intK_int, intK_int, intK_int, boolW_bool, cond_false, i64_id (by omega) (by omega), decide_eq_false (by omega), Bool.not_false, cond_true, decide_eq_false (by omega)]
        unfold j28_3_12
        rw [intK_int, intK_int, intK_int, boolW_bool, cond_false]
        refine ⟨rfl, by decide, ?_⟩
        refine (o.push (i := 0) rfl (by decide) (by rw [Z_len]; simp; omega) rfl (O := True) (U := True) trivial trivial fun s' h2 o2 => ?_).2.2
        refine next s' h2 ?_
        rw [i64_id (by omega) (by omega)] at o2
        have e : shC b l[j] = -1 - (-1 - l[j] + b) := by unfold shC; rw [if_pos (by omega)]; omega
        rw [← htk, e]; exact o2
    · dsimp only
      rw [xs_e]
      show cond true _ _
      rw [cond_true, nth0]
      rw [List.take_of_length_le (by omega)] at o
      exact hk v h' o.ext ((o.buf (i := 0) rfl).of_new fun q hq => (o.new _ (List.mem_cons_self ..) q hq).1)
  exact key 0 (by omega) s1 h1 o1
end Go.Proofs.YtnlhnlmnlfmojaaGreatDoor.Am

namespace Go.Proofs.YtnlhnlmnlfmojaaGreatDoor.Am
open Go Go.Proofs Sys Go.Lib
set_option linter.unusedVariables false
set_option linter.unusedSimpArgs false
set_option maxRecDepth 100000
variable {D : Orc} {T : H → Prop}

theorem spec27 (c : Cl27 D) {a0 : Value} {t : List Int} {h : H} {k : Kv} {kp : Kp} (q : Rw h a0 [t]) (hk : ∀ v h', Rw h' v [canonGo [] t] → Ext h h' → k v h') : D 27 [a0] h k kp := by
  refine c _ _ _ _ ?_
  unfold F27
  obtain ⟨vs, r1, r2, r3⟩ := q.ex
  obtain ⟨tv, rfl⟩ : ∃ tv, vs = [tv] := List.length_eq_one_iff.mp (by simpa using r2)
  obtain ⟨t', ht', it⟩ := r3 0 tv rfl
  obtain rfl : t = t' := by simpa using ht'
  have hlen := it.len
  refine (Hp.nil_ h).newSl0 fun s0 h1 o1 => o1.newSl0 fun s2 h3 o3 => ?_
  have hM : ∀ j, (metGo [] (t.take j)).length ≤ j ∧ (metGo [] (t.take j)).length ≤ t.length := fun j => by
    have := metGo_len (t.take j) []
    simp only [List.length_nil, List.length_take] at this
    omega
  intro I hI
  have fin : ∀ (mv rv : Value) (h' : H) (M : List Value), Hp h h' [bufR rv [mv], bufR mv (Z (canonGo [] t))] → k rv h' := fun mv rv h' M o => by
    refine hk rv h' ⟨⟨[mv], o.row (i := 0) rfl, rfl, fun i v hv => ?_⟩⟩ o.ext
    cases i with
    | zero =>
      obtain rfl : mv = v := by simpa using hv
      refine ⟨_, rfl, o.row (i := 1) rfl, by rw [canonGo_len]; exact hlen, fun x hx => ?_⟩
      by_cases hx0 : x < 0
      · have := canon_low t [] x hx hx0
        simp only [List.length_nil] at this
        unfold inI; omega
      · have : ∀ (t met : List Int), x ∈ canonGo met t → x ∈ t := by
          intro t
          induction t with
          | nil => intro met h; simp [canonGo] at h
          | cons c t ih =>
            intro met h
            unfold canonGo at h
            split at h
            · rcases List.mem_cons.mp h with h | h
              · omega
              · exact List.mem_cons_of_mem _ (ih _ h)
            · rcases List.mem_cons.mp h with h | h
              · rw [h]; simp
              · exact List.mem_cons_of_mem _ (ih _ h)
        exact it.rng x (this t [] hx)
    | succ i => simp at hv
  have last : ∀ (mv rv : Value) (h' : H), Hp h h' [bufR rv [mv], bufR mv (Z (canonGo [] t))] → ∀ m0, I [a0, m0, rv, .int .i64 1] h' := fun mv rv h' o m0 => by
    refine hI _ _ _ _ _ ?_
    unfold round27_4
    rw [intK_int, (r1.ext o.ext).len, cond_dec]
    refine ⟨fun hlt => absurd hlt (by simp), fun _ => ?_⟩
    exact fin mv rv h' [] o
  refine hI _ _ _ _ _ ?_
  unfold round27_4
  rw [intK_int, (r1.ext o3.ext).len, cond_dec]
  refine ⟨fun _ => ?_, fun hge => absurd (by simp) hge⟩
  refine o3.newSl0 fun s7 h8 o8 => ?_
  have o8 : Hp h h8 [bufR s7 [], bufR s2 [], bufR s0 []] := o8
  intro I2 hI2
  have key := down_ind (P := fun j => ∀ (rv mv : Value) (h' : H), Hp h h' [bufR rv (Z (canonGo [] (t.take j))), bufR s2 [], bufR mv (Z (metGo [] (t.take j)))] → I2 [a0, mv, s2, .int .i64 0, rv, .int .i64 ((j : Nat) : Int)] h') t.length
    fun j hj ih rv mv h' o => by
    refine hI2 _ _ _ _ _ _ _ ?_
    unfold round27_8
    rw [intK_int, intK_int]
    have row0 := r1.ext o.ext
    refine vat row0 (i := 0) rfl ?_
    rw [(it.ext o.ext).len_, cond_dec]
    refine ⟨fun hlt => ?_, fun hge => ?_⟩
    · have hj1 : j < t.length := by omega
      have hx : t[j]? = some t[j] := List.getElem?_eq_getElem hj1
      have hrow := (it.ext o.ext).row
      have htk := (split_at hx).2.1
      refine vat row0 (i := 0) rfl (zat hrow hx ?_)
      have hMj := hM j
      rw [cond_dec]
      refine ⟨fun hpos => ?_, fun hneg => ?_⟩
      · refine vat row0 (i := 0) rfl (zat hrow hx ⟨rfl, by decide, ?_⟩)
        refine (o.push (i := 0) rfl (by decide) (by rw [Z_len, canonGo_len]; simp; omega) rfl (O := True) (U := True) trivial trivial fun s' h2 o2 => ?_).2.2
        unfold j27_8_9
        rw [intK_int, intK_int, i64_id (by omega) (by omega)]
        refine ih hj1 s' mv h2 ?_
        have e1 : canonGo [] (t.take (j + 1)) = canonGo [] (t.take j) ++ [t[j]] := by
          rw [htk, canonGo_app]
          congr 1
          rw [canonGo, if_neg (by omega)]; rfl
        have e2 : metGo [] (t.take (j + 1)) = metGo [] (t.take j) := by
          rw [htk, metGo_app]
          rw [metGo, if_neg (fun h => by omega)]; rfl
        have e3 : Z (canonGo [] (t.take j)) ++ [Value.int .i64 t[j]] = Z (canonGo [] (t.take (j + 1))) := by rw [e1]; unfold Z; rw [List.map_append]; rfl
        rw [e3] at o2
        rw [e2]; exact o2
      · have hneg : t[j] < 0 := by omega
        let M := metGo [] (t.take j)
        have put : ∀ {K : Kl} (mv' : Value) (h2 : H), Hp h h2 [bufR rv (Z (canonGo [] (t.take j))), bufR s2 [], bufR mv' (Z (metGo [] (t.take (j + 1))))] → j27_8_17 D I2 K a0 mv' s2 (.int .i64 0) rv (.int .i64 ((j : Nat) : Int)) (.int .i64 ((M.idxOf t[j] : Nat) : Int)) h2 := fun mv' h2 o2 => by
          have hix : M.idxOf t[j] ≤ M.length := List.idxOf_le_length
          unfold j27_8_17
          rw [intK_int, intK_int, intK_int]
          have hMl : M.length ≤ j := hMj.1
          refine ⟨rfl, by decide, ?_⟩
          rw [i64_id (by omega) (by omega)]
          refine (o2.push (i := 0) rfl (by decide) (by rw [Z_len, canonGo_len]; simp; omega) rfl (O := True) (U := True) trivial trivial fun s' h3 o3 => ?_).2.2
          unfold j27_8_9
          rw [intK_int, intK_int, i64_id (by omega) (by omega)]
          refine ih hj1 s' mv' h3 ?_
          have e1 : canonGo [] (t.take (j + 1)) = canonGo [] (t.take j) ++ [-1 - ((M.idxOf t[j] : Nat) : Int)] := by
            rw [htk, canonGo_app]
            congr 1
            rw [canonGo, if_pos hneg]
            split <;> rfl
          have e3 : Z (canonGo [] (t.take j)) ++ [Value.int .i64 (-1 - ((M.idxOf t[j] : Nat) : Int))] = Z (canonGo [] (t.take (j + 1))) := by rw [e1]; unfold Z; rw [List.map_append]; rfl
          rw [e3] at o3
          exact o3
        have e2 : metGo [] (t.take (j + 1)) = if t[j] ∉ M then M ++ [t[j]] else M := by
          rw [htk, metGo_app, metGo]
          by_cases hm : t[j] ∈ M
          · rw [if_neg (fun h => h.2 hm), if_neg (fun h => h hm)]; rfl
          · rw [if_pos ⟨hneg, hm⟩, if_pos hm]; rfl
        intro I3 hI3
        have out : ∀ n, n = M.idxOf t[j] → (fun (x44 : X) (vs45 : List Value) (h43 : H) => xs x44 (True) (fun i46 => cond (Nat.beq i46 4) (intK .i64 (nth vs45 3) (fun x47 => intK .i64 (nth vs45 5) (fun x48 => intK .i64 (nth vs45 6) (fun x49 => lenW (nth vs45 1) (fun n50 => cond (x49 == (n50 : Int)) (
            slAtW (nth vs45 0) x47 1 (fun ad51 => ∃ v52 : Value, rd h43 ad51 = some v52 ∧ slAtW v52 x48 1 (fun ad53 => ∃ x54 : Int, rd h43 ad53 = some (Value.int .i64 x54) ∧ one (Value.int .i64 x54) = true ∧ 0 < 1 ∧ newSl h43 1 [(Value.int .i64 x54)] (fun s55 h56 => slenW s55 (fun n57 => srcW h56 1 s55 (n57) (fun w58 => apW h56 1 8 [(Value.int .i64 (0 : Int))] (nth vs45 1) (n57) w58 (fun s59 h60 => j27_8_17 D I2 (fun _ _ _ => True) (nth vs45 0) s59 (nth vs45 2) (Value.int .i64 x47) (nth vs45 4) (Value.int .i64 x48) (Value.int .i64 x49) h60))))))) (
            j27_8_17 D I2 (fun _ _ _ => True) (nth vs45 0) (nth vs45 1) (nth vs45 2) (Value.int .i64 x47) (nth vs45 4) (Value.int .i64 x48) (Value.int .i64 x49) h43)))))) (False)) (fun c => False)) (.e 4) [a0, mv, s2, .int .i64 0, rv, .int .i64 ((j : Nat) : Int), .int .i64 ((n : Nat) : Int)] h' := fun n hn => by
          dsimp only
          rw [xs_e]
          show cond true _ _
          rw [cond_true, nth0, nth1, nth2, nth3, nth4, nth5, nth6, intK_int, intK_int, intK_int, (o.row (i := 2) rfl).len, Z_len, cond_eq]
          have hix : M.idxOf t[j] ≤ M.length := List.idxOf_le_length
          refine ⟨fun heq => ?_, fun hne => ?_⟩
          · have hnm : t[j] ∉ M := fun hm => by
              have := List.idxOf_lt_length_of_mem hm
              have heq2 : ((n : Nat) : Int) = ((M.length : Nat) : Int) := heq
              omega
            refine vat row0 (i := 0) rfl (zat hrow hx ⟨rfl, by decide, ?_⟩)
            refine (o.push (i := 2) rfl (by decide) (by rw [Z_len]; omega) rfl (O := True) (U := True) trivial trivial fun s' h2 o2 => ?_).2.2
            rw [hn]
            refine put s' h2 ?_
            have e3 : Z M ++ [Value.int .i64 t[j]] = Z (metGo [] (t.take (j + 1))) := by rw [e2, if_pos hnm]; unfold Z; rw [List.map_append]; rfl
            rw [e3] at o2
            exact o2
          · have hm : t[j] ∈ M := Classical.byContradiction fun hnm => hne (by rw [hn, List.idxOf_eq_length hnm])
            rw [hn]
            refine put mv h' ?_
            rw [e2, if_neg (fun h => h hm)]
            exact o
        have key3 := down_ind (P := fun n => (∀ n', n' < n → M[n']? ≠ some t[j]) → I3 [a0, mv, s2, .int .i64 0, rv, .int .i64 ((j : Nat) : Int), .int .i64 ((n : Nat) : Int)] h') M.length
          fun n hn ih3 hno => by
          refine hI3 _ _ _ _ _ _ _ _ ?_
          unfold round27_13
          rw [intK_int, intK_int, intK_int, (o.row (i := 2) rfl).len, Z_len, cond_dec]
          have hMl : M.length ≤ j := hMj.1
          refine ⟨fun hlt3 => ?_, fun hge3 => ?_⟩
          · have hn1 : n < M.length := by
              have : ((n : Nat) : Int) < ((M.length : Nat) : Int) := hlt3
              omega
            refine zat (o.row (i := 2) rfl) (List.getElem?_eq_getElem hn1) (vat row0 (i := 0) rfl (zat hrow hx ?_))
            rw [cond_ne]
            refine ⟨fun hne => ?_, fun heq => ?_⟩
            · rw [i64_id (by omega) (by omega)]
              refine ih3 hn1 fun n' hn' => ?_
              by_cases e : n' = n
              · subst e
                rw [List.getElem?_eq_getElem hn1]
                exact fun h => hne (Option.some.inj h)
              · exact hno n' (by omega)
            · exact out n (idx_first (by rw [List.getElem?_eq_getElem hn1]; exact congrArg some heq) hno).symm
          · refine out n ?_
            have hnl : n = M.length := by
              have : ¬ ((n : Nat) : Int) < ((M.length : Nat) : Int) := hge3
              omega
            rw [hnl, List.idxOf_eq_length]
            intro hm
            obtain ⟨n', hn'⟩ := List.getElem?_of_mem hm
            exact hno n' (by rw [hnl]; exact (List.getElem?_eq_some_iff.mp hn').1) hn'
        exact key3 0 (by omega) (by omega)
    · dsimp only
      rw [xs_e]
      show cond true _ _
      rw [cond_true, nth0, nth1, nth2, nth3, nth4, intK_int]
      rw [List.take_of_length_le (by omega)] at o
      have hr1 := sl_one' (o.row (i := 0) rfl)
      refine ⟨hr1, by decide, ?_⟩
      refine (o.push (i := 1) rfl (by decide) (by decide) hr1 (O := True) (U := True) trivial trivial fun s' h2 o2 => ?_).2.2
      have o3 : Hp h h2 ([bufR rv (Z (canonGo [] t)), bufR s' [rv]] ++ [bufR mv (Z (metGo [] (t.take j)))]) := by
        have : t.take j = t := List.take_of_length_le (by omega)
        rw [this]; exact o2
      exact last rv s' h2 ((o3.sub (List.sublist_append_left _ _)).perm (.swap _ _ _)) mv
  exact key 0 (by omega) s7 s0 h8 o8
end Go.Proofs.YtnlhnlmnlfmojaaGreatDoor.Am

namespace Go.Proofs.YtnlhnlmnlfmojaaGreatDoor.Am
open Go Go.Proofs Sys Go.Lib
set_option linter.unusedVariables false
set_option linter.unusedSimpArgs false
set_option maxRecDepth 100000
variable {D : Orc} {T : H → Prop}

def SpecCanR (D : Orc) (f : Nat) (T : H → Prop) : Prop := ∀ (sg : List Sy) (sgv av bv : Value) (a b : List Int) (h : H) (k : Kv) (kp : Kp), Sr h sgv sg → T h → Ir h av a → Ir h bv b → a.length + b.length < 2 ^ 38 → (∀ h', Ext h h' → k (.bool (canB sg a b)) h') → D f [sgv, av, bv] h k kp
theorem canB_heads {sg : List Sy} {c c' : Int} {a b : List Int} (h0 : 0 ≤ c) (h1 : 0 ≤ c') (hne : c ≠ c') : canB sg (c :: a) (c' :: b) = false := by
  refine can_no fun ⟨τ, _, he⟩ => ?_
  rw [app_pos (c := c) (by omega), app_pos (c := c') (by omega)] at he
  exact hne (List.cons.inj he).1
theorem canon_head {l : List Int} {g : Nat} (hne : l ≠ []) (h0 : 0 ≤ l.headD 0) : (canonGo [] l).map (shC ((g : Nat) : Int)) = l.headD 0 :: ((canonGo [] l).map (shC ((g : Nat) : Int))).tail := by
  obtain ⟨c, l1, rfl⟩ := List.exists_cons_of_ne_nil hne
  have h0 : 0 ≤ c := h0
  have e : canonGo [] (c :: l1) = c :: canonGo [] l1 := by rw [canonGo, if_neg (by omega)]
  have e2 : shC ((g : Nat) : Int) c = c := by unfold shC; rw [if_neg (by omega)]
  rw [e, List.map_cons, e2]; rfl
theorem spec8 (hT : Stays T) (c : Cl8 D) (s23 : SpecRightS D 23 T) (s13 : SpecExt D 13 T) (s24 : SpecBegins D 24 T) (s26 : SpecDef D 26 T) (s25 : SpecCapR D 25) (c27 : Cl27 D) (s28 : SpecShift D 28) (s29 : SpecCanR D 29 T) : SpecEdge D 8 T := by
  intro va S plv prv qlv qrv pR qL h k kp hpl hqr hS ht hp hq hk
  refine c _ _ _ _ _ _ ?_
  obtain ⟨sa, ra, rfl, hsa, hra⟩ := hS.ex
  unfold F8
  rw [aggW_agg]
  intro p1 hp1
  have e1 : Ext h (h.set p1 (.cells #[sa, ra].toList)) := Ext.new hp1
  have b1 : (h.set p1 (.cells #[sa, ra].toList)) p1 = some (.cells [sa, ra]) := set_here
  generalize h.set p1 (.cells #[sa, ra].toList) = h1 at e1 b1 ⊢
  rw [aggW_agg]
  intro p4 hp4
  have e4 : Ext h1 (h1.set p4 (.cells #[plv, prv].toList)) := Ext.new hp4
  have b4 : (h1.set p4 (.cells #[plv, prv].toList)) p4 = some (.cells [plv, prv]) := set_here
  generalize h1.set p4 (.cells #[plv, prv].toList) = h4 at e4 b4 ⊢
  rw [aggW_agg]
  intro p7 hp7
  have e7 : Ext h4 (h4.set p7 (.cells #[qlv, qrv].toList)) := Ext.new hp7
  have b7 : (h4.set p7 (.cells #[qlv, qrv].toList)) p7 = some (.cells [qlv, qrv]) := set_here
  generalize h4.set p7 (.cells #[qlv, qrv].toList) = h7 at e7 b7 ⊢
  have b1 := e7 _ _ (e4 _ _ b1)
  have b4 := e7 _ _ b4
  have e := (e1.trans e4).trans e7
  rw [ptrW_ptr]
  refine ⟨sa, ra, rd2 b1, ?_⟩
  refine s23 _ S _ _ _ (hS.ext e) (hT _ _ e ht) fun h8 e8 => ⟨_, rfl, ?_⟩
  have ee8 := e.trans e8
  unfold edgeB edgeX at hk
  rw [cond_not, cond_split]
  refine ⟨fun hr => ?_, fun hr => ?_⟩
  rotate_left
  · rw [hr, Bool.false_and] at hk
    exact hk h8 ee8
  rw [hr, Bool.true_and] at hk
  refine ldj (e8 _ _ b1) rfl ?_
  refine s13 _ S.sig _ _ _ (hsa.ext ee8) (hT _ _ ee8 ht) fun ev h9 e9 be => ⟨_, _, rfl, ?_⟩
  have e79 := e8.trans e9
  have ee9 := e.trans e79
  have he := ext_sr be.row
  refine ldj (e79 _ _ b1) rfl ?_
  rw [(hsa.ext ee9).row.len, sgRow_len]
  refine ldj (e79 _ _ b4) rfl ?_
  refine s24 _ _ _ _ _ _ _ _ he (hT _ _ ee9 ht) (hp.ext ee9) fun h10 e10 => ⟨_, rfl, ?_⟩
  have e710 := e79.trans e10
  have ee10 := e.trans e710
  have stop : ∀ h', k (.bool false) h' → j8__6 D k kp (Pt p1) (Pt p4) (Pt p7) ev (.bool true) h' := fun h' hk' => by
    unfold j8__6
    rw [boolW_bool, cond_true]; exact hk'
  rw [Bool.not_not, cond_split]
  refine ⟨fun hm => ?_, fun hm => ?_⟩
  rotate_left
  · rw [hm, Bool.false_and] at hk
    exact stop h10 (hk h10 ee10)
  rw [hm, Bool.true_and] at hk
  refine ldj (e710 _ _ b7) rfl ?_
  refine s24 _ _ _ _ _ _ _ _ (he.ext e10) (hT _ _ ee10 ht) (hq.ext ee10) fun h11 e11 => ⟨_, rfl, ?_⟩
  have e711 := e710.trans e11
  have ee11 := e.trans e711
  cases hm2 : mayB (extV S.sig) (S.sig.length : Int) qL with
  | false =>
    rw [hm2, Bool.false_and] at hk
    exact stop h11 (hk h11 ee11)
  | true =>
  rw [hm2, Bool.true_and] at hk
  obtain ⟨hcp, hp5, hpn⟩ := mayB_ok hm
  obtain ⟨hcq, hq5, hqn⟩ := mayB_ok hm2
  obtain ⟨har, hpt⟩ := chkTerm_ok hcp
  have hpne := isTerm_ne hpt
  have hqne := isTerm_ne (chkTerm_ok hcq).2
  unfold j8__6
  rw [boolW_bool, Bool.not_true, cond_false, ptrW_ptr]
  refine ⟨sa, ra, rd2 (e711 _ _ b1), ?_⟩
  rw [ptrW_ptr]
  refine ⟨prv, rdc_at (e711 _ _ b4) rfl, ?_⟩
  refine s26 _ S _ _ _ (hS.ext ee11) (hT _ _ ee11 ht) fun dv h12 hd e12 _ => ⟨_, rfl, rdc_at (e12 _ _ (e711 _ _ b4)) rfl, ?_⟩
  have e712 := e711.trans e12
  have ee12 := e.trans e712
  have he12 := he.ext ((e10.trans e11).trans e12)
  refine s25 _ _ _ _ _ _ _ _ _ he12 har hd (hp.ext ee12) hpt hp5 fun cv o g h13 e13 b13 hcap => ⟨_, _, rfl, ?_⟩
  have hcl := hcap.len
  simp only [List.length_tail] at hcl
  have e713 := e712.trans e13
  have ee13 := e.trans e713
  rw [edgeX_cap hcap] at hk
  refine ldj (e713 _ _ b7) rfl ⟨sl_one' hq.row, by decide, ?_⟩
  intro sb hsb
  have e14 : Ext h13 (h13.set sb (.cells [qlv])) := Ext.new hsb
  have b14 : (h13.set sb (.cells [qlv])) sb = some (.cells [qlv]) := set_here
  generalize h13.set sb (.cells [qlv]) = h14 at e14 b14 ⊢
  have ee14 := ee13.trans e14
  refine spec27 c27 (t := qL) ⟨⟨[qlv], Row.cells b14 rfl, rfl, fun i v hv => ?_⟩⟩ fun v15 h15 r15 e15 => ⟨_, rfl, ?_⟩
  · cases i with
    | zero =>
      have : qlv = v := by simpa using hv
      subst this
      exact ⟨qL, rfl, hq.ext ee14⟩
    | succ i => simp at hv
  have ee15 := ee14.trans e15
  refine r15.at_ (by omega) (by simp) fun ad v t ht' hrd it => ⟨v, hrd, ?_⟩
  have : canonGo [] qL = t := by simpa using ht'
  subst this
  have hlow : ∀ c ∈ canonGo [] qL, c < 0 → -(2 ^ 19) ≤ c := fun c hc hc0 => by
    have := canon_low qL [] c hc hc0
    simp only [List.length_nil] at this; omega
  refine s28 _ _ _ _ _ _ it (by omega) (by omega) hlow fun v16 h16 e16 b16 => ⟨_, _, rfl, ?_⟩
  have ee16 := ee15.trans e16
  have hpl1 : pR.tail.length = pR.length - 1 := List.length_tail
  have ia : Ir h16 cv (pR.headD 0 :: o) := ⟨b13.row.ext ((e14.trans e15).trans e16), by simp; omega, fun x hx => by
    rcases List.mem_cons.mp hx with rfl | hx
    · obtain ⟨y, l1, rfl⟩ := List.exists_cons_of_ne_nil hpne
      exact hp.rng _ (by simp)
    · exact cap_rng hcap (fun y hy => hp.rng y (List.mem_of_mem_tail hy)) (by omega) x hx⟩
  have ib : Ir h16 v16 ((canonGo [] qL).map (shC ((g : Nat) : Int))) := ⟨b16.row, by rw [List.length_map]; exact it.len, shC_rng (by omega) (by omega) it.rng hlow⟩
  refine s29 _ _ _ _ _ _ _ _ _ (he12.ext (((e13.trans e14).trans e15).trans e16)) (hT _ _ ee16 ht) ia ib ?_ fun h17 e17 => ⟨_, rfl, ?_⟩
  · rw [List.length_map, canonGo_len]
    simp; omega
  · have hkk := hk h17 (ee16.trans e17)
    by_cases hh : pR.headD 0 = qL.headD 0
    · rw [decide_eq_true hh, Bool.true_and] at hkk
      exact hkk
    · rw [decide_eq_false hh, Bool.false_and] at hkk
      have h0 : 0 ≤ qL.headD 0 := by omega
      rw [canon_head hqne h0, canB_heads (by omega) h0 hh]
      exact hkk
theorem lawEdges (hT : Stays T) (c : Cl3 D) (s6 : ∀ h (k : Kv) kp, T h → (∀ h', Ext h h' → k (.bool true) h') → D 6 [] h k kp) (s7 : SpecEdge D 7 T) (s8 : SpecEdge D 8 T)
    {va plv prv qlv qrv : Value} {S : Sm} {pR qL : List Int} {h : H} {k : Kv} {kp : Kp} (hpl : one plv = true) (hqr : one qrv = true) (hS : Ss h va S) (ht : T h) (hp : Ir h prv pR) (hq : Ir h qlv qL) (hk : ∀ h', Ext h h' → k (.bool true) h') : D 3 [va, .agg #[plv, prv], .agg #[qlv, qrv]] h k kp := by
  refine c _ _ _ _ _ _ ?_
  obtain ⟨sa, ra, rfl, hsa, hra⟩ := hS.ex
  unfold F3
  rw [aggW_agg]
  refine (Hp.nil_ h).new_ fun p1 h1 hp1 o1 => ?_
  rw [aggW_agg]
  refine o1.new_ fun p4 h4 hp4 o4 => ?_
  rw [aggW_agg]
  refine o4.new_ fun p7 h7 hp7 o7 => ?_
  have o7 : Hp h h7 [cellR p7 [qlv, qrv], cellR p4 [plv, prv], cellR p1 [sa, ra]] := o7
  refine s6 _ _ _ (hT _ _ o7.ext ht) fun h8 e8 => ⟨_, rfl, ?_⟩
  have o8 := o7.later e8
  rw [ptrW_ptr]
  refine ⟨sa, ra, rd2 (o8.cell (i := 2) rfl), ?_⟩
  rw [ptrW_ptr]
  refine ⟨plv, prv, rd2 (o8.cell (i := 1) rfl), ?_⟩
  rw [ptrW_ptr]
  refine ⟨qlv, qrv, rd2 (o8.cell (i := 0) rfl), ?_⟩
  refine s7 _ S _ _ _ _ pR qL _ _ _ hpl hqr (hS.ext o8.ext) (hT _ _ o8.ext ht) (hp.ext o8.ext) (hq.ext o8.ext) fun h9 e9 => ⟨_, rfl, ?_⟩
  have o9 := o8.later e9
  rw [ptrW_ptr]
  refine ⟨sa, ra, rd2 (o9.cell (i := 2) rfl), ?_⟩
  rw [ptrW_ptr]
  refine ⟨plv, prv, rd2 (o9.cell (i := 1) rfl), ?_⟩
  rw [ptrW_ptr]
  refine ⟨qlv, qrv, rd2 (o9.cell (i := 0) rfl), ?_⟩
  refine s8 _ S _ _ _ _ pR qL _ _ _ hpl hqr (hS.ext o9.ext) (hT _ _ o9.ext ht) (hp.ext o9.ext) (hq.ext o9.ext) fun h10 e10 => ⟨_, rfl, ?_⟩
  rw [cond_true]
  have := hk h10 (o9.ext.trans e10)
  simpa using this
end Go.Proofs.YtnlhnlmnlfmojaaGreatDoor.Am

namespace Go.Proofs.YtnlhnlmnlfmojaaGreatDoor.Am
open Go Go.Proofs Sys Go.Lib
set_option linter.unusedVariables false
set_option linter.unusedSimpArgs false
set_option maxRecDepth 100000
variable {D : Orc} {T : H → Prop}

theorem spec11 (hT : Stays T) (c : Cl11 D) (s8 : SpecEdge D 8 T) : SpecGraph D 11 T := by
  intro va S lv ps h k kp hS ht hl hk
  refine c _ _ _ _ _ ?_
  obtain ⟨sa, ra, rfl, hsa, hra⟩ := hS.ex
  unfold F11
  have hpl : ps.length < 1099511627776 := hl.len
  rw [aggW_agg]
  intro p1 hp1
  have e1 : Ext h (h.set p1 (.cells #[sa, ra].toList)) := Ext.new hp1
  have b1 : (h.set p1 (.cells #[sa, ra].toList)) p1 = some (.cells [sa, ra]) := set_here
  generalize h.set p1 (.cells #[sa, ra].toList) = h1 at e1 b1 ⊢
  have hl1 := hl.ext e1
  obtain ⟨vs, rk, hvl, hvi⟩ := hl1.ex
  have rowq : ∀ {i : Nat} {p : Ru}, ps[i]? = some p → ∃ lvi rvi, (ruRow vs)[i]? = some [lvi, rvi] ∧ Ir h1 lvi p.1 ∧ Ir h1 rvi p.2 := fun {i p} hp => by
    have hil := (List.getElem?_eq_some_iff.mp hp).1
    obtain ⟨v, hv⟩ : ∃ v, vs[i]? = some v := ⟨_, List.getElem?_eq_getElem (by omega)⟩
    obtain ⟨r, hr, a, b⟩ := hvi i v hv
    rw [hp] at hr
    obtain rfl := Option.some.inj hr
    exact ⟨v.1, v.2, by simp [ruRow, hv], a, b⟩
  intro I hI
  have key := down_ind (P := fun i => ∀ (ov : Value) (ws : List Value) (g h' : H), Hp h1 h' [bufR ov ws, frzR g] → ws.length = i → (∀ j w, ws[j]? = some w → ∃ p : Ru, ps[j]? = some p ∧ Row g w (Z (edgeUp S ps p.2 ps.length))) →
      I [lv, Pt p1, ov, .int .i64 ((i : Nat) : Int)] h') ps.length
    fun i hi ih ov ws g h' o hwl hw => by
    refine hI _ _ _ _ _ ?_
    unfold round11_3
    rw [intK_int, (hl1.ext o.ext).len_, cond_dec]
    refine ⟨fun hlt => ?_, fun hge => ?_⟩
    · have hi1 : i < ps.length := by omega
      obtain ⟨p, hp⟩ : ∃ p, ps[i]? = some p := ⟨_, List.getElem?_eq_getElem hi1⟩
      obtain ⟨plv, prv, hpv, ipl, ipr⟩ := rowq hp
      refine o.newSl0 fun rv h2 o2 => ?_
      intro I2 hI2
      have key2 := down_ind (P := fun m => ∀ (rv : Value) (h' : H), Hp h1 h' [bufR rv (Z (edgeUp S ps p.2 m)), bufR ov ws, frzR g] → I2 [lv, Pt p1, ov, .int .i64 ((i : Nat) : Int), rv, .int .i64 ((m : Nat) : Int)] h') ps.length
        fun m hm ih2 rv h' o => by
        refine hI2 _ _ _ _ _ _ _ ?_
        unfold round11_7
        rw [intK_int, intK_int, (hl1.ext o.ext).len_, cond_dec]
        refine ⟨fun hlt2 => ?_, fun hge2 => ?_⟩
        · have hm1 : m < ps.length := by omega
          obtain ⟨q, hq⟩ : ∃ q, ps[m]? = some q := ⟨_, List.getElem?_eq_getElem hm1⟩
          obtain ⟨qlv, qrv, hqv, iql, iqr⟩ := rowq hq
          rw [ptrW_ptr]
          refine ⟨sa, ra, rd2 (o.ext _ _ b1), ?_⟩
          refine (rk.ext o.ext).at_ (by omega) (by rw [ruRow_len]; omega) fun ad w hw1 hrd _ => ?_
          rw [Int.toNat_natCast, hpv] at hw1
          obtain rfl := Option.some.inj hw1
          refine ⟨plv, prv, hrd, ?_⟩
          refine (rk.ext o.ext).at_ (by omega) (by rw [ruRow_len]; omega) fun ad w hw1 hrd _ => ?_
          rw [Int.toNat_natCast, hqv] at hw1
          obtain rfl := Option.some.inj hw1
          refine ⟨qlv, qrv, hrd, ?_⟩
          refine s8 _ S _ _ _ _ p.2 q.1 _ _ _ (sl_one' ipl.row) (sl_one' iqr.row) (hS.ext (e1.trans o.ext)) (hT _ _ (e1.trans o.ext) ht) (ipr.ext o.ext) (iql.ext o.ext) fun h3 e3 => ⟨_, rfl, ?_⟩
          have o3 := o.later e3
          have hup := edgeUp_succ (S := S) (pR := p.2) hq
          have hlen2 := (edgeUp_rng (S := S) (ps := ps) (pR := p.2) (k := m) (by omega)).1
          have go : ∀ {K : Kl} (rv : Value) (h' : H), Hp h1 h' [bufR rv (Z (edgeUp S ps p.2 (m + 1))), bufR ov ws, frzR g] → j11_7_8 D I2 K lv (Pt p1) ov (.int .i64 ((i : Nat) : Int)) rv (.int .i64 ((m : Nat) : Int)) h' := fun rv h' o => by
            unfold j11_7_8
            rw [intK_int, intK_int, i64_id (by omega) (by omega)]
            exact ih2 hm1 rv h' o
          cases hb : edgeB S p.2 q.1 with
          | true =>
            rw [cond_true]
            refine ⟨rfl, by decide, ?_⟩
            refine (o3.push (i := 0) rfl (by decide) (by rw [Z_len]; omega) rfl (O := True) (U := True) trivial trivial fun s' h4 o4 => ?_).2.2
            refine go s' h4 ?_
            have e : Z (edgeUp S ps p.2 m) ++ [Value.int .i64 ((m : Nat) : Int)] = Z (edgeUp S ps p.2 (m + 1)) := by rw [hup, hb, if_pos rfl]; unfold Z; rw [List.map_append]; rfl
            rw [e] at o4
            exact o4
          | false =>
            rw [cond_false]
            refine go rv h3 ?_
            rw [hup, hb, if_neg (by simp), List.append_nil]
            exact o3
        · dsimp only
          rw [xs_e]
          show cond true _ _
          rw [cond_true, nth0, nth1, nth2, nth3, nth4, intK_int]
          obtain rfl : m = ps.length := by omega
          have hr1 := sl_one' (o.row (i := 0) rfl)
          refine ⟨hr1, by decide, ?_⟩
          refine (o.push (i := 1) rfl (by decide) (by omega) hr1 (O := True) (U := True) trivial trivial fun s' h4 o4 => ?_).2.2
          have o4 : Hp h1 h4 [bufR rv (Z (edgeUp S ps p.2 ps.length)), bufR s' (ws ++ [rv]), frzR g] := o4
          obtain ⟨g', eg, fr, o5⟩ := (o4.perm (L' := [bufR rv (Z (edgeUp S ps p.2 ps.length)), frzR g, bufR s' (ws ++ [rv])]) (.cons _ (.swap _ _ _))).freeze
          rw [i64_id (by omega) (by omega)]
          refine ih hi1 s' (ws ++ [rv]) g' h4 (o5.perm (.swap _ _ _)) (by simp [hwl]) fun j w hj => ?_
          rw [List.getElem?_append] at hj
          split at hj
          · obtain ⟨p2, a, b⟩ := hw j w hj
            exact ⟨p2, a, b.ext eg⟩
          · rename_i hlt3
            by_cases h0 : j - ws.length = 0
            · rw [h0] at hj
              obtain rfl : rv = w := by simpa using hj
              refine ⟨p, ?_, Buf.row fr⟩
              have hji : j = i := by
                have := hlt3; omega
              rw [hji]; exact hp
            · obtain ⟨w', hw'⟩ : ∃ w, j - ws.length = w + 1 := ⟨j - ws.length - 1, by omega⟩
              rw [hw'] at hj; simp at hj
      exact key2 0 (by omega) rv h2 o2
    · dsimp only
      rw [xs_e]
      show cond true _ _
      rw [cond_true, nth0]
      have hgl : (graphL S ps).length = ps.length := by unfold graphL; simp
      refine hk ov h' (e1.trans o.ext) ⟨⟨ws, o.row (i := 0) rfl, by omega, fun j w hj => ?_⟩⟩
      obtain ⟨p, hp, hrow⟩ := hw j w hj
      have hr := edgeUp_rng (S := S) (ps := ps) (pR := p.2) (k := ps.length) (by omega)
      refine ⟨edgeUp S ps p.2 ps.length, by unfold graphL; simp [hp], hrow.ext (o.get (i := 1) rfl), by omega, hr.2⟩
  exact key 0 (by omega) _ [] noH h1 ((Hp.nil_ h1).add_frz.add_nil (a := none)) rfl fun j w hj => by simp at hj
end Go.Proofs.YtnlhnlmnlfmojaaGreatDoor.Am

namespace Go.Proofs.YtnlhnlmnlfmojaaGreatDoor.Am
open Go Go.Proofs Sys Go.Lib
set_option linter.unusedVariables false
set_option linter.unusedSimpArgs false
set_option maxRecDepth 100000
variable {D : Orc} {T : H → Prop}

theorem BufK.cut {sz : Nat} {h0 h : H} {s : Value} {vs : List (List Value)} (r : BufK sz h0 h s vs) {n : Nat} (hn : n ≤ vs.length) : BufK sz h0 h (cutTo s n) (vs.take n) := by
  obtain ⟨he, ⟨⟨ba, rfl⟩, rfl⟩ | ⟨b, off, cap, l, h1, rfl, hb, h2, h3, h4⟩⟩ := r
  · have : n = 0 := by simpa using hn
    subst this
    exact ⟨by simp, .inl ⟨⟨_, rfl⟩, rfl⟩⟩
  · refine ⟨fun v hv => he v (List.mem_of_mem_take hv), .inr ⟨b, off, cap, l, h1, by simp [cutTo, Nat.min_eq_left hn], hb, by simp; omega, h3, ?_⟩⟩
    have m2 : n * sz ≤ vs.length * sz := Nat.mul_le_mul_right _ hn
    rw [List.length_take, Nat.min_eq_left hn, ← flat_take n he, ← h4, List.take_take, Nat.min_eq_left m2]
theorem cut_ruleK {sz : Nat} {s : Value} {n : Int} {k : Value → Prop} (hs : isSl s) (h0 : 0 ≤ n) (h1 : n ≤ capOf s) (hk : k (cutTo s n.toNat)) : slCutW s none (some n) none sz k := by
  cases s <;> try exact hs.elim
  rename_i base len cap
  simp only [capOf] at h1
  simp only [slCutW, Option.getD_none, Option.getD_some, Option.isSome_none, Option.isSome_some, Bool.false_eq_true, false_implies, true_and, Int.toNat_natCast, Int.toNat_zero, Nat.sub_zero]
  refine ⟨by omega, by omega, by omega, by omega, ?_⟩
  have hz : (if cap = 0 then base else base.map (·.add (0 * sz))) = base := by
    cases base with
    | none => split <;> rfl
    | some a =>
      have : a.add 0 = a := by simp [Addr.add]
      simp [this]
  rw [hz]; exact hk
theorem Hp.uptoK {h0 h : H} {L : List Res} {i sz : Nat} {s : Value} {vs : List (List Value)} (o : Hp h0 h L) (hi : L[i]? = some (bufK sz s vs)) {n : Int} (hn0 : 0 ≤ n) (hn : n ≤ vs.length) {K : Value → Prop} (hK : Hp h0 h (L.set i (bufK sz (Am.cutTo s n.toNat) (vs.take n.toNat))) → K (Am.cutTo s n.toNat)) : slCutW s none (some n) none sz K := by
  have r := o.bufK_ hi
  refine cut_ruleK r.row.isSl hn0 ?_ (hK (o.of_bufK hi (r.self.cut (by omega)) (Ext.drop h s)))
  obtain ⟨_, ⟨⟨a, rfl⟩, rfl⟩ | ⟨b, off, cap, l, _, rfl, _, h2, _⟩⟩ := r
  · simp only [List.length_nil] at hn
    show n ≤ 0
    exact hn
  · show n ≤ (cap : Int)
    omega
theorem pairs_256 {S : Sm} : (pairsL S).length ≤ 256 := by
  unfold pairsL
  split
  · split
    · simp
    · omega
  · simp
theorem same_rows {D : Orc} (s12 : SpecSameRow D 12) {a b : Value} {ts : List (List Int)} {h : H} {K : Kl} {I : List Value → H → Prop} (hI : ∀ a0 a1 a2 h, round4_11 D I K a0 a1 a2 h → I [a0, a1, a2] h) (ra : Rw h a ts) (rb : Rw h b ts) (hts : ts.length < 2 ^ 40) (hK : K (.e 0) [] h) : I [a, b, .int .i64 ((0 : Nat) : Int)] h := by
  have key := down_ind (P := fun i => I [a, b, .int .i64 ((i : Nat) : Int)] h) ts.length fun i hi ih => by
    refine hI _ _ _ _ ?_
    unfold round4_11
    rw [intK_int, ra.len_, cond_dec]
    refine ⟨fun hlt => ?_, fun _ => hK⟩
    refine ra.at_ (by omega) (by omega) fun ad v t ht hrd it => ⟨v, hrd, ?_⟩
    refine rb.at_ (by omega) (by omega) fun ad w t' ht' hrd' it' => ⟨w, hrd', ?_⟩
    rw [ht] at ht'
    obtain rfl := Option.some.inj ht'
    refine s12 _ _ _ _ _ _ _ it it' ⟨_, rfl, ?_⟩
    rw [decide_eq_true rfl, Bool.not_true, cond_false, i64_id (by omega) (by omega)]
    exact ih (by omega)
  exact key 0 (by omega)
theorem lawGraph (hT : Stays T) (c : Cl4 D) (s6 : ∀ h (k : Kv) kp, T h → (∀ h', Ext h h' → k (.bool true) h') → D 6 [] h k kp) (s9 : SpecOf D 9 T) (s10 : SpecGraph D 10 T) (s11 : SpecGraph D 11 T) (s12 : SpecSameRow D 12)
    {va mv : Value} {S : Sm} {ms : List Ru} {h : H} {k : Kv} {kp : Kp} (hS : Ss h va S) (hm : Rr h mv ms) (hms : ms.length < 2 ^ 30) (ht : T h) (hk : ∀ h', Ext h h' → k (.bool true) h') : D 4 [va, mv] h k kp := by
  refine c _ _ _ _ _ ?_
  obtain ⟨sa, ra, rfl, hsa, hra⟩ := hS.ex
  unfold F4
  rw [aggW_agg]
  intro p1 hp1
  have e1 : Ext h (h.set p1 (.cells #[sa, ra].toList)) := Ext.new hp1
  have b1 : (h.set p1 (.cells #[sa, ra].toList)) p1 = some (.cells [sa, ra]) := set_here
  generalize h.set p1 (.cells #[sa, ra].toList) = h1 at e1 b1 ⊢
  refine s6 _ _ _ (hT _ _ e1 ht) fun h2 e2 => ⟨_, rfl, ?_⟩
  have e02 := e1.trans e2
  have b2 := e2 _ _ b1
  rw [ptrW_ptr]
  refine ⟨sa, ra, rd2 b2, ?_⟩
  refine s9 _ S _ _ _ (hS.ext e02) (hT _ _ e02 ht) fun v xs h3 o hxs => ⟨_, _, rfl, ?_⟩
  have hfit := pairs_fit (S := S)
  rw [← hxs] at hfit
  have hxl : xs.length ≤ 256 := by
    have := pairs_256 (S := S)
    rw [← hxs] at this; simpa using this
  rw [(o.rowK (i := 0) rfl).len, ruRow_len, List.length_map]
  obtain ⟨mvs, mk, ml, mi⟩ := (hm.ext e02).ex
  have mone : ∀ x ∈ mvs, one x.1 = true ∧ one x.2 = true := fun x hx => by
    obtain ⟨i, hi⟩ := List.getElem?_of_mem hx
    obtain ⟨r, _, a, b⟩ := mi i x hi
    exact ⟨sl_one' a.row, sl_one' b.row⟩
  -- the rest, of a beginning of the pairs
  have rest : ∀ (v : Value) (n : Nat), n ≤ xs.length → Hp h2 h3 (bufK 2 v (ruRow ((xs.take n).map Prod.fst)) :: prR xs) → j4__5 D k kp mv (Pt p1) (.bool true) v h3 := fun v n hn o => by
    unfold j4__5
    rw [boolW_bool]
    have mk3 := mk.ext o.ext
    rw [mk3.slen]
    refine mk3.src (Nat.le_refl _) ?_
    rw [List.take_length]
    refine o.appK (i := 0) (us := ruRow mvs) rfl rfl ?_ (fun u hu => ?_) rfl rfl (by decide) (by rw [ruRow_len, ruRow_len]; simp; omega) fun s' h4 o4 => ?_
    · rw [List.all_eq_true]
      intro x hx
      obtain ⟨l, hl, hx⟩ := List.mem_flatten.mp hx
      simp only [ruRow, List.mem_map] at hl
      obtain ⟨w, hw, rfl⟩ := hl
      have := mone w hw
      simp only [List.mem_cons, List.not_mem_nil, or_false] at hx
      rcases hx with rfl | rfl
      · exact this.1
      · exact this.2
    · simp only [ruRow, List.mem_map] at hu
      obtain ⟨w, _, rfl⟩ := hu; rfl
    have o4 : Hp h2 h4 (bufK 2 s' (ruRow ((xs.take n).map Prod.fst) ++ ruRow mvs) :: prR xs) := o4
    let ps : List Ru := (xs.take n).map Prod.snd ++ ms
    have hps : ps.length < 2 ^ 40 := by
      show ((xs.take n).map Prod.snd ++ ms).length < _
      simp; omega
    have rr : Rr h4 s' ps := by
      refine ⟨⟨(xs.take n).map Prod.fst ++ mvs, ?_, by show _ = ((xs.take n).map Prod.snd ++ ms).length; simp [ml], fun i w hw => ?_⟩, hps⟩
      · have : ruRow ((xs.take n).map Prod.fst ++ mvs) = ruRow ((xs.take n).map Prod.fst) ++ ruRow mvs := by simp [ruRow]
        rw [this]; exact o4.rowK (i := 0) rfl
      · rw [List.getElem?_append] at hw
        split at hw
        · rename_i hlt
          simp only [List.getElem?_map, Option.map_eq_some_iff] at hw
          obtain ⟨x, hx, rfl⟩ := hw
          have hxm := List.mem_of_mem_take (List.mem_of_getElem? hx)
          obtain ⟨f1, f2⟩ := hfit.2 x.2 (List.mem_map_of_mem hxm)
          obtain ⟨q1, q2⟩ := prR_mem hxm
          refine ⟨x.2, ?_, fit_ir (Buf.row (o4.ok _ (List.mem_cons_of_mem _ q1))) f1, fit_ir (Buf.row (o4.ok _ (List.mem_cons_of_mem _ q2))) f2⟩
          show ((xs.take n).map Prod.snd ++ ms)[i]? = _
          rw [List.getElem?_append_left (by simpa using hlt), List.getElem?_map, hx]; rfl
        · rename_i hge
          obtain ⟨r, hr, a, b⟩ := mi _ w hw
          refine ⟨r, ?_, a.ext o4.ext, b.ext o4.ext⟩
          show ((xs.take n).map Prod.snd ++ ms)[i]? = _
          rw [List.getElem?_append_right (by simpa using hge)]
          simpa using hr
    have e04 := e02.trans o4.ext
    rw [ptrW_ptr]
    refine ⟨sa, ra, rd2 (o4.ext _ _ b2), ?_⟩
    refine s10 _ S _ ps _ _ _ (hS.ext e04) (hT _ _ e04 ht) rr fun ga h5 e5 rga => ⟨_, rfl, ?_⟩
    rw [ptrW_ptr]
    refine ⟨sa, ra, rd2 (e5 _ _ (o4.ext _ _ b2)), ?_⟩
    have e05 := e04.trans e5
    refine s11 _ S _ ps _ _ _ (hS.ext e05) (hT _ _ e05 ht) (rr.ext e5) fun gb h6 e6 rgb => ⟨_, rfl, ?_⟩
    have rga6 := rga.ext e6
    rw [show (!(!true)) = true from rfl, cond_true, rga6.len_, rgb.len_]
    have hgl : (graphL S ps).length = ps.length := by unfold graphL; simp
    rw [show ((((graphL S ps).length : Nat) : Int) != (((graphL S ps).length : Nat) : Int)) = false from by simp]
    unfold j4__9
    rw [boolW_bool, cond_false]
    intro I hI
    exact same_rows s12 hI rga6 rgb (by omega) (hk h6 (e05.trans e6))
  rw [cond_dec]
  refine ⟨fun hgt => ?_, fun hle => ?_⟩
  · refine o.uptoK (i := 0) rfl (by decide) (by rw [ruRow_len, List.length_map]; omega) fun o2 => rest _ 30 (by omega) ?_
    have e : (ruRow (xs.map Prod.fst)).take 30 = ruRow ((xs.take 30).map Prod.fst) := by simp [ruRow, List.map_take]
    have o3 : Hp h2 h3 (bufK 2 (cutTo v 30) ((ruRow (xs.map Prod.fst)).take 30) :: prR xs) := o2
    rw [e] at o3
    exact o3
  · refine rest v xs.length (Nat.le_refl _) ?_
    rw [List.take_length]; exact o
end Go.Proofs.YtnlhnlmnlfmojaaGreatDoor.Am
