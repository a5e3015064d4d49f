/-
  Packed: Nodes that lie together: how graphs that are changed keep it. Plain Lean. Graphs that are built edge by edge; the law of turned edges.
-/
import Derived.Test.YtdndngngdngjjaaPkG
import Derived.Test.YtdndngngdngjjaaPkH
namespace Go.Proofs.Gr

def Tog (g : G) (i k : Nat) : Prop := Way g i k ∧ Way g k i
theorem Tog.symm {g : G} {i k : Nat} (h : Tog g i k) : Tog g k i := ⟨h.2, h.1⟩
theorem Way.trans {g : G} {x y z : Nat} (h : Way g x y) (k : Way g y z) : Way g x z := by
  obtain ⟨a, e, r⟩ := h
  exact ⟨a, e, r.trans k.reach⟩
theorem Tog.self {g : G} {i k : Nat} (h : Tog g i k) : Way g i i := h.1.trans h.2
theorem tog_self {g : G} {i : Nat} : Tog g i i ↔ Way g i i := ⟨fun h => h.1, fun h => ⟨h, h⟩⟩
theorem Way.lt {g : G} {i k : Nat} (h : Way g i k) : i < g.length ∧ k < g.length := by
  obtain ⟨y, e, r⟩ := h
  exact ⟨e.1, r.lt e.2.1⟩
theorem tog_cls {g : G} {i k : Nat} (hw : Way g i i) : k ∈ cls g i ↔ Tog g i k := by
  rw [mem_cls]
  constructor
  · rintro ⟨_, h1, h2⟩
    rcases h1.way with e | h1
    · subst e; exact ⟨hw, hw⟩
    · rcases h2.way with e | h2
      · subst e; exact ⟨hw, hw⟩
      · exact ⟨h1, h2⟩
  · exact fun h => ⟨h.1.lt.2, h.1.reach, h.2.reach⟩
theorem in_part {g : G} {i k : Nat} : (∃ p ∈ partsOf g, i ∈ p ∧ k ∈ p) ↔ Tog g i k := by
  have A := partsOf_all g
  constructor
  · rintro ⟨p, hp, hi, hk⟩
    obtain ⟨x, hx, hw, rfl⟩ := A.ok p hp
    have h1 := (tog_cls hw).mp hi
    have h2 := (tog_cls hw).mp hk
    exact ⟨h1.2.trans h2.1, h2.2.trans h1.1⟩
  · intro h
    obtain ⟨p, hp, hi⟩ := A.all i h.1.lt.1 h.self
    refine ⟨p, hp, hi, ?_⟩
    obtain ⟨x, hx, hw, rfl⟩ := A.ok p hp
    have h1 := (tog_cls hw).mp hi
    exact (tog_cls hw).mpr ⟨h1.1.trans h.1, h.2.trans h1.2⟩
theorem partsOf_congr {g g' : G} (hl : g.length = g'.length) (h : ∀ i k, i < g.length → k < g.length → (Tog g i k ↔ Tog g' i k)) : partsOf g = partsOf g' := by
  classical
  have hw : ∀ i, i < g.length → (Way g i i ↔ Way g' i i) := fun i hi => by rw [← tog_self, ← tog_self]; exact h i i hi hi
  have hc : ∀ i, i < g.length → Way g i i → cls g i = cls g' i := fun i hi hwi => by
    refine strict_ext (cls_sorted g i) (cls_sorted g' i) fun y => ?_
    rw [tog_cls hwi, tog_cls ((hw i hi).mp hwi)]
    by_cases hy : y < g.length
    · exact h i y hi hy
    · exact ⟨fun t => absurd t.1.lt.2 hy, fun t => absurd t.1.lt.2 (by rw [← hl]; exact hy)⟩
  unfold partsOf
  rw [← hl]
  have e : (List.range g.length).filter (fun i => decide (Way g i i ∧ (cls g i).headD 0 = i)) = (List.range g.length).filter (fun i => decide (Way g' i i ∧ (cls g' i).headD 0 = i)) := by
    apply List.filter_congr
    intro i hi
    have hi := List.mem_range.mp hi
    rw [decide_eq_decide]
    constructor
    · rintro ⟨h1, h2⟩
      exact ⟨(hw i hi).mp h1, by rw [← hc i hi h1]; exact h2⟩
    · rintro ⟨h1, h2⟩
      have h1' := (hw i hi).mpr h1
      exact ⟨h1', by rw [hc i hi h1']; exact h2⟩
  have e2 : ((List.range g.length).filter fun i => decide (Way g i i ∧ (cls g i).headD 0 = i)).map (cls g) = ((List.range g.length).filter fun i => decide (Way g i i ∧ (cls g i).headD 0 = i)).map (cls g') := by
    apply List.map_congr_left
    intro i hi
    rw [List.mem_filter, List.mem_range, decide_eq_true_eq] at hi
    exact hc i hi.1 hi.2.1
  rw [e2, e]

/-! ### all edges turned round -/
theorem reach_turn {g g' : G} (h : ∀ x y, Edge g x y → Edge g' y x) {x y : Nat} (r : Reach g x y) : Reach g' y x := by
  induction r with
  | refl => exact .refl _
  | step e _ ih => exact ih.trans (.edge (h _ _ e))
theorem way_turn {g g' : G} (h : ∀ x y, Edge g x y → Edge g' y x) {x y : Nat} (w : Way g x y) : Way g' y x := by
  obtain ⟨z, e, r⟩ := w
  rcases (reach_turn h r).way with e2 | w
  · subst e2; exact ⟨x, h _ _ e, .refl _⟩
  · exact w.trans ⟨x, h _ _ e, .refl _⟩
theorem turned {g g' : G} (hl : g'.length = g.length) (h : ∀ x y, Edge g' y x ↔ Edge g x y) : partsOf g' = partsOf g :=
  partsOf_congr hl fun i k _ _ => ⟨fun t => ⟨way_turn (fun x y e => (h y x).mp e) t.2, way_turn (fun x y e => (h y x).mp e) t.1⟩,
    fun t => ⟨way_turn (fun x y e => (h x y).mpr e) t.2, way_turn (fun x y e => (h x y).mpr e) t.1⟩⟩

/-! ### edges within a part -/
theorem way_ind {g g' : G} (h : ∀ x y, Edge g x y → Edge g' x y) {x y : Nat} (w : Way g x y) : Way g' x y := by
  have key : ∀ a b, Reach g a b → Reach g' a b := fun a b r => by
    induction r with
    | refl => exact .refl _
    | step e _ ih => exact .step (h _ _ e) ih
  obtain ⟨z, e, r⟩ := w
  exact ⟨z, h _ _ e, key _ _ r⟩
theorem counted {g g' : G} (hl : g'.length = g.length) (h : ∀ x y, Edge g' x y ↔ Edge g x y ∧ Tog g x y) : partsOf g' = partsOf g := by
  refine partsOf_congr hl fun i k _ _ => ⟨fun t => ⟨way_ind (fun x y e => ((h x y).mp e).1) t.1, way_ind (fun x y e => ((h x y).mp e).1) t.2⟩, ?_⟩
  have key : ∀ a b, Reach g a b → ∀ c, Edge g c a → Reach g b c → Way g' c b := fun a b r => by
    induction r with
    | refl x =>
      intro c e rb
      exact ⟨x, (h c x).mpr ⟨e, ⟨x, e, .refl _⟩, by
        rcases rb.way with e2 | w
        · subst e2; exact ⟨_, e, .refl _⟩
        · exact w⟩, .refl _⟩
    | @step x y z e r ih =>
      intro c e0 rb
      have w1 : Way g' x z := ih x e (rb.trans (.edge e0))
      refine Way.trans ⟨x, (h c x).mpr ⟨e0, ⟨x, e0, .refl _⟩, ?_⟩, .refl _⟩ w1
      exact ⟨y, e, r.trans rb⟩
  have half : ∀ a b, Way g a b → Way g b a → Way g' a b := fun a b h1 h2 => by
    obtain ⟨y, e, r⟩ := h1
    exact key y b r a e h2.reach
  exact fun t => ⟨half i k t.1 t.2, half k i t.2 t.1⟩

/-! ### one edge more -/
theorem more_way {g g' : G} {u v : Nat} (h : ∀ x y, Edge g' x y ↔ Edge g x y ∨ (x = u ∧ y = v)) {i k : Nat} : Way g' i k ↔ Way g i k ∨ ((i = u ∨ Way g i u) ∧ (v = k ∨ Way g v k)) := by
  have huv : Edge g' u v := (h u v).mpr (.inr ⟨rfl, rfl⟩)
  have sub : ∀ {a b}, Way g a b → Way g' a b := fun w => way_ind (fun x y e => (h x y).mpr (.inl e)) w
  constructor
  · have key : ∀ a b, Reach g' a b → ∀ c, Edge g' c a → Way g c b ∨ ((c = u ∨ Way g c u) ∧ (v = b ∨ Way g v b)) := fun a b r => by
      induction r with
      | refl x =>
        intro c e
        rcases (h _ _).mp e with e | ⟨e1, e2⟩
        · exact .inl ⟨x, e, .refl _⟩
        · exact .inr ⟨.inl e1, .inl e2.symm⟩
      | @step x y z e r ih =>
        intro c e0
        have h1 := ih x e
        rcases (h _ _).mp e0 with e0 | ⟨e1, e2⟩
        · rcases h1 with h1 | ⟨h2, h3⟩
          · exact .inl (Way.trans ⟨x, e0, .refl _⟩ h1)
          · refine .inr ⟨.inr ?_, h3⟩
            rcases h2 with h2 | h2
            · subst h2; exact ⟨_, e0, .refl _⟩
            · exact Way.trans ⟨x, e0, .refl _⟩ h2
        · subst e2
          rcases h1 with h1 | ⟨h2, h3⟩
          · exact .inr ⟨.inl e1, .inr h1⟩
          · exact .inr ⟨.inl e1, h3⟩
    rintro ⟨y, e, r⟩
    exact key y k r i e
  · rintro (w | ⟨h1, h2⟩)
    · exact sub w
    · have w0 : Way g' u v := ⟨v, huv, .refl _⟩
      have w1 : Way g' i v := by
        rcases h1 with h1 | h1
        · subst h1; exact w0
        · exact (sub h1).trans w0
      rcases h2 with h2 | h2
      · subst h2; exact w1
      · exact w1.trans (sub h2)

/-! ### nodes numbered otherwise -/
theorem renamed_way {g g' : G} {f : Nat → Nat} (h : ∀ x y, Edge g x y → Edge g' (f x) (f y)) {x y : Nat} (w : Way g x y) : Way g' (f x) (f y) := by
  have key : ∀ a b, Reach g a b → Reach g' (f a) (f b) := fun a b r => by
    induction r with
    | refl => exact .refl _
    | step e _ ih => exact .step (h _ _ e) ih
  obtain ⟨z, e, r⟩ := w
  exact ⟨f z, h _ _ e, key _ _ r⟩
theorem renamed {g g' : G} {f : Nat → Nat} (hl : g'.length = g.length) (hf : ∀ x, x < g.length → f x < g.length) (hs : ∀ y, y < g.length → ∃ x, x < g.length ∧ f x = y) (hi : ∀ x y, x < g.length → y < g.length → f x = f y → x = y)
    (h : ∀ x y, x < g.length → y < g.length → (Edge g' (f x) (f y) ↔ Edge g x y)) {x y : Nat} (hx : x < g.length) (hy : y < g.length) : Way g' (f x) (f y) ↔ Way g x y := by
  constructor
  · have key : ∀ a b, Reach g' a b → ∀ x y, x < g.length → y < g.length → a = f x → b = f y → Reach g x y := fun a b r => by
      induction r with
      | refl z => intro x y hx hy e1 e2; rw [hi x y hx hy (e1.symm.trans e2)]; exact .refl _
      | @step a c b e _ ih =>
        intro x y hx hy e1 e2
        subst e1
        obtain ⟨z, hz, e3⟩ := hs c (by rw [← hl]; exact e.2.1)
        subst e3
        exact .step ((h x z hx hz).mp e) (ih z y hz hy rfl e2)
    rintro ⟨c, e, r⟩
    obtain ⟨z, hz, e3⟩ := hs c (by rw [← hl]; exact e.2.1)
    subst e3
    exact ⟨z, (h x z hx hz).mp e, key _ _ r z y hz hy rfl rfl⟩
  · exact fun w => renamed_way (fun a b e => (h a b e.1 e.2.1).mpr e) w
theorem parts_len {g : G} {L : List (List Nat)} (a : AllParts g L) : L.length = (partsOf g).length := by
  have hp : (L.mergeSort fun p q => decide (p.headD 0 ≤ q.headD 0)).Perm L := List.mergeSort_perm _ _
  have hs : (L.mergeSort fun p q => decide (p.headD 0 ≤ q.headD 0)).Pairwise fun p q => decide (p.headD 0 ≤ q.headD 0) = true :=
    List.pairwise_mergeSort (fun a b c h1 h2 => by simp only [decide_eq_true_eq] at *; omega) (fun a b => by simp only [Bool.or_eq_true, decide_eq_true_eq]; omega) L
  rw [← parts_unique (a.perm hp) (hs.imp fun h => of_decide_eq_true h), hp.length_eq]
theorem renamed_len {g g' : G} {f : Nat → Nat} (hl : g'.length = g.length) (hf : ∀ x, x < g.length → f x < g.length) (hs : ∀ y, y < g.length → ∃ x, x < g.length ∧ f x = y)
    (h : ∀ x y, x < g.length → y < g.length → (Way g' (f x) (f y) ↔ Way g x y)) : (partsOf g).length = (partsOf g').length := by
  have A := partsOf_all g
  have tg : ∀ x y, x < g.length → y < g.length → (Tog g' (f x) (f y) ↔ Tog g x y) := fun x y hx hy => by unfold Tog; rw [h x y hx hy, h y x hy hx]
  have hne : ∀ p ∈ partsOf g, p.headD 0 < g.length ∧ Way g (p.headD 0) (p.headD 0) ∧ p = cls g (p.headD 0) := fun p hp => by
    obtain ⟨x, hx, hw, rfl⟩ := A.ok p hp
    have hm : (cls g x).headD 0 ∈ cls g x := head_mem fun e => by have := cls_self hx; rw [e] at this; cases this
    exact ⟨(mem_cls.mp hm).1, way_of_mem hw hm, (cls_of_mem hm).symm⟩
  have B : AllParts g' ((partsOf g).map fun p => cls g' (f (p.headD 0))) := by
    refine ⟨fun q hq => ?_, fun y hy hw => ?_, ?_⟩
    · obtain ⟨p, hp, rfl⟩ := List.mem_map.mp hq
      obtain ⟨h1, h2, _⟩ := hne p hp
      exact ⟨_, by rw [hl]; exact hf _ h1, (h _ _ h1 h1).mpr h2, rfl⟩
    · rw [hl] at hy
      obtain ⟨x, hx, rfl⟩ := hs y hy
      have hw := (h x x hx hx).mp hw
      obtain ⟨p, hp, hxp⟩ := A.all x hx hw
      obtain ⟨h1, h2, h3⟩ := hne p hp
      refine ⟨_, List.mem_map.mpr ⟨p, hp, rfl⟩, ?_⟩
      rw [tog_cls ((h _ _ h1 h1).mpr h2), tg _ _ h1 hx, ← tog_cls h2, ← h3]
      exact hxp
    · rw [List.pairwise_map]
      refine A.dis.imp_of_mem fun {p q} hp hq hpq y hy1 hy2 => ?_
      obtain ⟨h1, h2, h3⟩ := hne p hp
      obtain ⟨k1, k2, k3⟩ := hne q hq
      have hyl := (mem_cls.mp hy1).1
      rw [hl] at hyl
      obtain ⟨x, hx, rfl⟩ := hs y hyl
      rw [tog_cls ((h _ _ h1 h1).mpr h2), tg _ _ h1 hx, ← tog_cls h2, ← h3] at hy1
      rw [tog_cls ((h _ _ k1 k1).mpr k2), tg _ _ k1 hx, ← tog_cls k2, ← k3] at hy2
      exact hpq x hy1 hy2
  have := parts_len B
  rw [List.length_map] at this
  exact this

/-! ### what lies on no circle -/
open Classical in
theorem sink {g : G} {S : Nat → Prop} (hS : ∀ x, S x → x < g.length ∧ ¬ Way g x x) {x : Nat} (hx : S x) : ∃ y, S y ∧ ∀ z, S z → ¬ Edge g y z := by
  have key : ∀ (n x : Nat), S x → ((List.range g.length).filter fun y => decide (Way g x y)).length ≤ n → ∃ y, S y ∧ ∀ z, S z → ¬ Edge g y z := by
    intro n
    induction n with
    | zero =>
      intro x hx hn
      refine ⟨x, hx, fun z hz e => ?_⟩
      have : z ∈ (List.range g.length).filter fun y => decide (Way g x y) := by
        rw [List.mem_filter, List.mem_range, decide_eq_true_eq]
        exact ⟨(hS z hz).1, z, e, .refl _⟩
      have := List.length_pos_of_mem this
      omega
    | succ n ih =>
      intro x hx hn
      by_cases hq : ∃ z, S z ∧ Edge g x z
      · obtain ⟨z, hz, e⟩ := hq
        refine ih z hz ?_
        have : ((List.range g.length).filter fun y => decide (Way g z y)).length < ((List.range g.length).filter fun y => decide (Way g x y)).length := by
          have e1 : (List.range g.length).filter (fun y => decide (Way g z y)) = ((List.range g.length).filter fun y => decide (Way g x y)).filter fun y => decide (Way g z y) := by
            rw [List.filter_filter]
            apply List.filter_congr
            intro y _
            by_cases hw : Way g z y
            · have : Way g x y := Way.trans ⟨z, e, .refl _⟩ hw
              simp [hw, this]
            · simp [hw]
          rw [e1, List.length_filter_lt_length_iff_exists]
          refine ⟨z, ?_, ?_⟩
          · rw [List.mem_filter, List.mem_range, decide_eq_true_eq]
            exact ⟨(hS z hz).1, z, e, .refl _⟩
          · rw [decide_eq_true_eq]; exact (hS z hz).2
        omega
      · exact ⟨x, hx, fun z hz e => hq ⟨z, hz, e⟩⟩
  exact key _ x hx (Nat.le_refl _)
end Go.Proofs.Gr

namespace Go.Proofs.Ytdndngngdngjjaa.Am
open Go Go.Proofs Gr
set_option linter.unusedVariables false
set_option linter.unusedSimpArgs false
set_option maxRecDepth 100000
variable {D : Orc}

theorem rowsL_app2 {h0 h : H} {v : Value} {Q : List (Value × List Int)} {R : List Res} {i : Nat} {w : Value} {l : List Int} (o : Hp h0 h (rowsL v Q R)) (hi : Q[i]? = some (w, l)) (hl : l.length < 2 ^ 40) {x : Int} {K : H → Prop} (hK : ∀ u h', Hp h0 h' (rowsL v (Q.set i (u, l ++ [x])) R) → K h') :
    one (Value.int IntKind.i64 x) = true ∧ 0 < 1 ∧ newSl h 1 [(Value.int IntKind.i64 x)] (fun s31 h32 => slenW s31 (fun n33 => srcW h32 1 s31 (n33) (fun w34 => apW h32 1 8 [(Value.int IntKind.i64 (0 : Int))] w (n33) w34 (fun s35 h36 => slAtW v (i : Int) 1 (fun ad37 => one s35 = true ∧ 1 = 1 ∧ ∃ h38, wr1 h36 ad37 s35 = some h38 ∧ K h38))))) := by
  have hq := (List.getElem?_eq_some_iff.mp hi).1
  refine ⟨rfl, by decide, (o.push (rowsL_get hi) (by decide) (by rw [Z_len]; omega) rfl (O := True) (U := True) trivial trivial fun u h7 o7 => ?_).2.2⟩
  have e : Z l ++ [Value.int IntKind.i64 x] = Z (l ++ [x]) := by simp [Z]
  rw [e, rowsL_set hq] at o7
  have hone : one u = true := sl_one' (o7.row (i := i + 1) (by
    show (inZ (Q.set i (u, l ++ [x])) ++ R)[i]? = _
    rw [List.getElem?_append_left (by simp [inZ]; exact hq)]
    unfold inZ
    rw [List.getElem?_map, List.getElem?_set_self hq]; rfl))
  refine o7.put (i := 0) rfl (by rw [List.length_map]; exact hq) rfl hone fun h9 o9 => ?_
  rw [rowsL_set0] at o9
  exact hK u h9 o9
theorem rowsL_app {h0 h : H} {v : Value} {Q : List (Value × List Int)} {R : List Res} {i : Nat} {w : Value} {l : List Int} (o : Hp h0 h (rowsL v Q R)) (hi : Q[i]? = some (w, l)) (hl : l.length < 2 ^ 40) {x : Int} {K : H → Prop} (hK : ∀ u h', Hp h0 h' (rowsL v (Q.set i (u, l ++ [x])) R) → K h') :
    slAtW v (i : Int) 1 (fun ad29 => ∃ v30 : Value, rd h ad29 = some v30 ∧ one (Value.int IntKind.i64 x) = true ∧ 0 < 1 ∧ newSl h 1 [(Value.int IntKind.i64 x)] (fun s31 h32 => slenW s31 (fun n33 => srcW h32 1 s31 (n33) (fun w34 => apW h32 1 8 [(Value.int IntKind.i64 (0 : Int))] v30 (n33) w34 (fun s35 h36 => slAtW v (i : Int) 1 (fun ad37 => one s35 = true ∧ 1 = 1 ∧ ∃ h38, wr1 h36 ad37 s35 = some h38 ∧ K h38)))))) :=
  rowsL_row o hi (rowsL_app2 o hi hl hK)

/-! ### edges one by one -/
def edgesTo (g : G) (i : Nat) : List (Nat × Int) := ((List.range i).map fun a => (g.getD a []).map fun x => (a, x)).flatten
def edgesAt' (g : G) (i m : Nat) : List (Nat × Int) := edgesTo g i ++ ((g.getD i []).take m).map fun x => (i, x)
theorem edges_zero (g : G) : edgesAt' g 0 0 = [] := by simp [edgesAt', edgesTo]
theorem edges_next {g : G} {i : Nat} : edgesAt' g i (g.getD i []).length = edgesAt' g (i + 1) 0 := by
  unfold edgesAt' edgesTo
  rw [List.range_succ, List.map_append, List.flatten_append, List.take_length]
  simp
theorem edges_push {g : G} {i m : Nat} {x : Int} (hx : (g.getD i [])[m]? = some x) : edgesAt' g i (m + 1) = edgesAt' g i m ++ [(i, x)] := by
  unfold edgesAt'
  rw [(split_at hx).2.1, List.map_append, List.append_assoc]; rfl
theorem mem_edgesTo {g : G} {n i : Nat} {x : Int} : (i, x) ∈ edgesTo g n ↔ i < n ∧ x ∈ g.getD i [] := by
  unfold edgesTo
  rw [List.mem_flatten]
  constructor
  · rintro ⟨l, hl, hx⟩
    obtain ⟨a, ha, rfl⟩ := List.mem_map.mp hl
    obtain ⟨y, hy, e⟩ := List.mem_map.mp hx
    simp only [Prod.mk.injEq] at e
    obtain ⟨rfl, rfl⟩ := e
    exact ⟨List.mem_range.mp ha, hy⟩
  · rintro ⟨hi, hx⟩
    exact ⟨_, List.mem_map.mpr ⟨i, List.mem_range.mpr hi, rfl⟩, List.mem_map.mpr ⟨x, hx, rfl⟩⟩
theorem edges_len {g : G} (hs : ∀ t ∈ g, t.length ≤ 1048576) (n : Nat) : (edgesTo g n).length ≤ n * 1048576 := by
  induction n with
  | zero => simp [edgesTo]
  | succ n ih =>
    have e : edgesTo g (n + 1) = edgesTo g n ++ (g.getD n []).map fun x => (n, x) := by
      unfold edgesTo
      rw [List.range_succ, List.map_append, List.flatten_append]; simp
    rw [e, List.length_append, List.length_map]
    have : (g.getD n []).length ≤ 1048576 := by
      rw [List.getD_eq_getElem?_getD]
      cases hx : g[n]? with
      | none => simp
      | some t => exact hs t (List.mem_of_getElem? hx)
    omega
theorem edgesAt_len {g : G} (hs : ∀ t ∈ g, t.length ≤ 1048576) {i m : Nat} (hi : i ≤ 1000) : (edgesAt' g i m).length < 2 ^ 40 := by
  unfold edgesAt'
  rw [List.length_append, List.length_map, List.length_take]
  have := edges_len hs i
  have : (g.getD i []).length ≤ 1048576 := by
    rw [List.getD_eq_getElem?_getD]
    cases hx : g[i]? with
    | none => simp
    | some t => exact hs t (List.mem_of_getElem? hx)
  have : i * 1048576 ≤ 1000 * 1048576 := Nat.mul_le_mul_right _ hi
  omega
/-- What a row of the new graph holds. -/
def rowE (φ : Nat × Int → Option (Nat × Int)) (E : List (Nat × Int)) (x : Nat) : List Int := E.filterMap fun e => match φ e with
  | some (r, v) => if r = x then some v else none
  | none => none
theorem rowE_none {φ : Nat × Int → Option (Nat × Int)} {E : List (Nat × Int)} {e : Nat × Int} (h : φ e = none) (x : Nat) : rowE φ (E ++ [e]) x = rowE φ E x := by
  unfold rowE
  rw [List.filterMap_append]
  simp [h]
theorem rowE_some {φ : Nat × Int → Option (Nat × Int)} {E : List (Nat × Int)} {e : Nat × Int} {r : Nat} {v : Int} (h : φ e = some (r, v)) (x : Nat) : rowE φ (E ++ [e]) x = if r = x then rowE φ E x ++ [v] else rowE φ E x := by
  unfold rowE
  rw [List.filterMap_append]
  by_cases hx : r = x <;> simp [h, hx]
theorem rowE_len {φ : Nat × Int → Option (Nat × Int)} {E : List (Nat × Int)} {x : Nat} : (rowE φ E x).length ≤ E.length := List.length_filterMap_le _ _
theorem mem_rowE {φ : Nat × Int → Option (Nat × Int)} {E : List (Nat × Int)} {x : Nat} {v : Int} : v ∈ rowE φ E x ↔ ∃ e ∈ E, φ e = some (x, v) := by
  unfold rowE
  rw [List.mem_filterMap]
  constructor
  · rintro ⟨e, he, h⟩
    refine ⟨e, he, ?_⟩
    cases hp : φ e with
    | none => rw [hp] at h; cases h
    | some p =>
      rw [hp] at h
      simp only at h
      split at h
      · rename_i hr
        cases h
        rw [← hr]
      · cases h
  · rintro ⟨e, he, h⟩
    exact ⟨e, he, by rw [h]; simp⟩
def Rows (φ : Nat × Int → Option (Nat × Int)) (E : List (Nat × Int)) (n : Nat) (Q : List (Value × List Int)) : Prop := Q.map (·.2) = (List.range n).map (rowE φ E)
theorem Rows.len {φ : Nat × Int → Option (Nat × Int)} {E : List (Nat × Int)} {n : Nat} {Q : List (Value × List Int)} (r : Am.Rows φ E n Q) : Q.length = n := by
  have := congrArg List.length r
  simpa using this
theorem Rows.at {φ : Nat × Int → Option (Nat × Int)} {E : List (Nat × Int)} {n x : Nat} {Q : List (Value × List Int)} (r : Am.Rows φ E n Q) (hx : x < n) : ∃ w, Q[x]? = some (w, rowE φ E x) := by
  have h := congrArg (·[x]?) r
  simp only [List.getElem?_map, List.getElem?_range hx, Option.map_some, Option.map_eq_some_iff] at h
  obtain ⟨⟨w, l⟩, h1, h2⟩ := h
  exact ⟨w, by rw [h1]; simp at h2; rw [h2]⟩
theorem Rows.none {φ : Nat × Int → Option (Nat × Int)} {E : List (Nat × Int)} {n : Nat} {Q : List (Value × List Int)} {e : Nat × Int} (r : Am.Rows φ E n Q) (h : φ e = Option.none) : Am.Rows φ (E ++ [e]) n Q := by
  unfold Am.Rows at r ⊢
  rw [r]
  apply List.map_congr_left
  intro x _
  rw [rowE_none h]
theorem Rows.some {φ : Nat × Int → Option (Nat × Int)} {E : List (Nat × Int)} {n : Nat} {Q : List (Value × List Int)} {e : Nat × Int} {x : Nat} {v : Int} {u : Value} (r : Am.Rows φ E n Q) (h : φ e = Option.some (x, v)) : Am.Rows φ (E ++ [e]) n (Q.set x (u, rowE φ E x ++ [v])) := by
  unfold Am.Rows at r ⊢
  rw [List.map_set, r]
  apply List.ext_getElem?
  intro j
  rw [List.getElem?_set, List.getElem?_map, List.getElem?_map]
  by_cases hj : j < n
  · rw [List.getElem?_range hj]
    by_cases hxj : x = j
    · subst hxj
      simp [rowE_some h, hj]
    · rw [if_neg hxj]
      simp [rowE_some h, hxj]
  · rw [List.getElem?_eq_none (by simp; omega)]
    by_cases hxj : x = j
    · subst hxj; simp [hj]
    · simp [hxj]
theorem Rows.graph {φ : Nat × Int → Option (Nat × Int)} {g : G} {Q : List (Value × List Int)} (r : Am.Rows φ (edgesTo g g.length) g.length Q) : (Q.map (·.2)).length = g.length ∧
    ∀ x y : Nat, x < g.length → ((y : Int) ∈ (Q.map (·.2)).getD x [] ↔ ∃ i t, g[i]? = Option.some t ∧ ∃ z ∈ t, φ (i, z) = Option.some (x, (y : Int))) := by
  refine ⟨by rw [List.length_map]; exact r.len, fun x y hx => ?_⟩
  have e : (Q.map (·.2)).getD x [] = rowE φ (edgesTo g g.length) x := by
    unfold Am.Rows at r
    rw [r, List.getD_eq_getElem?_getD, List.getElem?_map, List.getElem?_range hx]; rfl
  rw [e, mem_rowE]
  constructor
  · rintro ⟨⟨i, z⟩, he, hp⟩
    obtain ⟨h1, h2⟩ := mem_edgesTo.mp he
    refine ⟨i, g[i], List.getElem?_eq_getElem h1, z, ?_, hp⟩
    rw [List.getD_eq_getElem?_getD, List.getElem?_eq_getElem h1] at h2
    exact h2
  · rintro ⟨i, t, ht, z, hz, hp⟩
    have h1 := (List.getElem?_eq_some_iff.mp ht).1
    refine ⟨(i, z), mem_edgesTo.mpr ⟨h1, ?_⟩, hp⟩
    rw [List.getD_eq_getElem?_getD, ht]
    exact hz
/-- New rows, all empty. -/
theorem rows_new {h0 h : H} {R : List Res} {b n : Nat} (φ : Nat × Int → Option (Nat × Int)) (o : Hp h0 h (cellR b (List.replicate n (.slice .none 0 0)) :: R)) : ∃ Q, Am.Rows φ [] n Q ∧ Hp h0 h (rowsL (.slice (.some ⟨b, 0, .none⟩) n n) Q R) := by
  refine ⟨List.replicate n (.slice .none 0 0, []), ?_, ?_⟩
  · unfold Am.Rows
    rw [List.map_replicate]
    apply List.ext_getElem?
    intro j
    rw [List.getElem?_map, List.getElem?_replicate]
    by_cases hj : j < n
    · rw [if_pos hj, List.getElem?_range hj]; rfl
    · rw [if_neg hj, List.getElem?_eq_none (by simp; omega)]; rfl
  · have o2 := o.cell_buf (i := 0) rfl (n := n) (by simp)
    have key : ∀ m, Hp h0 h (inZ (List.replicate m (.slice .none 0 0, [])) ++ (bufR (.slice (.some ⟨b, 0, .none⟩) n n) (List.replicate n (.slice .none 0 0)) :: R)) := by
      intro m
      induction m with
      | zero => exact o2
      | succ m ih =>
        rw [List.replicate_succ]
        exact ih.add_nil
    have o3 := key n
    refine (o3.perm ?_)
    unfold rowsL
    rw [List.map_replicate]
    exact List.perm_middle.symm
theorem Rows.okR {φ : Nat × Int → Option (Nat × Int)} {E : List (Nat × Int)} {n : Nat} {Q : List (Value × List Int)} (r : Am.Rows φ E n Q) (hl : E.length < 2 ^ 40) (hv : ∀ e x v, φ e = Option.some (x, v) → e ∈ E → inI v) : okRows (Q.map (·.2)) := by
  unfold Am.Rows at r
  rw [r]
  intro l hl2
  obtain ⟨x, _, rfl⟩ := List.mem_map.mp hl2
  refine ⟨Nat.lt_of_le_of_lt rowE_len hl, fun y hy => ?_⟩
  obtain ⟨e, he, hp⟩ := mem_rowE.mp hy
  exact hv e x y hp he
end Go.Proofs.Ytdndngngdngjjaa.Am
