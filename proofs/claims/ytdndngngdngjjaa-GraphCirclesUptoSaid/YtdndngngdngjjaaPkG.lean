/-
  Packed: The strongly connected parts of a graph: a walk over it, in plain Lean, with no program in sight. The parts of a graph, all of them; ways by tables: plain Lean, with no program in sight. The parts of a graph, reckoned: plain Lean. Rows of numbers and of rows, by a program's memory. The walk's memory: what lies where; the steps that change it. A part is taken off the walk's stack. The walk visits a node. The parts of a graph, by the program.
-/
import Derived.Test.YtdndngngdngjjaaAmFns
import Derived.Test.YtdndngngdngjjaaPkB
namespace Go.Proofs.Gr

abbrev G := List (List Int)
/-- An edge between two nodes. -/
def Edge (g : G) (i k : Nat) : Prop := i < g.length ∧ k < g.length ∧ (k : Int) ∈ g.getD i []
inductive Reach (g : G) : Nat → Nat → Prop
  | refl (x : Nat) : Reach g x x
  | step {x y z : Nat} : Edge g x y → Reach g y z → Reach g x z
theorem Reach.trans {g : G} {x y z : Nat} (h : Reach g x y) (k : Reach g y z) : Reach g x z := by
  induction h with
  | refl => exact k
  | step e _ ih => exact .step e (ih k)
theorem Reach.edge {g : G} {x y : Nat} (e : Edge g x y) : Reach g x y := .step e (.refl y)
/-- A way of at least one edge. -/
def Way (g : G) (x z : Nat) : Prop := ∃ y, Edge g x y ∧ Reach g y z
theorem Way.reach {g : G} {x z : Nat} (h : Way g x z) : Reach g x z := let ⟨_, e, r⟩ := h; .step e r
theorem Reach.way {g : G} {x z : Nat} (h : Reach g x z) : x = z ∨ Way g x z := by
  cases h with
  | refl => exact .inl rfl
  | step e r => exact .inr ⟨_, e, r⟩
/-- Ways lead from the one to the other and back. -/
def Mut (g : G) (x y : Nat) : Prop := Reach g x y ∧ Reach g y x
theorem Mut.symm {g : G} {x y : Nat} (h : Mut g x y) : Mut g y x := ⟨h.2, h.1⟩
theorem Mut.trans {g : G} {x y z : Nat} (h : Mut g x y) (k : Mut g y z) : Mut g x z := ⟨h.1.trans k.1, k.2.trans h.2⟩
theorem Reach.lt {g : G} {x y : Nat} (h : Reach g x y) (hx : x < g.length) : y < g.length := by
  induction h with
  | refl => exact hx
  | step e _ ih => exact ih e.2.1
open Classical in
/-- The nodes that lie together with one, rising. -/
noncomputable def cls (g : G) (x : Nat) : List Nat := (List.range g.length).filter fun y => decide (Mut g x y)
theorem mem_cls {g : G} {x y : Nat} : y ∈ cls g x ↔ y < g.length ∧ Mut g x y := by simp [cls]
theorem cls_congr {g : G} {x y : Nat} (h : Mut g x y) : cls g x = cls g y := by
  unfold cls
  apply List.filter_congr
  intro z _
  rw [decide_eq_decide]
  exact ⟨fun k => h.symm.trans k, fun k => h.trans k⟩
theorem cls_sorted (g : G) (x : Nat) : (cls g x).Pairwise (· < ·) := List.Pairwise.filter _ List.pairwise_lt_range

/-! ### the walk -/
structure St where
  met : Nat → Nat
  low : Nat → Nat
  stack : List Nat
  parts : List (List Nat)
  clock : Nat
def upd (f : Nat → Nat) (i v : Nat) : Nat → Nat := fun x => if x = i then v else f x
theorem upd_here {f : Nat → Nat} {i v : Nat} : upd f i v i = v := by simp [upd]
theorem upd_away {f : Nat → Nat} {i v x : Nat} (h : x ≠ i) : upd f i v x = f x := by simp [upd, h]
def St.enter (s : St) (i : Nat) : St := { s with met := upd s.met i (s.clock + 1), low := upd s.low i (s.clock + 1), stack := s.stack ++ [i], clock := s.clock + 1 }
def sorted (l : List Nat) : List Nat := l.mergeSort fun x y => decide (x ≤ y)
def St.leave (s : St) (i : Nat) (loop : Bool) : St :=
  if s.low i = s.met i then { s with stack := s.stack.take (s.stack.idxOf i), parts := if 1 < (s.stack.drop (s.stack.idxOf i)).length ∨ loop = true then s.parts ++ [sorted (s.stack.drop (s.stack.idxOf i))] else s.parts } else s
def St.lows (s : St) (i v : Nat) : St := { s with low := upd s.low i (min (s.low i) v) }
/-- The rest of a node's edges is gone through; and whether it leads to itself. -/
inductive Run (g : G) : Nat → List Int → St → Bool → St → Bool → Prop
  | nil {i : Nat} {s : St} {b : Bool} : Run g i [] s b s b
  | out {i : Nat} {k : Int} {ks : List Int} {s s' : St} {b b' : Bool} : (k < 0 ∨ (g.length : Int) ≤ k) → Run g i ks s (b || k == (i : Int)) s' b' → Run g i (k :: ks) s b s' b'
  | new {i k : Nat} {ks : List Int} {s s1 s' : St} {b b1 b' : Bool} : k < g.length → s.met k = 0 → Run g k (g.getD k []) (s.enter k) false s1 b1 →
      Run g i ks ((s1.leave k b1).lows i ((s1.leave k b1).low k)) (b || (k : Int) == (i : Int)) s' b' → Run g i ((k : Int) :: ks) s b s' b'
  | on {i k : Nat} {ks : List Int} {s s' : St} {b b' : Bool} : k < g.length → s.met k ≠ 0 → k ∈ s.stack → Run g i ks (s.lows i (s.met k)) (b || (k : Int) == (i : Int)) s' b' → Run g i ((k : Int) :: ks) s b s' b'
  | off {i k : Nat} {ks : List Int} {s s' : St} {b b' : Bool} : k < g.length → s.met k ≠ 0 → k ∉ s.stack → Run g i ks s (b || (k : Int) == (i : Int)) s' b' → Run g i ((k : Int) :: ks) s b s' b'

/-! ### what is kept -/
structure Inv (g : G) (s : St) : Prop where
  ord : s.stack.Pairwise fun x y => s.met x < s.met y
  lt : ∀ x ∈ s.stack, x < g.length
  pos : ∀ x ∈ s.stack, s.met x ≠ 0
  clk : ∀ x, s.met x ≤ s.clock
  done : ∀ x y, s.met x ≠ 0 → x ∉ s.stack → Edge g x y → s.met y ≠ 0 ∧ y ∉ s.stack
  low : ∀ x ∈ s.stack, s.low x ≤ s.met x ∧ ∃ z ∈ s.stack, s.low x = s.met z ∧ Reach g x z
  pok : ∀ p ∈ s.parts, ∃ x, x < g.length ∧ s.met x ≠ 0 ∧ x ∉ s.stack ∧ Way g x x ∧ p = cls g x
  pall : ∀ x, x < g.length → s.met x ≠ 0 → x ∉ s.stack → Way g x x → ∃ p ∈ s.parts, x ∈ p
  pdis : s.parts.Pairwise fun p q => ∀ x ∈ p, x ∉ q
/-- A finished node on the stack, above node i. -/
structure Fin_ (g : G) (s : St) (i x : Nat) : Prop where
  reach : Reach g i x
  low : s.low x < s.met x
  lowi : s.low i ≤ s.low x
  edges : ∀ y, Edge g x y → s.met y ≠ 0 ∧ (y ∈ s.stack → s.low x ≤ s.met y)
structure At (g : G) (i : Nat) (pre : List Int) (s : St) : Prop where
  inv : Inv g s
  split : ∃ S0 T, s.stack = S0 ++ i :: T ∧ ∀ x ∈ T, Fin_ g s i x
  pre : ∀ y : Nat, (y : Int) ∈ pre → y < g.length → s.met y ≠ 0 ∧ (y ∈ s.stack → s.low i ≤ s.met y)
structure Frame (i : Nat) (s s' : St) : Prop where
  stack : ∃ T, s'.stack = s.stack ++ T
  old : ∀ y, s.met y ≠ 0 → s'.met y = s.met y ∧ (y ≠ i → s'.low y = s.low y) ∧ (y ∈ s'.stack → y ∈ s.stack)
  clk : s.clock ≤ s'.clock
theorem Frame.refl (i : Nat) (s : St) : Frame i s s := ⟨⟨[], by simp⟩, fun _ _ => ⟨rfl, fun _ => rfl, id⟩, Nat.le_refl _⟩
theorem Frame.trans {i : Nat} {s s1 s2 : St} (a : Frame i s s1) (b : Frame i s1 s2) : Frame i s s2 := by
  obtain ⟨T1, h1⟩ := a.stack
  obtain ⟨T2, h2⟩ := b.stack
  refine ⟨⟨T1 ++ T2, by rw [h2, h1, List.append_assoc]⟩, fun y hy => ?_, Nat.le_trans a.clk b.clk⟩
  obtain ⟨a1, a2, a3⟩ := a.old y hy
  obtain ⟨b1, b2, b3⟩ := b.old y (by rw [a1]; exact hy)
  exact ⟨b1.trans a1, fun h => (b2 h).trans (a2 h), fun h => a3 (b3 h)⟩
theorem enter_met {s : St} {i x : Nat} (h : x ≠ i) : (s.enter i).met x = s.met x := upd_away h
theorem enter_low {s : St} {i x : Nat} (h : x ≠ i) : (s.enter i).low x = s.low x := upd_away h
theorem enter_ok {g : G} {s : St} {k : Nat} (v : Inv g s) (hk : k < g.length) (hw : s.met k = 0) : At g k [] (s.enter k) ∧ (s.enter k).met k = s.clock + 1 ∧ (s.enter k).low k = s.clock + 1 := by
  have hks : k ∉ s.stack := fun h => v.pos k h hw
  have hne : ∀ x ∈ s.stack, x ≠ k := fun x hx hh => hks (hh ▸ hx)
  have m1 : (s.enter k).met k = s.clock + 1 := upd_here
  have m2 : (s.enter k).low k = s.clock + 1 := upd_here
  refine ⟨⟨⟨?_, ?_, ?_, ?_, ?_, ?_, ?_, ?_, v.pdis⟩, ⟨s.stack, [], rfl, by simp⟩, by simp⟩, m1, m2⟩
  · show (s.stack ++ [k]).Pairwise _
    rw [List.pairwise_append]
    refine ⟨v.ord.imp_of_mem fun {a b} ha hb hab => ?_, by simp, fun a ha b hb => ?_⟩
    · rw [enter_met (hne a ha), enter_met (hne b hb)]; exact hab
    · simp only [List.mem_singleton] at hb
      subst hb
      rw [enter_met (hne a ha), m1]
      have := v.clk a; omega
  · intro x hx
    rcases List.mem_append.mp hx with hx | hx
    · exact v.lt x hx
    · simp only [List.mem_singleton] at hx; subst hx; exact hk
  · intro x hx
    rcases List.mem_append.mp hx with hx | hx
    · rw [enter_met (hne x hx)]; exact v.pos x hx
    · simp only [List.mem_singleton] at hx; subst hx; rw [m1]; omega
  · intro x
    by_cases hx : x = k
    · subst hx; rw [m1]; exact Nat.le_refl _
    · rw [enter_met hx]
      have := v.clk x
      show _ ≤ s.clock + 1
      omega
  · intro x y hx hn e
    have hxk : x ≠ k := fun hh => hn (by subst hh; exact List.mem_append.mpr (.inr (by simp)))
    rw [enter_met hxk] at hx
    have hn' : x ∉ s.stack := fun h => hn (List.mem_append.mpr (.inl h))
    obtain ⟨h1, h2⟩ := v.done x y hx hn' e
    have hyk : y ≠ k := fun hh => h1 (by rw [hh]; exact hw)
    refine ⟨by rw [enter_met hyk]; exact h1, fun h => ?_⟩
    rcases List.mem_append.mp h with h | h
    · exact h2 h
    · simp only [List.mem_singleton] at h; exact hyk h
  · intro x hx
    rcases List.mem_append.mp hx with hx | hx
    · have hxk := hne x hx
      obtain ⟨h1, z, hz, h2, h3⟩ := v.low x hx
      refine ⟨by rw [enter_met hxk, enter_low hxk]; exact h1, z, List.mem_append.mpr (.inl hz), by rw [enter_low hxk, enter_met (hne z hz)]; exact h2, h3⟩
    · simp only [List.mem_singleton] at hx
      subst hx
      exact ⟨by rw [m1, m2]; exact Nat.le_refl _, x, List.mem_append.mpr (.inr (by simp)), by rw [m1, m2], .refl x⟩
  · intro p hp
    obtain ⟨x, h1, h2, h3, h4, h5⟩ := v.pok p hp
    have hxk : x ≠ k := fun hh => h2 (by rw [hh]; exact hw)
    refine ⟨x, h1, by rw [enter_met hxk]; exact h2, fun h => ?_, h4, h5⟩
    rcases List.mem_append.mp h with h | h
    · exact h3 h
    · simp only [List.mem_singleton] at h; exact hxk h
  · intro x hx hm hn hw'
    have hxk : x ≠ k := fun hh => hn (by subst hh; exact List.mem_append.mpr (.inr (by simp)))
    rw [enter_met hxk] at hm
    exact v.pall x hx hm (fun h => hn (List.mem_append.mpr (.inl h))) hw'
theorem strict_ext : ∀ {a b : List Nat}, a.Pairwise (· < ·) → b.Pairwise (· < ·) → (∀ x, x ∈ a ↔ x ∈ b) → a = b
  | [], [], _, _, _ => rfl
  | [], y :: b, _, _, h => by have := (h y).mpr (by simp); cases this
  | x :: a, [], _, _, h => by have := (h x).mp (by simp); cases this
  | x :: a, y :: b, ha, hb, h => by
    rw [List.pairwise_cons] at ha hb
    have hxy : x = y := by
      rcases List.mem_cons.mp ((h x).mp (by simp)) with h1 | h1
      · exact h1
      · rcases List.mem_cons.mp ((h y).mpr (by simp)) with h2 | h2
        · exact h2.symm
        · have := hb.1 x h1; have := ha.1 y h2; omega
    subst hxy
    rw [strict_ext ha.2 hb.2 fun z => ?_]
    constructor
    · intro hz
      rcases List.mem_cons.mp ((h z).mp (by simp [hz])) with h1 | h1
      · subst h1; have := ha.1 z hz; omega
      · exact h1
    · intro hz
      rcases List.mem_cons.mp ((h z).mpr (by simp [hz])) with h1 | h1
      · subst h1; have := hb.1 z hz; omega
      · exact h1
theorem sorted_strict {l : List Nat} (h : l.Nodup) : (sorted l).Pairwise (· < ·) ∧ ∀ x, x ∈ sorted l ↔ x ∈ l := by
  have hp : (sorted l).Perm l := List.mergeSort_perm _ _
  refine ⟨?_, fun x => hp.mem_iff⟩
  have h1 : (sorted l).Pairwise fun a b => decide (a ≤ b) = true := List.pairwise_mergeSort (fun a b c h1 h2 => by simp only [decide_eq_true_eq] at *; omega) (fun a b => by simp only [Bool.or_eq_true, decide_eq_true_eq]; omega) l
  have h2 : (sorted l).Nodup := hp.nodup_iff.mpr h
  refine (h1.and h2).imp fun {a b} hab => ?_
  have := of_decide_eq_true hab.1
  have := hab.2
  omega
theorem ord_nodup {s : St} (h : s.stack.Pairwise fun x y => s.met x < s.met y) : s.stack.Nodup := h.imp fun {a b} hab hh => by subst hh; omega
/-- What is done is left by no edge. -/
theorem Inv.done_reach {g : G} {s : St} (v : Inv g s) {x y : Nat} (r : Reach g x y) (h1 : s.met x ≠ 0) (h2 : x ∉ s.stack) : s.met y ≠ 0 ∧ y ∉ s.stack := by
  induction r with
  | refl => exact ⟨h1, h2⟩
  | step e _ ih =>
    obtain ⟨a, b⟩ := v.done _ _ h1 h2 e
    exact ih a b
/-- The nodes from a node on are a part. -/
theorem At.close {g : G} {k : Nat} {s : St} {b : Bool} {S T : List Nat} (a : At g k (g.getD k []) s) (hs : s.stack = S ++ k :: T) (hf : ∀ x ∈ T, Fin_ g s k x) (hl : s.low k = s.met k) (hb : b = true ↔ (k : Int) ∈ g.getD k []) :
    Inv g (s.leave k b) ∧ (s.leave k b).stack = S ∧ (s.leave k b).met = s.met ∧ (s.leave k b).low = s.low ∧ (s.leave k b).clock = s.clock := by
  have v := a.inv
  have hnd := ord_nodup v.ord
  have hord := v.ord
  rw [hs] at hnd hord
  rw [List.nodup_append] at hnd
  rw [List.pairwise_append, List.pairwise_cons] at hord
  have hkS : k ∉ S := fun h => hnd.2.2 k h k (by simp) rfl
  have hidx : s.stack.idxOf k = S.length := by
    rw [hs, List.idxOf_append, if_neg hkS]
    simp
  have htake : s.stack.take (s.stack.idxOf k) = S := by rw [hidx, hs, List.take_append_of_le_length (Nat.le_refl _), List.take_length]
  have hdrop : s.stack.drop (s.stack.idxOf k) = k :: T := by rw [hidx, hs, List.drop_append_of_le_length (Nat.le_refl _), List.drop_length]; rfl
  have hlv : s.leave k b = { s with stack := S, parts := if 1 < (k :: T).length ∨ b = true then s.parts ++ [sorted (k :: T)] else s.parts } := by
    unfold St.leave
    rw [if_pos hl, htake, hdrop]
  have hkst : k ∈ s.stack := by rw [hs]; simp
  have hkn := v.lt k hkst
  have hSlt : ∀ x ∈ S, s.met x < s.met k := fun x hx => hord.2.2 x hx k (by simp)
  have hTgt : ∀ x ∈ T, s.met k < s.met x := fun x hx => hord.2.1.1 x hx
  have hCS : ∀ x ∈ k :: T, x ∉ S := fun x hx h => hnd.2.2 x h x hx rfl
  have hreach : ∀ x ∈ k :: T, Reach g k x := fun x hx => by
    rcases List.mem_cons.mp hx with rfl | hx
    · exact .refl _
    · exact (hf x hx).reach
  have hedge : ∀ x ∈ k :: T, ∀ y, Edge g x y → s.met y ≠ 0 ∧ y ∉ S := fun x hx y e => by
    rcases List.mem_cons.mp hx with rfl | hx
    · obtain ⟨h1, h2⟩ := a.pre y e.2.2 e.2.1
      refine ⟨h1, fun h => ?_⟩
      have := h2 (by rw [hs]; simp [h])
      have := hSlt y h
      omega
    · obtain ⟨h1, h2⟩ := (hf x hx).edges y e
      refine ⟨h1, fun h => ?_⟩
      have := h2 (by rw [hs]; simp [h])
      have := hSlt y h
      have := (hf x hx).lowi
      omega
  have hback : ∀ (n x : Nat), s.met x ≤ n → x ∈ k :: T → Reach g x k := by
    intro n
    induction n with
    | zero =>
      intro x hn hx
      have := v.pos x (by rw [hs]; exact List.mem_append.mpr (.inr hx))
      omega
    | succ n ih =>
      intro x hn hx
      rcases List.mem_cons.mp hx with rfl | hxT
      · exact .refl _
      · obtain ⟨_, z, hz, h1, h2⟩ := v.low x (by rw [hs]; exact List.mem_append.mpr (.inr hx))
        have h3 := (hf x hxT).low
        have h4 := (hf x hxT).lowi
        rw [hs] at hz
        rcases List.mem_append.mp hz with hz | hz
        · have := hSlt z hz; omega
        · exact h2.trans (ih z (by omega) hz)
  have hst : ∀ x, x ∈ s.stack ↔ x ∈ S ∨ x ∈ k :: T := fun x => by rw [hs, List.mem_append]
  have hmut : ∀ x ∈ k :: T, ∀ y ∈ k :: T, Mut g x y := fun x hx y hy =>
    ⟨(hback _ x (Nat.le_refl _) hx).trans (hreach y hy), (hback _ y (Nat.le_refl _) hy).trans (hreach x hx)⟩
  -- what is done behind it
  have hdone : ∀ x y, s.met x ≠ 0 → x ∉ S → Edge g x y → s.met y ≠ 0 ∧ y ∉ S := fun x y hx hn e => by
    by_cases hc : x ∈ k :: T
    · exact hedge x hc y e
    · have hns : x ∉ s.stack := fun h => by
        rcases (hst x).mp h with h | h
        · exact hn h
        · exact hc h
      obtain ⟨h1, h2⟩ := v.done x y hx hns e
      exact ⟨h1, fun h => h2 ((hst y).mpr (.inl h))⟩
  have hdr : ∀ x y : Nat, Reach g x y → s.met x ≠ 0 → x ∉ S → s.met y ≠ 0 ∧ y ∉ S := fun x y r => by
    induction r with
    | refl => exact fun h1 h2 => ⟨h1, h2⟩
    | step e _ ih =>
      intro h1 h2
      obtain ⟨a1, a2⟩ := hdone _ _ h1 h2 e
      exact ih a1 a2
  have hpos : ∀ x ∈ k :: T, s.met x ≠ 0 := fun x hx => v.pos x ((hst x).mpr (.inr hx))
  have hcls : ∀ x ∈ k :: T, cls g x = sorted (k :: T) := fun x hx => by
    obtain ⟨s1, s2⟩ := sorted_strict hnd.2.1
    refine strict_ext (cls_sorted g x) s1 fun y => ?_
    rw [mem_cls, s2]
    constructor
    · rintro ⟨hy, hm⟩
      obtain ⟨h1, h2⟩ := hdr x y hm.1 (hpos x hx) (hCS x hx)
      apply Classical.byContradiction
      intro hc
      have hns : y ∉ s.stack := fun h => by
        rcases (hst y).mp h with h | h
        · exact h2 h
        · exact hc h
      exact (v.done_reach hm.2 h1 hns).2 ((hst x).mpr (.inr hx))
    · intro hy
      exact ⟨v.lt y ((hst y).mpr (.inr hy)), hmut x hx y hy⟩
  have hway : (1 < (k :: T).length ∨ b = true) → Way g k k := fun h => by
    rcases h with h | h
    · obtain ⟨x, T', rfl⟩ : ∃ x T', T = x :: T' := by
        cases T with
        | nil => simp at h
        | cons x T' => exact ⟨x, T', rfl⟩
      have hx : x ∈ k :: x :: T' := by simp
      have hne : k ≠ x := fun hh => by
        have := hTgt x (by simp)
        rw [← hh] at this; omega
      rcases (hreach x hx).way with h1 | ⟨y, e, r⟩
      · exact absurd h1 hne
      · exact ⟨y, e, r.trans (hback _ x (Nat.le_refl _) hx)⟩
    · exact ⟨k, ⟨hkn, hkn, hb.mp h⟩, .refl _⟩
  rw [hlv]
  refine ⟨⟨hord.1, fun x hx => v.lt x ((hst x).mpr (.inl hx)), fun x hx => v.pos x ((hst x).mpr (.inl hx)), v.clk, hdone, fun x hx => ?_, fun p hp => ?_, fun x hx hm hn hw => ?_, ?_⟩, rfl, rfl, rfl, rfl⟩
  · obtain ⟨h1, z, hz, h2, h3⟩ := v.low x ((hst x).mpr (.inl hx))
    refine ⟨h1, z, ?_, h2, h3⟩
    rcases (hst z).mp hz with h | h
    · exact h
    · exfalso
      have := hSlt x hx
      rcases List.mem_cons.mp h with rfl | h
      · have h2' : s.low x = s.met z := h2
        have h1' : s.low x ≤ s.met x := h1
        omega
      · have := hTgt z h
        have h2' : s.low x = s.met z := h2
        have h1' : s.low x ≤ s.met x := h1
        omega
  · have old : p ∈ s.parts → ∃ x, x < g.length ∧ s.met x ≠ 0 ∧ x ∉ S ∧ Way g x x ∧ p = cls g x := fun hp => by
      obtain ⟨x, h1, h2, h3, h4, h5⟩ := v.pok p hp
      exact ⟨x, h1, h2, fun h => h3 ((hst x).mpr (.inl h)), h4, h5⟩
    by_cases hc : 1 < (k :: T).length ∨ b = true
    · have hp : p ∈ s.parts ++ [sorted (k :: T)] := by simpa only [if_pos hc] using hp
      rcases List.mem_append.mp hp with hp | hp
      · exact old hp
      · simp only [List.mem_singleton] at hp
        exact ⟨k, hkn, hpos k (by simp), hkS, hway hc, by rw [hp, hcls k (by simp)]⟩
    · have hp : p ∈ s.parts := by simpa only [if_neg hc] using hp
      exact old hp
  · have hm : s.met x ≠ 0 := hm
    have hn : x ∉ S := hn
    show ∃ p ∈ (if 1 < (k :: T).length ∨ b = true then s.parts ++ [sorted (k :: T)] else s.parts), x ∈ p
    by_cases hC : x ∈ k :: T
    · have hc : 1 < (k :: T).length ∨ b = true := by
        apply Classical.byContradiction
        intro hc
        rw [not_or] at hc
        have hT : T = [] := List.length_eq_zero_iff.mp (by have := hc.1; simp only [List.length_cons] at this; omega)
        subst hT
        have hxk : x = k := by simpa using hC
        subst hxk
        obtain ⟨y, e, r⟩ := hw
        have hyC : y ∈ cls g x := mem_cls.mpr ⟨e.2.1, .edge e, r⟩
        rw [hcls x (by simp), (sorted_strict hnd.2.1).2] at hyC
        have : y = x := by simpa using hyC
        subst this
        exact hc.2 (hb.mpr e.2.2)
      rw [if_pos hc]
      exact ⟨sorted (k :: T), by simp, ((sorted_strict hnd.2.1).2 x).mpr hC⟩
    · have hns : x ∉ s.stack := fun h => by
        rcases (hst x).mp h with h | h
        · exact hn h
        · exact hC h
      obtain ⟨p, hp, hxp⟩ := v.pall x hx hm hns hw
      refine ⟨p, ?_, hxp⟩
      split
      · exact List.mem_append.mpr (.inl hp)
      · exact hp
  · show (if 1 < (k :: T).length ∨ b = true then s.parts ++ [sorted (k :: T)] else s.parts).Pairwise _
    split
    · rw [List.pairwise_append]
      refine ⟨v.pdis, by simp, fun p hp q hq x hxp hxq => ?_⟩
      simp only [List.mem_singleton] at hq
      subst hq
      rw [(sorted_strict hnd.2.1).2] at hxq
      obtain ⟨z, h1, h2, h3, _, rfl⟩ := v.pok p hp
      exact (v.done_reach (mem_cls.mp hxp).2.1 h2 h3).2 ((hst x).mpr (.inr hxq))
    · exact v.pdis
theorem lows_inv {g : G} {i v : Nat} {s : St} (a : Inv g s) (hi : i ∈ s.stack) (hv : s.low i ≤ v ∨ ∃ z ∈ s.stack, v = s.met z ∧ Reach g i z) : Inv g (s.lows i v) := by
  refine ⟨a.ord, a.lt, a.pos, a.clk, a.done, fun x hx => ?_, a.pok, a.pall, a.pdis⟩
  obtain ⟨h1, z, hz, h2, h3⟩ := a.low x hx
  by_cases hxi : x = i
  · subst hxi
    have e : (s.lows x v).low x = min (s.low x) v := upd_here
    rw [e]
    refine ⟨Nat.le_trans (Nat.min_le_left _ _) h1, ?_⟩
    rcases Nat.le_total (s.low x) v with hle | hle
    · exact ⟨z, hz, by rw [Nat.min_eq_left hle]; exact h2, h3⟩
    · rcases hv with hv | ⟨w, hw, h4, h5⟩
      · exact ⟨z, hz, by rw [Nat.min_eq_left hv]; exact h2, h3⟩
      · exact ⟨w, hw, by rw [Nat.min_eq_right hle]; exact h4, h5⟩
  · have e : (s.lows i v).low x = s.low x := upd_away hxi
    rw [e]
    exact ⟨h1, z, hz, h2, h3⟩
theorem At.mem {g : G} {i : Nat} {pre : List Int} {s : St} (a : At g i pre s) : i ∈ s.stack := by
  obtain ⟨S0, T, h, _⟩ := a.split
  rw [h]; simp
theorem not_in_tail {s : St} {S T : List Nat} {i : Nat} (o : s.stack.Pairwise fun x y => s.met x < s.met y) (h : s.stack = S ++ i :: T) : ∀ x ∈ T, x ≠ i := fun x hx hh => by
  have := ord_nodup o
  rw [h, List.nodup_append, List.nodup_cons] at this
  exact this.2.1.1 (hh ▸ hx)
/-- The earliest that a node leads back to is brought down. -/
theorem At.lows {g : G} {i v : Nat} {pre : List Int} {s : St} (a : At g i pre s) (hv : s.low i ≤ v ∨ ∃ z ∈ s.stack, v = s.met z ∧ Reach g i z) : At g i pre (s.lows i v) := by
  have hle : (s.lows i v).low i ≤ s.low i := by
    have e : (s.lows i v).low i = min (s.low i) v := upd_here
    rw [e]; exact Nat.min_le_left _ _
  obtain ⟨S0, T, h, hT⟩ := a.split
  refine ⟨lows_inv a.inv a.mem hv, ⟨S0, T, h, fun x hx => ?_⟩, fun y hy hn => ?_⟩
  · have f := hT x hx
    have e : (s.lows i v).low x = s.low x := upd_away (not_in_tail a.inv.ord h x hx)
    exact ⟨f.reach, by rw [e]; exact f.low, by rw [e]; exact Nat.le_trans hle f.lowi, fun y hy => by rw [e]; exact f.edges y hy⟩
  · obtain ⟨h1, h2⟩ := a.pre y hy hn
    exact ⟨h1, fun h => Nat.le_trans hle (h2 h)⟩
theorem At.more {g : G} {i : Nat} {k : Int} {pre : List Int} {s : St} (a : At g i pre s) (hk : ∀ y : Nat, k = (y : Int) → y < g.length → s.met y ≠ 0 ∧ (y ∈ s.stack → s.low i ≤ s.met y)) : At g i (pre ++ [k]) s := by
  refine ⟨a.inv, a.split, fun y hy hn => ?_⟩
  rcases List.mem_append.mp hy with hy | hy
  · exact a.pre y hy hn
  · simp only [List.mem_singleton] at hy
    exact hk y hy.symm hn
theorem lows_frame (i v : Nat) (s : St) : Frame i s (s.lows i v) := ⟨⟨[], by simp [St.lows]⟩, fun y _ => ⟨rfl, fun h => upd_away h, id⟩, Nat.le_refl _⟩
theorem split_same {A A' B B' : List Nat} {k : Nat} (h : A ++ k :: B = A' ++ k :: B') (hA : k ∉ A) (hA' : k ∉ A') : A = A' ∧ B = B' := by
  have h1 : A.length = A'.length := by
    have e1 : (A ++ k :: B).idxOf k = A.length := by rw [List.idxOf_append, if_neg hA]; simp
    have e2 : (A' ++ k :: B').idxOf k = A'.length := by rw [List.idxOf_append, if_neg hA']; simp
    rw [← e1, h, e2]
  have := List.append_inj h h1
  exact ⟨this.1, (List.cons.inj this.2).2⟩
/-- A node that was met anew, and what is behind it, is gone through: behind it. -/
theorem At.child {g : G} {i k : Nat} {pre : List Int} {s s1 : St} {b1 : Bool} (a : At g i pre s) (he : Edge g i k) (hw : s.met k = 0) (a1 : At g k (g.getD k []) s1) (f1 : Frame k (s.enter k) s1) (hb : b1 = true ↔ (k : Int) ∈ g.getD k []) :
    At g i (pre ++ [(k : Int)]) ((s1.leave k b1).lows i ((s1.leave k b1).low k)) ∧ Frame i s ((s1.leave k b1).lows i ((s1.leave k b1).low k)) := by
  have hks : k ∉ s.stack := fun h => a.inv.pos k h hw
  have hik : i ≠ k := fun hh => hks (hh ▸ a.mem)
  obtain ⟨S0, T, hst, hT⟩ := a.split
  obtain ⟨T1', hst1⟩ := f1.stack
  have hent : (s.enter k).stack = s.stack ++ [k] := rfl
  rw [hent] at hst1
  obtain ⟨S1, T1, hs1, hT1⟩ := a1.split
  have hnd1 := ord_nodup a1.inv.ord
  have hS1 : S1 = s.stack ∧ T1 = T1' := by
    have h : S1 ++ k :: T1 = s.stack ++ k :: T1' := by rw [← hs1, hst1, List.append_assoc]; rfl
    refine split_same h (fun hh => ?_) hks
    rw [hs1, List.nodup_append] at hnd1
    exact hnd1.2.2 k hh k (by simp) rfl
  obtain ⟨rfl, rfl⟩ := hS1
  -- what was met is as it was
  have old : ∀ y, s.met y ≠ 0 → s1.met y = s.met y ∧ s1.low y = s.low y ∧ (y ∈ s1.stack → y ∈ s.stack) := fun y hy => by
    have hyk : y ≠ k := fun hh => hy (by rw [hh]; exact hw)
    obtain ⟨h1, h2, h3⟩ := f1.old y (by rw [enter_met hyk]; exact hy)
    refine ⟨by rw [h1, enter_met hyk], by rw [h2 hyk, enter_low hyk], fun h => ?_⟩
    rcases List.mem_append.mp (h3 h) with h4 | h4
    · exact h4
    · simp only [List.mem_singleton] at h4; exact absurd h4 hyk
  have hclk : s.clock ≤ s1.clock := by
    have := f1.clk
    have e : (s.enter k).clock = s.clock + 1 := rfl
    omega
  have hkm : s1.met k ≠ 0 := a1.inv.pos k a1.mem
  have hip := a.inv.pos i a.mem
  have him := old i hip
  have hki : s.met i < s1.met k := by
    have o := a1.inv.ord
    rw [hs1, List.pairwise_append] at o
    have := o.2.2 i a.mem k (by simp)
    rw [him.1] at this; exact this
  have hTold : ∀ x ∈ T, s.met x ≠ 0 := fun x hx => a.inv.pos x (by rw [hst]; simp [hx])
  have hfin : ∀ s2 : St, (∀ y, s.met y ≠ 0 → s2.met y = s.met y ∧ (y ≠ i → s2.low y = s.low y) ∧ (y ∈ s2.stack → y ∈ s.stack)) → s2.low i ≤ s.low i → ∀ x ∈ T, Fin_ g s2 i x := fun s2 h2 hle x hx => by
    have f := hT x hx
    obtain ⟨m1, m2, m3⟩ := h2 x (hTold x hx)
    have hxi := not_in_tail a.inv.ord hst x hx
    have m2 := m2 hxi
    refine ⟨f.reach, by rw [m1, m2]; exact f.low, by rw [m2]; exact Nat.le_trans hle f.lowi, fun y hy => ?_⟩
    obtain ⟨e1, e2⟩ := f.edges y hy
    obtain ⟨n1, n2, n3⟩ := h2 y e1
    exact ⟨by rw [n1]; exact e1, fun h => by rw [m2, n1]; exact e2 (n3 h)⟩
  have hpre : ∀ s2 : St, (∀ y, s.met y ≠ 0 → s2.met y = s.met y ∧ (y ≠ i → s2.low y = s.low y) ∧ (y ∈ s2.stack → y ∈ s.stack)) → s2.low i ≤ s.low i → ∀ y : Nat, (y : Int) ∈ pre → y < g.length → s2.met y ≠ 0 ∧ (y ∈ s2.stack → s2.low i ≤ s2.met y) := fun s2 h2 hle y hy hn => by
    obtain ⟨e1, e2⟩ := a.pre y hy hn
    obtain ⟨n1, n2, n3⟩ := h2 y e1
    exact ⟨by rw [n1]; exact e1, fun h => by rw [n1]; exact Nat.le_trans hle (e2 (n3 h))⟩
  by_cases hl : s1.low k = s1.met k
  · -- it is closed
    obtain ⟨v2, st2, m2, l2, c2⟩ := a1.close hs1 hT1 hl hb
    generalize s1.leave k b1 = s2 at v2 st2 m2 l2 c2 ⊢
    have h2 : ∀ y, s.met y ≠ 0 → s2.met y = s.met y ∧ (y ≠ i → s2.low y = s.low y) ∧ (y ∈ s2.stack → y ∈ s.stack) := fun y hy => by
      obtain ⟨n1, n2, n3⟩ := old y hy
      exact ⟨by rw [m2]; exact n1, fun _ => by rw [l2]; exact n2, fun h => by rw [st2] at h; exact h⟩
    have hli : s2.low i = s.low i := by rw [l2]; exact him.2.1
    have hat : At g i pre s2 := ⟨v2, ⟨S0, T, by rw [st2]; exact hst, hfin s2 h2 (by omega)⟩, hpre s2 h2 (by omega)⟩
    have hlow : s2.low i ≤ s2.low k := by
      have := (a.inv.low i a.mem).1
      rw [hli, l2, hl]; omega
    have fr : Frame i s s2 := ⟨⟨[], by rw [st2]; simp⟩, h2, by rw [c2]; exact hclk⟩
    refine ⟨(hat.lows (.inl hlow)).more fun y hy hn => ?_, fr.trans (lows_frame i _ s2)⟩
    have : y = k := by omega
    subst this
    refine ⟨by show s2.met y ≠ 0; rw [m2]; exact hkm, fun h => ?_⟩
    exfalso
    have h : y ∈ s2.stack := h
    rw [st2] at h; exact hks h
  · -- it stays
    have hlv : s1.leave k b1 = s1 := by unfold St.leave; rw [if_neg hl]
    rw [hlv]
    have hlt : s1.low k < s1.met k := by have := (a1.inv.low k a1.mem).1; omega
    obtain ⟨_, z, hz, hz1, hz2⟩ := a1.inv.low k a1.mem
    have hinst : i ∈ s1.stack := by rw [hs1]; exact List.mem_append.mpr (.inl a.mem)
    have v3 : Inv g (s1.lows i (s1.low k)) := lows_inv a1.inv hinst (.inr ⟨z, hz, hz1, .step he hz2⟩)
    have hl3 : (s1.lows i (s1.low k)).low i = min (s1.low i) (s1.low k) := upd_here
    have hl4 : ∀ x, x ≠ i → (s1.lows i (s1.low k)).low x = s1.low x := fun x hx => upd_away hx
    have hle1 : (s1.lows i (s1.low k)).low i ≤ s.low i := by rw [hl3, him.2.1]; exact Nat.min_le_left _ _
    have hle2 : (s1.lows i (s1.low k)).low i ≤ s1.low k := by rw [hl3]; exact Nat.min_le_right _ _
    have h2 : ∀ y, s.met y ≠ 0 → (s1.lows i (s1.low k)).met y = s.met y ∧ (y ≠ i → (s1.lows i (s1.low k)).low y = s.low y) ∧ (y ∈ (s1.lows i (s1.low k)).stack → y ∈ s.stack) := fun y hy => by
      obtain ⟨n1, n2, n3⟩ := old y hy
      exact ⟨n1, fun h => by rw [hl4 y h]; exact n2, n3⟩
    refine ⟨⟨v3, ⟨S0, T ++ k :: T1, ?_, fun x hx => ?_⟩, fun y hy hn => ?_⟩, ⟨⟨k :: T1, hs1⟩, h2, hclk⟩⟩
    · show s1.stack = _
      rw [hs1, hst]; simp
    · rcases List.mem_append.mp hx with hx | hx
      · exact hfin _ h2 hle1 x hx
      · rcases List.mem_cons.mp hx with rfl | hx
        · refine ⟨.edge he, by rw [hl4 x hik.symm]; exact hlt, by rw [hl4 x hik.symm]; exact hle2, fun y e => ?_⟩
          obtain ⟨e1, e2⟩ := a1.pre y e.2.2 e.2.1
          exact ⟨e1, fun h => by rw [hl4 x hik.symm]; exact e2 h⟩
        · have f := hT1 x hx
          have hxi : x ≠ i := fun hh => by
            rw [hs1, List.nodup_append] at hnd1
            exact hnd1.2.2 i a.mem x (by simp [hx]) hh.symm
          refine ⟨.step he f.reach, by rw [hl4 x hxi]; exact f.low, by rw [hl4 x hxi]; exact Nat.le_trans hle2 f.lowi, fun y e => ?_⟩
          obtain ⟨e1, e2⟩ := f.edges y e
          exact ⟨e1, fun h => by rw [hl4 x hxi]; exact e2 h⟩
    · rcases List.mem_append.mp hy with hy | hy
      · exact hpre _ h2 hle1 y hy hn
      · simp only [List.mem_singleton] at hy
        have : y = k := by omega
        subst this
        exact ⟨hkm, fun _ => Nat.le_trans hle2 (Nat.le_of_lt hlt)⟩
theorem run_ok {g : G} {i : Nat} {ks : List Int} {s s' : St} {b b' : Bool} (r : Run g i ks s b s' b') : i < g.length → ∀ pre, g.getD i [] = pre ++ ks → At g i pre s → (b = true ↔ (i : Int) ∈ pre) →
    At g i (g.getD i []) s' ∧ Frame i s s' ∧ (b' = true ↔ (i : Int) ∈ g.getD i []) := by
  induction r with
  | nil =>
    intro hi pre hp a hb
    rw [List.append_nil] at hp
    rw [hp]
    exact ⟨a, .refl _ _, hb⟩
  | @out i k ks s s' b b' hk _ ih =>
    intro hi pre hp a hb
    refine ih hi (pre ++ [k]) (by rw [hp]; simp) (a.more fun y hy hn => by omega) ?_
    rw [Bool.or_eq_true, beq_iff_eq, hb, List.mem_append, List.mem_singleton]
    exact ⟨fun h => h.imp id fun h => h.symm, fun h => h.imp id fun h => h.symm⟩
  | @new i k ks s s1 s' b b1 b' hk hw _ _ ih1 ih2 =>
    intro hi pre hp a hb
    have he : Edge g i k := ⟨hi, hk, by rw [hp]; simp⟩
    obtain ⟨a1, f1, hb1⟩ := ih1 hk [] rfl (enter_ok a.inv hk hw).1 (by simp)
    obtain ⟨a2, f2⟩ := a.child he hw a1 f1 hb1
    obtain ⟨a3, f3, hb3⟩ := ih2 hi (pre ++ [(k : Int)]) (by rw [hp]; simp) a2 (by
      rw [Bool.or_eq_true, beq_iff_eq, hb, List.mem_append, List.mem_singleton]
      exact ⟨fun h => h.imp id fun h => h.symm, fun h => h.imp id fun h => h.symm⟩)
    exact ⟨a3, f2.trans f3, hb3⟩
  | @on i k ks s s' b b' hk hm hs _ ih =>
    intro hi pre hp a hb
    have he : Edge g i k := ⟨hi, hk, by rw [hp]; simp⟩
    have a2 := a.lows (v := s.met k) (.inr ⟨k, hs, rfl, .edge he⟩)
    obtain ⟨a3, f3, hb3⟩ := ih hi (pre ++ [(k : Int)]) (by rw [hp]; simp) (a2.more fun y hy hn => by
      have : y = k := by omega
      subst this
      refine ⟨hm, fun _ => ?_⟩
      have e : (s.lows i (s.met y)).low i = min (s.low i) (s.met y) := upd_here
      rw [e]; exact Nat.min_le_right _ _) (by
      rw [Bool.or_eq_true, beq_iff_eq, hb, List.mem_append, List.mem_singleton]
      exact ⟨fun h => h.imp id fun h => h.symm, fun h => h.imp id fun h => h.symm⟩)
    exact ⟨a3, (lows_frame i _ s).trans f3, hb3⟩
  | @off i k ks s s' b b' hk hm hs _ ih =>
    intro hi pre hp a hb
    refine ih hi (pre ++ [(k : Int)]) (by rw [hp]; simp) (a.more fun y hy hn => ?_) ?_
    · have : y = k := by omega
      subst this
      exact ⟨hm, fun h => absurd h hs⟩
    · rw [Bool.or_eq_true, beq_iff_eq, hb, List.mem_append, List.mem_singleton]
      exact ⟨fun h => h.imp id fun h => h.symm, fun h => h.imp id fun h => h.symm⟩
end Go.Proofs.Gr

namespace Go.Proofs.Gr

/-! ### all nodes -/
inductive Top (g : G) : List Nat → St → St → Prop
  | nil {s : St} : Top g [] s s
  | skip {i : Nat} {is : List Nat} {s s' : St} : s.met i ≠ 0 → Top g is s s' → Top g (i :: is) s s'
  | go {i : Nat} {is : List Nat} {s s1 s' : St} {b : Bool} : s.met i = 0 → Run g i (g.getD i []) (s.enter i) false s1 b → Top g is (s1.leave i b) s' → Top g (i :: is) s s'
def St.start : St := ⟨fun _ => 0, fun _ => 0, [], [], 0⟩
theorem start_ok (g : G) : Inv g .start := ⟨.nil, by simp [St.start], by simp [St.start], by simp [St.start], fun x y h => absurd rfl h, by simp [St.start], by simp [St.start], fun x _ h => absurd rfl h, .nil⟩
theorem top_step {g : G} {i : Nat} {s s1 : St} {b : Bool} (v : Inv g s) (h0 : s.stack = []) (hi : i < g.length) (hw : s.met i = 0) (r : Run g i (g.getD i []) (s.enter i) false s1 b) :
    Inv g (s1.leave i b) ∧ (s1.leave i b).stack = [] ∧ (s1.leave i b).met i ≠ 0 ∧ ∀ x, s.met x ≠ 0 → (s1.leave i b).met x ≠ 0 := by
  obtain ⟨a, f, hb⟩ := run_ok r hi [] rfl (enter_ok v hi hw).1 (by simp)
  obtain ⟨T1, hst⟩ := f.stack
  have e : (s.enter i).stack = [i] := by show s.stack ++ [i] = [i]; rw [h0]; rfl
  rw [e] at hst
  obtain ⟨S0, T, hs, hT⟩ := a.split
  have hnd := ord_nodup a.inv.ord
  have hS : [] = S0 ∧ T1 = T := by
    have h : [] ++ i :: T1 = S0 ++ i :: T := by rw [← hs, hst]; rfl
    refine split_same h (by simp) fun hh => ?_
    rw [hs, List.nodup_append] at hnd
    exact hnd.2.2 i hh i (by simp) rfl
  obtain ⟨rfl, rfl⟩ := hS
  have hl : s1.low i = s1.met i := by
    obtain ⟨h1, z, hz, h2, _⟩ := a.inv.low i a.mem
    have o := a.inv.ord
    rw [hs] at hz o
    rcases List.mem_cons.mp hz with rfl | hz
    · exact h2
    · have := (List.pairwise_cons.mp o).1 z hz
      omega
  obtain ⟨v2, st2, m2, _, _⟩ := a.close hs hT hl hb
  refine ⟨v2, st2, by rw [m2]; exact a.inv.pos i a.mem, fun x hx => ?_⟩
  have hxi : x ≠ i := fun hh => hx (by rw [hh]; exact hw)
  have := (f.old x (by rw [enter_met hxi]; exact hx)).1
  rw [m2, this, enter_met hxi]; exact hx
theorem top_ok {g : G} {is : List Nat} {s s' : St} (t : Top g is s s') : Inv g s → s.stack = [] → (∀ i ∈ is, i < g.length) → Inv g s' ∧ s'.stack = [] ∧ (∀ i ∈ is, s'.met i ≠ 0) ∧ ∀ x, s.met x ≠ 0 → s'.met x ≠ 0 := by
  induction t with
  | nil => exact fun v h _ => ⟨v, h, by simp, fun _ h => h⟩
  | skip hm _ ih =>
    intro v h hl
    obtain ⟨a, b, c, d⟩ := ih v h fun i hi => hl i (by simp [hi])
    exact ⟨a, b, fun j hj => by
      rcases List.mem_cons.mp hj with rfl | hj
      · exact d _ hm
      · exact c j hj, d⟩
  | go hw r _ ih =>
    intro v h hl
    obtain ⟨v2, s2, m2, k2⟩ := top_step v h (hl _ (by simp)) hw r
    obtain ⟨a, b, c, d⟩ := ih v2 s2 fun i hi => hl i (by simp [hi])
    exact ⟨a, b, fun j hj => by
      rcases List.mem_cons.mp hj with rfl | hj
      · exact d _ m2
      · exact c j hj, fun x hx => d x (k2 x hx)⟩
/-- What a list of parts must be. -/
structure AllParts (g : G) (L : List (List Nat)) : Prop where
  ok : ∀ p ∈ L, ∃ x, x < g.length ∧ Way g x x ∧ p = cls g x
  all : ∀ x, x < g.length → Way g x x → ∃ p ∈ L, x ∈ p
  dis : L.Pairwise fun p q => ∀ x ∈ p, x ∉ q
theorem top_parts {g : G} {s : St} (t : Top g (List.range g.length) .start s) : AllParts g s.parts := by
  obtain ⟨v, h0, hm, _⟩ := top_ok t (start_ok g) rfl fun i hi => List.mem_range.mp hi
  refine ⟨fun p hp => ?_, fun x hx hw => ?_, v.pdis⟩
  · obtain ⟨x, h1, _, _, h4, h5⟩ := v.pok p hp
    exact ⟨x, h1, h4, h5⟩
  · exact v.pall x hx (hm x (List.mem_range.mpr hx)) (by rw [h0]; simp) hw
theorem AllParts.perm {g : G} {L L' : List (List Nat)} (a : AllParts g L) (h : L'.Perm L) : AllParts g L' := by
  refine ⟨fun p hp => a.ok p (h.mem_iff.mp hp), fun x hx hw => ?_, ?_⟩
  · obtain ⟨p, hp, hx⟩ := a.all x hx hw
    exact ⟨p, h.mem_iff.mpr hp, hx⟩
  · exact (h.pairwise_iff fun {p q} hpq x hq hp => hpq x hp hq).mpr a.dis
theorem cls_self {g : G} {x : Nat} (h : x < g.length) : x ∈ cls g x := mem_cls.mpr ⟨h, .refl _, .refl _⟩
theorem head_mem {p : List Nat} (h : p ≠ []) : p.headD 0 ∈ p := by cases p with
  | nil => exact absurd rfl h
  | cons a t => simp
theorem cls_of_mem {g : G} {x y : Nat} (h : y ∈ cls g x) : cls g y = cls g x := (cls_congr (mem_cls.mp h).2).symm
theorem way_of_mem {g : G} {x y : Nat} (hw : Way g x x) (h : y ∈ cls g x) : Way g y y := by
  obtain ⟨_, h1, h2⟩ := mem_cls.mp h
  rcases h2.way with e | ⟨z, e, r⟩
  · subst e; exact hw
  · exact ⟨z, e, r.trans h1⟩
open Classical in
/-- The parts, in the order of their first nodes. -/
noncomputable def partsOf (g : G) : List (List Nat) := ((List.range g.length).filter fun i => decide (Way g i i ∧ (cls g i).headD 0 = i)).map (cls g)
theorem parts_unique {g : G} {L : List (List Nat)} (a : AllParts g L) (hs : L.Pairwise fun p q => p.headD 0 ≤ q.headD 0) : L = partsOf g := by
  have hne : ∀ p ∈ L, p ≠ [] := fun p hp hh => by
    obtain ⟨x, hx, _, rfl⟩ := a.ok p hp
    have := cls_self hx
    rw [hh] at this; cases this
  have hcl : ∀ p ∈ L, cls g (p.headD 0) = p := fun p hp => by
    obtain ⟨x, hx, _, rfl⟩ := a.ok p hp
    exact cls_of_mem (head_mem (hne _ hp))
  have h1 : L = (L.map fun p => p.headD 0).map (cls g) := by
    rw [List.map_map]
    conv => lhs; rw [← List.map_id L]
    exact List.map_congr_left fun p hp => (hcl p hp).symm
  rw [h1]
  unfold partsOf
  congr 1
  refine strict_ext ?_ (List.Pairwise.filter _ List.pairwise_lt_range) fun y => ?_
  · rw [List.pairwise_map]
    refine (hs.and a.dis).imp_of_mem fun {p q} hp hq hpq => ?_
    have : p.headD 0 ≠ q.headD 0 := fun hh => hpq.2 _ (head_mem (hne p hp)) (hh ▸ head_mem (hne q hq))
    have := hpq.1
    omega
  · rw [List.mem_map, List.mem_filter, List.mem_range]
    simp only [decide_eq_true_eq]
    constructor
    · rintro ⟨p, hp, rfl⟩
      obtain ⟨x, hx, hw, e⟩ := a.ok p hp
      have hm := head_mem (hne p hp)
      refine ⟨?_, ?_, by rw [hcl p hp]⟩
      · rw [e] at hm ⊢; exact (mem_cls.mp hm).1
      · rw [e] at hm ⊢; exact way_of_mem hw hm
    · rintro ⟨hy, hw, hh⟩
      obtain ⟨p, hp, hyp⟩ := a.all y hy hw
      obtain ⟨x, hx, _, e⟩ := a.ok p hp
      refine ⟨p, hp, ?_⟩
      rw [e] at hyp ⊢
      rw [← cls_of_mem hyp]; exact hh
theorem mem_partsOf {g : G} {p : List Nat} : p ∈ partsOf g ↔ ∃ i, i < g.length ∧ Way g i i ∧ (cls g i).headD 0 = i ∧ p = cls g i := by
  unfold partsOf
  rw [List.mem_map]
  constructor
  · rintro ⟨i, hi, rfl⟩
    simp only [List.mem_filter, List.mem_range, decide_eq_true_eq] at hi
    exact ⟨i, hi.1, hi.2.1, hi.2.2, rfl⟩
  · rintro ⟨i, h1, h2, h3, rfl⟩
    exact ⟨i, by simp only [List.mem_filter, List.mem_range, decide_eq_true_eq]; exact ⟨h1, h2, h3⟩, rfl⟩
theorem partsOf_all (g : G) : AllParts g (partsOf g) := by
  refine ⟨fun p hp => ?_, fun x hx hw => ?_, ?_⟩
  · obtain ⟨i, h1, h2, _, h4⟩ := mem_partsOf.mp hp
    exact ⟨i, h1, h2, h4⟩
  · have hne : cls g x ≠ [] := fun hh => by have := cls_self hx; rw [hh] at this; cases this
    have hm := head_mem hne
    refine ⟨cls g x, mem_partsOf.mpr ⟨(cls g x).headD 0, (mem_cls.mp hm).1, way_of_mem hw hm, by rw [cls_of_mem hm], (cls_of_mem hm).symm⟩, cls_self hx⟩
  · unfold partsOf
    rw [List.pairwise_map]
    refine (List.Pairwise.filter _ List.pairwise_lt_range).imp_of_mem fun {i k} hi hk hik x hxi hxk => ?_
    simp only [List.mem_filter, List.mem_range, decide_eq_true_eq] at hi hk
    have e : cls g i = cls g k := by rw [← cls_of_mem hxi, cls_of_mem hxk]
    have h1 := hi.2.2
    rw [e, hk.2.2] at h1
    omega

/-! ### ways by tables -/
/-- Ways whose inner nodes are below a bound. -/
def Ways (g : G) : Nat → Nat → Nat → Prop
  | 0, i, j => Edge g i j
  | k + 1, i, j => Ways g k i j ∨ (Ways g k i k ∧ Ways g k k j)
theorem ways_way {g : G} : ∀ {k i j : Nat}, Ways g k i j → Way g i j
  | 0, i, j, h => ⟨j, h, .refl _⟩
  | k + 1, i, j, h => by
    rcases h with h | ⟨h1, h2⟩
    · exact ways_way h
    · obtain ⟨y, e, r⟩ := ways_way h1
      exact ⟨y, e, r.trans (ways_way h2).reach⟩
theorem ways_trans {g : G} : ∀ {k i m j : Nat}, m < k → Ways g k i m → Ways g k m j → Ways g k i j
  | 0, i, m, j, h, _, _ => by omega
  | k + 1, i, m, j, h, h1, h2 => by
    by_cases hm : m = k
    · subst hm
      have a : Ways g m i m := by rcases h1 with h1 | h1; exact h1; exact h1.1
      have b : Ways g m m j := by rcases h2 with h2 | h2; exact h2; exact h2.2
      exact .inr ⟨a, b⟩
    · have hm : m < k := by omega
      rcases h1 with h1 | ⟨h1, h1'⟩ <;> rcases h2 with h2 | ⟨h2, h2'⟩
      · exact .inl (ways_trans hm h1 h2)
      · exact .inr ⟨ways_trans hm h1 h2, h2'⟩
      · exact .inr ⟨h1, ways_trans hm h1' h2⟩
      · exact .inr ⟨h1, h2'⟩
theorem ways_mono {g : G} {i j : Nat} : ∀ {k : Nat}, Edge g i j → Ways g k i j
  | 0, e => e
  | k + 1, e => .inl (ways_mono e)
theorem ways_iff {g : G} {i j : Nat} : Ways g g.length i j ↔ Way g i j := by
  constructor
  · exact ways_way
  · rintro ⟨y, e, r⟩
    have key : ∀ y z, Reach g y z → ∀ i, Edge g i y → Ways g g.length i z := by
      intro y z r
      induction r with
      | refl => exact fun i e => ways_mono e
      | step e2 _ ih => exact fun i e => ways_trans e.2.1 (ways_mono e) (ih _ e2)
    exact key y j r i e
end Go.Proofs.Gr

namespace Go.Proofs.Gr

def waysC (g : G) : Nat → Nat → Nat → Bool
  | 0, i, j => decide (i < g.length) && (decide (j < g.length) && decide ((j : Int) ∈ g.getD i []))
  | k + 1, i, j => waysC g k i j || (waysC g k i k && waysC g k k j)
theorem waysC_iff {g : G} : ∀ {k i j : Nat}, waysC g k i j = true ↔ Ways g k i j
  | 0, i, j => by simp [waysC, Ways, Edge]
  | k + 1, i, j => by simp [waysC, Ways, waysC_iff (k := k)]
def wayC (g : G) (i j : Nat) : Bool := waysC g g.length i j
theorem wayC_iff {g : G} {i j : Nat} : wayC g i j = true ↔ Way g i j := waysC_iff.trans ways_iff
def clsC (g : G) (x : Nat) : List Nat := (List.range g.length).filter fun y => x == y || (wayC g x y && wayC g y x)
theorem reach_way {g : G} {x y : Nat} : Reach g x y ↔ x = y ∨ Way g x y := ⟨Reach.way, fun h => h.elim (fun e => e ▸ .refl x) Way.reach⟩
theorem clsC_eq {g : G} {x : Nat} : clsC g x = cls g x := by
  unfold clsC cls
  apply List.filter_congr
  intro y _
  rw [Bool.eq_iff_iff]
  simp only [Bool.or_eq_true, beq_iff_eq, Bool.and_eq_true, wayC_iff, decide_eq_true_eq]
  unfold Mut
  rw [reach_way, reach_way]
  constructor
  · rintro (h | h)
    · exact ⟨.inl h, .inl h.symm⟩
    · exact ⟨.inr h.1, .inr h.2⟩
  · rintro ⟨h1 | h1, h2⟩
    · exact .inl h1
    · rcases h2 with h2 | h2
      · exact .inl h2.symm
      · exact .inr ⟨h1, h2⟩
def partsC (g : G) : List (List Nat) := ((List.range g.length).filter fun i => wayC g i i && (clsC g i).headD 0 == i).map (clsC g)
theorem partsC_eq {g : G} : partsOf g = partsC g := by
  unfold partsOf partsC
  rw [show clsC g = cls g from funext fun x => clsC_eq]
  congr 1
  apply List.filter_congr
  intro y _
  rw [Bool.eq_iff_iff]
  simp only [Bool.and_eq_true, beq_iff_eq, wayC_iff, decide_eq_true_eq]
theorem shown1 : partsOf [[1], [2], [0, 3], [3], [0]] = [[0, 1, 2], [3]] := by rw [partsC_eq]; decide +kernel
theorem shown2 : partsOf [[3, -1, 9], [2], [1], [0]] = [[0, 3], [1, 2]] := by rw [partsC_eq]; decide +kernel
theorem shown3 : partsOf [[1], [2], []] = [] := by rw [partsC_eq]; decide +kernel
theorem shown4 : partsOf [[0]] = [[0]] := by rw [partsC_eq]; decide +kernel
theorem partsOf_lt {g : G} {p : List Nat} (hp : p ∈ partsOf g) {x : Nat} (hx : x ∈ p) : x < g.length := by
  obtain ⟨i, _, _, _, rfl⟩ := mem_partsOf.mp hp
  exact (mem_cls.mp hx).1
theorem partsOf_len {g : G} {p : List Nat} (hp : p ∈ partsOf g) : p.length ≤ g.length := by
  obtain ⟨i, _, _, _, rfl⟩ := mem_partsOf.mp hp
  unfold cls
  exact Nat.le_trans (List.length_filter_le _ _) (by simp)
theorem partsOf_len2 (g : G) : (partsOf g).length ≤ g.length := by
  unfold partsOf
  rw [List.length_map]
  exact Nat.le_trans (List.length_filter_le _ _) (by simp)
end Go.Proofs.Gr

namespace Go.Proofs.Ytdndngngdngjjaa.Am
open Go Go.Proofs
set_option linter.unusedVariables false
set_option linter.unusedSimpArgs false
set_option maxRecDepth 100000
variable {D : Orc}

theorem rd_cell {h : H} {b i : Nat} {l : List Value} {v : Value} (hb : h b = some (.cells l)) (hi : l[i]? = some v) : rd h (Addr.add ⟨b, 0, none⟩ i) = some v := by
  rw [add_at, Nat.zero_add]
  simp only [rd, hb, rowOf, Option.bind_some]
  exact hi
/-- A new place of two cells, laid at once. -/
theorem two_rule {h : H} {z1 z2 u v : Value} (hu : one u = true) (hv : one v = true) {T : Prop} (hT : T) {K : Value → H → Prop} (hK : ∀ b h', h b = none → h' b = some (.cells [u, v]) → Ext h h' → K (.pointer (some ⟨b, 0, none⟩)) h') :
    newW h [z1, z2] (fun p h9 => ptrW p (fun ad => T ∧ List.all [u, v] one = true ∧ ∃ h11, wr h9 ad [u, v] = some h11 ∧ K p h11)) := by
  intro b hb
  rw [ptrW_ptr]
  refine ⟨hT, by simp [hu, hv], h.set b (.cells [u, v]), ?_, hK b _ hb set_here (Ext.new hb)⟩
  simp only [wr, set_here]
  rw [if_pos (by simp)]
  simp [splice, set_twice]
theorem split_at {α : Type} {l : List α} {i : Nat} {x : α} (h : l[i]? = some x) : l = l.take i ++ x :: l.drop (i + 1) ∧ l.take (i + 1) = l.take i ++ [x] ∧ l.drop i = x :: l.drop (i + 1) := by
  obtain ⟨hlt, rfl⟩ := List.getElem?_eq_some_iff.mp h
  have h1 : l.drop i = l[i] :: l.drop (i + 1) := List.drop_eq_getElem_cons hlt
  refine ⟨by rw [← h1, List.take_append_drop], by rw [List.take_add_one, h]; rfl, h1⟩
def Z (l : List Int) : List Value := l.map fun n => .int .i64 n
theorem Z_len (l : List Int) : (Z l).length = l.length := by simp [Z]
theorem Z_get {l : List Int} {i : Nat} {v : Value} (h : (Z l)[i]? = some v) : ∃ x, l[i]? = some x ∧ v = .int .i64 x := by
  simp only [Z, List.getElem?_map, Option.map_eq_some_iff] at h
  obtain ⟨x, hx, rfl⟩ := h
  exact ⟨x, hx, rfl⟩
def inI (x : Int) : Prop := -9223372036854775808 ≤ x ∧ x ≤ 9223372036854775807
structure Ir (h : H) (s : Value) (l : List Int) : Prop where
  row : Row h s (Z l)
  len : l.length < 2 ^ 40
  rng : ∀ x ∈ l, inI x
theorem Ir.ext {h h' : H} {s : Value} {l : List Int} (r : Ir h s l) (e : Ext h h') : Ir h' s l := ⟨r.row.ext e, r.len, r.rng⟩
theorem Ir.but {h h' : H} {s : Value} {l : List Int} (r : Ir h s l) {c : Nat} (ho : Off c s) (e : ExtBut c h h') : Ir h' s l := ⟨r.row.but ho e, r.len, r.rng⟩
theorem Ir.len_ {h : H} {s : Value} {l : List Int} (r : Ir h s l) {k : Nat → Prop} : lenW s k ↔ k l.length := by rw [r.row.len, Z_len]
theorem Ir.at_ {h : H} {s : Value} {l : List Int} (r : Ir h s l) {n : Int} (h0 : 0 ≤ n) (h1 : n < l.length) {k : Addr → Prop} (hk : ∀ a x, l[n.toNat]? = some x → inI x → rd h a = some (.int .i64 x) → k a) : slAtW s n 1 k :=
  r.row.at_ h0 (by rw [Z_len]; exact h1) fun a v hv ha => by
    obtain ⟨x, hx, rfl⟩ := Z_get hv
    exact hk a x hx (r.rng x (List.mem_of_getElem? hx)) ha
theorem mem_drop {l : List Int} {i : Nat} {c x : Int} (hc : l[i]? = some c) : decide (x ∈ l.drop i) = (decide (x = c) || decide (x ∈ l.drop (i + 1))) := by
  rw [(split_at hc).2.2, Bool.eq_iff_iff]
  simp
theorem Buf.but {h0 h h' : H} {s : Value} {vs : List Value} (r : Buf h0 h s vs) {c : Nat} (ho : Blk s ≠ some c) (e : ExtBut c h h') : Buf h0 h' s vs := by
  rcases r.pos with ⟨a, h1, h2⟩ | ⟨b, off, cap, l, hc, h1, rfl, h2, h3⟩
  · exact .inl ⟨⟨a, h1⟩, h2⟩
  · exact .inr ⟨b, off, cap, l, h1, rfl, e b _ (fun x => ho (by rw [Blk_some hc, x])) h2, h3⟩
theorem Buf.blk {h0 h : H} {s : Value} {vs : List Value} (r : Buf h0 h s vs) {d : Nat} (hd : Blk s = some d) : h0 d = none := by
  rcases r.pos with ⟨a, rfl, _⟩ | ⟨b, off, cap, l, hc, h1, rfl, _⟩
  · rw [Blk_nil] at hd; cases hd
  · rw [Blk_some hc] at hd; cases hd; exact h1
theorem Buf.push {h0 h : H} {s : Value} {vs : List Value} (r : Buf h0 h s vs) (e : Ext h0 h) (hs : vs.length < 2 ^ 40) {v z : Value} {bytes : Nat} (hb : bytes ≤ 64) (hv : one v = true) {O U : Prop} (hO : O) (hU : U) {K : Value → H → Prop}
    (hK : ∀ s' h', Buf h0 h' s' (vs ++ [v]) → Ext h0 h' → K s' h') :
    O ∧ U ∧ newSl h 1 [v] (fun s31 h32 => slenW s31 (fun n33 => srcW h32 1 s31 (n33) (fun w34 => apW h32 1 bytes [z] s (n33) w34 (fun s35 h36 => K s35 h36)))) := by
  refine ⟨hO, hU, fun b hb' => ?_⟩
  have hrow : Row (h.set b (.cells [v])) (.slice (some ⟨b, 0, none⟩) 1 1) [v] := Row.cells set_here rfl
  show slenW (.slice (some ⟨b, 0, none⟩) 1 1) _
  rw [slenW_slice]
  refine hrow.src (by simp) ?_
  have hbytes : 2 * (vs.length + [v].length) * bytes ≤ 2 ^ 48 := by
    have h1 : vs.length + [v].length ≤ 1099511627776 := by simp; omega
    have h2 : 2 * (vs.length + [v].length) ≤ 2199023255552 := by omega
    calc 2 * (vs.length + [v].length) * bytes ≤ 2199023255552 * 64 := Nat.mul_le_mul h2 hb
      _ ≤ 2 ^ 48 := by decide
  refine (r.ext (Ext.new hb')).app (e.trans (Ext.new hb')) rfl (by simp [hv]) hbytes (by simp; omega) fun s' h' r' e' => ?_
  exact hK s' h' r' e'
/-- A row in a block of its own, that h0 does not know. -/
structure Own (h0 h : H) (s : Value) (vs : List Value) : Prop where
  ext : Ext h0 h
  buf : Buf (h.drop s) h s vs
  blk : ∀ d, Blk s = some d → h0 d = none
theorem Own.nil_ {h0 h : H} (e : Ext h0 h) : Own h0 h (.slice none 0 0) [] := ⟨e, .inl ⟨⟨none, rfl⟩, rfl⟩, fun d hd => by rw [Blk_nil] at hd; cases hd⟩
theorem Own.row {h0 h : H} {s : Value} {vs : List Value} (o : Own h0 h s vs) : Row h s vs := o.buf.row
theorem Own.but {h0 h h' : H} {s : Value} {vs : List Value} (o : Own h0 h s vs) {c : Nat} (hc : Blk s ≠ some c) (e : ExtBut c h h') (he : Ext h0 h') : Own h0 h' s vs := ⟨he, (o.buf.but hc e).self, o.blk⟩
theorem Own.later {h0 h h' : H} {s : Value} {vs : List Value} (o : Own h0 h s vs) (e : Ext h h') : Own h0 h' s vs := ⟨o.ext.trans e, (o.buf.ext e).self, o.blk⟩
theorem Own.push {h0 h : H} {s : Value} {vs : List Value} (o : Own h0 h s vs) (hs : vs.length < 2 ^ 40) {v z : Value} {bytes : Nat} (hb : bytes ≤ 64) (hv : one v = true) {O U : Prop} (hO : O) (hU : U) {K : Value → H → Prop}
    (hK : ∀ s' h', Own h0 h' s' (vs ++ [v]) → (∀ d x, Blk s ≠ some d → h d = some x → h' d = some x) → (∀ d, Blk s' = some d → Blk s = some d ∨ h d = none) → K s' h') :
    O ∧ U ∧ newSl h 1 [v] (fun s31 h32 => slenW s31 (fun n33 => srcW h32 1 s31 (n33) (fun w34 => apW h32 1 bytes [z] s (n33) w34 (fun s35 h36 => K s35 h36)))) := by
  refine o.buf.push (Ext.drop h s) hs hb hv hO hU fun s' h' r' e' => ?_
  have hkeep : ∀ d x, Blk s ≠ some d → h d = some x → h' d = some x := fun d x hd hx => e' d x (by rw [drop_away hd]; exact hx)
  have hnew : ∀ d, Blk s' = some d → Blk s = some d ∨ h d = none := fun d hd => by
    have := r'.blk hd
    by_cases hx : Blk s = some d
    · exact .inl hx
    · rw [drop_away hx] at this; exact .inr this
  refine hK s' h' ⟨fun d x hx => ?_, r'.self, fun d hd => ?_⟩ hkeep hnew
  · refine hkeep d x (fun hb => ?_) (o.ext d x hx)
    rw [o.blk d hb] at hx; cases hx
  · rcases hnew d hd with h1 | h1
    · exact o.blk d h1
    · exact o.ext.free h1
theorem Z_app (l m : List Int) : Z l ++ Z m = Z (l ++ m) := by simp [Z]
theorem wr_cell {h : H} {b i : Nat} {l : List Value} {v : Value} (hb : h b = some (.cells l)) (hi : i < l.length) : wr1 h (Addr.add ⟨b, 0, none⟩ i) v = some (h.set b (.cells (l.set i v))) := by
  rw [add_at, Nat.zero_add]
  simp only [wr1, hb]
  rw [if_pos hi]
theorem nn_ptr {a : Addr} : nonNil (.pointer (some a)) = true := rfl
def hide (h : H) (b : Nat) : H := fun d => if d = b then none else h d
theorem hide_ext {h h' : H} {b : Nat} (e : ExtBut b h h') : Ext (hide h b) h' := fun d o hd => by
  unfold hide at hd
  split at hd
  · cases hd
  · rename_i hne; exact e d o hne hd
theorem hide_none {h : H} {b d : Nat} (hd : hide h b d = none) (hne : d ≠ b) : h d = none := by
  unfold hide at hd
  rw [if_neg hne] at hd; exact hd
theorem Row.blk_known {h : H} {s : Value} {vs : List Value} (r : Row h s vs) {d : Nat} (hd : h d = none) : Blk s ≠ some d := fun hb => r.known hb hd
theorem sl_one {s : Value} (h : isSl s) : one s = true := by cases s <;> first | exact h.elim | rfl
theorem ir_one {h : H} {s : Value} {l : List Int} (r : Ir h s l) : one s = true := sl_one r.row.isSl
theorem rd2 {h : H} {b : Nat} {u v : Value} (hb : h b = some (.cells [u, v])) : rdN h ⟨b, 0, none⟩ 2 = some [u, v] := by
  simp only [rdN, hb, rowOf, Option.bind_some]
  rw [if_pos (by simp)]; rfl
/-- A row rests on its own block alone. -/
def Keep (h h' : H) (s : Value) : Prop := ∀ d o, Blk s = some d → h d = some o → h' d = some o
theorem Ext.keep {h h' : H} (e : Ext h h') (s : Value) : Keep h h' s := fun d o _ hx => e d o hx
theorem Row.kept {h h' : H} {s : Value} {vs : List Value} (r : Row h s vs) (e : Keep h h' s) : Row h' s vs := by
  obtain ⟨base, cap, rfl, hc, hb⟩ := r
  refine ⟨base, cap, rfl, hc, ?_⟩
  by_cases h0 : cap = 0
  · exact .inl h0
  rcases hb with hb | ⟨a, rfl, h1, l, h2, h3, h4⟩
  · exact .inl hb
  · refine .inr ⟨a, rfl, h1, l, ?_, h3, h4⟩
    cases hx : h a.block with
    | none => rw [hx] at h2; simp [rowOf] at h2
    | some o => rw [hx] at h2; rw [e _ o (Blk_some h0) hx]; exact h2
theorem Ir.kept {h h' : H} {s : Value} {l : List Int} (r : Ir h s l) (e : Keep h h' s) : Ir h' s l := ⟨r.row.kept e, r.len, r.rng⟩
theorem at_own {b n c i : Nat} {k : Addr → Prop} (hi : i < n) (hk : k (Addr.add ⟨b, 0, none⟩ i)) : slAtW (.slice (some ⟨b, 0, none⟩) n c) ((i : Nat) : Int) 1 k := by
  refine ⟨by omega, by omega, ?_⟩
  have : Int.toNat (i : Int) * 1 = i := by simp
  rw [this]; exact hk
theorem eq_nil_rule {s : Value} {k : Bool → Prop} (hs : isSl s) (h1 : (∃ n c, s = .slice none n c) → k true) (h2 : k false) : eqSl s (.slice none 0 0) k := by
  cases s with
  | slice a n c =>
    cases a with
    | none => exact h1 ⟨n, c, rfl⟩
    | some a => exact h2
  | _ => exact hs.elim
theorem Row.nil_of {h : H} {vs : List Value} {n c : Nat} (r : Row h (.slice none n c) vs) : vs = [] ∧ n = 0 := by
  obtain ⟨base, cap, he, hc, hb⟩ := r
  simp only [Value.slice.injEq] at he
  obtain ⟨rfl, rfl, rfl⟩ := he
  rcases hb with hb | ⟨a, ha, _⟩
  · exact ⟨List.length_eq_zero_iff.mp (by omega), by omega⟩
  · cases ha
/-- A row of rows of numbers. -/
structure Rw (h : H) (s : Value) (ts : List (List Int)) : Prop where
  ex : ∃ vs, Row h s vs ∧ vs.length = ts.length ∧ ∀ (i : Nat) v, vs[i]? = some v → ∃ t, ts[i]? = some t ∧ Ir h v t
theorem Rw.ext {h h' : H} {s : Value} {ts : List (List Int)} (r : Rw h s ts) (e : Ext h h') : Rw h' s ts := by
  obtain ⟨vs, h1, h2, h3⟩ := r.ex
  exact ⟨⟨vs, h1.ext e, h2, fun i v hv => by obtain ⟨t, a, b⟩ := h3 i v hv; exact ⟨t, a, b.ext e⟩⟩⟩
theorem Rw.len_ {h : H} {s : Value} {ts : List (List Int)} (r : Rw h s ts) {k : Nat → Prop} : lenW s k ↔ k ts.length := by
  obtain ⟨vs, h1, h2, h3⟩ := r.ex
  rw [h1.len, h2]
theorem Rw.at_ {h : H} {s : Value} {ts : List (List Int)} (r : Rw h s ts) {n : Int} (h0 : 0 ≤ n) (h1 : n < ts.length) {k : Addr → Prop}
    (hk : ∀ a v t, ts[n.toNat]? = some t → rd h a = some v → Ir h v t → k a) : slAtW s n 1 k := by
  obtain ⟨vs, g1, g2, g3⟩ := r.ex
  refine g1.at_ h0 (by rw [g2]; exact h1) fun a v hv hrd => ?_
  obtain ⟨t, ht, hi⟩ := g3 _ _ hv
  exact hk a v t ht hrd hi
theorem rd_ext {h h' : H} (e : Ext h h') {a : Addr} {v : Value} (hr : rd h a = some v) : rd h' a = some v := by
  unfold rd at hr ⊢
  split at hr
  · cases hx : rowOf (h a.block) with
    | none => rw [hx] at hr; cases hr
    | some l => rw [hx] at hr; rw [rowOf_ext e hx]; exact hr
  · cases hr
theorem Z_set {l m : List Int} {j : Nat} {x y : Int} (hj : l[j]? = some x) : ∀ {pre : List Int}, pre.length = j → (Z (pre ++ l.drop j)).set j (.int .i64 y) = Z ((pre ++ [y]) ++ l.drop (j + 1)) := by
  intro pre hp
  subst hp
  rw [(split_at hj).2.2, Z, Z, List.map_append, List.map_append, List.map_append, List.set_append_right _ _ (by simp)]
  simp
theorem flat_rep {v : Value} : ∀ n : Nat, (List.replicate n [v]).flatten = List.replicate n v
  | 0 => rfl
  | n + 1 => by rw [List.replicate_succ, List.flatten_cons, flat_rep n, List.replicate_succ]; rfl
/-- A new row of numbers. -/
theorem ir_new {h : H} {b n : Nat} {l : List Int} (hb : h b = some (.cells (Z l))) (hn : l.length = n) (hl : n < 2 ^ 40) (hr : ∀ x ∈ l, inI x) : Ir h (.slice (some ⟨b, 0, none⟩) n n) l :=
  ⟨Row.cells hb (by rw [Z_len, hn]), by omega, hr⟩
theorem ir_known {h : H} {v : Value} {l : List Int} (r : Ir h v l) {d : Nat} (hd : Blk v = some d) : h d ≠ none := r.row.known hd
end Go.Proofs.Ytdndngngdngjjaa.Am

namespace Go.Proofs.Ytdndngngdngjjaa.Am
open Go Go.Proofs Gr
set_option linter.unusedVariables false
set_option linter.unusedSimpArgs false
set_option maxRecDepth 100000
variable {D : Orc}

abbrev nZ (n : Nat) : Value := .int .i64 (n : Int)
def ZN (l : List Nat) : List Value := l.map nZ
theorem ZN_len (l : List Nat) : (ZN l).length = l.length := by simp [ZN]
def toI (l : List Nat) : List Int := l.map fun n : Nat => (n : Int)
theorem ZN_Z (l : List Nat) : ZN l = Z (toI l) := by simp [ZN, Z, toI]
def arr (n : Nat) (f : Nat → Value) : List Value := (List.range n).map f
theorem arr_len {n : Nat} {f : Nat → Value} : (arr n f).length = n := by simp [arr]
theorem arr_get {n i : Nat} {f : Nat → Value} (hi : i < n) : (arr n f)[i]? = some (f i) := by simp [arr, hi]
theorem arr_set {n i : Nat} {f : Nat → Value} {v : Value} : (arr n f).set i v = arr n fun x => if x = i then v else f x := by
  apply List.ext_getElem?
  intro j
  unfold arr
  rw [List.getElem?_set, List.getElem?_map, List.getElem?_map]
  by_cases hj : j < n
  · rw [List.getElem?_range hj]
    by_cases hij : i = j
    · subst hij; simp [hj]
    · simp [hij, Ne.symm hij]
  · rw [List.getElem?_eq_none (by simp; omega)]
    by_cases hij : i = j
    · subst hij; simp [hj]
    · simp [hij]
theorem arr_setN {n i k : Nat} {f : Nat → Nat} : (arr n fun x => nZ (f x)).set i (nZ k) = arr n fun x => nZ (upd f i k x) := by
  rw [arr_set]
  congr 1; funext x
  unfold upd
  split <;> rfl
theorem arr_setB {n i : Nat} {k : Bool} {f : Nat → Bool} : (arr n fun x => .bool (f x)).set i (.bool k) = arr n fun x => .bool (if x = i then k else f x) := by
  rw [arr_set]
  congr 1; funext x
  split <;> rfl
theorem arr_rep {n : Nat} {v : Value} : List.replicate n v = arr n fun _ => v := by
  unfold arr
  rw [List.map_const']
  simp
structure Cx where
  pc : Nat
  ps : Nat
  b : Nat
  pg : Nat
  pn : Nat
  pv : Nat
  bm : Nat
  bl : Nat
  bo : Nat
  gv : Value
  g : G
  h0 : H
def Cx.n (c : Cx) : Nat := c.g.length
def Cx.sl (c : Cx) (b : Nat) : Value := .slice (some ⟨b, 0, none⟩) c.n c.n
def Cx.self (c : Cx) : Value := .func (.func 17) #[] #[Pt c.pc, Pt c.ps, Pt c.pg, Pt c.pn, Pt c.pv]
def lay (c : Cx) (clk : Nat) (met low : Nat → Nat) (on : Nat → Bool) (vsf vs : Value) (st : List Nat) (vpf vp : Value) (ws : List Value) (I : List Res) : List Res :=
  cellR c.pc [nZ clk] :: cellR c.ps [Pt c.b] :: cellR c.b [c.sl c.bm, c.sl c.bl, vsf, c.sl c.bo, vpf] :: cellR c.pg [c.gv] :: cellR c.pn [nZ c.n] :: cellR c.pv [c.self] ::
  cellR c.bm (arr c.n fun x => nZ (met x)) :: cellR c.bl (arr c.n fun x => nZ (low x)) :: cellR c.bo (arr c.n fun x => .bool (on x)) :: bufR vs (ZN st) :: bufR vp ws :: I
def inn (Q : List (Value × List Nat)) : List Res := Q.map fun x => bufR x.1 (ZN x.2)
structure Sr (c : Cx) (h : H) (s : St) : Prop where
  mem : ∃ vs vp Q, Hp c.h0 h (lay c s.clock s.met s.low (fun x => decide (x ∈ s.stack)) vs vs s.stack vp vp (Q.map (·.1)) (inn Q)) ∧ s.parts = Q.map (·.2)
  nd : s.stack.Nodup
  pos : ∀ x ∈ s.stack, s.met x ≠ 0 ∧ x < c.n
  cnt : s.clock = ((List.range c.n).filter fun x => decide (s.met x ≠ 0)).length
  few : s.parts.length + s.stack.length ≤ s.clock
theorem Sr.clk {c : Cx} {h : H} {s : St} (r : Sr c h s) : s.clock ≤ c.n := by
  rw [r.cnt]
  have := List.length_filter_le (fun x => decide (s.met x ≠ 0)) (List.range c.n)
  simpa using this
theorem cnt_upd {n i : Nat} {f : Nat → Nat} {k : Nat} (hi : i < n) (h0 : f i = 0) (hk : k ≠ 0) : ((List.range n).filter fun x => decide (upd f i k x ≠ 0)).length = ((List.range n).filter fun x => decide (f x ≠ 0)).length + 1 := by
  have key : ∀ m, ((List.range m).filter fun x => decide (upd f i k x ≠ 0)).length = ((List.range m).filter fun x => decide (f x ≠ 0)).length + if i < m then 1 else 0 := by
    intro m
    induction m with
    | zero => simp
    | succ m ih =>
      rw [List.range_succ, List.filter_append, List.filter_append, List.length_append, List.length_append, ih]
      by_cases hm : m = i
      · subst hm
        have e1 : upd f m k m ≠ 0 := by rw [upd_here]; exact hk
        simp [e1, h0]
      · have : (i < m + 1) = (i < m) := by
          apply propext; omega
        simp only [List.filter_cons, List.filter_nil, upd_away hm, this]
        omega
  rw [key, if_pos hi]
section
variable {c : Cx} {h : H} {clk : Nat} {met low : Nat → Nat} {on : Nat → Bool} {vsf vs vpf vp : Value} {st : List Nat} {ws : List Value} {I : List Res}
theorem lay_met {i k : Nat} : (lay c clk met low on vsf vs st vpf vp ws I).set 6 (cellR c.bm ((arr c.n fun x => nZ (met x)).set i (nZ k))) = lay c clk (upd met i k) low on vsf vs st vpf vp ws I := by
  rw [arr_setN]; rfl
theorem lay_low {i k : Nat} : (lay c clk met low on vsf vs st vpf vp ws I).set 7 (cellR c.bl ((arr c.n fun x => nZ (low x)).set i (nZ k))) = lay c clk met (upd low i k) on vsf vs st vpf vp ws I := by
  rw [arr_setN]; rfl
theorem lay_on {i : Nat} {k : Bool} : (lay c clk met low on vsf vs st vpf vp ws I).set 8 (cellR c.bo ((arr c.n fun x => .bool (on x)).set i (.bool k))) = lay c clk met low (fun x => if x = i then k else on x) vsf vs st vpf vp ws I := by
  rw [arr_setB]; rfl
theorem lay_perm {I' : List Res} (p : I'.Perm I) : (lay c clk met low on vsf vs st vpf vp ws I').Perm (lay c clk met low on vsf vs st vpf vp ws I) := p.append_left (lay c clk met low on vsf vs st vpf vp ws [])
theorem lay_sub {I' : List Res} (p : I'.Sublist I) : (lay c clk met low on vsf vs st vpf vp ws I').Sublist (lay c clk met low on vsf vs st vpf vp ws I) := p.append_left (lay c clk met low on vsf vs st vpf vp ws [])
theorem lay_end : (bufR vp ws :: I).Sublist (lay c clk met low on vsf vs st vpf vp ws I) := List.drop_sublist 10 (lay c clk met low on vsf vs st vpf vp ws I)
theorem st_met (o : Hp c.h0 h (lay c clk met low on vsf vs st vpf vp ws I)) {i k : Nat} (hi : i < c.n) {T : Prop} (hT : T) {K : H → Prop} (hK : ∀ h', Hp c.h0 h' (lay c clk (upd met i k) low on vsf vs st vpf vp ws I) → K h') :
    slAtW (c.sl c.bm) (i : Int) 1 fun ad => one (nZ k) = true ∧ T ∧ ∃ h', wr1 h ad (nZ k) = some h' ∧ K h' :=
  o.stA (i := 6) rfl hi (by rw [arr_len]; exact hi) rfl hT fun h' o' => hK h' (by rw [lay_met] at o'; exact o')
theorem st_low (o : Hp c.h0 h (lay c clk met low on vsf vs st vpf vp ws I)) {i k : Nat} (hi : i < c.n) {T : Prop} (hT : T) {K : H → Prop} (hK : ∀ h', Hp c.h0 h' (lay c clk met (upd low i k) on vsf vs st vpf vp ws I) → K h') :
    slAtW (c.sl c.bl) (i : Int) 1 fun ad => one (nZ k) = true ∧ T ∧ ∃ h', wr1 h ad (nZ k) = some h' ∧ K h' :=
  o.stA (i := 7) rfl hi (by rw [arr_len]; exact hi) rfl hT fun h' o' => hK h' (by rw [lay_low] at o'; exact o')
theorem st_on (o : Hp c.h0 h (lay c clk met low on vsf vs st vpf vp ws I)) {i : Nat} {k : Bool} (hi : i < c.n) {T : Prop} (hT : T) {K : H → Prop} (hK : ∀ h', Hp c.h0 h' (lay c clk met low (fun x => if x = i then k else on x) vsf vs st vpf vp ws I) → K h') :
    slAtW (c.sl c.bo) (i : Int) 1 fun ad => one (.bool k) = true ∧ T ∧ ∃ h', wr1 h ad (.bool k) = some h' ∧ K h' :=
  o.stA (i := 8) rfl hi (by rw [arr_len]; exact hi) rfl hT fun h' o' => hK h' (by rw [lay_on] at o'; exact o')
theorem ld_met (o : Hp c.h0 h (lay c clk met low on vsf vs st vpf vp ws I)) {i : Nat} (hi : i < c.n) {K : Int → Prop} (hK : K (met i : Int)) : slAtW (c.sl c.bm) (i : Int) 1 fun ad => ∃ x : Int, rd h ad = some (.int .i64 x) ∧ K x :=
  ldA (o.cell (i := 6) rfl) hi (arr_get hi) hK
theorem ld_low (o : Hp c.h0 h (lay c clk met low on vsf vs st vpf vp ws I)) {i : Nat} (hi : i < c.n) {K : Int → Prop} (hK : K (low i : Int)) : slAtW (c.sl c.bl) (i : Int) 1 fun ad => ∃ x : Int, rd h ad = some (.int .i64 x) ∧ K x :=
  ldA (o.cell (i := 7) rfl) hi (arr_get hi) hK
theorem ld_on (o : Hp c.h0 h (lay c clk met low on vsf vs st vpf vp ws I)) {i : Nat} (hi : i < c.n) {K : Bool → Prop} (hK : K (on i)) : slAtW (c.sl c.bo) (i : Int) 1 fun ad => ∃ x : Bool, rd h ad = some (.bool x) ∧ K x :=
  ldAB (o.cell (i := 8) rfl) hi (arr_get hi) hK
/-- A field of the walk's record, by the variable that points to it. -/
theorem ld_s (o : Hp c.h0 h (lay c clk met low on vsf vs st vpf vp ws I)) {j : Nat} {v : Value} (hj : [c.sl c.bm, c.sl c.bl, vsf, c.sl c.bo, vpf][j]? = some v) {K : Value → Prop} (hK : K v) :
    ptrW (Pt c.ps) fun ad => ∃ u, rd h ad = some u ∧ nonNil u = true ∧ ptrW u fun ad => ∃ w, rd h (Addr.add ad j) = some w ∧ K w :=
  fld (o.cell (i := 1) rfl) (o.cell (i := 2) rfl) hj hK
end
end Go.Proofs.Ytdndngngdngjjaa.Am

namespace Go.Proofs.Ytdndngngdngjjaa.Am
open Go Go.Proofs Gr
set_option linter.unusedVariables false
set_option linter.unusedSimpArgs false
set_option maxRecDepth 100000
variable {D : Orc}

theorem idxOf_first {x : Nat} : ∀ {l : List Nat} {i : Nat}, l[i]? = some x → (∀ j, j < i → l[j]? ≠ some x) → l.idxOf x = i
  | [], i, h, _ => by simp at h
  | a :: l, 0, h, _ => by
    simp at h
    subst h; simp
  | a :: l, i + 1, h, hb => by
    have h1 : a ≠ x := fun e => hb 0 (by omega) (by simp [e])
    rw [List.idxOf_cons, show (a == x) = false by simpa using h1, cond_false, idxOf_first (l := l) (i := i) (by simpa using h) fun j hj => by simpa using hb (j + 1) (by omega)]
def SpecIndex (D : Orc) (f : Nat) : Prop := ∀ s l (x : Nat) h (k : Kv) kp, Row h s (ZN l) → l.length < 2 ^ 40 → x ∈ l → k (.int .i64 ((l.idxOf x : Nat) : Int)) h → D f [s, .int .i64 (x : Int)] h k kp
theorem spec21 (c : Cl21 D) : SpecIndex D 21 := by
  intro s l x h k kp r hl hx hk
  refine c _ _ _ _ _ ?_
  unfold F21
  rw [intK_int, r.len, ZN_len]
  intro I hI
  have key : ∀ n i : Nat, l.length - i ≤ n → i ≤ l.length → (∀ j, j < i → l[j]? ≠ some x) → I [s, .int .i64 (x : Int), .int .i64 ((l.length : Nat) : Int), .int .i64 ((i : Nat) : Int)] h := by
    intro n
    induction n with
    | zero =>
      intro i hn hi hb
      exfalso
      obtain ⟨j, hj⟩ := List.getElem?_of_mem hx
      exact hb j (by have := (List.getElem?_eq_some_iff.mp hj).1; omega) hj
    | succ n ih =>
      intro i hn hi hb
      refine hI _ _ _ _ _ ?_
      unfold round21_2
      simp only [intK_int]
      rw [cond_dec]
      refine ⟨fun hlt => ?_, fun hge => ?_⟩
      · have hi' : i < l.length := by omega
        refine r.at_ (by omega) (by rw [ZN_len]; omega) fun ad v hv hrd => ?_
        rw [Int.toNat_natCast] at hv
        have hv' : v = nZ l[i] := by
          simp only [ZN, List.getElem?_map, List.getElem?_eq_getElem hi', Option.map_some, Option.some.injEq] at hv
          exact hv.symm
        subst hv'
        refine ⟨_, hrd, ?_⟩
        rw [cond_eq]
        refine ⟨fun he => ?_, fun hne => ?_⟩
        · have he : x = l[i] := by omega
          rw [xs_r, nth0, intK_int]
          have : l.idxOf x = i := idxOf_first (by rw [List.getElem?_eq_getElem hi', he]) hb
          rw [this] at hk
          exact hk
        · rw [i64_id (by omega) (by omega)]
          refine ih (i + 1) (by omega) (by omega) fun j hj hjx => ?_
          by_cases hji : j = i
          · subst hji
            rw [List.getElem?_eq_getElem hi'] at hjx
            have := Option.some.inj hjx
            omega
          · exact hb j (by omega) hjx
      · exfalso
        obtain ⟨j, hj⟩ := List.getElem?_of_mem hx
        exact hb j (by have := (List.getElem?_eq_some_iff.mp hj).1; omega) hj
  exact key l.length 0 (by omega) (by omega) fun j hj => by omega
def SpecClone (D : Orc) (f : Nat) : Prop := ∀ s vs h (k : Kv) kp, Row h s vs → vs.length < 2 ^ 40 → vs.all one = true → vs ≠ [] → (∀ v h', Buf h h' v vs → Ext h h' → k v h') → D f [s] h k kp
theorem spec22 (c : Cl22 D) : SpecClone D 22 := by
  intro s vs h k kp r hl h1 hne hk
  refine c _ _ _ _ ?_
  unfold F22
  refine eq_nil_rule r.isSl (fun ⟨n, cc, e⟩ => ?_) ?_
  · subst e
    exact absurd (r.nil_of).1 hne
  · rw [cond_false]
    intro b hb
    have r2 := r.ext (Ext.new (o := .cells []) hb)
    rw [r2.slen]
    refine r2.src (Nat.le_refl _) ?_
    rw [List.take_length]
    refine Buf.app (h0 := h) (vs := []) (.inl ⟨⟨_, rfl⟩, rfl⟩) (Ext.new hb) rfl h1 (bytes_ok (by simp; omega) (by decide)) (by simp; omega) fun s' h' rb e => ?_
    exact hk _ _ rb e
def SpecSortI (D : Orc) (f : Nat) : Prop := ∀ (h0 : H) (L : List Res) (i : Nat) (s : Value) (l : List Int) h (k : Kv) kp, Hp h0 h L → L[i]? = some (bufR s (Z l)) → l.length < 2 ^ 40 →
  (∀ h', Hp h0 h' (L.set i (bufR s (Z (l.mergeSort fun x y => decide (x ≤ y))))) → k (.tuple #[]) h') → D f [s] h k kp
theorem one_Z (l : List Int) : (Z l).all one = true := by simp [Z, one_int]
theorem one_ZN (l : List Nat) : (ZN l).all one = true := by simp [ZN, one_int]
theorem toI_sorted (l : List Nat) : (toI l).mergeSort (fun x y => decide (x ≤ y)) = toI (sorted l) := by
  unfold toI sorted
  rw [List.map_mergeSort]
  intro a _ b _
  rw [decide_eq_decide]; omega
/-- A new part at the end of those that were there. -/
theorem lay_in {c : Cx} {h : H} {clk : Nat} {met low : Nat → Nat} {on : Nat → Bool} {vsf vs vpf vp : Value} {st : List Nat} {ws : List Value} {I : List Res} {r : Res}
    (o : Hp c.h0 h (r :: lay c clk met low on vsf vs st vpf vp ws I)) : Hp c.h0 h (lay c clk met low on vsf vs st vpf vp ws (r :: I)) := by
  refine o.perm ?_
  have := List.perm_middle (a := r) (l₁ := lay c clk met low on vsf vs st vpf vp ws []) (l₂ := I)
  exact this
theorem sl_one' {s : Value} {h : H} {vs : List Value} (r : Row h s vs) : one s = true := sl_one r.isSl
def SpecClose (D : Orc) (f : Nat) : Prop := ∀ (c : Cx) (s : St) (h : H) (k : Kv) (kp : Kp) (i : Nat) (b : Bool), Sr c h s → c.n < 2 ^ 40 → i ∈ s.stack → s.low i = s.met i →
  (∀ h', Sr c h' (s.leave i b) → k (.tuple #[]) h') → D f [Pt c.b, nZ i, .bool b] h k kp
theorem mem_drop_take {l : List Nat} (h : l.Nodup) {p x : Nat} : x ∈ l.take p ↔ x ∈ l ∧ x ∉ l.drop p := by
  have h2 := h
  rw [← List.take_append_drop p l, List.nodup_append] at h2
  constructor
  · intro hx
    exact ⟨List.mem_of_mem_take hx, fun hy => h2.2.2 x hx x hy rfl⟩
  · rintro ⟨hx, hn⟩
    rw [← List.take_append_drop p l] at hx
    rcases List.mem_append.mp hx with hx | hx
    · exact hx
    · exact absurd hx hn
theorem spec18 (c : Cl18 D) (sIdx : SpecIndex D 21) (sClone : SpecClone D 22) (sSort : SpecSortI D 23) : SpecClose D 18 := by
  intro cx s h k kp i b sr hn hi hlow hk
  obtain ⟨⟨vs, vp, Q, o, hQ⟩, hnd, hpos, hcnt, hfew⟩ := id sr
  have hclk := sr.clk
  refine c _ _ _ _ _ _ ?_
  unfold F18
  rw [intK_int, boolW_bool]
  refine ⟨rfl, ldj (o.cell (i := 2) rfl) rfl ?_⟩
  have hst := o.row (i := 9) rfl
  have hp : s.stack.idxOf i < s.stack.length := List.idxOf_lt_length_of_mem hi
  refine sIdx _ _ _ _ _ _ hst (by omega) hi ⟨_, rfl, rfl, ldj (o.cell (i := 2) rfl) rfl ?_⟩
  have hlv : s.leave i b = { s with stack := s.stack.take (s.stack.idxOf i), parts := if 1 < (s.stack.drop (s.stack.idxOf i)).length ∨ b = true then s.parts ++ [sorted (s.stack.drop (s.stack.idxOf i))] else s.parts } := by
    unfold St.leave
    rw [if_pos hlow]
  rw [hlv] at hk
  generalize s.stack.idxOf i = p at *
  have hdl : (s.stack.drop p).length = s.stack.length - p := by simp
  refine hst.part (i := p) (j := s.stack.length) rfl (by simp [ZN_len]) (by omega) (by rw [ZN_len]; omega) fun s9 r9 _ => ?_
  have e9 : ((ZN s.stack).take s.stack.length).drop p = ZN (s.stack.drop p) := by
    rw [List.take_of_length_le (by rw [ZN_len]; omega)]
    simp [ZN]
  rw [e9] at r9
  refine sClone _ _ _ _ _ r9 (by rw [ZN_len]; omega) (one_ZN _) (by
    intro hh
    have := congrArg List.length hh
    rw [ZN_len] at this
    simp at this; omega) fun w h1 rw_ e1 => ⟨w, rfl, rfl, ?_⟩
  have o1 := lay_in ((o.add_buf e1 rw_))
  refine ldj (o1.cell (i := 2) rfl) rfl ?_
  refine o1.upto (i := 9) rfl (by omega) (by rw [ZN_len]; omega) fun o2 => ⟨rfl, ?_⟩
  rw [Int.toNat_natCast] at o2 ⊢
  have e2 : (ZN s.stack).take p = ZN (s.stack.take p) := by simp [ZN]
  rw [e2] at o2
  have o2 : Hp cx.h0 h1 (lay cx s.clock s.met s.low (fun x => decide (x ∈ s.stack)) vs (cutTo vs p) (s.stack.take p) vp vp (Q.map (·.1)) (bufR w (ZN (s.stack.drop p)) :: inn Q)) := o2
  have hone : one (cutTo vs p) = true := sl_one' (o2.row (i := 9) rfl)
  refine o2.stj (i := 2) (j := 2) rfl (by simp) hone rfl fun h3 o3 => ?_
  have o3 : Hp cx.h0 h3 (lay cx s.clock s.met s.low (fun x => decide (x ∈ s.stack)) (cutTo vs p) (cutTo vs p) (s.stack.take p) vp vp (Q.map (·.1)) (bufR w (ZN (s.stack.drop p)) :: inn Q)) := o3
  rw [(o3.row (i := 11) rfl).len, ZN_len]
  generalize hT : s.stack.drop p = T at *
  generalize hS : s.stack.take p = S at *
  have hmem : ∀ x, x ∈ S ↔ x ∈ s.stack ∧ x ∉ T := fun x => by rw [← hS, ← hT]; exact mem_drop_take hnd
  have hTl : ∀ x ∈ T, x < cx.n := fun x hx => (hpos x (by rw [← hT] at hx; exact List.mem_of_mem_drop hx)).2
  have hnd2 : S.Nodup := by rw [← hS]; exact hnd.sublist (List.take_sublist _ _)
  intro I hI
  have fin : ∀ (t : Bool) (h4 : H), (t = true ↔ (1 < T.length ∨ b = true)) → Hp cx.h0 h4 (lay cx s.clock s.met s.low (fun x => decide (x ∈ S)) (cutTo vs p) (cutTo vs p) S vp vp (Q.map (·.1)) (bufR w (ZN T) :: inn Q)) →
      j18__9 D k kp (Pt cx.b) w (.bool t) h4 := by
    intro t h4 ht o4
    unfold j18__9
    rw [boolW_bool]
    have hSl : S.length = p := by rw [← hS, List.length_take]; omega
    have hQl : Q.length = s.parts.length := by rw [hQ, List.length_map]
    cases t with
    | true =>
      rw [cond_true]
      have hc := ht.mp rfl
      rw [if_pos hc] at hk
      refine sSort cx.h0 _ 11 w (toI T) h4 _ _ o4 (by rw [← ZN_Z]; rfl) (by simp [toI]; omega) fun h5 o5 => ⟨rfl, rfl, ?_⟩
      rw [toI_sorted, ← ZN_Z] at o5
      have o5 : Hp cx.h0 h5 (lay cx s.clock s.met s.low (fun x => decide (x ∈ S)) (cutTo vs p) (cutTo vs p) S vp vp (Q.map (·.1)) (bufR w (ZN (sorted T)) :: inn Q)) := o5
      refine ldj (o5.cell (i := 2) rfl) rfl ⟨sl_one' (o5.row (i := 11) rfl), ?_⟩
      refine (o5.push (i := 10) rfl (by decide) (by rw [List.length_map, hQl]; omega) (sl_one' (o5.row (i := 11) rfl)) (by decide : 0 < 1) trivial fun vp' h6 o6 => ⟨rfl, ?_⟩).imp_right fun h => h.2
      have o6 : Hp cx.h0 h6 (lay cx s.clock s.met s.low (fun x => decide (x ∈ S)) (cutTo vs p) (cutTo vs p) S vp vp' (Q.map (·.1) ++ [w]) (bufR w (ZN (sorted T)) :: inn Q)) := o6
      refine o6.stj (i := 2) (j := 4) rfl (by simp) (sl_one' (o6.row (i := 10) rfl)) rfl fun h7 o7 => ?_
      have o7 : Hp cx.h0 h7 (lay cx s.clock s.met s.low (fun x => decide (x ∈ S)) (cutTo vs p) (cutTo vs p) S vp' vp' (Q.map (·.1) ++ [w]) (bufR w (ZN (sorted T)) :: inn Q)) := o7
      refine hk h7 ⟨⟨cutTo vs p, vp', Q ++ [(w, sorted T)], ?_, by simp [hQ]⟩, hnd2, fun x hx => hpos x ((hmem x).mp hx).1, hcnt, ?_⟩
      · refine (show Hp cx.h0 h7 (lay cx s.clock s.met s.low (fun x => decide (x ∈ S)) (cutTo vs p) (cutTo vs p) S vp' vp' ((Q ++ [(w, sorted T)]).map (·.1)) (bufR w (ZN (sorted T)) :: inn Q)) by simpa using o7).perm ?_
        have : inn (Q ++ [(w, sorted T)]) = inn Q ++ [bufR w (ZN (sorted T))] := by simp [inn]
        rw [this]
        exact lay_perm (List.perm_append_singleton _ _)
      · simp only [List.length_append, List.length_singleton]
        omega
    | false =>
      rw [cond_false]
      have hc : ¬ (1 < T.length ∨ b = true) := fun h => by have := ht.mpr h; cases this
      rw [if_neg hc] at hk
      refine hk h4 ⟨⟨cutTo vs p, vp, Q, o4.sub ?_, hQ⟩, hnd2, fun x hx => hpos x ((hmem x).mp hx).1, hcnt, by simp only; omega⟩
      exact lay_sub (List.sublist_cons_self _ _)
  have exit : ∀ (h4 : H), Hp cx.h0 h4 (lay cx s.clock s.met s.low (fun x => decide (x ∈ s.stack ∧ x ∉ T)) (cutTo vs p) (cutTo vs p) S vp vp (Q.map (·.1)) (bufR w (ZN T) :: inn Q)) →
      boolW (.bool b) fun t33 => lenW w fun n34 => cond (!(decide ((n34 : Int) > (1 : Int)))) (j18__9 D k kp (Pt cx.b) w (.bool t33) h4) (j18__9 D k kp (Pt cx.b) w (.bool true) h4) := by
    intro h4 o4
    have hon : (fun x => decide (x ∈ s.stack ∧ x ∉ T)) = fun x => decide (x ∈ S) := by
      funext x; rw [decide_eq_decide, hmem]
    rw [hon] at o4
    rw [boolW_bool, (o4.row (i := 11) rfl).len, ZN_len, cond_not, cond_dec]
    refine ⟨fun h1 => fin true h4 ⟨fun _ => .inl (by omega), fun _ => rfl⟩ o4, fun h1 => fin b h4 ⟨fun h => .inr h, fun h => ?_⟩ o4⟩
    rcases h with h | h
    · omega
    · exact h
  have key : ∀ (n j : Nat) (h4 : H), T.length - j ≤ n → j ≤ T.length → Hp cx.h0 h4 (lay cx s.clock s.met s.low (fun x => decide (x ∈ s.stack ∧ x ∉ T.take j)) (cutTo vs p) (cutTo vs p) S vp vp (Q.map (·.1)) (bufR w (ZN T) :: inn Q)) →
      I [Pt cx.b, .bool b, w, w, nZ T.length, nZ j] h4 := by
    intro n
    induction n with
    | zero =>
      intro j h4 hn hj o4
      refine hI _ _ _ _ _ _ _ ?_
      unfold round18_4
      simp only [boolW_bool, intK_int]
      rw [cond_dec]
      refine ⟨fun hlt => by omega, fun _ => ?_⟩
      rw [List.take_of_length_le (by omega)] at o4
      exact exit h4 o4
    | succ n ih =>
      intro j h4 hn hj o4
      refine hI _ _ _ _ _ _ _ ?_
      unfold round18_4
      simp only [boolW_bool, intK_int]
      rw [cond_dec]
      refine ⟨fun hlt => ?_, fun _ => ?_⟩
      · have hj' : j < T.length := by omega
        refine (o4.row (i := 11) rfl).at_ (by omega) (by rw [ZN_len]; omega) fun ad v hv hrd => ?_
        rw [Int.toNat_natCast] at hv
        have hv' : v = nZ T[j] := by
          simp only [ZN, List.getElem?_map, List.getElem?_eq_getElem hj', Option.map_some, Option.some.injEq] at hv
          exact hv.symm
        subst hv'
        refine ⟨_, hrd, rfl, ldj (o4.cell (i := 2) rfl) rfl ?_⟩
        refine st_on o4 (hTl _ (List.getElem_mem hj')) trivial fun h5 o5 => ?_
        rw [i64_id (by omega) (by omega)]
        refine ih (j + 1) h5 (by omega) (by omega) ?_
        have : (fun x => if x = T[j] then false else decide (x ∈ s.stack ∧ x ∉ T.take j)) = fun x => decide (x ∈ s.stack ∧ x ∉ T.take (j + 1)) := by
          have hm : ∀ x, x ∈ T.take (j + 1) ↔ x ∈ T.take j ∨ x = T[j] := fun x => by
            rw [List.take_add_one, List.getElem?_eq_getElem hj', Option.toList_some, List.mem_append, List.mem_singleton]
          funext x
          by_cases hx : x = T[j]
          · rw [if_pos hx]
            symm
            rw [decide_eq_false_iff_not, hm]
            exact fun h => h.2 (.inr hx)
          · rw [if_neg hx, decide_eq_decide, hm, not_or]
            exact ⟨fun h => ⟨h.1, h.2, hx⟩, fun h => ⟨h.1, h.2.1⟩⟩
        rw [this] at o5
        exact o5
      · rw [List.take_of_length_le (by omega)] at o4
        exact exit h4 o4
  refine key T.length 0 h3 (by omega) (by omega) ?_
  simpa using o3
end Go.Proofs.Ytdndngngdngjjaa.Am

namespace Go.Proofs.Ytdndngngdngjjaa.Am
open Go Go.Proofs Gr
set_option linter.unusedVariables false
set_option linter.unusedSimpArgs false
set_option maxRecDepth 100000
variable {D : Orc}

theorem leave_clk {s : St} {k : Nat} {b : Bool} : (s.leave k b).clock = s.clock := by unfold St.leave; split <;> rfl
theorem leave_met {s : St} {k : Nat} {b : Bool} : (s.leave k b).met = s.met := by unfold St.leave; split <;> rfl
theorem run_clk {g : G} {i : Nat} {ks : List Int} {s s' : St} {b b' : Bool} (r : Run g i ks s b s' b') : s.clock ≤ s'.clock := by
  induction r with
  | nil => exact Nat.le_refl _
  | out _ _ ih => exact ih
  | @new i k ks s s1 s' b b1 b' _ _ _ _ ih1 ih2 =>
    have e1 : ((s1.leave k b1).lows i ((s1.leave k b1).low k)).clock = s1.clock := leave_clk
    have e2 : (s.enter k).clock = s.clock + 1 := rfl
    omega
  | @on i k ks s s' b b' _ _ _ _ ih =>
    have e : (s.lows i (s.met k)).clock = s.clock := rfl
    omega
  | off _ _ _ _ ih => exact ih
theorem run_stack {g : G} {i : Nat} {ks : List Int} {s s' : St} {b b' : Bool} (r : Run g i ks s b s' b') : (∀ x ∈ s.stack, s.met x ≠ 0) →
    (∃ T, s'.stack = s.stack ++ T) ∧ (∀ x ∈ s'.stack, s'.met x ≠ 0) ∧ ∀ x, s.met x ≠ 0 → s'.met x ≠ 0 := by
  induction r with
  | nil => exact fun h => ⟨⟨[], by simp⟩, h, fun _ h => h⟩
  | out _ _ ih => exact ih
  | @new i k ks s s1 s' b b1 b' _ hw _ _ ih1 ih2 =>
    intro h
    have hkm : (s.enter k).met k ≠ 0 := by show upd s.met k (s.clock + 1) k ≠ 0; rw [upd_here]; omega
    have hmono : ∀ x, s.met x ≠ 0 → (s.enter k).met x ≠ 0 := fun x hx => by
      by_cases hxk : x = k
      · rw [hxk]; exact hkm
      · rw [enter_met hxk]; exact hx
    obtain ⟨⟨T, hT⟩, h1, h2⟩ := ih1 fun x hx => by
      rcases List.mem_append.mp hx with hx | hx
      · exact hmono x (h x hx)
      · simp only [List.mem_singleton] at hx
        rw [hx]; exact hkm
    have hT : s1.stack = (s.stack ++ [k]) ++ T := hT
    have hks : k ∉ s.stack := fun hk => h k hk hw
    have hlv : ∃ T', (s1.leave k b1).stack = s.stack ++ T' := by
      unfold St.leave
      split
      · refine ⟨[], ?_⟩
        show s1.stack.take (s1.stack.idxOf k) = _
        rw [hT, List.append_assoc, List.idxOf_append, if_neg hks]
        simp
      · exact ⟨[k] ++ T, by rw [hT, List.append_assoc]⟩
    have hsub : ∀ x ∈ (s1.leave k b1).stack, x ∈ s1.stack := fun x hx => by
      unfold St.leave at hx
      split at hx
      · exact List.mem_of_mem_take hx
      · exact hx
    obtain ⟨T', hT'⟩ := hlv
    obtain ⟨⟨T2, hT2⟩, h3, h4⟩ := ih2 fun x hx => by
      show (s1.leave k b1).met x ≠ 0
      rw [leave_met]; exact h1 x (hsub x hx)
    refine ⟨⟨T' ++ T2, ?_⟩, h3, fun x hx => h4 x ?_⟩
    · rw [hT2, ← List.append_assoc, ← hT']; rfl
    · show (s1.leave k b1).met x ≠ 0
      rw [leave_met]; exact h2 x (hmono x hx)
  | on _ _ _ _ ih => exact ih
  | off _ _ _ _ ih => exact ih
theorem min_rule {a b : Nat} {k : Value → Prop} (hk : k (nZ (min a b))) : minMax false [nZ a, nZ b] k := by
  refine ⟨rfl, ?_⟩
  show k (.int .i64 (if (b : Int) < (a : Int) then (b : Int) else (a : Int)))
  have : (if (b : Int) < (a : Int) then (b : Int) else (a : Int)) = ((min a b : Nat) : Int) := by
    rw [Nat.min_def]
    split <;> split <;> omega
  rw [this]; exact hk
theorem Sr.lows_ {c : Cx} {h : H} {s : St} (r : Sr c h s) {i v : Nat} (hi : i < c.n) {T : Prop} (hT : T) {K : H → Prop} (hK : ∀ h', Sr c h' (s.lows i v) → K h') :
    slAtW (c.sl c.bl) (i : Int) 1 fun ad => one (nZ (min (s.low i) v)) = true ∧ T ∧ ∃ h', wr1 h ad (nZ (min (s.low i) v)) = some h' ∧ K h' := by
  obtain ⟨⟨vs, vp, Q, o, hQ⟩, hnd, hpos, hcnt, hfew⟩ := r
  exact st_low o hi hT fun h' o' => hK h' ⟨⟨vs, vp, Q, o', hQ⟩, hnd, hpos, hcnt, hfew⟩
theorem j14 {D : Orc} {I : List Value → H → Prop} {K : Kl} {a1 a2 a3 a6 : Value} {b : Bool} {x k n j : Int} {h : H} (hI : I [.int .i64 x, a1, a2, a3, .bool (b || k == x), a6, .int .i64 n, .int .i64 (IntKind.i64.wrap (j + 1))] h) :
    j17_6_14 D I K (.int .i64 x) a1 a2 a3 (.bool b) (.int .i64 k) a6 (.int .i64 n) (.int .i64 j) h := by
  unfold j17_6_14 j17_6_15
  simp only [intK_int, boolW_bool]
  cases b with
  | true => exact hI
  | false => exact hI
def SpecVisit (D : Orc) (f : Nat) : Prop := ∀ (c : Cx) (m i : Nat) (s : St) (h : H) (k : Kv) (kp : Kp), c.n < 2 ^ 40 → Rw c.h0 c.gv c.g → c.n ≤ s.clock + m → i < c.n → s.met i = 0 → Sr c h s →
  (∀ s1 b h', Run c.g i (c.g.getD i []) (s.enter i) false s1 b → Sr c h' (s1.leave i b) → k (.tuple #[]) h') → D f [nZ i, Pt c.pc, Pt c.ps, Pt c.pg, Pt c.pn, Pt c.pv] h k kp
theorem has17 : hasBody Try.prog 17 = true := by kernel_rfl
theorem res0 : resTypes Try.prog 0 = [] := by kernel_rfl
theorem call17 {c : Cx} {i : Nat} {h : H} {k : Kv} {kp : Kp} (hd : D 17 [nZ i, Pt c.pc, Pt c.ps, Pt c.pg, Pt c.pn, Pt c.pv] h (fun v h' => v = .tuple #[] ∧ k (.tuple #[]) h') kp) : callV Try.prog D 0 c.self [nZ i] h k kp := by
  show callW Try.prog D 0 17 [nZ i, Pt c.pc, Pt c.ps, Pt c.pg, Pt c.pn, Pt c.pv] h k kp
  unfold callW
  rw [has17, res0]
  exact hd
theorem spec17 (cl : Cl17 D) (sClose : SpecClose D 18) : SpecVisit D 17 := by
  intro c m
  induction m with
  | zero =>
    intro i s h k kp hn hg hm hi h0 sr hk
    exfalso
    have h1 := sr.cnt
    have h2 : ((List.range c.n).filter fun x => decide (s.met x ≠ 0)).length < c.n := by
      have := List.length_filter_lt_length_iff_exists (p := fun x => decide (s.met x ≠ 0)) (l := List.range c.n)
      have := this.mpr ⟨i, by simpa using hi, by simpa using h0⟩
      simpa using this
    omega
  | succ m ih =>
    intro i s h k kp hn hg hm hi h0 sr hk
    have hclk := sr.clk
    obtain ⟨⟨vs, vp, Q, o, hQ⟩, hnd, hpos, hcnt, hfew⟩ := id sr
    refine cl _ _ _ _ _ _ _ _ _ ?_
    unfold F17
    rw [intK_int]
    refine ldI (o.cell (i := 0) rfl) rfl ?_
    rw [i64_id (by omega) (by omega)]
    refine o.st0 (i := 0) rfl (by simp) rfl rfl fun h1 o1 => ?_
    have o1 : Hp c.h0 h1 (lay c (s.clock + 1) s.met s.low (fun x => decide (x ∈ s.stack)) vs vs s.stack vp vp (Q.map (·.1)) (inn Q)) := o1
    refine ld_s o1 (j := 0) rfl (ld_s o1 (j := 1) rfl (ldI (o1.cell (i := 0) rfl) rfl (ldI (o1.cell (i := 0) rfl) rfl ?_)))
    refine st_met o1 hi rfl fun h2 o2 => ⟨rdc_at0 (o2.cell (i := 0) rfl) rfl, ?_⟩
    refine st_low o2 hi rfl fun h3 o3 => ?_
    refine ld0 (o3.cell (i := 1) rfl) rfl ?_
    refine ld_s o3 (j := 2) rfl ?_
    have hks : i ∉ s.stack := fun hh => (hpos i hh).1 h0
    refine (o3.push (i := 9) rfl (by decide) (by rw [ZN_len]; omega) rfl (O := True) (U := True) trivial trivial fun vs' h4 o4 => ?_).elim fun _ hh => hh.elim fun _ hh => ⟨rfl, by decide, hh⟩
    have o4 : Hp c.h0 h4 (lay c (s.clock + 1) (upd s.met i (s.clock + 1)) (upd s.low i (s.clock + 1)) (fun x => decide (x ∈ s.stack)) vs vs' (s.stack ++ [i]) vp vp (Q.map (·.1)) (inn Q)) := by
      have e : ZN s.stack ++ [nZ i] = ZN (s.stack ++ [i]) := by simp [ZN]
      have o4' := o4
      rw [e] at o4'
      exact o4'
    refine ⟨rdc_at0 (o4.cell (i := 1) rfl) rfl, rfl, ?_⟩
    refine o4.stj (i := 2) (j := 2) rfl (by simp) (sl_one' (o4.row (i := 9) rfl)) rfl fun h5 o5 => ?_
    have o5 : Hp c.h0 h5 (lay c (s.clock + 1) (upd s.met i (s.clock + 1)) (upd s.low i (s.clock + 1)) (fun x => decide (x ∈ s.stack)) vs' vs' (s.stack ++ [i]) vp vp (Q.map (·.1)) (inn Q)) := o5
    refine ld_s o5 (j := 3) rfl ?_
    refine st_on o5 hi rfl fun h6 o6 => ?_
    have hon : (fun x => if x = i then true else decide (x ∈ s.stack)) = fun x => decide (x ∈ (s.enter i).stack) := by
      have hm : ∀ x, x ∈ (s.enter i).stack ↔ x ∈ s.stack ∨ x = i := fun x => by
        show x ∈ s.stack ++ [i] ↔ _
        rw [List.mem_append, List.mem_singleton]
      funext x
      by_cases hx : x = i
      · rw [if_pos hx]
        symm
        rw [decide_eq_true_eq, hm]
        exact .inr hx
      · rw [if_neg hx, decide_eq_decide, hm]
        exact ⟨.inl, fun h => h.resolve_right hx⟩
    rw [hon] at o6
    have sr6 : Sr c h6 (s.enter i) := by
      refine ⟨⟨vs', vp, Q, o6, hQ⟩, ?_, fun x hx => ?_, ?_, ?_⟩
      · show (s.stack ++ [i]).Nodup
        rw [List.nodup_append]
        exact ⟨hnd, by simp, fun a ha b hb => by
          simp only [List.mem_singleton] at hb
          subst hb
          exact fun e => hks (by rw [← e]; exact ha)⟩
      · rcases List.mem_append.mp hx with hx | hx
        · refine ⟨?_, (hpos x hx).2⟩
          rw [enter_met fun e => hks (by rw [← e]; exact hx)]; exact (hpos x hx).1
        · simp only [List.mem_singleton] at hx
          subst hx
          refine ⟨?_, hi⟩
          show upd s.met x (s.clock + 1) x ≠ 0
          rw [upd_here]; omega
      · show s.clock + 1 = ((List.range c.n).filter fun x => decide (upd s.met i (s.clock + 1) x ≠ 0)).length
        rw [cnt_upd hi h0 (by omega), ← hcnt]
      · show s.parts.length + (s.stack ++ [i]).length ≤ s.clock + 1
        rw [List.length_append, List.length_singleton]; omega
    refine ld0 (o6.cell (i := 3) rfl) rfl ?_
    refine hg.at_ (by omega) (by unfold Cx.n at hi; omega) fun ad rv t ht hrd hrow => ⟨rv, rd_ext o6.ext hrd, ?_⟩
    rw [Int.toNat_natCast] at ht
    have hgd : c.g.getD i [] = t := by rw [List.getD_eq_getElem?_getD, ht]; rfl
    rw [hgd] at hk
    rw [(hrow.ext o6.ext).len_]
    have htl := hrow.len
    intro I hI
    -- behind the loop
    have fin : ∀ (s1 : St) (b : Bool) (h7 : H), Run c.g i t (s.enter i) false s1 b → Sr c h7 s1 →
        xs (X.e 0) (k (.tuple #[]) h7) (fun i132 => cond (Nat.beq i132 0) (
          intK IntKind.i64 (nZ i) (fun x133 => boolW (.bool b) (fun t134 => ptrW (Pt c.ps) (fun ad135 => ∃ v136 : Value, rd h7 ad135 = some v136 ∧ nonNil v136 = true ∧ ptrW v136 (fun ad137 => ∃ v138 : Value, rd h7 (Addr.add ad137 1) = some v138 ∧ slAtW v138 x133 1 (fun ad139 => ∃ x140 : Int, rd h7 ad139 = some (Value.int IntKind.i64 x140) ∧ ptrW (Pt c.ps) (fun ad141 => ∃ v142 : Value, rd h7 ad141 = some v142 ∧ nonNil v142 = true ∧ ptrW v142 (fun ad143 => ∃ v144 : Value, rd h7 (Addr.add ad143 0) = some v144 ∧ slAtW v144 x133 1 (fun ad145 => ∃ x146 : Int, rd h7 ad145 = some (Value.int IntKind.i64 x146) ∧ cond (x140 == x146) (
            ptrW (Pt c.ps) (fun ad147 => ∃ v148 : Value, rd h7 ad147 = some v148 ∧ D 18 [v148, (Value.int IntKind.i64 x133), (Value.bool t134)] h7 (fun v149 h150 => v149 = (Value.tuple #[]) ∧ k (Value.tuple #[]) h150) kp)) (
            k (Value.tuple #[]) h7)))))))))) (False)) (fun cc => kp cc h7) := by
      intro s1 b h7 hrun sr7
      rw [xs_e]
      show cond true _ _
      rw [cond_true, intK_int, boolW_bool]
      obtain ⟨⟨vs7, vp7, Q7, o7, hQ7⟩, _⟩ := id sr7
      refine ld_s o7 (j := 1) rfl (ld_low o7 hi (ld_s o7 (j := 0) rfl (ld_met o7 hi ?_)))
      rw [cond_eq]
      refine ⟨fun he => ?_, fun hne => ?_⟩
      · have he : s1.low i = s1.met i := by omega
        refine ld0 (o7.cell (i := 1) rfl) rfl ?_
        have hmem : i ∈ s1.stack := by
          obtain ⟨⟨T, hT⟩, _⟩ := run_stack hrun fun x hx => (sr6.pos x hx).1
          rw [hT]
          show i ∈ (s.stack ++ [i]) ++ T
          simp
        exact sClose c s1 h7 _ _ i b sr7 hn hmem he fun h8 sr8 => ⟨rfl, hk s1 b h8 hrun sr8⟩
      · have hl : s1.leave i b = s1 := by
          unfold St.leave
          rw [if_neg (by omega)]
        exact hk s1 b h7 hrun (by rw [hl]; exact sr7)
    have key : ∀ (ks : List Int) (j : Nat) (s1 : St) (b : Bool) (h7 : H), t.drop j = ks → j ≤ t.length → s.clock + 1 ≤ s1.clock → Sr c h7 s1 → (∀ s2 b2, Run c.g i ks s1 b s2 b2 → Run c.g i t (s.enter i) false s2 b2) →
        I [nZ i, Pt c.ps, Pt c.pn, Pt c.pv, .bool b, rv, nZ t.length, nZ j] h7 := by
      intro ks
      induction ks with
      | nil =>
        intro j s1 b h7 hd hj hc sr7 hr
        refine hI _ _ _ _ _ _ _ _ _ ?_
        unfold round17_6
        rw [intK_int, boolW_bool, intK_int, intK_int, cond_dec]
        have hjl : t.length ≤ j := by
          have := congrArg List.length hd
          simp at this; omega
        refine ⟨fun hlt => by omega, fun _ => ?_⟩
        exact fin s1 b h7 (hr _ _ .nil) sr7
      | cons x ks ihk =>
        intro j s1 b h7 hd hj hc sr7 hr
        refine hI _ _ _ _ _ _ _ _ _ ?_
        unfold round17_6
        rw [intK_int, boolW_bool, intK_int, intK_int, cond_dec]
        have hjl : j < t.length := by
          have := congrArg List.length hd
          simp at this; omega
        refine ⟨fun _ => ?_, fun hge => by omega⟩
        have htj : t[j]? = some x := by
          have := congrArg (·[0]?) hd
          simpa using this
        have hd2 : t.drop (j + 1) = ks := by
          have h2 := (split_at htj).2.2
          rw [h2] at hd
          exact (List.cons.inj hd).2
        obtain ⟨⟨vs7, vp7, Q7, o7, hQ7⟩, hnd7, hpos7, hcnt7, hfew7⟩ := id sr7
        have r7 := hrow.ext o7.ext
        refine r7.at_ (by omega) (by omega) fun ad2 x' hx' hxr hrd2 => ⟨x', hrd2, ?_⟩
        rw [Int.toNat_natCast, htj] at hx'
        obtain rfl := Option.some.inj hx'
        have next : ∀ (s2 : St) (h8 : H), s1.clock ≤ s2.clock → Sr c h8 s2 → (∀ s3 b3, Run c.g i ks s2 (b || x == (i : Int)) s3 b3 → Run c.g i (x :: ks) s1 b s3 b3) →
            ∀ K, j17_6_14 D I K (nZ i) (Pt c.ps) (Pt c.pn) (Pt c.pv) (.bool b) (.int .i64 x) rv (nZ t.length) (nZ j) h8 := by
          intro s2 h8 hc8 sr8 hr8 K
          refine j14 ?_
          rw [i64_id (by omega) (by omega)]
          exact ihk (j + 1) s2 _ h8 hd2 (by omega) (by omega) sr8 fun s3 b3 h3 => hr _ _ (hr8 s3 b3 h3)
        have out : ∀ K, (x < 0 ∨ (c.g.length : Int) ≤ x) → j17_6_9 D I K (nZ i) (Pt c.ps) (Pt c.pn) (Pt c.pv) (.bool b) (.int .i64 x) rv (nZ t.length) (nZ j) (.bool true) h7 := by
          intro K hx
          unfold j17_6_9
          simp only [intK_int, boolW_bool, cond_true]
          exact next s1 h7 (Nat.le_refl _) sr7 (fun s3 b3 h3 => .out hx h3) K
        rw [cond_not, cond_dec]
        refine ⟨fun hneg => out _ (.inl hneg), fun hpos => ?_⟩
        refine ldI (o7.cell (i := 4) rfl) rfl ?_
        by_cases hbig : (c.g.length : Int) ≤ x
        · rw [show decide (x ≥ ((c.n : Nat) : Int)) = true from by simpa [Cx.n] using hbig]
          exact out _ (.inr hbig)
        · rw [show decide (x ≥ ((c.n : Nat) : Int)) = false from by simpa [Cx.n] using hbig]
          obtain ⟨y, rfl⟩ := Int.eq_ofNat_of_zero_le (show 0 ≤ x by omega)
          have hy : y < c.g.length := by omega
          have hyn : y < c.n := hy
          unfold j17_6_9
          simp only [intK_int, boolW_bool, cond_false]
          refine ld_s o7 (j := 0) rfl (ld_met o7 hyn ?_)
          rw [cond_eq]
          refine ⟨fun hz => ?_, fun hnz => ?_⟩
          · have hz : s1.met y = 0 := by omega
            refine ld0 (o7.cell (i := 5) rfl) rfl (call17 ?_)
            refine ih y s1 h7 _ _ hn hg (by omega) hyn hz sr7 fun s2 b2 h8 hrun sr8 => ⟨rfl, ?_⟩
            obtain ⟨⟨vs8, vp8, Q8, o8, hQ8⟩, _⟩ := id sr8
            refine ld_s o8 (j := 1) rfl (ld_s o8 (j := 1) rfl (ld_low o8 hi (ld_s o8 (j := 1) rfl (ld_low o8 hyn (min_rule ?_)))))
            refine sr8.lows_ hi trivial fun h9 sr9 => ?_
            refine next _ h9 ?_ sr9 (fun s3 b3 h3 => .new hy hz hrun h3) _
            have := run_clk hrun
            have e1 : (s1.enter y).clock = s1.clock + 1 := rfl
            have e2 : ((s2.leave y b2).lows i ((s2.leave y b2).low y)).clock = s2.clock := leave_clk
            omega
          · have hnz : s1.met y ≠ 0 := by omega
            refine ld_s o7 (j := 3) rfl (ld_on o7 hyn ?_)
            rw [cond_dec]
            refine ⟨fun hon => ?_, fun hoff => ?_⟩
            · refine ld_s o7 (j := 1) rfl (ld_s o7 (j := 1) rfl (ld_low o7 hi (ld_s o7 (j := 0) rfl (ld_met o7 hyn (min_rule ?_)))))
              refine sr7.lows_ hi trivial fun h9 sr9 => ?_
              exact next (s1.lows i (s1.met y)) h9 (Nat.le_refl s1.clock) sr9 (fun s3 b3 h3 => .on hy hnz hon h3) _
            · exact next s1 h7 (Nat.le_refl _) sr7 (fun s3 b3 h3 => .off hy hnz hoff h3) _
    exact key t 0 (s.enter i) false h6 (by simp) (by omega) (Nat.le_refl _) sr6 fun _ _ h => h
end Go.Proofs.Ytdndngngdngjjaa.Am

namespace Go.Proofs.Ytdndngngdngjjaa.Am
open Go Go.Proofs Gr
set_option linter.unusedVariables false
set_option linter.unusedSimpArgs false
set_option maxRecDepth 100000
variable {D : Orc}

/-- Parts that are told, in rows of their own. -/
def PsR (h h' : H) (v : Value) (ps : List (List Nat)) : Prop := ∃ Q : List (Value × List Nat), ps = Q.map (·.2) ∧ Hp h h' (bufR v (Q.map (·.1)) :: inn Q)
def SpecParts (D : Orc) (f : Nat) : Prop := ∀ (gv : Value) (g : G) (h : H) (k : Kv) (kp : Kp), Rw h gv g → g.length < 2 ^ 40 → (∀ v h', PsR h h' v (partsOf g) → k v h') → D f [gv] h k kp
def SpecSortF (D : Orc) (f q : Nat) : Prop := ∀ (h0 : H) (L : List Res) (i : Nat) (s : Value) (Q : List (Value × List Nat)) (h : H) (k : Kv) (kp : Kp), Hp h0 h L → L[i]? = some (bufR s (Q.map (·.1))) →
  (∀ x ∈ Q, x.2 ≠ [] ∧ (∀ y ∈ x.2, y < 2 ^ 40) ∧ ∃ j, j ≠ i ∧ L[j]? = some (bufR x.1 (ZN x.2))) → Q.length < 2 ^ 40 →
  (∀ h' (Q' : List (Value × List Nat)), Q'.Perm Q → Q'.Pairwise (fun x y => x.2.headD 0 ≤ y.2.headD 0) → Hp h0 h' (L.set i (bufR s (Q'.map (·.1)))) → k (.tuple #[]) h') → D f [s, .func (.func q) #[] #[]] h k kp
theorem perm_of {L : List Res} {d : Res} {σ : List Nat} {n : Nat} (hσ : σ.Perm (List.range n)) : (σ.map fun i => L.getD i d).Perm ((List.range n).map fun i => L.getD i d) := hσ.map _
theorem Rw.isSl {h : H} {s : Value} {ts : List (List Int)} (r : Rw h s ts) : isSl s := by obtain ⟨vs, h1, _⟩ := r.ex; exact h1.isSl
theorem spec11 (cl : Cl11 D) (sV : SpecVisit D 17) (sS : SpecSortF D 19 20) : SpecParts D 11 := by
  intro gv g h k kp hg hn hk
  refine cl _ _ _ _ ?_
  unfold F11
  refine ⟨sl_one hg.isSl, (Hp.nil_ h).new_ fun pg h1 f1 o1 => ?_⟩
  refine ld0 (o1.cell (i := 0) rfl) rfl ?_
  rw [(hg.ext o1.ext).len_]
  refine o1.newSt rfl rfl fun pn h2 f2 o2 => ?_
  refine ldI (o2.cell (i := 0) rfl) rfl (o2.mkS (by omega) (by decide) fun bm h3 f3 o3 => ?_)
  refine ldI (o3.cell (i := 1) rfl) rfl (o3.mkS (by omega) (by decide) fun bl h4 f4 o4 => ?_)
  refine ldI (o4.cell (i := 2) rfl) rfl (o4.mkS (by omega) (by decide) fun bo h5 f5 o5 => ?_)
  refine ⟨rfl, by decide, rfl, by decide, rfl, by decide, o5.new_ fun b h6 f6 o6 => ?_⟩
  refine o6.newSt rfl rfl fun ps h7 f7 o7 => ?_
  refine o7.newSt rfl rfl fun pc h8 f8 o8 => ?_
  refine o8.newStp (v := fun p => .func (.func 17) #[] #[Pt pc, Pt ps, Pt pg, Pt pn, p]) (fun _ => rfl) rfl fun pv h9 f9 o9 => ?_
  let c : Cx := ⟨pc, ps, b, pg, pn, pv, bm, bl, bo, gv, g, h⟩
  have o10 := (o9.add_nil (a := none)).add_nil (a := none)
  have o11 : Hp c.h0 h9 (lay c 0 (fun _ => 0) (fun _ => 0) (fun _ => false) (.slice none 0 0) (.slice none 0 0) [] (.slice none 0 0) (.slice none 0 0) [] []) := by
    rw [arr_rep, arr_rep] at o10
    refine o10.perm ?_
    exact perm_of (d := cellR 0 []) (L := _ :: _ :: _ :: _ :: _ :: _ :: _ :: _ :: _ :: _ :: _ :: []) (σ := [3, 4, 5, 10, 9, 2, 8, 7, 6, 1, 0]) (n := 11) (by decide)
  have sr0 : Sr c h9 St.start := ⟨⟨_, _, [], by simpa [St.start, inn] using o11, rfl⟩, .nil, by simp [St.start], by
    have : (List.range c.n).filter (fun x => decide (St.start.met x ≠ 0)) = [] := List.filter_eq_nil_iff.mpr fun a _ => by simp [St.start]
    rw [this]; rfl, by simp [St.start]⟩
  refine ldI (o11.cell (i := 4) rfl) rfl ?_
  intro I hI
  -- behind the loop
  have fin : ∀ (s1 : St) (h7 : H), Top g (List.range g.length) .start s1 → Sr c h7 s1 →
      xs (X.e 0) (k (nth [Pt ps] 0) h7) (fun i56 => cond (Nat.beq i56 0) (
        ptrW (Pt ps) (fun ad57 => ∃ v58 : Value, rd h7 ad57 = some v58 ∧ nonNil v58 = true ∧ ptrW v58 (fun ad59 => ∃ v60 : Value, rd h7 (Addr.add ad59 4) = some v60 ∧ D 19 [v60, (Value.func (Fn.func 20) #[] #[])] h7 (fun v61 h62 => v61 = (Value.tuple #[]) ∧ ptrW (Pt ps) (fun ad63 => ∃ v64 : Value, rd h62 ad63 = some v64 ∧ nonNil v64 = true ∧ ptrW v64 (fun ad65 => ∃ v66 : Value, rd h62 (Addr.add ad65 4) = some v66 ∧ k v66 h62))) kp))) (False)) (fun cc => kp cc h7) := by
    intro s1 h7 ht sr7
    rw [xs_e]
    show cond true _ _
    rw [cond_true]
    have hA := top_parts ht
    have hclk := sr7.clk
    have hcn : c.n = g.length := rfl
    obtain ⟨⟨vs7, vp7, Q7, o7, hQ7⟩, _, _, _, hfew⟩ := id sr7
    have hQl : Q7.length = s1.parts.length := by rw [hQ7, List.length_map]
    refine ld_s o7 (j := 4) rfl ?_
    refine sS c.h0 _ 10 vp7 Q7 h7 _ _ o7 rfl (fun x hx => ?_) (by omega) fun h8 Q8 hp hs o8 => ⟨rfl, ?_⟩
    · obtain ⟨y, hy, _, e⟩ := hA.ok x.2 (by rw [hQ7]; exact List.mem_map_of_mem hx)
      refine ⟨fun hh => ?_, fun z hz => ?_, ?_⟩
      · have := cls_self hy
        rw [← e, hh] at this; cases this
      · rw [e] at hz
        have := (mem_cls.mp hz).1
        omega
      · obtain ⟨j, hj⟩ := List.getElem?_of_mem hx
        refine ⟨11 + j, by omega, ?_⟩
        rw [show 11 + j = j + 11 by omega]
        show (inn Q7)[j]? = _
        unfold inn
        rw [List.getElem?_map, hj]; rfl
    · have o8 : Hp c.h0 h8 (lay c s1.clock s1.met s1.low (fun x => decide (x ∈ s1.stack)) vs7 vs7 s1.stack vp7 vp7 (Q8.map (·.1)) (inn Q7)) := o8
      refine ld_s o8 (j := 4) rfl (hk _ _ ?_)
      have hparts : Q8.map (·.2) = partsOf g := by
        refine parts_unique (hA.perm ?_) ?_
        · rw [hQ7]; exact hp.map _
        · rw [List.pairwise_map]; exact hs
      refine ⟨Q8, hparts.symm, ?_⟩
      have o9 : Hp h h8 (bufR vp7 (Q8.map (·.1)) :: inn Q7) := o8.sub lay_end
      exact o9.perm (List.Perm.cons _ (hp.map _))
  have key : ∀ (is : List Nat) (j : Nat) (s1 : St) (h7 : H), (List.range g.length).drop j = is → j ≤ g.length → Sr c h7 s1 → (∀ s2, Top g is s1 s2 → Top g (List.range g.length) .start s2) →
      I [Pt ps, Pt pv, nZ g.length, nZ j] h7 := by
    intro is
    induction is with
    | nil =>
      intro j s1 h7 hd hj sr7 hr
      refine hI _ _ _ _ _ ?_
      unfold round11_7
      rw [intK_int, intK_int, cond_dec]
      have hjl : g.length ≤ j := by
        have := congrArg List.length hd
        simp at this; omega
      refine ⟨fun hlt => by omega, fun _ => ?_⟩
      exact fin s1 h7 (hr _ .nil) sr7
    | cons x is ih =>
      intro j s1 h7 hd hj sr7 hr
      refine hI _ _ _ _ _ ?_
      unfold round11_7
      rw [intK_int, intK_int, cond_dec]
      have hjl : j < g.length := by
        have := congrArg List.length hd
        simp at this; omega
      refine ⟨fun _ => ?_, fun hge => by omega⟩
      have hjx : j = x := by
        have := congrArg (·[0]?) hd
        simpa [List.getElem?_range hjl] using this
      subst hjx
      have hd2 : (List.range g.length).drop (j + 1) = is := by
        have h2 := (split_at (List.getElem?_range hjl)).2.2
        rw [h2] at hd
        exact (List.cons.inj hd).2
      obtain ⟨⟨vs7, vp7, Q7, o7, hQ7⟩, hnd7, hpos7, hcnt7, hfew7⟩ := id sr7
      have hjn : j < c.n := hjl
      refine ld_s (c := c) o7 (j := 0) rfl (ld_met (c := c) o7 hjn ?_)
      have next : ∀ (s2 : St) (h8 : H) K, Sr c h8 s2 → (∀ s3, Top g is s2 s3 → Top g (j :: is) s1 s3) → j11_7_11 D I K (Pt ps) (Pt pv) (nZ g.length) (nZ j) h8 := by
        intro s2 h8 K sr8 hr8
        unfold j11_7_11
        rw [intK_int, intK_int, i64_id (by omega) (by omega)]
        exact ih (j + 1) s2 h8 hd2 (by omega) sr8 fun s3 h3 => hr _ (hr8 s3 h3)
      rw [cond_eq]
      refine ⟨fun hz => ?_, fun hnz => ?_⟩
      · have hz : s1.met j = 0 := by omega
        refine ld0 (o7.cell (i := 5) rfl) rfl (call17 (c := c) ?_)
        exact sV c c.n j s1 h7 _ _ (by show g.length < _; omega) hg (by omega) hjn hz sr7 fun s2 b2 h8 hrun sr8 => ⟨rfl, next _ h8 _ sr8 fun s3 h3 => .go hz hrun h3⟩
      · exact next s1 h7 _ sr7 fun s3 h3 => .skip (by omega) h3
  exact key (List.range g.length) 0 .start h9 (by simp) (by omega) sr0 fun _ h => h
end Go.Proofs.Ytdndngngdngjjaa.Am
