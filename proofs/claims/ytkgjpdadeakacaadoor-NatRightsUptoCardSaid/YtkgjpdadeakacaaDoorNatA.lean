/-
  The naturals' functions: what the first of them answer.
-/
import Derived.Test.YtkgjpdadeakacaaDoorAmFns
import Derived.Test.YtkgjpdadeakacaaDoorAmLib
import Derived.Test.YtkgjpdadeakacaaDoorNatMath
namespace Go.Proofs.YtkgjpdadeakacaaDoor.Am
open Go Go.Proofs Nats
set_option linter.unusedVariables false
set_option linter.unusedSimpArgs false

def U (l : List Nat) : List Value := l.map fun (n : Nat) => .int .u32 (n : Int)
theorem U_len (l : List Nat) : (U l).length = l.length := by simp [U]
theorem U_get {l : List Nat} {i : Nat} {v : Value} (h : (U l)[i]? = some v) : ∃ x, l[i]? = some x ∧ v = .int .u32 (x : Int) := by
  simp only [U, List.getElem?_map, Option.map_eq_some_iff] at h
  obtain ⟨x, hx, rfl⟩ := h
  exact ⟨x, hx, rfl⟩
theorem U_take (l : List Nat) (n : Nat) : (U l).take n = U (l.take n) := by simp [U, List.map_take]
theorem U_set (l : List Nat) (n x : Nat) : (U l).set n (.int .u32 (x : Int)) = U (l.set n x) := by simp [U, List.map_set]
theorem U_app (l m : List Nat) : U l ++ U m = U (l ++ m) := by simp [U]

/-- A row of limbs. -/
structure Nr (h : H) (s : Value) (l : List Nat) : Prop where
  row : Row h s (U l)
  ok : Ok l
  small : l.length < 2 ^ 40
theorem Nr.ext {h h' : H} {s : Value} {l : List Nat} (r : Nr h s l) (e : Ext h h') : Nr h' s l := ⟨r.row.ext e, r.ok, r.small⟩
theorem Nr.len {h : H} {s : Value} {l : List Nat} (r : Nr h s l) {k : Nat → Prop} : lenW s k ↔ k l.length := by rw [r.row.len, U_len]
theorem Nr.at_ {h : H} {s : Value} {l : List Nat} (r : Nr h s l) {n : Int} (h0 : 0 ≤ n) (h1 : n < l.length) {k : Addr → Prop} (hk : ∀ a (x : Nat), l[n.toNat]? = some x → x < B → rd h a = some (.int .u32 (x : Int)) → k a) : slAtW s n 1 k := by
  refine r.row.at_ h0 (by rw [U_len]; exact h1) fun a v hv ha => ?_
  obtain ⟨x, hx, rfl⟩ := U_get hv
  exact hk a x hx (r.ok x (List.mem_of_getElem? hx)) ha
theorem last_of {l : List Nat} {x : Nat} (hl : l ≠ []) (hx : l[l.length - 1]? = some x) : l.getLast? = some x := by rw [List.getLast?_eq_getElem?]; exact hx

def SpecRight (D : Orc) (f : Nat) : Prop := ∀ s l h k kp, Nr h s l → k (.bool (decide (right l))) h → D f [s] h k kp
theorem right_big {l : List Nat} (h : 64 < l.length) : decide (right l) = false := by
  rw [decide_eq_false_iff_not]; exact fun x => absurd x.1 (by omega)
theorem right_nil : decide (right []) = true := by
  rw [decide_eq_true_iff]
  exact ⟨by decide, by rw [val, limbs_zero]⟩
theorem right_at {h : H} {s : Value} {l : List Nat} {x : Nat} (r : Nr h s l) (h1 : l.length ≤ 64) (h2 : l.length ≠ 0) (hx : l[l.length - 1]? = some x) : decide (right l) = ((x : Int) != 0) := by
  have hl : l ≠ [] := fun h0 => h2 (by rw [h0]; rfl)
  have := right_iff r.ok
  by_cases h0 : x = 0
  · subst h0
    have e0 : (((0 : Nat) : Int) != 0) = false := rfl
    rw [e0, decide_eq_false_iff_not, this]
    rintro ⟨_, h3 | h3⟩
    · exact hl h3
    · exact h3 (last_of hl hx)
  · have e : ((x : Int) != 0) = true := by simpa using h0
    rw [e, decide_eq_true_iff, this]
    refine ⟨h1, .inr ?_⟩
    rw [last_of hl hx]; simpa using h0

theorem spec11 {D : Orc} (c : Cl11 D) : SpecRight D 11 := by
  intro s l h k kp r hk
  refine c _ _ _ _ ?_
  unfold F11
  rw [r.len, cond_dec]
  refine ⟨fun h1 => ?_, fun h1 => ?_⟩
  · rw [cond_not, cond_eq]
    refine ⟨fun h2 => ?_, fun h2 => ?_⟩
    · have : l = [] := List.length_eq_zero_iff.mp (by omega)
      subst this
      rw [right_nil] at hk; exact hk
    · rw [i64_id (by omega) (by omega)]
      refine r.at_ (by omega) (by omega) fun a x hx _ ha => ⟨_, ha, ?_⟩
      rw [show ((l.length : Int) - 1).toNat = l.length - 1 by omega] at hx
      rw [← right_at r (by omega) (by omega) hx]; exact hk
  · rw [right_big (by omega)] at hk; exact hk
theorem spec12 {D : Orc} (c : Cl12 D) : SpecRight D 12 := by
  intro s l h k kp r hk
  refine c _ _ _ _ ?_
  unfold F12
  rw [r.len, cond_dec]
  refine ⟨fun h1 => ?_, fun h1 => ?_⟩
  · rw [r.len, cond_not, cond_eq]
    refine ⟨fun h2 => ?_, fun h2 => ?_⟩
    · have : l = [] := List.length_eq_zero_iff.mp (by omega)
      subst this
      rw [right_nil] at hk; exact hk
    · rw [r.len, i64_id (by omega) (by omega)]
      refine r.at_ (by omega) (by omega) fun a x hx _ ha => ⟨_, ha, ?_⟩
      rw [show ((l.length : Int) - 1).toNat = l.length - 1 by omega] at hx
      rw [← right_at r (by omega) (by omega) hx]; exact hk
  · rw [right_big (by omega)] at hk; exact hk

end Go.Proofs.YtkgjpdadeakacaaDoor.Am
