/-
  Packed: Naturals in limbs: plain arithmetic, no program in sight. The naturals' functions: what the first of them answer. The naturals' functions: rows without noughts at their end, numbers as rows, rows held against each other. The naturals' functions: sums. The naturals' functions: the document's sum, comparing. The naturals' functions: comparing. The naturals' functions: products. The naturals' functions: the document's product. The laws' helpers: a row lent and looked at again, a row spoilt. The library's trimming, of one byte. The library's trimming: on the left, of noughts; reversing. The library's trimming, of a set of plain signs. The library's trimming on both sides.
-/
import Derived.Test.YtkgjpdadeakacaaDoorAmFns
import Derived.Test.YtkgjpdadeakacaaDoorPkB
namespace Go.Proofs.Nats

abbrev B : Nat := 4294967296
def val : List Nat → Nat
  | [] => 0
  | x :: l => x + B * val l
def limbs (n : Nat) : List Nat := if h : n = 0 then [] else (n % B) :: limbs (n / B)
termination_by n
decreasing_by exact Nat.div_lt_self (Nat.pos_of_ne_zero h) (by decide)
def Ok (l : List Nat) : Prop := ∀ x ∈ l, x < B

theorem limbs_zero : limbs 0 = [] := by rw [limbs]; simp
theorem limbs_pos {n : Nat} (h : n ≠ 0) : limbs n = (n % B) :: limbs (n / B) := by rw [limbs]; simp [h]
theorem val_limbs (n : Nat) : val (limbs n) = n := by
  induction n using Nat.strongRecOn with
  | _ n ih =>
    by_cases h : n = 0
    · subst h; rw [limbs_zero]; rfl
    · rw [limbs_pos h, val, ih (n / B) (Nat.div_lt_self (Nat.pos_of_ne_zero h) (by decide))]
      exact Nat.mod_add_div n B
theorem ok_limbs (n : Nat) : Ok (limbs n) := by
  induction n using Nat.strongRecOn with
  | _ n ih =>
    by_cases h : n = 0
    · subst h; rw [limbs_zero]; intro x hx; simp at hx
    · rw [limbs_pos h]
      intro x hx
      rcases List.mem_cons.mp hx with rfl | hx
      · exact Nat.mod_lt _ (by decide)
      · exact ih (n / B) (Nat.div_lt_self (Nat.pos_of_ne_zero h) (by decide)) x hx
theorem Ok.tail {x : Nat} {l : List Nat} (h : Ok (x :: l)) : Ok l := fun y hy => h y (by simp [hy])
theorem Ok.take {l : List Nat} (h : Ok l) (n : Nat) : Ok (l.take n) := fun y hy => h y (List.mem_of_mem_take hy)
/-- Digits without noughts at the end. -/
theorem limbs_unique : ∀ {l : List Nat}, Ok l → (l = [] ∨ l.getLast? ≠ some 0) → l = limbs (val l)
  | [], _, _ => by rw [val, limbs_zero]
  | x :: l, ok, hl => by
    have hx : x < B := ok x (by simp)
    have htail : l = [] ∨ l.getLast? ≠ some 0 := by
      rcases l with _ | ⟨y, l⟩
      · exact .inl rfl
      · refine .inr fun h0 => ?_
        rcases hl with hl | hl
        · cases hl
        · apply hl; rw [List.getLast?_cons_cons]; exact h0
    have ih := limbs_unique ok.tail htail
    have hne : val (x :: l) ≠ 0 := by
      intro h0
      rw [val] at h0
      have hx0 : x = 0 := by omega
      have hv0 : val l = 0 := by
        have : B * val l = 0 := by omega
        rcases Nat.mul_eq_zero.mp this with h | h
        · exact absurd h (by decide)
        · exact h
      rw [hv0, limbs_zero] at ih
      subst ih hx0
      rcases hl with hl | hl
      · cases hl
      · exact hl rfl
    rw [limbs_pos hne]
    have h1 : val (x :: l) % B = x := by rw [val, Nat.add_mul_mod_self_left, Nat.mod_eq_of_lt hx]
    have h2 : val (x :: l) / B = val l := by rw [val, Nat.add_mul_div_left _ _ (by decide), Nat.div_eq_of_lt hx, Nat.zero_add]
    rw [h1, h2, ← ih]
theorem limbs_last (n : Nat) : limbs n = [] ∨ (limbs n).getLast? ≠ some 0 := by
  induction n using Nat.strongRecOn with
  | _ n ih =>
    by_cases h : n = 0
    · subst h; exact .inl limbs_zero
    · refine .inr ?_
      rw [limbs_pos h]
      rcases ih (n / B) (Nat.div_lt_self (Nat.pos_of_ne_zero h) (by decide)) with h1 | h1
      · rw [h1]
        have h0 : n / B = 0 := by
          have := congrArg val h1
          rw [val_limbs] at this; exact this
        have : n % B = n := Nat.mod_eq_of_lt ((Nat.div_eq_zero_iff_lt (by decide)).mp h0)
        rw [this]
        simpa using h
      · cases hl : limbs (n / B) with
        | nil => rw [hl] at h1; simp at h1
                 have h0 : n / B = 0 := by
                   have := congrArg val hl
                   rw [val_limbs] at this; exact this
                 have : n % B = n := Nat.mod_eq_of_lt ((Nat.div_eq_zero_iff_lt (by decide)).mp h0)
                 rw [this]
                 simpa using h
        | cons y l => rw [hl] at h1; rw [List.getLast?_cons_cons]; exact h1

theorem val_append : ∀ (l m : List Nat), val (l ++ m) = val l + B ^ l.length * val m
  | [], m => by simp [val]
  | x :: l, m => by
    rw [List.cons_append, val, val_append l m, val, List.length_cons, Nat.pow_succ]
    rw [Nat.mul_add, ← Nat.mul_assoc, Nat.mul_comm B (B ^ l.length), Nat.add_assoc]
theorem val_zeros : ∀ {l : List Nat}, (∀ x ∈ l, x = 0) → val l = 0
  | [], _ => rfl
  | x :: l, h => by
    rw [val, h x (by simp), val_zeros fun y hy => h y (by simp [hy])]
    rfl
/-- What is left behind noughts at the end. -/
theorem take_limbs {l : List Nat} (ok : Ok l) {k : Nat} (hz : ∀ j, k ≤ j → ∀ x, l[j]? = some x → x = 0) (hk : k = 0 ∨ ∃ x, l[k - 1]? = some x ∧ x ≠ 0) (hle : k ≤ l.length) : l.take k = limbs (val l) := by
  have hv : val l = val (l.take k) := by
    conv => lhs; rw [← List.take_append_drop k l]
    rw [val_append, val_zeros (l := l.drop k), Nat.mul_zero, Nat.add_zero]
    intro x hx
    obtain ⟨i, hi⟩ := List.getElem?_of_mem hx
    rw [List.getElem?_drop] at hi
    exact hz (k + i) (by omega) x hi
  rw [hv]
  refine limbs_unique (ok.take k) ?_
  rcases hk with rfl | ⟨x, hx, hne⟩
  · exact .inl (by simp)
  · by_cases h0 : k = 0
    · subst h0; exact .inl (by simp)
    · refine .inr ?_
      rw [List.getLast?_eq_getElem?, List.length_take, Nat.min_eq_left hle, List.getElem?_take, if_pos (by omega), hx]
      simpa using hne
/-- Limbs that are a natural. -/
def right (l : List Nat) : Prop := l.length ≤ 64 ∧ l = limbs (val l)
instance (l : List Nat) : Decidable (right l) := inferInstanceAs (Decidable (_ ∧ _))
theorem right_iff {l : List Nat} (ok : Ok l) : right l ↔ l.length ≤ 64 ∧ (l = [] ∨ l.getLast? ≠ some 0) := by
  constructor
  · rintro ⟨h1, h2⟩
    refine ⟨h1, ?_⟩
    have := limbs_last (val l)
    rw [← h2] at this; exact this
  · rintro ⟨h1, h2⟩
    exact ⟨h1, limbs_unique ok h2⟩

/-! ### digits -/
def dig (l : List Nat) (i : Nat) : Nat := l[i]?.getD 0
theorem dig_lt {l : List Nat} (ok : Ok l) (i : Nat) : dig l i < B := by
  unfold dig
  cases h : l[i]? with
  | none => decide
  | some x => exact ok x (List.mem_of_getElem? h)
theorem dig_of {l : List Nat} {i x : Nat} (h : l[i]? = some x) : dig l i = x := by simp [dig, h]
theorem dig_out {l : List Nat} {i : Nat} (h : l.length ≤ i) : dig l i = 0 := by simp [dig, List.getElem?_eq_none h]
theorem val_take_succ (l : List Nat) (i : Nat) : val (l.take (i + 1)) = val (l.take i) + B ^ i * dig l i := by
  by_cases h : i < l.length
  · rw [List.take_add_one, val_append, List.length_take, Nat.min_eq_left (by omega)]
    rw [List.getElem?_eq_getElem h]
    simp [val, dig, h]
  · rw [List.take_of_length_le (by omega), List.take_of_length_le (by omega), dig_out (by omega)]; simp
theorem val_full {l : List Nat} {n : Nat} (h : l.length ≤ n) : val (l.take n) = val l := by rw [List.take_of_length_le h]
theorem take_set_succ {l : List Nat} {i x : Nat} (h : i < l.length) : (l.set i x).take (i + 1) = l.take i ++ [x] := by
  apply List.ext_getElem?
  intro j
  rw [List.getElem?_take, List.getElem?_set, List.getElem?_append, List.length_take, Nat.min_eq_left (by omega)]
  by_cases h1 : j < i
  · rw [if_pos (by omega), if_neg (by omega), if_pos h1, List.getElem?_take, if_pos h1]
  · rw [if_neg h1]
    by_cases h2 : i = j
    · subst h2; simp [h]
    · rw [if_neg (by omega), List.getElem?_eq_none (by simp; omega)]
theorem val_set_take {l : List Nat} {i x : Nat} (h : i < l.length) : val ((l.set i x).take (i + 1)) = val (l.take i) + B ^ i * x := by
  rw [take_set_succ h, val_append, List.length_take, Nat.min_eq_left (by omega)]; simp [val]
theorem Ok.set {l : List Nat} (h : Ok l) {i x : Nat} (hx : x < B) : Ok (l.set i x) := fun y hy => by
  rcases List.mem_or_eq_of_mem_set hy with h1 | rfl
  · exact h y h1
  · exact hx
theorem ok_zeros (n : Nat) : Ok (List.replicate n 0) := fun y hy => by rw [(List.mem_replicate.mp hy).2]; decide
theorem val_lt {l : List Nat} (ok : Ok l) : val l < B ^ l.length := by
  induction l with
  | nil => simp [val]
  | cons x l ih =>
    have h1 := ih ok.tail
    have h2 := ok x (by simp)
    rw [val, List.length_cons, Nat.pow_succ]
    have h3 : B * (val l + 1) ≤ B * B ^ l.length := Nat.mul_le_mul_left _ h1
    have h4 : B * (val l + 1) = B * val l + B := by rw [Nat.mul_add, Nat.mul_one]
    rw [Nat.mul_comm (B ^ l.length) B]
    omega
theorem val_take_lt {l : List Nat} (ok : Ok l) (i : Nat) : val (l.take i) < B ^ i := by
  induction i with
  | zero => simp [val]
  | succ i ih =>
    rw [val_take_succ, Nat.pow_succ]
    have h1 := dig_lt ok i
    have : B ^ i * (dig l i + 1) ≤ B ^ i * B := Nat.mul_le_mul_left _ h1
    rw [Nat.mul_add, Nat.mul_one] at this
    omega
/-- One step of reckoning in digits: t is carried, its rest laid down. -/
theorem carry_step {o c s t p q : Nat} (h : o + p * c = s) (ht : t = c + q) : (o + p * (t % B)) + (p * B) * (t / B) = s + p * q := by
  subst ht
  have h1 : p * ((c + q) % B) + (p * B) * ((c + q) / B) = p * (c + q) := by
    rw [Nat.mul_assoc, ← Nat.mul_add, Nat.mod_add_div]
  rw [Nat.add_assoc, h1, Nat.mul_add, ← h]; omega

theorem val_set_any {l : List Nat} {i x n : Nat} (h : i < l.length) (hn : i < n) : val ((l.set i x).take n) + B ^ i * dig l i = val (l.take n) + B ^ i * x := by
  obtain ⟨d, rfl⟩ : ∃ d, n = i + 1 + d := ⟨n - (i + 1), by omega⟩
  induction d with
  | zero => rw [Nat.add_zero, val_set_take h, val_take_succ]; omega
  | succ d ih =>
    have := ih (by omega)
    rw [show i + 1 + (d + 1) = (i + 1 + d) + 1 by omega, val_take_succ, val_take_succ]
    have e : dig (l.set i x) (i + 1 + d) = dig l (i + 1 + d) := by
      unfold dig
      rw [List.getElem?_set, if_neg (by omega)]
    rw [e]; omega
/-- One step of multiplying: x times a digit y is laid on the digit there. -/
theorem mul_step {v v' c s p x y d t q : Nat} (h : v + p * c = s) (ht : t = c + (x * y + d)) (hv : v' + p * d = v + p * (t % B)) (hq : q = p * B) : v' + q * (t / B) = s + p * (x * y) := by
  subst ht hq
  have h1 : p * ((c + (x * y + d)) % B) + (p * B) * ((c + (x * y + d)) / B) = p * (c + (x * y + d)) := by
    rw [Nat.mul_assoc, ← Nat.mul_add, Nat.mod_add_div]
  have h2 : p * (c + (x * y + d)) = p * c + (p * (x * y) + p * d) := by rw [Nat.mul_add, Nat.mul_add]
  omega
theorem prod_lt {x y : Nat} (hx : x < B) (hy : y < B) : x * y ≤ 18446744065119617025 := by
  have : x * y ≤ 4294967295 * 4294967295 := Nat.mul_le_mul (by have : B = 4294967296 := rfl; omega) (by have : B = 4294967296 := rfl; omega)
  omega

/-- What a sum, a product, of two rows of limbs comes to: digits, and what is wrong. -/
def outcome (ok : Bool) (v : Nat) : List Nat × Int := if ok then (if (limbs v).length ≤ 64 then (limbs v, 0) else ([], 2)) else ([], 10)
def both (l m : List Nat) : Bool := decide (right l) && decide (right m)
end Go.Proofs.Nats

namespace Go.Proofs.YtkgjpdadeakacaaDoor.Am
open Go Go.Proofs Nats
set_option linter.unusedVariables false
set_option linter.unusedSimpArgs false

def U (l : List Nat) : List Value := l.map fun (n : Nat) => .int .u32 (n : Int)
theorem U_len (l : List Nat) : (U l).length = l.length := by simp [U]
theorem U_get {l : List Nat} {i : Nat} {v : Value} (h : (U l)[i]? = some v) : ∃ x, l[i]? = some x ∧ v = .int .u32 (x : Int) := by
  simp only [U, List.getElem?_map, Option.map_eq_some_iff] at h
  obtain ⟨x, hx, rfl⟩ := h
  exact ⟨x, hx, rfl⟩
theorem U_take (l : List Nat) (n : Nat) : (U l).take n = U (l.take n) := by simp [U, List.map_take]
theorem U_set (l : List Nat) (n x : Nat) : (U l).set n (.int .u32 (x : Int)) = U (l.set n x) := by simp [U, List.map_set]
theorem U_app (l m : List Nat) : U l ++ U m = U (l ++ m) := by simp [U]

/-- A row of limbs. -/
structure Nr (h : H) (s : Value) (l : List Nat) : Prop where
  row : Row h s (U l)
  ok : Ok l
  small : l.length < 2 ^ 40
theorem Nr.ext {h h' : H} {s : Value} {l : List Nat} (r : Nr h s l) (e : Ext h h') : Nr h' s l := ⟨r.row.ext e, r.ok, r.small⟩
theorem Nr.len {h : H} {s : Value} {l : List Nat} (r : Nr h s l) {k : Nat → Prop} : lenW s k ↔ k l.length := by rw [r.row.len, U_len]
theorem Nr.at_ {h : H} {s : Value} {l : List Nat} (r : Nr h s l) {n : Int} (h0 : 0 ≤ n) (h1 : n < l.length) {k : Addr → Prop} (hk : ∀ a (x : Nat), l[n.toNat]? = some x → x < B → rd h a = some (.int .u32 (x : Int)) → k a) : slAtW s n 1 k := by
  refine r.row.at_ h0 (by rw [U_len]; exact h1) fun a v hv ha => ?_
  obtain ⟨x, hx, rfl⟩ := U_get hv
  exact hk a x hx (r.ok x (List.mem_of_getElem? hx)) ha
theorem last_of {l : List Nat} {x : Nat} (hl : l ≠ []) (hx : l[l.length - 1]? = some x) : l.getLast? = some x := by rw [List.getLast?_eq_getElem?]; exact hx

def SpecRight (D : Orc) (f : Nat) : Prop := ∀ s l h k kp, Nr h s l → k (.bool (decide (right l))) h → D f [s] h k kp
theorem right_big {l : List Nat} (h : 64 < l.length) : decide (right l) = false := by
  rw [decide_eq_false_iff_not]; exact fun x => absurd x.1 (by omega)
theorem right_nil : decide (right []) = true := by
  rw [decide_eq_true_iff]
  exact ⟨by decide, by rw [val, limbs_zero]⟩
theorem right_at {h : H} {s : Value} {l : List Nat} {x : Nat} (r : Nr h s l) (h1 : l.length ≤ 64) (h2 : l.length ≠ 0) (hx : l[l.length - 1]? = some x) : decide (right l) = ((x : Int) != 0) := by
  have hl : l ≠ [] := fun h0 => h2 (by rw [h0]; rfl)
  have := right_iff r.ok
  by_cases h0 : x = 0
  · subst h0
    have e0 : (((0 : Nat) : Int) != 0) = false := rfl
    rw [e0, decide_eq_false_iff_not, this]
    rintro ⟨_, h3 | h3⟩
    · exact hl h3
    · exact h3 (last_of hl hx)
  · have e : ((x : Int) != 0) = true := by simpa using h0
    rw [e, decide_eq_true_iff, this]
    refine ⟨h1, .inr ?_⟩
    rw [last_of hl hx]; simpa using h0

theorem spec11 {D : Orc} (c : Cl11 D) : SpecRight D 11 := by
  intro s l h k kp r hk
  refine c _ _ _ _ ?_
  unfold F11
  rw [r.len, cond_dec]
  refine ⟨fun h1 => ?_, fun h1 => ?_⟩
  · rw [cond_not, cond_eq]
    refine ⟨fun h2 => ?_, fun h2 => ?_⟩
    · have : l = [] := List.length_eq_zero_iff.mp (by omega)
      subst this
      rw [right_nil] at hk; exact hk
    · rw [i64_id (by omega) (by omega)]
      refine r.at_ (by omega) (by omega) fun a x hx _ ha => ⟨_, ha, ?_⟩
      rw [show ((l.length : Int) - 1).toNat = l.length - 1 by omega] at hx
      rw [← right_at r (by omega) (by omega) hx]; exact hk
  · rw [right_big (by omega)] at hk; exact hk
theorem spec12 {D : Orc} (c : Cl12 D) : SpecRight D 12 := by
  intro s l h k kp r hk
  refine c _ _ _ _ ?_
  unfold F12
  rw [r.len, cond_dec]
  refine ⟨fun h1 => ?_, fun h1 => ?_⟩
  · rw [r.len, cond_not, cond_eq]
    refine ⟨fun h2 => ?_, fun h2 => ?_⟩
    · have : l = [] := List.length_eq_zero_iff.mp (by omega)
      subst this
      rw [right_nil] at hk; exact hk
    · rw [r.len, i64_id (by omega) (by omega)]
      refine r.at_ (by omega) (by omega) fun a x hx _ ha => ⟨_, ha, ?_⟩
      rw [show ((l.length : Int) - 1).toNat = l.length - 1 by omega] at hx
      rw [← right_at r (by omega) (by omega) hx]; exact hk
  · rw [right_big (by omega)] at hk; exact hk

end Go.Proofs.YtkgjpdadeakacaaDoor.Am

namespace Go.Proofs.YtkgjpdadeakacaaDoor.Am
open Go Go.Proofs Nats
set_option linter.unusedVariables false
set_option linter.unusedSimpArgs false

def SpecTrim (D : Orc) (f : Nat) : Prop := ∀ s l h k kp, Nr h s l → k (cutTo s (limbs (val l)).length) h → D f [s] h k kp
theorem trim_len {l : List Nat} (ok : Ok l) {k : Nat} (hz : ∀ j, k ≤ j → ∀ x, l[j]? = some x → x = 0) (hk : k = 0 ∨ ∃ x, l[k - 1]? = some x ∧ x ≠ 0) (hle : k ≤ l.length) : k = (limbs (val l)).length := by
  rw [← take_limbs ok hz hk hle, List.length_take, Nat.min_eq_left hle]
theorem limbs_le {l : List Nat} (ok : Ok l) : (limbs (val l)).length ≤ l.length ∧ l.take (limbs (val l)).length = limbs (val l) := by
  have key : ∀ n, n ≤ l.length → (∀ j, n ≤ j → ∀ x, l[j]? = some x → x = 0) → (limbs (val l)).length ≤ l.length ∧ l.take (limbs (val l)).length = limbs (val l) := by
    intro n
    induction n with
    | zero =>
      intro hn hz
      have h1 := trim_len ok hz (.inl rfl) hn
      have h2 := take_limbs ok hz (.inl rfl) hn
      rw [← h1]; exact ⟨hn, by rw [h2]⟩
    | succ n ih =>
      intro hn hz
      have hx : l[n]? = some l[n] := List.getElem?_eq_getElem (by omega)
      by_cases h0 : l[n] = 0
      · refine ih (by omega) fun j hj x hx' => ?_
        by_cases hjn : j = n
        · subst hjn; rw [hx] at hx'; simp at hx'; omega
        · exact hz j (by omega) x hx'
      · have hk : n + 1 = 0 ∨ ∃ x, l[n + 1 - 1]? = some x ∧ x ≠ 0 := .inr ⟨_, hx, h0⟩
        have h1 := trim_len ok hz hk hn
        have h2 := take_limbs ok hz hk hn
        rw [← h1]; exact ⟨hn, by rw [h2]⟩
  exact key l.length (Nat.le_refl _) fun j hj x hx => by rw [List.getElem?_eq_none hj] at hx; cases hx
theorem Nr.cut {h : H} {s : Value} {l : List Nat} (r : Nr h s l) {n : Nat} (hn : n ≤ l.length) : Nr h (cutTo s n) (l.take n) :=
  ⟨by have := r.row.cut (n := n) (by rw [U_len]; exact hn); rw [U_take] at this; exact this, r.ok.take n, by have := r.small; rw [List.length_take]; omega⟩
theorem Nr.trim {h : H} {s : Value} {l : List Nat} (r : Nr h s l) : Nr h (cutTo s (limbs (val l)).length) (limbs (val l)) := by
  have := r.cut (limbs_le r.ok).1
  rw [(limbs_le r.ok).2] at this; exact this
theorem Nr.upto {h : H} {s : Value} {l : List Nat} (r : Nr h s l) {n : Int} (h0 : 0 ≤ n) (h1 : n ≤ l.length) {k : Value → Prop} (hk : k (cutTo s n.toNat)) : slCutW s none (some n) none 1 k :=
  r.row.upto' h0 (by rw [U_len]; exact h1) hk

theorem spec29 {D : Orc} (c : Cl29 D) : SpecTrim D 29 := by
  intro s l h k kp r hk
  refine c _ _ _ _ ?_
  unfold F29
  rw [r.len]
  intro I hI
  have key : ∀ n : Nat, n ≤ l.length → (∀ j, n ≤ j → ∀ x, l[j]? = some x → x = 0) → I [s, .int .i64 (n : Int)] h := by
    intro n
    induction n with
    | zero =>
      intro hn hz
      refine hI _ _ _ ?_
      unfold round29_2
      rw [intK_int, cond_dec]
      refine ⟨fun x => absurd x (by decide), fun _ => ?_⟩
      simp only [xs_e, nth0, nth1, intK_int, Nat.beq_refl, cond_true]
      refine r.upto (by omega) (by omega) ?_
      have := trim_len r.ok hz (.inl rfl) hn
      simpa [← this] using hk
    | succ n ih =>
      intro hn hz
      have := r.small
      refine hI _ _ _ ?_
      unfold round29_2
      rw [intK_int, cond_dec]
      refine ⟨fun _ => ?_, fun x => absurd (show ((n + 1 : Nat) : Int) > 0 by omega) x⟩
      rw [i64_id (by omega) (by omega), show ((n + 1 : Nat) : Int) - 1 = (n : Int) by omega]
      refine r.at_ (by omega) (by omega) fun a x hx _ ha => ⟨_, ha, ?_⟩
      rw [Int.toNat_natCast] at hx
      rw [cond_eq]
      refine ⟨fun h0 => ih (by omega) fun j hj y hy => ?_, fun h0 => ?_⟩
      · by_cases hjn : j = n
        · subst hjn; rw [hx] at hy; simp at hy; omega
        · exact hz j (by omega) y hy
      · simp only [xs_e, nth0, nth1, intK_int, Nat.beq_refl, cond_true]
        refine r.upto (by omega) (by omega) ?_
        have := trim_len (k := n + 1) r.ok hz (.inr ⟨x, hx, by omega⟩) hn
        rw [Int.toNat_natCast, this]; exact hk
  exact key l.length (Nat.le_refl _) fun j hj x hx => by rw [List.getElem?_eq_none hj] at hx; cases hx

theorem spec30 {D : Orc} (c : Cl30 D) : SpecTrim D 30 := by
  intro s l h k kp r hk
  refine c _ _ _ _ ?_
  unfold F30
  intro I hI
  have key : ∀ n : Nat, n ≤ l.length → (∀ j, n ≤ j → ∀ x, l[j]? = some x → x = 0) → I [cutTo s n] h := by
    intro n
    induction n with
    | zero =>
      intro hn hz
      refine hI _ _ ?_
      unfold round30_1
      have rc := r.cut hn
      rw [rc.len, cond_dec]
      refine ⟨fun x => absurd x (by simp), fun _ => ?_⟩
      simp only [xs_e, nth0, Nat.beq_refl, cond_true]
      have := trim_len r.ok hz (.inl rfl) hn
      rw [← this] at hk; exact hk
    | succ n ih =>
      intro hn hz
      have := r.small
      have rc := r.cut hn
      have hl : (l.take (n + 1)).length = n + 1 := by rw [List.length_take, Nat.min_eq_left hn]
      refine hI _ _ ?_
      unfold round30_1
      rw [rc.len, cond_dec, hl]
      refine ⟨fun _ => ?_, fun x => absurd (show ((n + 1 : Nat) : Int) > 0 by omega) x⟩
      rw [rc.len, hl, i64_id (by omega) (by omega), show ((n + 1 : Nat) : Int) - 1 = (n : Int) by omega]
      refine rc.at_ (by omega) (by omega) fun a x hx _ ha => ⟨_, ha, ?_⟩
      rw [Int.toNat_natCast, List.getElem?_take, if_pos (by omega)] at hx
      rw [cond_eq]
      refine ⟨fun h0 => ?_, fun h0 => ?_⟩
      · rw [rc.len, hl, i64_id (by omega) (by omega), show ((n + 1 : Nat) : Int) - 1 = (n : Int) by omega]
        refine rc.upto (by omega) (by omega) ?_
        rw [Int.toNat_natCast, cutTo_cutTo]
        refine ih (by omega) fun j hj y hy => ?_
        by_cases hjn : j = n
        · subst hjn; rw [hx] at hy; simp at hy; omega
        · exact hz j (by omega) y hy
      · simp only [xs_e, nth0, Nat.beq_refl, cond_true]
        have := trim_len (k := n + 1) r.ok hz (.inr ⟨x, hx, by omega⟩) hn
        rw [this]; exact hk
  have := key l.length (Nat.le_refl _) fun j hj x hx => by rw [List.getElem?_eq_none hj] at hx; cases hx
  have hf := r.row.full
  rw [U_len] at hf
  rw [hf] at this; exact this

/-- A row that was made anew: in a block of its own (h0: what there was before). -/
structure Nb (h0 h : H) (s : Value) (l : List Nat) : Prop where
  ext : Ext h0 h
  buf : Buf h0 h s (U l)
  ok : Ok l
  small : l.length < 2 ^ 40
theorem Nb.nr {h0 h : H} {s : Value} {l : List Nat} (r : Nb h0 h s l) : Nr h s l := ⟨r.buf.row, r.ok, r.small⟩
theorem Nb.cut {h0 h : H} {s : Value} {l : List Nat} (r : Nb h0 h s l) {n : Nat} (hn : n ≤ l.length) : Nb h0 h (cutTo s n) (l.take n) :=
  ⟨r.ext, by have := r.buf.cut (n := n) (by rw [U_len]; exact hn); rw [U_take] at this; exact this, r.ok.take n, r.nr.cut hn |>.small⟩
theorem Nb.trim {h0 h : H} {s : Value} {l : List Nat} (r : Nb h0 h s l) : Nb h0 h (cutTo s (limbs (val l)).length) (limbs (val l)) := by
  have := r.cut (limbs_le r.ok).1
  rw [(limbs_le r.ok).2] at this; exact this

def SpecOf (D : Orc) (f : Nat) : Prop := ∀ (n : Nat) h k kp, n < 2 ^ 64 → (∀ s h', Nb h h' s (limbs n) → k s h') → D f [.int .u64 (n : Int)] h k kp
theorem of_val {n : Nat} (hn : n < 2 ^ 64) : val [n % B, n / B] = n ∧ Ok [n % B, n / B] := by
  refine ⟨?_, ?_⟩
  · simp only [val]; have := Nat.mod_add_div n B; omega
  · intro x hx
    simp only [List.mem_cons, List.not_mem_nil, or_false] at hx
    rcases hx with rfl | rfl
    · exact Nat.mod_lt _ (by decide)
    · show n / 4294967296 < 4294967296
      omega
theorem of_core {D : Orc} {f : Nat} (t : SpecTrim D f) {n : Nat} {h : H} {k : Kv} {kp : Kp} (hn : n < 2 ^ 64) (hk : ∀ s h', Nb h h' s (limbs n) → k s h') :
    newSl h 2 [(Value.int IntKind.u32 (IntKind.wrap IntKind.u32 (n : Int))), (Value.int IntKind.u32 (IntKind.wrap IntKind.u32 (Int.fdiv (n : Int) (2 ^ (min (Int.toNat (32 : Int)) (IntKind.bits IntKind.u64))))))] (fun s1 h2 => D f [s1] h2 (fun v3 h4 => ∃ v5 : Value, v3 = v5 ∧ k v5 h4) kp) := by
  intro b hb
  have e1 : [(Value.int IntKind.u32 (IntKind.wrap IntKind.u32 (n : Int))), (Value.int IntKind.u32 (IntKind.wrap IntKind.u32 (Int.fdiv (n : Int) (2 ^ (min (Int.toNat (32 : Int)) (IntKind.bits IntKind.u64))))))] = U [n % B, n / B] := by
    rw [shr32, u32_mod, u32_mod]
    simp only [U, List.map_cons, List.map_nil]
    rw [show ((n / B : Nat) : Int) = (n : Int) / 4294967296 % 4294967296 by simp only [B]; omega, show ((n % B : Nat) : Int) = (n : Int) % 4294967296 by simp only [B]; omega]
  rw [e1]
  obtain ⟨hv, ok⟩ := of_val hn
  have nb : Nb h (h.set b (.cells (U [n % B, n / B]))) (.slice (some ⟨b, 0, none⟩) 2 2) [n % B, n / B] :=
    ⟨Ext.new hb, Buf.cells hb set_here (by simp [U]), ok, by simp⟩
  refine t _ _ _ _ _ nb.nr ⟨_, rfl, ?_⟩
  have := nb.trim
  rw [hv] at this
  rw [hv]
  exact hk _ _ this
theorem spec13 {D : Orc} (c : Cl13 D) (t : SpecTrim D 29) : SpecOf D 13 := by
  intro n h k kp hn hk
  refine c _ _ _ _ ?_
  unfold F13
  rw [intK_int]
  exact ⟨by decide, rfl, by decide, rfl, by decide, of_core t hn hk⟩
theorem spec15 {D : Orc} (c : Cl15 D) (t : SpecTrim D 30) : SpecOf D 15 := by
  intro n h k kp hn hk
  refine c _ _ _ _ ?_
  unfold F15
  rw [intK_int]
  exact ⟨by decide, rfl, by decide, rfl, by decide, of_core t hn hk⟩

def SpecSame (D : Orc) (f : Nat) : Prop := ∀ a b l m h k kp, Nr h a l → Nr h b m → k (.bool (decide (l = m))) h → D f [a, b] h k kp
theorem spec14 {D : Orc} (c : Cl14 D) : SpecSame D 14 := by
  intro a b l m h k kp r q hk
  refine c _ _ _ _ _ ?_
  unfold F14
  rw [r.len, q.len, cond_ne]
  have hs := r.small
  refine ⟨fun hne => ?_, fun heq => ?_⟩
  · have : decide (l = m) = false := by rw [decide_eq_false_iff_not]; intro h; exact hne (by rw [h])
    rw [this] at hk; exact hk
  · have hlen : l.length = m.length := by omega
    intro I hI
    have key : ∀ d n : Nat, n + d = l.length → (∀ j, j < n → l[j]? = m[j]?) → I [a, b, .int .i64 (n : Int)] h := by
      intro d
      induction d with
      | zero =>
        intro n hn hj
        refine hI _ _ _ _ ?_
        unfold round14_4
        rw [intK_int, r.len, cond_dec]
        refine ⟨fun x => absurd x (by omega), fun _ => ?_⟩
        simp only [xs_e, Nat.beq_refl, cond_true]
        have : decide (l = m) = true := by
          rw [decide_eq_true_iff]
          apply List.ext_getElem?
          intro j
          by_cases hjn : j < n
          · exact hj j hjn
          · rw [List.getElem?_eq_none (by omega), List.getElem?_eq_none (by omega)]
        rw [this] at hk; exact hk
      | succ d ih =>
        intro n hn hj
        refine hI _ _ _ _ ?_
        unfold round14_4
        rw [intK_int, r.len, cond_dec]
        refine ⟨fun _ => ?_, fun x => absurd (show (n : Int) < (l.length : Int) by omega) x⟩
        refine r.at_ (by omega) (by omega) fun p x hx _ ha => ⟨_, ha, ?_⟩
        refine q.at_ (by omega) (by omega) fun p' y hy _ hb => ⟨_, hb, ?_⟩
        rw [Int.toNat_natCast] at hx hy
        rw [cond_ne]
        refine ⟨fun hne => ?_, fun heq => ?_⟩
        · simp only [xs_r, nth0, boolW_bool]
          have : decide (l = m) = false := by
            rw [decide_eq_false_iff_not]
            rintro rfl
            rw [hx] at hy
            exact hne (by rw [Option.some.inj hy])
          rw [this] at hk; exact hk
        · rw [i64_id (by omega) (by omega), show (n : Int) + 1 = ((n + 1 : Nat) : Int) by omega]
          refine ih (n + 1) (by omega) fun j hjn => ?_
          by_cases hjn' : j = n
          · subst hjn'; rw [hx, hy]; congr 1; omega
          · exact hj j (by omega)
    exact key l.length 0 (by omega) fun j hj => by omega

/-- A row that was reckoned, if it is not too big. -/
def SpecFit (D : Orc) (f : Nat) : Prop := ∀ s l h k kp, Nr h s l → ((limbs (val l)).length ≤ 64 → k (.tuple #[cutTo s (limbs (val l)).length, .int .i64 0]) h) →
  (64 < (limbs (val l)).length → k (.tuple #[.slice none 0 0, .int .i64 2]) h) → D f [s] h k kp
theorem fit_core {D : Orc} {f : Nat} (t : SpecTrim D f) {s : Value} {l : List Nat} {h : H} {k : Kv} {kp : Kp} (r : Nr h s l) (h1 : (limbs (val l)).length ≤ 64 → k (.tuple #[cutTo s (limbs (val l)).length, .int .i64 0]) h)
    (h2 : 64 < (limbs (val l)).length → k (.tuple #[.slice none 0 0, .int .i64 2]) h) :
    D f [s] h (fun v0 h1 => ∃ v2 : Value, v0 = v2 ∧ lenW v2 (fun n3 => cond (decide ((n3 : Int) > (64 : Int))) (
      k (Value.tuple #[(Value.slice none 0 0), (Value.int IntKind.i64 (2 : Int))]) h1) (
      k (Value.tuple #[v2, (Value.int IntKind.i64 (0 : Int))]) h1))) kp := by
  refine t _ _ _ _ _ r ⟨_, rfl, ?_⟩
  rw [r.trim.len, cond_dec]
  exact ⟨fun x => h2 (by omega), fun x => h1 (by omega)⟩
theorem spec31 {D : Orc} (c : Cl31 D) (t : SpecTrim D 29) : SpecFit D 31 := fun s l h k kp r h1 h2 => c _ _ _ _ (by unfold F31; exact fit_core t r h1 h2)
theorem spec32 {D : Orc} (c : Cl32 D) (t : SpecTrim D 30) : SpecFit D 32 := fun s l h k kp r h1 h2 => c _ _ _ _ (by unfold F32; exact fit_core t r h1 h2)
end Go.Proofs.YtkgjpdadeakacaaDoor.Am

namespace Go.Proofs.YtkgjpdadeakacaaDoor.Am
open Go Go.Proofs Nats
set_option linter.unusedVariables false
set_option linter.unusedSimpArgs false

theorem Nb.put {h0 h : H} {s : Value} {l : List Nat} (r : Nb h0 h s l) {T O : Prop} (hT : T) (hO : O) {n : Int} (i : Nat) (hn : n = (i : Int)) (hi : i < l.length) {v : Value} {x : Nat} (hv : v = .int .u32 (x : Int)) (hx : x < B) {K : H → Prop} (hk : ∀ h', Nb h0 h' s (l.set i x) → K h') :
    slAtW s n 1 (fun a => O ∧ T ∧ ∃ h', wr1 h a v = some h' ∧ K h') := by
  subst hn hv
  refine r.buf.put (by rw [U_len]; exact hi) fun a h' hw he hb => ⟨hO, hT, h', hw, hk h' ⟨he h0 r.ext fun _ h => h, ?_, r.ok.set hx, by simpa using r.small⟩⟩
  rw [U_set] at hb; exact hb
theorem Nb.nil_ {h0 h : H} (e : Ext h0 h) : Nb h0 h (.slice none 0 0) [] := ⟨e, .inl ⟨⟨none, rfl⟩, rfl⟩, fun _ h => by simp at h, by decide⟩
theorem Nb.len {h0 h : H} {s : Value} {l : List Nat} (r : Nb h0 h s l) {k : Nat → Prop} : lenW s k ↔ k l.length := r.nr.len
theorem make_rule {h : H} {m : Int} (n : Nat) (hm : m = (n : Int)) (hn : n < 2 ^ 40) {k : Kv} (hk : ∀ s h', Nb h h' s (List.replicate n 0) → k s h') : mkSliceW h 4 [(Value.int IntKind.u32 (0 : Int))] m m k := by
  subst hm
  refine ⟨by omega, by omega, by omega, by omega, fun b hb => hk _ _ ⟨Ext.new hb, ?_, ok_zeros n, by simpa using hn⟩⟩
  have hb' := hb
  clear hk
  have e : (List.replicate (n : Int).toNat [(Value.int IntKind.u32 (0 : Int))]).flatten = U (List.replicate n 0) := by
    rw [Int.toNat_natCast]
    simp only [U, List.map_replicate]
    induction n with
    | zero => rfl
    | succ n ih => rw [List.replicate_succ, List.flatten_cons, ih (by omega), List.replicate_succ]; rfl
  rw [e]
  exact Buf.cells hb' set_here (by simp [U])

theorem two_right {D : Orc} {f : Nat} (t : SpecRight D f) {a b : Value} {l m : List Nat} {h : H} {kp : Kp} (r : Nr h a l) (q : Nr h b m) {J : Value → H → Prop} (hj : J (.bool (!both l m)) h) :
    D f [a] h (fun v0 h1 => ∃ t2 : Bool, v0 = (Value.bool t2) ∧ cond (!(!t2)) (D f [b] h1 (fun v3 h4 => ∃ t5 : Bool, v3 = (Value.bool t5) ∧ J (Value.bool (!t5)) h4) kp) (J (Value.bool true) h1)) kp := by
  refine t _ _ _ _ _ r ⟨_, rfl, ?_⟩
  unfold both at hj
  cases hl : decide (right l) with
  | false => rw [hl] at hj; exact hj
  | true =>
    rw [hl] at hj
    exact t _ _ _ _ _ q ⟨_, rfl, hj⟩

def SpecSum (op : Nat → Nat → Nat) (D : Orc) (f : Nat) : Prop := ∀ a b l m h k kp, Nr h a l → Nr h b m →
  (∀ s h', Nb h h' s (outcome (both l m) (op (val l) (val m))).1 → k (.tuple #[s, .int .i64 (outcome (both l m) (op (val l) (val m))).2]) h') → D f [a, b] h k kp
theorem right_small {l m : List Nat} (h : both l m = true) : right l ∧ right m := by simpa [both] using h

theorem fit_rule {D : Orc} {f : Nat} (t : SpecFit D f) {h0 h : H} {s : Value} {o : List Nat} {v : Nat} {k : Kv} {kp : Kp} (r : Nb h0 h s o) (hv : val o = v)
    (hk : ∀ s h', Nb h0 h' s (outcome true v).1 → k (.tuple #[s, .int .i64 (outcome true v).2]) h') :
    D f [s] h (fun v40 h41 => ∃ v42 : Value, ∃ x43 : Int, v40 = (Value.tuple #[v42, (Value.int IntKind.i64 x43)]) ∧ k (Value.tuple #[v42, (Value.int IntKind.i64 x43)]) h41) kp := by
  subst hv
  refine t _ _ _ _ _ r.nr (fun h1 => ⟨_, _, rfl, ?_⟩) (fun h1 => ⟨_, _, rfl, ?_⟩)
  · have := hk (cutTo s (limbs (val o)).length) h
    simp only [outcome, h1, if_true] at this
    exact this r.trim
  · have := hk (.slice none 0 0) h
    simp only [outcome, if_true, if_neg (show ¬ (limbs (val o)).length ≤ 64 by omega)] at this
    exact this (Nb.nil_ r.ext)

/-- The program's sum, the longer row first. -/
theorem add_core {D : Orc} (t : SpecFit D 31) {a b : Value} {l m : List Nat} {h : H} {k : Kv} {kp : Kp} (r : Nr h a l) (q : Nr h b m) (hlen : m.length ≤ l.length) (h64 : l.length ≤ 64)
    (hk : ∀ s h', Nb h h' s (outcome true (val l + val m)).1 → k (.tuple #[s, .int .i64 (outcome true (val l + val m)).2]) h') : j18__5 D k kp a b h := by
  have hs := r.small
  unfold j18__5
  rw [r.len]
  rw [i64_id (by omega) (by omega)]
  refine make_rule (l.length + 1) (by omega) (by omega) fun s h1 nb => ?_
  rw [(r.ext nb.ext).len]
  intro I hI
  have key : ∀ d i : Nat, ∀ (o : List Nat) (c : Nat) (h2 : H), i + d = l.length → o.length = l.length + 1 → Nb h h2 s o → c ≤ 1 →
      val (o.take i) + B ^ i * c = val (l.take i) + val (m.take i) → I [a, b, s, .int .u64 (c : Int), a, .int .i64 (l.length : Int), .int .i64 (i : Int)] h2 := by
    intro d
    induction d with
    | zero =>
      intro i o c h2 hi ho nb hc hv
      refine hI _ _ _ _ _ _ _ _ ?_
      unfold round18_8
      simp only [intK_int]
      rw [cond_dec]
      refine ⟨fun x => absurd x (by omega), fun _ => ?_⟩
      simp only [xs_e, nth0, nth1, nth2, intK_int, Nat.beq_refl, cond_true]
      rw [(r.ext nb.ext).len, u32_id (by omega) (by omega)]
      refine nb.put (by trivial) (by trivial) (x := c) l.length rfl (by omega) rfl (by have : B = 4294967296 := rfl; omega) fun h3 nb3 => ?_
      refine fit_rule t nb3 ?_ hk
      have hi' : i = l.length := by omega
      subst hi'
      have h5 : val ((o.set l.length c).take (l.length + 1)) = val (o.set l.length c) := val_full (by simp; omega)
      rw [← h5, val_set_take (by omega), hv, val_full (Nat.le_refl _), val_full hlen]
    | succ d ih =>
      intro i o c h2 hi ho nb hc hv
      refine hI _ _ _ _ _ _ _ _ ?_
      unfold round18_8
      simp only [intK_int]
      rw [cond_dec]
      refine ⟨fun _ => ?_, fun x => absurd (show (i : Int) < (l.length : Int) by omega) x⟩
      have r2 := r.ext nb.ext
      have q2 := q.ext nb.ext
      have next : ∀ (n t' : Nat), t' = c + (dig l i + dig m i) → n = i → ∀ tv, tv = (t' : Int) → j18_8_13 D I (fun x32 vs33 h31 => xs x32 (intK IntKind.i64 (nth vs33 1) (fun x35 => k (Value.tuple #[(nth vs33 0), (Value.int IntKind.i64 x35)]) h31)) (fun i34 => cond (Nat.beq i34 0) (
intK IntKind.u64 (nth vs33 2) (fun x36 => lenW (nth vs33 0) (fun n37 => slAtW (nth vs33 1) (n37 : Int) 1 (fun a38 => one (Value.int IntKind.u32 (IntKind.wrap IntKind.u32 x36)) = true ∧ 1 = 1 ∧ ∃ h39, wr1 h31 a38 (Value.int IntKind.u32 (IntKind.wrap IntKind.u32 x36)) = some h39 ∧ D 31 [(nth vs33 1)] h39 (fun v40 h41 => ∃ v42 : Value, ∃ x43 : Int, v40 = (Value.tuple #[v42, (Value.int IntKind.i64 x43)]) ∧ k (Value.tuple #[v42, (Value.int IntKind.i64 x43)]) h41) kp)))) (False)) (fun c => kp c h31)) a b s (.int .u64 tv) (.int .i64 (n : Int)) a (.int .i64 (l.length : Int)) (.int .i64 (n : Int)) h2 := by
        rintro n t' rfl rfl tv rfl
        have h6 := dig_lt r.ok n
        have h7 := dig_lt q.ok n
        have hB : B = 4294967296 := rfl
        unfold j18_8_13
        simp only [intK_int]
        refine nb.put (by trivial) (by trivial) (x := (c + (dig l n + dig m n)) % B) n rfl (by omega) (by rw [u32_mod]; rfl) (Nat.mod_lt _ (by decide)) (fun h3 nb3 => ?_)
        refine ⟨by decide, ?_⟩
        rw [shr32, i64_id (by omega) (by omega)]
        have := ih (n + 1) (o.set n ((c + (dig l n + dig m n)) % B)) ((c + (dig l n + dig m n)) / B) h3 (by omega) (by simpa using ho) nb3 (by
          rw [hB]; omega) (by
          rw [val_set_take (by omega), val_take_succ, val_take_succ, Nat.pow_succ, carry_step hv rfl, Nat.mul_add]; omega)
        simpa [hB] using this
      refine r2.at_ (by omega) (by omega) fun p x hx hxB ha => ⟨_, ha, ?_⟩
      rw [Int.toNat_natCast] at hx
      rw [q2.len, cond_dec]
      have hB : B = 4294967296 := rfl
      refine ⟨fun h8 => ?_, fun h8 => ?_⟩
      · refine q2.at_ (by omega) (by omega) fun p' y hy hyB hb => ⟨_, hb, ?_⟩
        rw [Int.toNat_natCast] at hy
        refine next i (c + (x + y)) (by rw [dig_of hx, dig_of hy]) rfl _ ?_
        rw [u64_id (n := (x : Int)) (by omega) (by omega), u64_id (n := (y : Int)) (by omega) (by omega), u64_id (n := (c : Int) + x) (by omega) (by omega), u64_id (by omega) (by omega)]
        omega
      · refine next i (c + x) (by rw [dig_of hx, dig_out (by omega)]; omega) rfl _ ?_
        rw [u64_id (n := (x : Int)) (by omega) (by omega), u64_id (by omega) (by omega)]
        omega
  have := key l.length 0 (List.replicate (l.length + 1) 0) 0 h1 (by omega) (by simp) nb (by omega) (by simp [val])
  exact this
theorem spec18 {D : Orc} (c : Cl18 D) (g : SpecRight D 11) (t : SpecFit D 31) : SpecSum (· + ·) D 18 := by
  intro a b l m h k kp r q hk
  refine c _ _ _ _ _ ?_
  unfold F18
  refine two_right g r q (J := fun v h => j18__2 D k kp a b v h) ?_
  unfold j18__2
  rw [boolW_bool, cond_split]
  refine ⟨fun h1 => ?_, fun h1 => ?_⟩
  · have hb : both l m = false := by simpa using h1
    have := hk (.slice none 0 0) h
    rw [hb] at this
    exact this (Nb.nil_ (Ext.refl h))
  · have hb : both l m = true := by simpa using h1
    have hk := hk
    rw [hb] at hk
    rw [r.len, q.len, cond_dec]
    refine ⟨fun h2 => ?_, fun h2 => ?_⟩
    · refine add_core t q r (by omega) (right_small hb).2.1 ?_
      rw [Nat.add_comm]; exact hk
    · exact add_core t r q (by omega) (right_small hb).1.1 hk
end Go.Proofs.YtkgjpdadeakacaaDoor.Am

namespace Go.Proofs.YtkgjpdadeakacaaDoor.Am
open Go Go.Proofs Nats
set_option linter.unusedVariables false
set_option linter.unusedSimpArgs false

theorem max_rule {a b : Nat} {k : Value → Prop} (hk : k (.int .i64 ((max a b : Nat) : Int))) : minMax true [(Value.int IntKind.i64 (a : Int)), (Value.int IntKind.i64 (b : Int))] k := by
  refine ⟨rfl, ?_⟩
  show k (.int .i64 (bif true then (if (a : Int) < (b : Int) then (b : Int) else (a : Int)) else (if (b : Int) < (a : Int) then (b : Int) else (a : Int))))
  rw [cond_true]
  have : (if (a : Int) < (b : Int) then (b : Int) else (a : Int)) = ((max a b : Nat) : Int) := by split <;> omega
  rw [this]; exact hk

theorem carry_none {p v a b c : Nat} (h : v + p * B * c = a + b) (ha : a < p) (hb : b < p) : v = a + b := by
  cases c with
  | zero => rw [Nat.mul_zero] at h; omega
  | succ c =>
    exfalso
    have h1 : p * B ≤ p * B * (c + 1) := Nat.le_mul_of_pos_right _ (by omega)
    have h2 : p * 2 ≤ p * B := Nat.mul_le_mul_left _ (by decide)
    omega
theorem add_end {o l m : List Nat} {c n : Nat} (hl : Ok l) (hm : Ok m) (hn : l.length ≤ n ∧ m.length ≤ n) (h : val (o.take (n + 1)) + B ^ (n + 1) * c = val (l.take (n + 1)) + val (m.take (n + 1))) (ho : o.length = n + 1) : val o = val l + val m := by
  rw [val_full (l := o) (by omega), val_full (l := l) (by omega), val_full (l := m) (by omega), Nat.pow_succ] at h
  have h1 : val l < B ^ n := Nat.lt_of_lt_of_le (val_lt hl) (Nat.pow_le_pow_right (by decide) hn.1)
  have h2 : val m < B ^ n := Nat.lt_of_lt_of_le (val_lt hm) (Nat.pow_le_pow_right (by decide) hn.2)
  exact carry_none h h1 h2

theorem spec19 {D : Orc} (c : Cl19 D) (g : SpecRight D 12) (t : SpecFit D 32) : SpecSum (· + ·) D 19 := by
  intro a b l m h k kp r q hk
  refine c _ _ _ _ _ ?_
  unfold F19
  refine two_right g r q (J := fun v h => j19__2 D k kp a b v h) ?_
  unfold j19__2
  rw [boolW_bool, cond_split]
  refine ⟨fun h1 => ?_, fun h1 => ?_⟩
  · have hb : both l m = false := by simpa using h1
    have := hk (.slice none 0 0) h
    rw [hb] at this
    exact this (Nb.nil_ (Ext.refl h))
  have hb : both l m = true := by simpa using h1
  have h64 := (right_small hb).1.1
  have h65 := (right_small hb).2.1
  rw [hb] at hk
  rw [r.len, q.len]
  refine max_rule ?_
  rw [intK_int, i64_id (by omega) (by omega)]
  obtain ⟨n, hn⟩ : ∃ n, max l.length m.length = n := ⟨_, rfl⟩
  rw [hn]
  refine make_rule (n + 1) (by omega) (by omega) fun s h1 nb => ?_
  intro I hI
  have hB : B = 4294967296 := rfl
  have key : ∀ d i : Nat, ∀ (o : List Nat) (c : Nat) (h2 : H), i + d = n + 1 → o.length = n + 1 → Nb h h2 s o → c ≤ 1 →
      val (o.take i) + B ^ i * c = val (l.take i) + val (m.take i) → I [a, b, s, .int .u64 (c : Int), .int .i64 (i : Int)] h2 := by
    intro d
    induction d with
    | zero =>
      intro i o c h2 hi ho nb hc hv
      refine hI _ _ _ _ _ _ ?_
      unfold round19_6
      simp only [intK_int]
      rw [nb.len, cond_dec]
      refine ⟨fun x => absurd x (by omega), fun _ => ?_⟩
      simp only [xs_e, nth0, nth1, nth2, intK_int, Nat.beq_refl, cond_true]
      have hi' : i = n + 1 := by omega
      subst hi'
      exact fit_rule t nb (add_end r.ok q.ok (by omega) hv ho) hk
    | succ d ih =>
      intro i o c h2 hi ho nb hc hv
      refine hI _ _ _ _ _ _ ?_
      unfold round19_6
      simp only [intK_int]
      rw [nb.len, cond_dec]
      refine ⟨fun _ => ?_, fun x => absurd (show (i : Int) < (o.length : Int) by omega) x⟩
      have r2 := r.ext nb.ext
      have q2 := q.ext nb.ext
      have h6 := dig_lt r.ok i
      have h7 := dig_lt q.ok i
      have last : ∀ (t' : Nat) tv, t' = c + (dig l i + dig m i) → tv = (t' : Int) → j19_6_12 D I (fun x33 vs34 h32 => xs x33 (intK IntKind.i64 (nth vs34 1) (fun x36 => k (Value.tuple #[(nth vs34 0), (Value.int IntKind.i64 x36)]) h32)) (fun i35 => cond (Nat.beq i35 0) (
D 32 [(nth vs34 0)] h32 (fun v37 h38 => ∃ v39 : Value, ∃ x40 : Int, v37 = (Value.tuple #[v39, (Value.int IntKind.i64 x40)]) ∧ k (Value.tuple #[v39, (Value.int IntKind.i64 x40)]) h38) kp) (False)) (fun c => kp c h32)) a b s (.int .u64 tv) (.int .i64 (i : Int)) h2 := by
        rintro t' tv rfl rfl
        unfold j19_6_12
        simp only [intK_int]
        refine nb.put (by trivial) (by trivial) (x := (c + (dig l i + dig m i)) % B) i rfl (by omega) (by rw [u32_mod]; rfl) (Nat.mod_lt _ (by decide)) (fun h3 nb3 => ?_)
        refine ⟨by decide, ?_⟩
        rw [shr32, i64_id (by omega) (by omega)]
        have := ih (i + 1) (o.set i ((c + (dig l i + dig m i)) % B)) ((c + (dig l i + dig m i)) / B) h3 (by omega) (by simpa using ho) nb3 (by
          rw [hB]; omega) (by
          rw [val_set_take (by omega), val_take_succ, val_take_succ, Nat.pow_succ, carry_step hv rfl, Nat.mul_add]; omega)
        simpa [hB] using this
      have mid : ∀ (t' : Nat) tv, t' = c + dig l i → tv = (t' : Int) → j19_6_10 D I (fun x33 vs34 h32 => xs x33 (intK IntKind.i64 (nth vs34 1) (fun x36 => k (Value.tuple #[(nth vs34 0), (Value.int IntKind.i64 x36)]) h32)) (fun i35 => cond (Nat.beq i35 0) (
D 32 [(nth vs34 0)] h32 (fun v37 h38 => ∃ v39 : Value, ∃ x40 : Int, v37 = (Value.tuple #[v39, (Value.int IntKind.i64 x40)]) ∧ k (Value.tuple #[v39, (Value.int IntKind.i64 x40)]) h38) kp) (False)) (fun c => kp c h32)) a b s (.int .u64 tv) (.int .i64 (i : Int)) h2 := by
        rintro t' tv ht rfl
        unfold j19_6_10
        simp only [intK_int]
        rw [q2.len, cond_dec]
        refine ⟨fun h8 => ?_, fun h8 => ?_⟩
        · refine q2.at_ (by omega) (by omega) fun p' y hy hyB hb => ⟨_, hb, ?_⟩
          rw [Int.toNat_natCast] at hy
          refine last (c + (dig l i + y)) _ (by rw [dig_of hy]) ?_
          rw [u64_id (n := (y : Int)) (by omega) (by omega), u64_id (by omega) (by omega)]
          omega
        · exact last t' _ (by rw [dig_out (l := m) (by omega)]; omega) rfl
      rw [r2.len, cond_dec]
      refine ⟨fun h8 => ?_, fun h8 => ?_⟩
      · refine r2.at_ (by omega) (by omega) fun p x hx hxB ha => ⟨_, ha, ?_⟩
        rw [Int.toNat_natCast] at hx
        refine mid (c + x) _ (by rw [dig_of hx]) ?_
        rw [u64_id (n := (x : Int)) (by omega) (by omega), u64_id (by omega) (by omega)]
        omega
      · exact mid c _ (by rw [dig_out (l := l) (by omega)]; omega) rfl
  have := key (n + 1) 0 (List.replicate (n + 1) 0) 0 h1 (by omega) (by simp) nb (by omega) (by simp [val])
  exact this
end Go.Proofs.YtkgjpdadeakacaaDoor.Am

namespace Go.Proofs.YtkgjpdadeakacaaDoor.Am
open Go Go.Proofs Nats
set_option linter.unusedVariables false
set_option linter.unusedSimpArgs false

def cmpI (a b : Int) : Int := if a < b then -1 else if a > b then 1 else 0
def SpecNaN (j : IntKind) (D : Orc) (f : Nat) : Prop := ∀ (x : Int) h (k : Kv) kp, k (.bool false) h → D f [.int j x] h k kp
def SpecCompare (j : IntKind) (D : Orc) (f : Nat) : Prop := ∀ (x y : Int) h (k : Kv) kp, k (.int .i64 (cmpI x y)) h → D f [.int j x, .int j y] h k kp
theorem cmp_core {x y : Int} {h : H} {k : Kv} (hk : k (.int .i64 (cmpI x y)) h) : cond (decide (x < y)) (k (Value.int IntKind.i64 (-1 : Int)) h) (cond (decide (x > y)) (k (Value.int IntKind.i64 (1 : Int)) h) (k (Value.int IntKind.i64 (0 : Int)) h)) := by
  unfold cmpI at hk
  rw [cond_dec, cond_dec]
  by_cases h1 : x < y
  · rw [if_pos h1] at hk
    exact ⟨fun _ => hk, fun h => absurd h1 h⟩
  · rw [if_neg h1] at hk
    refine ⟨fun h => absurd h h1, fun _ => ?_⟩
    by_cases h2 : x > y
    · rw [if_pos h2] at hk; exact ⟨fun _ => hk, fun h => absurd h2 h⟩
    · rw [if_neg h2] at hk; exact ⟨fun h => absurd h h2, fun _ => hk⟩
theorem spec38 {D : Orc} (c : Cl38 D) : SpecNaN .i64 D 38 := by
  intro x h k kp hk
  refine c _ _ _ _ ?_
  unfold F38
  simp only [intK_int]
  simpa using hk
theorem spec39 {D : Orc} (c : Cl39 D) : SpecNaN .u32 D 39 := by
  intro x h k kp hk
  refine c _ _ _ _ ?_
  unfold F39
  simp only [intK_int]
  simpa using hk
theorem spec33 {D : Orc} (c : Cl33 D) (t : SpecNaN .i64 D 38) : SpecCompare .i64 D 33 := by
  intro x y h k kp hk
  refine c _ _ _ _ _ ?_
  unfold F33
  simp only [intK_int]
  exact t _ _ _ _ ⟨_, rfl, t _ _ _ _ ⟨_, rfl, cmp_core hk⟩⟩
theorem spec34 {D : Orc} (c : Cl34 D) (t : SpecNaN .u32 D 39) : SpecCompare .u32 D 34 := by
  intro x y h k kp hk
  refine c _ _ _ _ _ ?_
  unfold F34
  simp only [intK_int]
  exact t _ _ _ _ ⟨_, rfl, t _ _ _ _ ⟨_, rfl, cmp_core hk⟩⟩

/-- Numbers held against each other, by their digits from the top. -/
def SpecCmp (D : Orc) (f : Nat) : Prop := ∀ a b l m h k kp, Nr h a l → Nr h b m →
  (both l m = true → k (.tuple #[.int .i64 (cmpI (val l) (val m)), .int .i64 0]) h) → (both l m = false → k (.tuple #[.int .i64 0, .int .i64 10]) h) → D f [a, b] h k kp
theorem cmpI_of_lt {a b : Nat} (h : a < b) : cmpI (a : Int) (b : Int) = -1 := by unfold cmpI; rw [if_pos (by omega)]
theorem cmpI_of_gt {a b : Nat} (h : b < a) : cmpI (a : Int) (b : Int) = 1 := by unfold cmpI; rw [if_neg (by omega), if_pos (by omega)]
theorem cmpI_self (a : Int) : cmpI a a = 0 := by unfold cmpI; rw [if_neg (by omega), if_neg (by omega)]
theorem val_len_lt {l m : List Nat} (hl : Ok l) (hm : right m) (h : l.length < m.length) : val l < val m := by
  have h1 := val_lt hl
  have hm0 : m ≠ [] := by rintro rfl; simp at h
  have h2 := limbs_last (val m)
  rw [← hm.2] at h2
  have h3 : B ^ (m.length - 1) ≤ val m := by
    have e : val m = val (m.take (m.length - 1)) + B ^ (m.length - 1) * dig m (m.length - 1) := by
      rw [← val_take_succ, val_full (by omega)]
    rcases h2 with h2 | h2
    · exact absurd h2 hm0
    · rw [List.getLast?_eq_getElem?] at h2
      have hx : m[m.length - 1]? = some m[m.length - 1] := List.getElem?_eq_getElem (by omega)
      rw [hx] at h2
      have hd : dig m (m.length - 1) ≠ 0 := by
        rw [dig_of hx]
        intro h0; rw [h0] at h2; exact h2 rfl
      have : B ^ (m.length - 1) * 1 ≤ B ^ (m.length - 1) * dig m (m.length - 1) := Nat.mul_le_mul_left _ (by omega)
      omega
  exact Nat.lt_of_lt_of_le h1 (Nat.le_trans (Nat.pow_le_pow_right (by decide) (by omega)) h3)
/-- Above the first i digits all are the same, the digit there is less. -/
theorem val_top_lt {l m : List Nat} {i : Nat} (hl : Ok l) (hm : Ok m) (hlen : l.length = m.length) (hd : ∀ j, i < j → l[j]? = m[j]?) (hi : dig l i < dig m i) : val l < val m := by
  have key : ∀ d, val (l.take (i + 1 + d)) < val (m.take (i + 1 + d)) := by
    intro d
    induction d with
    | zero =>
      rw [Nat.add_zero, val_take_succ, val_take_succ]
      have h1 := val_take_lt hl i
      have h2 : B ^ i * (dig l i + 1) ≤ B ^ i * dig m i := Nat.mul_le_mul_left _ hi
      rw [Nat.mul_add, Nat.mul_one] at h2
      omega
    | succ d ih =>
      rw [show i + 1 + (d + 1) = (i + 1 + d) + 1 by omega, val_take_succ, val_take_succ]
      have : dig l (i + 1 + d) = dig m (i + 1 + d) := by unfold dig; rw [hd _ (by omega)]
      rw [this]; omega
  have := key l.length
  rw [val_full (by omega), val_full (by omega)] at this
  exact this

theorem spec22 {D : Orc} (c : Cl22 D) (g : SpecRight D 11) (t33 : SpecCompare .i64 D 33) (t34 : SpecCompare .u32 D 34) : SpecCmp D 22 := by
  intro a b l m h k kp r q hk1 hk2
  refine c _ _ _ _ _ ?_
  unfold F22
  refine two_right g r q (J := fun v h => j22__2 D k kp a b v h) ?_
  unfold j22__2
  rw [boolW_bool, cond_split]
  refine ⟨fun h1 => hk2 (by simpa using h1), fun h1 => ?_⟩
  have hb : both l m = true := by simpa using h1
  have hk := hk1 hb
  obtain ⟨hr, hq⟩ := right_small hb
  have h64 := hr.1
  have h65 := hq.1
  rw [r.len, q.len]
  refine t33 _ _ _ _ _ ⟨_, rfl, ?_⟩
  rw [cond_ne]
  refine ⟨fun hne => ?_, fun heq => ?_⟩
  · have : cmpI (l.length : Int) (m.length : Int) = cmpI (val l) (val m) := by
      rcases Nat.lt_trichotomy l.length m.length with h2 | h2 | h2
      · rw [cmpI_of_lt h2, cmpI_of_lt (val_len_lt r.ok hq h2)]
      · rw [h2, cmpI_self] at hne; exact absurd rfl hne
      · rw [cmpI_of_gt h2, cmpI_of_gt (val_len_lt q.ok hr h2)]
    rw [this]; exact hk
  · have hlen : l.length = m.length := by
      rcases Nat.lt_trichotomy l.length m.length with h2 | h2 | h2
      · rw [cmpI_of_lt h2] at heq; cases heq
      · exact h2
      · rw [cmpI_of_gt h2] at heq; cases heq
    rw [r.len, i64_id (by omega) (by omega)]
    intro I hI
    have key : ∀ n : Nat, n ≤ l.length → (∀ j, n ≤ j → l[j]? = m[j]?) → I [a, b, .int .i64 ((n : Int) - 1)] h := by
      intro n
      induction n with
      | zero =>
        intro hn hj
        refine hI _ _ _ _ ?_
        unfold round22_7
        rw [intK_int, cond_dec]
        refine ⟨fun x => absurd x (by omega), fun _ => ?_⟩
        simp only [xs_e, Nat.beq_refl, cond_true]
        have : l = m := List.ext_getElem? fun j => hj j (by omega)
        subst this
        rw [cmpI_self] at hk; exact hk
      | succ n ih =>
        intro hn hj
        refine hI _ _ _ _ ?_
        unfold round22_7
        rw [intK_int, cond_dec, show ((n + 1 : Nat) : Int) - 1 = (n : Int) by omega]
        refine ⟨fun _ => ?_, fun x => absurd (show (n : Int) ≥ 0 by omega) x⟩
        refine r.at_ (by omega) (by omega) fun p x hx hxB ha => ⟨_, ha, ?_⟩
        refine q.at_ (by omega) (by omega) fun p' y hy hyB hb => ⟨_, hb, ?_⟩
        rw [Int.toNat_natCast] at hx hy
        refine t34 _ _ _ _ _ ⟨_, rfl, ?_⟩
        rw [cond_ne]
        refine ⟨fun hne => ?_, fun heq => ?_⟩
        · simp only [xs_r, nth0, nth1, intK_int]
          have : cmpI (x : Int) (y : Int) = cmpI (val l) (val m) := by
            rcases Nat.lt_trichotomy x y with h2 | h2 | h2
            · rw [cmpI_of_lt h2, cmpI_of_lt (val_top_lt (i := n) r.ok q.ok hlen (fun j hjn => hj j (by omega)) (by rw [dig_of hx, dig_of hy]; exact h2))]
            · rw [h2, cmpI_self] at hne; exact absurd rfl hne
            · rw [cmpI_of_gt h2, cmpI_of_gt (val_top_lt (i := n) q.ok r.ok hlen.symm (fun j hjn => (hj j (by omega)).symm) (by rw [dig_of hx, dig_of hy]; exact h2))]
          rw [this]; exact hk
        · rw [i64_id (by omega) (by omega)]
          refine ih (by omega) fun j hjn => ?_
          by_cases hjn' : j = n
          · subst hjn'
            have hxy : x = y := by
              rcases Nat.lt_trichotomy x y with h2 | h2 | h2
              · rw [cmpI_of_lt h2] at heq; cases heq
              · exact h2
              · rw [cmpI_of_gt h2] at heq; cases heq
            rw [hx, hy, hxy]
          · exact hj j (by omega)
    exact key l.length (Nat.le_refl _) fun j hj => by rw [List.getElem?_eq_none hj, List.getElem?_eq_none (by omega)]

theorem spec23 {D : Orc} (c : Cl23 D) (g : SpecRight D 12) : SpecCmp D 23 := by
  intro a b l m h k kp r q hk1 hk2
  refine c _ _ _ _ _ ?_
  unfold F23
  refine two_right g r q (J := fun v h => j23__2 D k kp a b v h) ?_
  unfold j23__2
  rw [boolW_bool, cond_split]
  refine ⟨fun h1 => hk2 (by simpa using h1), fun h1 => ?_⟩
  have hb : both l m = true := by simpa using h1
  have hk := hk1 hb
  obtain ⟨hr, hq⟩ := right_small hb
  have h64 := hr.1
  have h65 := hq.1
  rw [r.len, q.len, cond_ne]
  refine ⟨fun hne => ?_, fun heq => ?_⟩
  · rw [r.len, q.len, cond_dec]
    refine ⟨fun h2 => ?_, fun h2 => ?_⟩
    · rw [cmpI_of_lt (val_len_lt r.ok hq (by omega))] at hk; exact hk
    · rw [cmpI_of_gt (val_len_lt q.ok hr (by omega))] at hk; exact hk
  · have hlen : l.length = m.length := by omega
    rw [r.len, i64_id (by omega) (by omega)]
    intro I hI
    have key : ∀ n : Nat, n ≤ l.length → (∀ j, n ≤ j → l[j]? = m[j]?) → I [a, b, .int .i64 ((n : Int) - 1)] h := by
      intro n
      induction n with
      | zero =>
        intro hn hj
        refine hI _ _ _ _ ?_
        unfold round23_8
        rw [intK_int, cond_dec]
        refine ⟨fun x => absurd x (by omega), fun _ => ?_⟩
        simp only [xs_e, Nat.beq_refl, cond_true]
        have : l = m := List.ext_getElem? fun j => hj j (by omega)
        subst this
        rw [cmpI_self] at hk; exact hk
      | succ n ih =>
        intro hn hj
        refine hI _ _ _ _ ?_
        unfold round23_8
        rw [intK_int, cond_dec, show ((n + 1 : Nat) : Int) - 1 = (n : Int) by omega]
        refine ⟨fun _ => ?_, fun x => absurd (show (n : Int) ≥ 0 by omega) x⟩
        refine r.at_ (by omega) (by omega) fun p x hx hxB ha => ⟨_, ha, ?_⟩
        refine q.at_ (by omega) (by omega) fun p' y hy hyB hb => ⟨_, hb, ?_⟩
        rw [Int.toNat_natCast] at hx hy
        rw [cond_dec]
        refine ⟨fun h2 => ?_, fun h2 => ?_⟩
        · simp only [xs_r, nth0, nth1, intK_int]
          rw [cmpI_of_lt (val_top_lt (i := n) r.ok q.ok hlen (fun j hjn => hj j (by omega)) (by rw [dig_of hx, dig_of hy]; omega))] at hk
          exact hk
        · refine r.at_ (by omega) (by omega) fun p2 x' hx' _ ha' => ⟨_, ha', ?_⟩
          refine q.at_ (by omega) (by omega) fun p3 y' hy' _ hb' => ⟨_, hb', ?_⟩
          rw [Int.toNat_natCast, hx] at hx'
          rw [Int.toNat_natCast, hy] at hy'
          obtain rfl := Option.some.inj hx'
          obtain rfl := Option.some.inj hy'
          rw [cond_dec]
          refine ⟨fun h3 => ?_, fun h3 => ?_⟩
          · simp only [xs_r, nth0, nth1, intK_int]
            rw [cmpI_of_gt (val_top_lt (i := n) q.ok r.ok hlen.symm (fun j hjn => (hj j (by omega)).symm) (by rw [dig_of hx, dig_of hy]; omega))] at hk
            exact hk
          · rw [i64_id (by omega) (by omega)]
            refine ih (by omega) fun j hjn => ?_
            by_cases hjn' : j = n
            · subst hjn'
              rw [hx, hy, show x = y by omega]
            · exact hj j (by omega)
    exact key l.length (Nat.le_refl _) fun j hj => by rw [List.getElem?_eq_none hj, List.getElem?_eq_none (by omega)]
end Go.Proofs.YtkgjpdadeakacaaDoor.Am

namespace Go.Proofs.YtkgjpdadeakacaaDoor.Am
open Go Go.Proofs Nats
set_option linter.unusedVariables false
set_option linter.unusedSimpArgs false

/-- The program's inner loop: a digit x times all of b. -/
theorem mul_inner {D : Orc} {h0 : H} {b s a : Value} {l m : List Nat} {i x V : Nat} (q : Nr h0 b m) (hx : x < B) (hm : m.length ≤ 64) (hi : i < 64) {K : Kl} {N : Nat} (hN : i + m.length ≤ N) (hN2 : N ≤ 200)
    (hK : ∀ h2 o c, Nb h0 h2 s o → o.length = N → c < B → val (o.take (i + m.length)) + B ^ (i + m.length) * c = V + B ^ i * (x * val m) →
      K (.e 2) [b, s, .int .i64 (i : Int), .int .u64 (c : Int), a, .int .i64 (l.length : Int), .int .i64 (i : Int)] h2)
    {h1 : H} {o1 : List Nat} (nb : Nb h0 h1 s o1) (ho : o1.length = N) (hV : val (o1.take (i + m.length)) = V) :
    loop20_9 D [b, s, .int .i64 (i : Int), .int .u32 (x : Int), .int .u64 (0 : Int), a, .int .i64 (l.length : Int), .int .i64 (i : Int), b, .int .i64 (m.length : Int), .int .i64 (0 : Int)] h1 K := by
  intro I hI
  have hB : B = 4294967296 := rfl
  have key : ∀ d k : Nat, ∀ (o : List Nat) (c : Nat) (h2 : H), k + d = m.length → o.length = N → Nb h0 h2 s o → c < B →
      val (o.take (i + m.length)) + B ^ (i + k) * c = V + B ^ i * (x * val (m.take k)) → I [b, s, .int .i64 (i : Int), .int .u32 (x : Int), .int .u64 (c : Int), a, .int .i64 (l.length : Int), .int .i64 (i : Int), b, .int .i64 (m.length : Int), .int .i64 (k : Int)] h2 := by
    intro d
    induction d with
    | zero =>
      intro k o c h2 hk ho nb hc hv
      refine hI _ _ _ _ _ _ _ _ _ _ _ _ ?_
      unfold round20_9
      simp only [intK_int]
      rw [cond_dec]
      refine ⟨fun x => absurd x (by omega), fun _ => ?_⟩
      have hk' : k = m.length := by omega
      subst hk'
      rw [val_full (l := m) (Nat.le_refl _)] at hv
      exact hK _ _ _ nb ho hc hv
    | succ d ih =>
      intro k o c h2 hk ho nb hc hv
      refine hI _ _ _ _ _ _ _ _ _ _ _ _ ?_
      unfold round20_9
      simp only [intK_int]
      rw [cond_dec]
      refine ⟨fun _ => ?_, fun x => absurd (show (k : Int) < (m.length : Int) by omega) x⟩
      have q2 := q.ext nb.ext
      refine q2.at_ (by omega) (by omega) fun p y hy hyB ha => ⟨_, ha, ?_⟩
      rw [Int.toNat_natCast] at hy
      have e1 : IntKind.wrap .i64 ((i : Int) + (k : Int)) = ((i + k : Nat) : Int) := by rw [i64_id (by omega) (by omega)]; omega
      rw [e1]
      refine nb.nr.at_ (by omega) (by omega) fun p' z hz hzB hb => ⟨_, hb, ?_⟩
      rw [Int.toNat_natCast] at hz
      have hxy := prod_lt hx hyB
      have e2 : IntKind.wrap .u64 ((c : Int) + IntKind.wrap .u64 (IntKind.wrap .u64 (IntKind.wrap .u64 (x : Int) * IntKind.wrap .u64 (y : Int)) + IntKind.wrap .u64 (z : Int))) = ((c + (x * y + z) : Nat) : Int) := by
        rw [u64_id (n := (x : Int)) (by omega) (by omega), u64_id (n := (y : Int)) (by omega) (by omega), u64_id (n := (z : Int)) (by omega) (by omega), ← Int.natCast_mul, u64_id (n := ((x * y : Nat) : Int)) (by omega) (by omega),
          u64_id (n := ((x * y : Nat) : Int) + (z : Int)) (by omega) (by omega), u64_id (by omega) (by omega)]
        omega
      rw [e2]
      refine nb.put (by trivial) (by trivial) (x := (c + (x * y + z)) % B) (i + k) rfl (by omega) (by rw [u32_mod]; rfl) (Nat.mod_lt _ (by decide)) (fun h3 nb3 => ?_)
      refine ⟨by decide, ?_⟩
      rw [shr32, i64_id (n := (k : Int) + 1) (by omega) (by omega)]
      have := ih (k + 1) (o.set (i + k) ((c + (x * y + z)) % B)) ((c + (x * y + z)) / B) h3 (by omega) (by simpa using ho) nb3 (by
        rw [hB]; omega) (by
        have h5 := val_set_any (l := o) (i := i + k) (x := (c + (x * y + z)) % B) (n := i + m.length) (by omega) (by omega)
        rw [dig_of hz] at h5
        rw [mul_step hv rfl h5 (by rw [← Nat.add_assoc, Nat.pow_succ]), val_take_succ, dig_of hy, Nat.mul_add x, Nat.mul_add, Nat.pow_add, Nat.add_assoc]
        congr 1
        congr 1
        rw [Nat.mul_left_comm x, Nat.mul_assoc])
      simpa [hB] using this
  exact key m.length 0 o1 0 h1 (by omega) ho nb (by decide) (by simp [val, hV])

theorem spec20 {D : Orc} (c : Cl20 D) (g : SpecRight D 11) (t : SpecFit D 31) : SpecSum (· * ·) D 20 := by
  intro a b l m h k kp r q hk
  refine c _ _ _ _ _ ?_
  unfold F20
  refine two_right g r q (J := fun v h => j20__2 D k kp a b v h) ?_
  unfold j20__2
  rw [boolW_bool, cond_split]
  refine ⟨fun h1 => ?_, fun h1 => ?_⟩
  · have hb : both l m = false := by simpa using h1
    have := hk (.slice none 0 0) h
    rw [hb] at this
    exact this (Nb.nil_ (Ext.refl h))
  have hb : both l m = true := by simpa using h1
  have h64 := (right_small hb).1.1
  have h65 := (right_small hb).2.1
  rw [hb] at hk
  rw [r.len, q.len, i64_id (by omega) (by omega)]
  refine make_rule (l.length + m.length) (by omega) (by omega) fun s h1 nb => ?_
  rw [(r.ext nb.ext).len]
  intro I hI
  have hB : B = 4294967296 := rfl
  have key : ∀ d i : Nat, ∀ (o : List Nat) (h2 : H), i + d = l.length → o.length = l.length + m.length → Nb h h2 s o →
      val (o.take (i + m.length)) = val (l.take i) * val m → I [b, s, a, .int .i64 (l.length : Int), .int .i64 (i : Int)] h2 := by
    intro d
    induction d with
    | zero =>
      intro i o h2 hi ho nb hv
      refine hI _ _ _ _ _ _ ?_
      unfold round20_5
      simp only [intK_int]
      rw [cond_dec]
      refine ⟨fun x => absurd x (by omega), fun _ => ?_⟩
      simp only [xs_e, nth0, nth1, nth2, intK_int, Nat.beq_refl, cond_true]
      refine fit_rule t nb ?_ hk
      rw [val_full (l := o) (by omega), val_full (l := l) (by omega)] at hv
      exact hv
    | succ d ih =>
      intro i o h2 hi ho nb hv
      refine hI _ _ _ _ _ _ ?_
      unfold round20_5
      simp only [intK_int]
      rw [cond_dec]
      refine ⟨fun _ => ?_, fun x => absurd (show (i : Int) < (l.length : Int) by omega) x⟩
      have r2 := r.ext nb.ext
      refine r2.at_ (by omega) (by omega) fun p x hx hxB ha => ⟨_, ha, ?_⟩
      rw [Int.toNat_natCast] at hx
      rw [(q.ext nb.ext).len]
      refine mul_inner (l := l) (x := x) (i := i) q hxB h65 (by omega) (N := l.length + m.length) (by omega) (by omega) (fun h3 o3 c nb3 ho3 hc hv3 => ?_) nb ho hv
      have n5 : ∀ {a b c d e f : Value} {l : List Value}, nth (a :: b :: c :: d :: e :: f :: l) 5 = f := rfl
      have n6 : ∀ {a b c d e f g : Value} {l : List Value}, nth (a :: b :: c :: d :: e :: f :: g :: l) 6 = g := rfl
      simp only [xs_e, nth0, nth1, nth2, nth3, nth4, n5, n6, intK_int, Nat.beq_refl, cond_true]
      rw [(q.ext nb3.ext).len]
      have e1 : IntKind.wrap .i64 ((i : Int) + (m.length : Int)) = ((i + m.length : Nat) : Int) := by rw [i64_id (by omega) (by omega)]; omega
      rw [e1]
      refine nb3.put (by trivial) (by trivial) (x := c) (i + m.length) rfl (by omega) (by rw [u32_id (by omega) (by omega)]) hc (fun h4 nb4 => ?_)
      rw [i64_id (by omega) (by omega)]
      have := ih (i + 1) (o3.set (i + m.length) c) h4 (by omega) (by simpa using ho3) nb4 (by
        rw [show i + 1 + m.length = i + m.length + 1 by omega, val_set_take (by omega), hv3, val_take_succ, dig_of hx, Nat.add_mul, Nat.mul_assoc])
      simpa using this
  have := key l.length 0 (List.replicate (l.length + m.length) 0) h1 (by omega) (by simp) nb (by
    rw [val_zeros fun x hx => (List.mem_replicate.mp (List.mem_of_mem_take hx)).2]; simp [val])
  exact this
end Go.Proofs.YtkgjpdadeakacaaDoor.Am

namespace Go.Proofs.YtkgjpdadeakacaaDoor.Am
open Go Go.Proofs Nats
set_option linter.unusedVariables false
set_option linter.unusedSimpArgs false

theorem val_set_all {l : List Nat} {i x : Nat} (h : i < l.length) : val (l.set i x) + B ^ i * dig l i = val l + B ^ i * x := by
  have := val_set_any (x := x) (n := l.length) h h
  rw [val_full (Nat.le_refl _), val_full (by simp)] at this
  exact this

theorem refmul_inner {D : Orc} {h0 : H} {a b s : Value} {l m : List Nat} {i x V : Nat} (r : Nr h0 a l) (q : Nr h0 b m) (hxi : l[i]? = some x) (hx : x < B) (hl : l.length ≤ 64) (hm : m.length ≤ 64) {K : Kl}
    (hbig : V + B ^ i * (x * val m) < B ^ (i + 1 + m.length))
    (hK : ∀ h2 o, Nb h0 h2 s o → o.length = l.length + m.length + 1 → val o = V + B ^ i * (x * val m) → K (.e 2) [a, b, s, .int .i64 (i : Int)] h2)
    {h1 : H} {o1 : List Nat} (nb : Nb h0 h1 s o1) (ho : o1.length = l.length + m.length + 1) (hV : val o1 = V) :
    loop21_9 D [a, b, s, .int .i64 (i : Int), .int .u64 (0 : Int), .int .i64 (0 : Int)] h1 K := by
  intro I hI
  have hB : B = 4294967296 := rfl
  have hil : i < l.length := (List.getElem?_eq_some_iff.mp hxi).1
  have key : ∀ d k : Nat, ∀ (o : List Nat) (c : Nat) (h2 : H), k + d = m.length + 1 → o.length = l.length + m.length + 1 → Nb h0 h2 s o → c < B →
      val o + B ^ (i + k) * c = V + B ^ i * (x * val (m.take k)) → I [a, b, s, .int .i64 (i : Int), .int .u64 (c : Int), .int .i64 (k : Int)] h2 := by
    intro d
    induction d with
    | zero =>
      intro k o c h2 hk ho nb hc hv
      refine hI _ _ _ _ _ _ _ ?_
      unfold round21_9
      simp only [intK_int]
      rw [(q.ext nb.ext).len, cond_not, cond_dec]
      refine ⟨fun x => absurd x (by omega), fun _ => ?_⟩
      rw [val_full (l := m) (by omega)] at hv
      have hc0 : c = 0 := by
        cases c with
        | zero => rfl
        | succ c =>
          exfalso
          have h3 : B ^ (i + k) * 1 ≤ B ^ (i + k) * (c + 1) := Nat.mul_le_mul_left _ (by omega)
          rw [show i + k = i + 1 + m.length by omega] at h3 hv
          omega
      subst hc0
      rw [cond_dec]
      refine ⟨fun x => absurd x (by decide), fun _ => hK _ _ nb ho (by simpa using hv)⟩
    | succ d ih =>
      intro k o c h2 hk ho nb hc hv
      have q2 := q.ext nb.ext
      have r2 := r.ext nb.ext
      have h6 := dig_lt nb.ok (i + k)
      have h7 := dig_lt q.ok k
      have hxy := prod_lt hx h7
      have last : ∀ (t' : Nat) tv, t' = c + (x * dig m k + dig o (i + k)) → tv = (t' : Int) → j21_9_14 D I K a b s (.int .i64 (i : Int)) (.int .u64 tv) (.int .i64 (k : Int)) h2 := by
        rintro t' tv rfl rfl
        unfold j21_9_14
        simp only [intK_int]
        have e1 : IntKind.wrap .i64 ((i : Int) + (k : Int)) = ((i + k : Nat) : Int) := by rw [i64_id (by omega) (by omega)]; omega
        rw [e1]
        refine nb.put (by trivial) (by trivial) (x := (c + (x * dig m k + dig o (i + k))) % B) (i + k) rfl (by omega) (by rw [u32_mod]; rfl) (Nat.mod_lt _ (by decide)) (fun h3 nb3 => ?_)
        refine ⟨by decide, ?_⟩
        rw [shr32, i64_id (n := (k : Int) + 1) (by omega) (by omega)]
        have := ih (k + 1) (o.set (i + k) ((c + (x * dig m k + dig o (i + k))) % B)) ((c + (x * dig m k + dig o (i + k))) / B) h3 (by omega) (by simpa using ho) nb3 (by
          rw [hB]; omega) (by
          have h5 := val_set_all (l := o) (i := i + k) (x := (c + (x * dig m k + dig o (i + k))) % B) (by omega)
          rw [mul_step hv rfl h5 (by rw [← Nat.add_assoc, Nat.pow_succ]), val_take_succ, Nat.mul_add x, Nat.mul_add, Nat.pow_add, Nat.add_assoc]
          congr 1
          congr 1
          rw [Nat.mul_left_comm x, Nat.mul_assoc])
        simpa [hB] using this
      have e1 : IntKind.wrap .i64 ((i : Int) + (k : Int)) = ((i + k : Nat) : Int) := by rw [i64_id (by omega) (by omega)]; omega
      refine hI _ _ _ _ _ _ _ ?_
      unfold round21_9
      simp only [intK_int]
      rw [q2.len, cond_not, cond_dec, e1]
      refine ⟨fun h8 => ?_, fun h8 => ?_⟩
      · refine nb.nr.at_ (by omega) (by omega) fun p' z hz hzB hb => ⟨_, hb, ?_⟩
        rw [Int.toNat_natCast] at hz
        rw [q2.len, cond_dec]
        refine ⟨fun _ => ?_, fun x => absurd h8 x⟩
        refine r2.at_ (by omega) (by omega) fun p x' hx' hxB ha => ⟨_, ha, ?_⟩
        rw [Int.toNat_natCast, hxi] at hx'
        obtain rfl := Option.some.inj hx'
        refine q2.at_ (by omega) (by omega) fun p y hy hyB ha => ⟨_, ha, ?_⟩
        rw [Int.toNat_natCast] at hy
        rw [dig_of hy] at hxy
        refine last (c + (x * y + z)) _ (by rw [dig_of hy, dig_of hz]) ?_
        rw [u64_id (n := (x : Int)) (by omega) (by omega), u64_id (n := (y : Int)) (by omega) (by omega), u64_id (n := (z : Int)) (by omega) (by omega), ← Int.natCast_mul, u64_id (n := ((x * y : Nat) : Int)) (by omega) (by omega),
          u64_id (n := (c : Int) + (z : Int)) (by omega) (by omega), u64_id (by omega) (by omega)]
        omega
      · rw [cond_dec]
        refine ⟨fun h9 => ?_, fun h9 => ?_⟩
        · refine nb.nr.at_ (by omega) (by omega) fun p' z hz hzB hb => ⟨_, hb, ?_⟩
          rw [Int.toNat_natCast] at hz
          rw [q2.len, cond_dec]
          refine ⟨fun x => absurd x h8, fun _ => ?_⟩
          refine last (c + z) _ (by rw [dig_out (l := m) (by omega), dig_of hz, Nat.mul_zero, Nat.zero_add]) ?_
          rw [u64_id (n := (z : Int)) (by omega) (by omega), u64_id (by omega) (by omega)]
          omega
        · have hc0 : c = 0 := by omega
          subst hc0
          rw [val_full (l := m) (by omega)] at hv
          exact hK _ _ nb ho (by simpa using hv)
  exact key (m.length + 1) 0 o1 0 h1 (by omega) ho nb (by decide) (by simp [val, hV])

theorem spec21 {D : Orc} (c : Cl21 D) (g : SpecRight D 12) (t : SpecFit D 32) : SpecSum (· * ·) D 21 := by
  intro a b l m h k kp r q hk
  refine c _ _ _ _ _ ?_
  unfold F21
  refine two_right g r q (J := fun v h => j21__2 D k kp a b v h) ?_
  unfold j21__2
  rw [boolW_bool, cond_split]
  refine ⟨fun h1 => ?_, fun h1 => ?_⟩
  · have hb : both l m = false := by simpa using h1
    have := hk (.slice none 0 0) h
    rw [hb] at this
    exact this (Nb.nil_ (Ext.refl h))
  have hb : both l m = true := by simpa using h1
  have h64 := (right_small hb).1.1
  have h65 := (right_small hb).2.1
  rw [hb] at hk
  rw [r.len, q.len, i64_id (n := (l.length : Int) + m.length) (by omega) (by omega), i64_id (by omega) (by omega)]
  refine make_rule (l.length + m.length + 1) (by omega) (by omega) fun s h1 nb => ?_
  intro I hI
  have hB : B = 4294967296 := rfl
  have key : ∀ d i : Nat, ∀ (o : List Nat) (h2 : H), i + d = l.length → o.length = l.length + m.length + 1 → Nb h h2 s o →
      val o = val (l.take i) * val m → I [a, b, s, .int .i64 (i : Int)] h2 := by
    intro d
    induction d with
    | zero =>
      intro i o h2 hi ho nb hv
      refine hI _ _ _ _ _ ?_
      unfold round21_5
      simp only [intK_int]
      rw [(r.ext nb.ext).len, cond_dec]
      refine ⟨fun x => absurd x (by omega), fun _ => ?_⟩
      simp only [xs_e, nth0, nth1, nth2, intK_int, Nat.beq_refl, cond_true]
      refine fit_rule t nb ?_ hk
      rw [val_full (l := l) (by omega)] at hv
      exact hv
    | succ d ih =>
      intro i o h2 hi ho nb hv
      refine hI _ _ _ _ _ ?_
      unfold round21_5
      simp only [intK_int]
      rw [(r.ext nb.ext).len, cond_dec]
      refine ⟨fun _ => ?_, fun x => absurd (show (i : Int) < (l.length : Int) by omega) x⟩
      have hxi : l[i]? = some l[i] := List.getElem?_eq_getElem (by omega)
      have hstep : val (l.take i) * val m + B ^ i * (l[i] * val m) = val (l.take (i + 1)) * val m := by
        rw [val_take_succ, dig_of hxi, Nat.add_mul, Nat.mul_assoc]
      refine refmul_inner (D := D) (V := val (l.take i) * val m) r q hxi (r.ok _ (List.getElem_mem _)) h64 h65 ?_ (fun h3 o3 nb3 ho3 hv3 => ?_) nb ho hv
      · rw [hstep, Nat.pow_add]
        exact Nat.mul_lt_mul'' (val_take_lt r.ok (i + 1)) (val_lt q.ok)
      · simp only [xs_e, nth0, nth1, nth2, nth3, intK_int, Nat.beq_refl, cond_true]
        rw [i64_id (by omega) (by omega)]
        rw [hstep] at hv3
        have := ih (i + 1) o3 h3 (by omega) ho3 nb3 hv3
        simpa using this
  have := key l.length 0 (List.replicate (l.length + m.length + 1) 0) h1 (by omega) (by simp) nb (by
    rw [val_zeros fun x hx => (List.mem_replicate.mp hx).2]; simp [val])
  exact this
end Go.Proofs.YtkgjpdadeakacaaDoor.Am

namespace Go.Proofs.YtkgjpdadeakacaaDoor.Am
open Go Go.Proofs Nats
set_option linter.unusedVariables false
set_option linter.unusedSimpArgs false

theorem U_all (l : List Nat) : (U l).all one = true := by simp [U, one]
theorem U_drop (l : List Nat) (n : Nat) : (U l).drop n = U (l.drop n) := by simp [U, List.map_drop]

def SpecLent (D : Orc) (f : Nat) : Prop := ∀ a l h (k : Kv) kp, Nr h a l → l.length ≤ 1048576 → (∀ s h', Nb h h' s (l ++ [77, 77, 77]) → k (cutTo s l.length) h') → D f [a] h k kp
def SpecKept (D : Orc) (f : Nat) : Prop := ∀ s a l h (k : Kv) kp, Nr h s (l ++ [77, 77, 77]) → Nr h a l → l.length ≤ 1048576 → k (.bool true) h → D f [cutTo s l.length, a] h k kp
def SpecSpoil (D : Orc) (f : Nat) : Prop := ∀ s l g h (k : Kv) kp, Nb g h s l → l.length ≤ 1048576 → (∀ h', Ext g h' → k (.tuple #[]) h') → D f [s] h k kp

theorem spec17 {D : Orc} (c : Cl17 D) : SpecLent D 17 := by
  intro a l h k kp r hl hk
  refine c _ _ _ _ ?_
  unfold F17
  rw [r.len, i64_id (by omega) (by omega)]
  refine make_rule (l.length + 3) (by omega) (by omega) fun s h1 nb => ?_
  have r1 := r.ext nb.ext
  rw [r1.row.slen, U_len, nb.nr.row.slen, U_len, List.length_replicate]
  refine r1.row.src (by rw [U_len]; omega) ?_
  rw [Nat.min_eq_left (by omega), U_take, List.take_length]
  refine nb.buf.copy nb.ext (U_all l) (by simp [U_len]) (U_len l).symm fun h2 hb he => ?_
  have nb2 : Nb h h2 s (l ++ List.replicate 3 0) := by
    refine ⟨he, ?_, ?_, by simp; omega⟩
    · rw [U_drop, U_len, List.drop_replicate, U_app, show l.length + 3 - l.length = 3 by omega] at hb
      exact hb
    · intro x hx
      rcases List.mem_append.mp hx with hx | hx
      · exact r.ok x hx
      · rw [(List.mem_replicate.mp hx).2]; decide
  rw [(r.ext nb2.ext).len]
  intro I hI
  have hB : B = 4294967296 := rfl
  have key : ∀ d j : Nat, ∀ (h3 : H), j + d = 3 → Nb h h3 s (l ++ (List.replicate j 77 ++ List.replicate d 0)) → I [a, s, .int .i64 ((l.length + j : Nat) : Int)] h3 := by
    intro d
    induction d with
    | zero =>
      intro j h3 hj nb3
      refine hI _ _ _ _ ?_
      unfold round17_4
      rw [intK_int, nb3.len, cond_dec]
      have hlen : (l ++ (List.replicate j 77 ++ List.replicate 0 0)).length = l.length + 3 := by simp; omega
      rw [hlen]
      refine ⟨fun x => absurd x (by omega), fun _ => ?_⟩
      simp only [xs_e, nth0, nth1, Nat.beq_refl, cond_true]
      rw [(r.ext nb3.ext).len]
      refine nb3.nr.upto (by omega) (by rw [hlen]; omega) ?_
      rw [Int.toNat_natCast]
      have hj3 : j = 3 := by omega
      subst hj3
      exact hk s h3 nb3
    | succ d ih =>
      intro j h3 hj nb3
      refine hI _ _ _ _ ?_
      unfold round17_4
      have hlen : (l ++ (List.replicate j 77 ++ List.replicate (d + 1) 0)).length = l.length + 3 := by simp; omega
      rw [intK_int, nb3.len, cond_dec, hlen]
      refine ⟨fun _ => ?_, fun x => absurd (show ((l.length + j : Nat) : Int) < ((l.length + 3 : Nat) : Int) by omega) x⟩
      refine nb3.put (by trivial) (by trivial) (x := 77) (l.length + j) rfl (by omega) rfl (by decide) (fun h4 nb4 => ?_)
      rw [i64_id (by omega) (by omega), show ((l.length + j : Nat) : Int) + 1 = ((l.length + (j + 1) : Nat) : Int) by omega]
      refine ih (j + 1) h4 (by omega) ?_
      have e : (l ++ (List.replicate j 77 ++ List.replicate (d + 1) 0)).set (l.length + j) 77 = l ++ (List.replicate (j + 1) 77 ++ List.replicate d 0) := by
        rw [List.set_append, if_neg (by omega), Nat.add_sub_cancel_left, List.set_append, if_neg (by simp), List.length_replicate, Nat.sub_self, List.replicate_succ, List.set_cons_zero, List.replicate_succ', List.append_assoc]
        rfl
      rw [e] at nb4
      exact nb4
  have := key 3 0 h2 (by omega) (by simpa using nb2)
  exact this

theorem spec24 {D : Orc} (c : Cl24 D) : SpecKept D 24 := by
  intro s a l h k kp q r hl hk
  refine c _ _ _ _ _ ?_
  unfold F24
  have hlen : (l ++ [77, 77, 77]).length = l.length + 3 := by simp
  have hcap := q.row.cap
  rw [U_len, hlen] at hcap
  have hsl := q.row.isSl
  have hfull := q.row.full
  rw [U_len, hlen] at hfull
  rw [r.len, i64_id (by omega) (by omega)]
  refine cut_rule (by cases s <;> first | exact hsl.elim | trivial) (by omega) (by
    have : capOf (cutTo s l.length) = capOf s := by cases s <;> rfl
    rw [this]; omega) ?_
  rw [cutTo_cutTo, show ((l.length : Int) + 3).toNat = l.length + 3 by omega, hfull]
  intro I hI
  have key : ∀ d n : Nat, n + d = l.length + 3 → I [s, a, .int .i64 (n : Int)] h := by
    intro d
    induction d with
    | zero =>
      intro n hn
      refine hI _ _ _ _ ?_
      unfold round24_3
      rw [intK_int, q.len, cond_dec, hlen]
      refine ⟨fun x => absurd x (by omega), fun _ => ?_⟩
      simp only [xs_e, Nat.beq_refl, cond_true]
      exact hk
    | succ d ih =>
      intro n hn
      have next : j24_3_6 D I (fun x20 vs21 h19 => xs x20 (boolW (nth vs21 0) (fun t23 => k (Value.bool t23) h19)) (fun i22 => cond (Nat.beq i22 0) (
k (Value.bool true) h19) (False)) (fun c => kp c h19)) s a (.int .i64 (n : Int)) (.bool false) h := by
        unfold j24_3_6
        rw [intK_int, boolW_bool, cond_false, i64_id (by omega) (by omega), show (n : Int) + 1 = ((n + 1 : Nat) : Int) by omega]
        exact ih (n + 1) (by omega)
      refine hI _ _ _ _ ?_
      unfold round24_3
      rw [intK_int, q.len, cond_dec, hlen]
      refine ⟨fun _ => ?_, fun x => absurd (show (n : Int) < ((l.length + 3 : Nat) : Int) by omega) x⟩
      rw [r.len, cond_dec]
      refine ⟨fun h1 => ?_, fun h1 => ?_⟩
      · refine q.at_ (by omega) (by omega) fun p x hx hxB ha => ⟨_, ha, ?_⟩
        refine r.at_ (by omega) (by omega) fun p' y hy hyB hb => ⟨_, hb, ?_⟩
        rw [Int.toNat_natCast] at hx hy
        rw [List.getElem?_append_left (by omega), hy] at hx
        obtain rfl := Option.some.inj hx
        rw [cond_not, cond_ne]
        refine ⟨fun h2 => absurd rfl h2, fun _ => ?_⟩
        rw [r.len, cond_dec]
        exact ⟨fun x => absurd x (by omega), fun _ => next⟩
      · rw [r.len, cond_dec]
        refine ⟨fun _ => ?_, fun x => absurd (show (n : Int) ≥ (l.length : Int) by omega) x⟩
        refine q.at_ (by omega) (by omega) fun p x hx hxB ha => ⟨_, ha, ?_⟩
        rw [Int.toNat_natCast, List.getElem?_append_right (by omega)] at hx
        have : x = 77 := by
          have := List.mem_of_getElem? hx
          simpa using this
        subst this
        exact next
  exact key (l.length + 3) 0 (by omega)

theorem spec16 {D : Orc} (c : Cl16 D) : SpecSpoil D 16 := by
  intro s l g h k kp nb hl hk
  refine c _ _ _ _ ?_
  unfold F16
  intro I hI
  have key : ∀ d n : Nat, ∀ (o : List Nat) (h1 : H), n + d = l.length → o.length = l.length → Nb g h1 s o → I [s, .int .i64 (n : Int)] h1 := by
    intro d
    induction d with
    | zero =>
      intro n o h1 hn ho nb
      refine hI _ _ _ ?_
      unfold round16_1
      rw [intK_int, nb.len, cond_dec]
      refine ⟨fun x => absurd x (by omega), fun _ => ?_⟩
      simp only [xs_e, nth0, Nat.beq_refl, cond_true]
      refine ⟨rfl, by decide, rfl, by decide, ?_⟩
      intro b hb
      have hrow : Row (h1.set b (.cells (U [98, 97]))) (.slice (some ⟨b, 0, none⟩) 2 2) (U [98, 97]) := Row.cells set_here rfl
      rw [slenW_slice]
      refine hrow.src (n := 2) (by decide) ?_
      have e0 : (U [98, 97]).take 2 = U [98, 97] := rfl
      rw [e0]
      have nb2 : Nb g (h1.set b (.cells (U [98, 97]))) s o := ⟨nb.ext.trans (Ext.new hb), nb.buf.ext (Ext.new hb), nb.ok, nb.small⟩
      refine nb2.buf.app (ws := U [98, 97]) nb2.ext rfl rfl (by rw [U_len]; simp [U]; omega) (by rw [U_len]; simp [U]; omega) fun s' h2 hb2 he2 => ?_
      have nb3 : Nb g h2 s' (o ++ [98, 97]) := by
        refine ⟨he2, by rw [U_app] at hb2; exact hb2, ?_, by simp; omega⟩
        intro x hx
        rcases List.mem_append.mp hx with hx | hx
        · exact nb.ok x hx
        · simp only [List.mem_cons, List.not_mem_nil, or_false] at hx
          rcases hx with rfl | rfl <;> decide
      rw [nb3.len, i64_id (by simp; omega) (by simp; omega)]
      refine nb3.put (by trivial) (by trivial) (x := 96) (o.length + 1) (by simp; omega) (by simp) rfl (by decide) (fun h4 nb4 => ?_)
      exact hk h4 nb4.ext
    | succ d ih =>
      intro n o h1 hn ho nb
      refine hI _ _ _ ?_
      unfold round16_1
      rw [intK_int, nb.len, cond_dec]
      refine ⟨fun _ => ?_, fun x => absurd (show (n : Int) < (o.length : Int) by omega) x⟩
      refine nb.put (by trivial) (by trivial) (x := 99) n rfl (by omega) rfl (by decide) (fun h4 nb4 => ?_)
      rw [i64_id (by omega) (by omega), show (n : Int) + 1 = ((n + 1 : Nat) : Int) by omega]
      exact ih (n + 1) (o.set n 99) h4 (by omega) (by simpa using ho) nb4
  exact key l.length 0 l h (by omega) rfl nb
end Go.Proofs.YtkgjpdadeakacaaDoor.Am

namespace Go.Proofs.YtkgjpdadeakacaaDoor.Am
open Go Go.Proofs
set_option linter.unusedVariables false
set_option linter.unusedSimpArgs false

def SpecTrimLB (D : Orc) (f : Nat) : Prop := ∀ (s : ByteArray) (c : UInt8) h (k : Kv) kp, s.size < 2 ^ 62 → (∀ t, bts t = (bts s).dropWhile (· == c) → k (.string t) h) → D f [.string s, .int .u8 (c.toNat : Int)] h k kp
theorem u8_eq {a b : UInt8} : ((a.toNat : Int) = (b.toNat : Int)) ↔ a = b := by
  constructor
  · intro h
    exact UInt8.toNat_inj.mp (by omega)
  · rintro rfl; rfl
theorem spec40 {D : Orc} (c : Cl40 D) : SpecTrimLB D 40 := by
  intro s b h k kp hs hk
  refine c _ _ _ _ _ ?_
  unfold F40
  simp only [strW_string, intK_int]
  intro I hI
  have key : ∀ n : Nat, ∀ t : ByteArray, t.size = n → t.size < 2 ^ 62 → (bts t).dropWhile (· == b) = (bts s).dropWhile (· == b) → I [.string t, .int .u8 (b.toNat : Int)] h := by
    intro n
    induction n using Nat.strongRecOn with
    | _ n ih =>
      intro t ht hts he
      refine hI _ _ _ ?_
      unfold round40_1
      simp only [strW_string, intK_int]
      rw [cond_dec]
      refine ⟨fun h1 => ?_, fun h1 => ?_⟩
      · refine strAt_rule (by omega) (by omega) fun x hx => ?_
        rw [cond_eq]
        have hcons : bts t = x :: (bts t).drop 1 := by
          cases hbt : bts t with
          | nil => rw [hbt] at hx; simp at hx
          | cons y l => rw [hbt] at hx; simp at hx; subst hx; rfl
        refine ⟨fun h2 => ?_, fun h2 => ?_⟩
        · have hxb := u8_eq.mp h2
          refine strTail_rule (by omega) (by omega) fun u hu => ?_
          have hus : u.size = t.size - 1 := by
            rw [← bts_len, hu, List.length_drop, bts_len]; rfl
          refine ih u.size (by omega) u rfl (by omega) ?_
          rw [hu, ← he, hcons, List.dropWhile_cons, if_pos (by simpa using hxb)]
          rfl
        · simp only [xs_e, nth0, Nat.beq_refl, cond_true, strW_string]
          refine hk t ?_
          rw [← he, hcons, List.dropWhile_cons, if_neg (by
            intro h3; exact h2 (u8_eq.mpr (by simpa using h3)))]
      · simp only [xs_e, nth0, Nat.beq_refl, cond_true, strW_string]
        refine hk t ?_
        have : bts t = [] := List.length_eq_zero_iff.mp (by rw [bts_len]; omega)
        rw [← he, this]; rfl
  exact key s.size s rfl hs rfl
end Go.Proofs.YtkgjpdadeakacaaDoor.Am

namespace Go.Proofs.YtkgjpdadeakacaaDoor.Am
open Go Go.Proofs
set_option linter.unusedVariables false
set_option linter.unusedSimpArgs false

theorem cond_beq_nil {s : ByteArray} {A B : Prop} : cond (s.toList == (ByteArray.mk #[]).toList) A B ↔ (bts s = [] → A) ∧ (bts s ≠ [] → B) := by
  rw [toList_eq, toList_eq, cond_split]
  simp [bts]
def SpecTrimLeft0 (D : Orc) (f : Nat) : Prop := ∀ (s : ByteArray) h (k : Kv) kp, s.size < 2 ^ 62 → (∀ t, bts t = (bts s).dropWhile (· == 48) → k (.string t) h) → D f [.string s, .string (ByteArray.mk #[48])] h k kp
theorem spec36 {D : Orc} (c : Cl36 D) (t40 : SpecTrimLB D 40) : SpecTrimLeft0 D 36 := by
  intro s h k kp hs hk
  refine c _ _ _ _ _ ?_
  unfold F36
  simp only [strW_string]
  rw [cond_not, cond_beq_nil]
  refine ⟨fun h1 => ?_, fun h1 => ?_⟩
  · unfold j36__2
    simp only [strW_string, boolW_bool, cond_true]
    exact hk s (by rw [h1]; rfl)
  · have e1 : ((ByteArray.mk #[48]).toList == (ByteArray.mk #[]).toList) = false := by rw [toList_eq, toList_eq]; rfl
    rw [e1]
    unfold j36__2
    simp only [strW_string, boolW_bool, cond_false]
    rw [cond_eq]
    refine ⟨fun _ => ?_, fun h => absurd rfl h⟩
    refine strAt_rule (by decide) (by decide) fun x hx => ?_
    have hx48 : x = 48 := by simpa [bts] using hx.symm
    subst hx48
    unfold j36__4
    rw [strW_string, strW_string, boolW_bool, cond_dec]
    refine ⟨fun _ => ?_, fun h => absurd (by decide) h⟩
    refine strAt_rule (by decide) (by decide) fun y hy => ?_
    have hy48 : y = 48 := by simpa [bts] using hy.symm
    subst hy48
    exact t40 s 48 _ _ _ hs fun t ht => ⟨t, rfl, hk t ht⟩

/-- A row of bytes in a block of its own. -/
structure Yb (h0 h : H) (s : Value) (l : List UInt8) : Prop where
  ext : Ext h0 h
  buf : Buf h0 h s (U8 l)
  small : l.length < 2 ^ 40
theorem U8_len (l : List UInt8) : (U8 l).length = l.length := by simp [U8]
theorem U8_set (l : List UInt8) (n : Nat) (x : UInt8) : (U8 l).set n (.int .u8 (x.toNat : Int)) = U8 (l.set n x) := by simp [U8, List.map_set]
theorem U8_app (l m : List UInt8) : U8 l ++ U8 m = U8 (l ++ m) := by simp [U8]
theorem Yb.len {h0 h : H} {s : Value} {l : List UInt8} (r : Yb h0 h s l) {k : Nat → Prop} : lenW s k ↔ k l.length := by rw [r.buf.row.len, U8_len]
theorem Yb.at_ {h0 h : H} {s : Value} {l : List UInt8} (r : Yb h0 h s l) {n : Int} (i : Nat) (hn : n = (i : Int)) (hi : i < l.length) {k : Addr → Prop} (hk : ∀ a (x : UInt8), l[i]? = some x → rd h a = some (.int .u8 (x.toNat : Int)) → k a) : slAtW s n 1 k := by
  subst hn
  refine r.buf.row.at_ (by omega) (by rw [U8_len]; omega) fun a v hv ha => ?_
  rw [Int.toNat_natCast] at hv
  simp only [U8, List.getElem?_map, Option.map_eq_some_iff] at hv
  obtain ⟨x, hx, rfl⟩ := hv
  exact hk a x hx ha
theorem Yb.put {h0 h : H} {s : Value} {l : List UInt8} (r : Yb h0 h s l) {T O : Prop} (hT : T) (hO : O) {n : Int} (i : Nat) (hn : n = (i : Int)) (hi : i < l.length) {v : Value} {x : UInt8} (hv : v = .int .u8 (x.toNat : Int)) {K : H → Prop} (hk : ∀ h', Yb h0 h' s (l.set i x) → K h') :
    slAtW s n 1 (fun a => O ∧ T ∧ ∃ h', wr1 h a v = some h' ∧ K h') := by
  subst hn hv
  refine r.buf.put (by rw [U8_len]; exact hi) fun a h' hw he hb => ⟨hO, hT, h', hw, hk h' ⟨he h0 r.ext fun _ h => h, ?_, by simpa using r.small⟩⟩
  rw [U8_set] at hb; exact hb

def SpecReverse (D : Orc) (f : Nat) : Prop := ∀ s l h0 h (k : Kv) kp, Yb h0 h s l → (∀ h', Yb h0 h' s l.reverse → k (.tuple #[]) h') → D f [s] h k kp
/-- Two places change. -/
theorem rev_step {l : List UInt8} {i : Nat} {o : List UInt8} (ho : ∀ j, j < l.length → o[j]? = if j < i ∨ l.length - i ≤ j then l[l.length - 1 - j]? else l[j]?) (hol : o.length = l.length) (hi : i < l.length - 1 - i) {x y : UInt8} (hx : o[l.length - 1 - i]? = some x) (hy : o[i]? = some y) :
    ∀ j, j < l.length → ((o.set i x).set (l.length - 1 - i) y)[j]? = if j < i + 1 ∨ l.length - (i + 1) ≤ j then l[l.length - 1 - j]? else l[j]? := by
  intro j hj
  rw [List.getElem?_set, List.getElem?_set, List.length_set, hol]
  by_cases h1 : l.length - 1 - i = j
  · rw [if_pos h1, if_pos (by omega), if_pos (by omega)]
    rw [← hy, ho i (by omega), if_neg (by omega)]
    congr 1; omega
  · rw [if_neg h1]
    by_cases h2 : i = j
    · rw [if_pos h2, if_pos (by omega), if_pos (by omega)]
      subst h2
      rw [← hx, ho _ (by omega), if_neg (by omega)]
    · rw [if_neg h2, ho j hj]
      by_cases h3 : j < i ∨ l.length - i ≤ j
      · rw [if_pos h3, if_pos (by omega)]
      · rw [if_neg h3, if_neg (by omega)]
theorem spec35 {D : Orc} (c : Cl35 D) : SpecReverse D 35 := by
  intro s l h0 h k kp r hk
  refine c _ _ _ _ ?_
  unfold F35
  have hs := r.small
  rw [r.len, i64_id (by omega) (by omega)]
  intro I hI
  have key : ∀ d i : Nat, ∀ (o : List UInt8) (h1 : H), 2 * i + d = l.length + 2 → o.length = l.length → Yb h0 h1 s o → (∀ j, j < l.length → o[j]? = if j < i ∨ l.length - i ≤ j then l[l.length - 1 - j]? else l[j]?) →
      I [s, .int .i64 (i : Int), .int .i64 ((l.length : Int) - 1 - (i : Int))] h1 := by
    intro d
    induction d using Nat.strongRecOn with
    | _ d ih =>
      intro i o h1 hd ho r hj
      refine hI _ _ _ _ ?_
      unfold round35_1
      simp only [intK_int]
      rw [cond_dec]
      refine ⟨fun h2 => ?_, fun h2 => ?_⟩
      · refine r.at_ (l.length - 1 - i) (by omega) (by omega) fun a x hx ha => ⟨_, ha, ?_⟩
        refine r.at_ i rfl (by omega) fun a y hy hb => ⟨_, hb, ?_⟩
        refine r.put (by trivial) (by trivial) (x := x) i rfl (by omega) rfl fun h3 r3 => ?_
        refine r3.put (by trivial) (by trivial) (x := y) (l.length - 1 - i) (by omega) (by simp; omega) rfl fun h4 r4 => ?_
        rw [i64_id (by omega) (by omega), i64_id (by omega) (by omega), show (i : Int) + 1 = ((i + 1 : Nat) : Int) by omega, show (l.length : Int) - 1 - (i : Int) - 1 = (l.length : Int) - 1 - ((i + 1 : Nat) : Int) by omega]
        exact ih (d - 2) (by omega) (i + 1) _ h4 (by omega) (by simpa using ho) r4 (rev_step hj ho (by omega) hx hy)
      · simp only [xs_e, Nat.beq_refl, cond_true]
        refine hk h1 ?_
        have : o = l.reverse := by
          apply List.ext_getElem?
          intro j
          by_cases hjl : j < l.length
          · rw [hj j hjl, List.getElem?_reverse hjl]
            split
            · rfl
            · congr 1; omega
          · rw [List.getElem?_eq_none (by omega), List.getElem?_eq_none (by simp; omega)]
        rw [← this]; exact r
  have := key (l.length + 2) 0 l h (by omega) rfl r (fun j hj => by rw [if_neg (by omega)])
  simpa using this
end Go.Proofs.YtkgjpdadeakacaaDoor.Am

namespace Go.Proofs.YtkgjpdadeakacaaDoor.Am
open Go Go.Proofs
set_option linter.unusedVariables false
set_option linter.unusedSimpArgs false

def tab (q : Nat → Bool) : List Value := (List.range 256).map fun i => .bool (q i)
theorem tab_len (q : Nat → Bool) : (tab q).length = 256 := by simp [tab]
theorem tab_get (q : Nat → Bool) {i : Nat} (hi : i < 256) : (tab q)[i]? = some (.bool (q i)) := by simp [tab, hi]
theorem tab_one (q : Nat → Bool) : (tab q).all one = true := by simp [tab, one]
theorem tab_set (q : Nat → Bool) {x : Nat} : (tab q).set x (.bool true) = tab fun i => q i || i == x := by
  apply List.ext_getElem?
  intro i
  rw [List.getElem?_set]
  by_cases hi : i < 256
  · rw [tab_get _ hi, tab_get _ hi, tab_len]
    by_cases h : x = i
    · subst h; simp [hi]
    · rw [if_neg h]
      have : (i == x) = false := by simpa using Ne.symm h
      rw [this, Bool.or_false]
  · rw [List.getElem?_eq_none (by rw [tab_len]; omega), List.getElem?_eq_none (by rw [tab_len]; omega), tab_len]
    by_cases h : x = i
    · rw [if_pos h, if_neg (by omega)]
    · rw [if_neg h]
theorem tab_congr {q r : Nat → Bool} (h : ∀ i, i < 256 → q i = r i) : tab q = tab r := by
  apply List.ext_getElem?
  intro i
  by_cases hi : i < 256
  · rw [tab_get _ hi, tab_get _ hi, h i hi]
  · rw [List.getElem?_eq_none (by rw [tab_len]; omega), List.getElem?_eq_none (by rw [tab_len]; omega)]
theorem rdN_all {h : H} {b n : Nat} {l : List Value} (hb : h b = some (.cells l)) (hn : l.length = n) : rdN h ⟨b, 0, none⟩ n = some l := by
  subst hn
  simp [rdN, hb, rowOf]
theorem wr_all {h : H} {b : Nat} {l ws : List Value} (hb : h b = some (.cells l)) (hn : l.length = ws.length) : wr h ⟨b, 0, none⟩ ws = some (h.set b (.cells ws)) := by
  simp only [wr, hb]
  rw [if_pos (by simp; omega)]
  simp only [splice, List.take_zero, List.nil_append, Nat.zero_add]
  rw [List.drop_eq_nil_of_le (by omega), List.append_nil]

def SpecHas (D : Orc) (f : Nat) : Prop := ∀ b q (x : UInt8) h (k : Kv) kp, h b = some (.cells (tab q)) → k (.bool (q x.toNat)) h → D f [.pointer (some ⟨b, 0, none⟩), .int .u8 (x.toNat : Int)] h k kp
theorem spec47 {D : Orc} (c : Cl47 D) : SpecHas D 47 := by
  intro b q x h k kp hb hk
  refine c _ _ _ _ _ ?_
  unfold F47
  have hx : x.toNat < 256 := x.toNat_lt
  simp only [intK_int]
  refine ⟨rfl, by omega, by omega, q x.toNat, ?_, hk⟩
  rw [add_at]
  simp only [rd, hb, rowOf, Option.bind_some, Nat.mul_one, Int.toNat_natCast, Nat.zero_add]
  exact tab_get q hx

def SpecSet (D : Orc) (f : Nat) : Prop := ∀ (cut : ByteArray) h (k : Kv) kp, (∀ b ∈ bts cut, b.toNat < 128) → cut.size < 2 ^ 40 →
  (∀ h', Ext h h' → k (.tuple #[.agg (tab fun i => (bts cut).any (·.toNat == i)).toArray, .bool true]) h') → D f [.string cut] h k kp
set_option maxRecDepth 100000 in
theorem spec41 {D : Orc} (c : Cl41 D) : SpecSet D 41 := by
  intro cut h k kp ha hs hk
  refine c _ _ _ _ ?_
  unfold F41
  rw [strW_string]
  intro b hb
  have e0 : h.set b (.cells (tab fun i => ((bts cut).take 0).any (·.toNat == i))) = h.set b (.cells (tab fun _ => false)) := rfl
  intro I hI
  have key : ∀ d j : Nat, j + d = cut.size → I [.string cut, .pointer (some ⟨b, 0, none⟩), .int .i64 (j : Int)] (h.set b (.cells (tab fun i => ((bts cut).take j).any (·.toNat == i)))) := by
    intro d
    induction d with
    | zero =>
      intro j hj
      refine hI _ _ _ _ ?_
      unfold round41_2
      simp only [strW_string, intK_int]
      rw [cond_dec]
      refine ⟨fun x => absurd x (by omega), fun _ => ?_⟩
      simp only [xs_e, nth0, Nat.beq_refl, cond_true, ptrW_ptr]
      refine ⟨_, rdN_all set_here (tab_len _), tab_len _, tab_one _, _, wr_all set_here rfl, _, rdN_all set_here (tab_len _), ?_⟩
      have e1 : (tab fun i => ((bts cut).take j).any (·.toNat == i)) = tab fun i => (bts cut).any (·.toNat == i) := by
        rw [List.take_of_length_le (by rw [bts_len]; omega)]
      rw [e1]
      exact hk _ ((Ext.new hb).trans (by rw [set_twice]; exact Ext.refl _))
    | succ d ih =>
      intro j hj
      refine hI _ _ _ _ ?_
      unfold round41_2
      simp only [strW_string, intK_int]
      rw [cond_dec]
      refine ⟨fun _ => ?_, fun x => absurd (show (j : Int) < (cut.size : Int) by omega) x⟩
      refine strAt_rule (by omega) (by omega) fun x hx => ?_
      rw [Int.toNat_natCast] at hx
      have hx128 := ha x (List.mem_of_getElem? hx)
      rw [cond_dec]
      refine ⟨fun h1 => absurd h1 (by omega), fun _ => ?_⟩
      simp only [ptrW_ptr]
      refine ⟨by omega, by omega, by trivial, by trivial, ?_, ?_, ?_⟩
      · exact h.set b (.cells (tab fun i => ((bts cut).take (j + 1)).any (·.toNat == i)))
      · rw [add_at]
        simp only [wr1, set_here, Int.toNat_natCast, Nat.mul_one, Nat.zero_add]
        rw [if_pos (by rw [tab_len]; omega), tab_set, set_twice]
        congr 3
        apply tab_congr
        intro i hi
        rw [List.take_add_one, hx, List.any_append]
        simp [Bool.beq_eq_decide_eq, eq_comm]
      · rw [i64_id (by omega) (by omega), show (j : Int) + 1 = ((j + 1 : Nat) : Int) by omega]
        exact ih (j + 1) (by omega)
  have := key cut.size 0 (by omega)
  exact this

def rtrim (q : UInt8 → Bool) (l : List UInt8) : List UInt8 := (l.reverse.dropWhile q).reverse
def SpecTrimLA (D : Orc) (f : Nat) : Prop := ∀ (s : ByteArray) b q h (k : Kv) kp, s.size < 2 ^ 62 → h b = some (.cells (tab q)) → (∀ t, bts t = (bts s).dropWhile (fun x => q x.toNat) → k (.string t) h) → D f [.string s, .pointer (some ⟨b, 0, none⟩)] h k kp
def SpecTrimRA (D : Orc) (f : Nat) : Prop := ∀ (s : ByteArray) b q h (k : Kv) kp, s.size < 2 ^ 62 → h b = some (.cells (tab q)) → (∀ t, t.size ≤ s.size → bts t = rtrim (fun x => q x.toNat) (bts s) → k (.string t) h) → D f [.string s, .pointer (some ⟨b, 0, none⟩)] h k kp
theorem spec42 {D : Orc} (c : Cl42 D) (g : SpecHas D 47) : SpecTrimLA D 42 := by
  intro s b q h k kp hs hb hk
  refine c _ _ _ _ _ ?_
  unfold F42
  simp only [strW_string]
  intro I hI
  have key : ∀ n : Nat, ∀ t : ByteArray, t.size = n → t.size < 2 ^ 62 → (bts t).dropWhile (fun x => q x.toNat) = (bts s).dropWhile (fun x => q x.toNat) → I [.string t, .pointer (some ⟨b, 0, none⟩)] h := by
    intro n
    induction n using Nat.strongRecOn with
    | _ n ih =>
      intro t ht hts he
      refine hI _ _ _ ?_
      unfold round42_1
      simp only [strW_string]
      rw [cond_dec]
      refine ⟨fun h1 => ?_, fun h1 => ?_⟩
      · refine strAt_rule (by omega) (by omega) fun x hx => ?_
        refine g _ _ _ _ _ _ hb ⟨_, rfl, ?_⟩
        have hcons : bts t = x :: (bts t).drop 1 := by
          cases hbt : bts t with
          | nil => rw [hbt] at hx; simp at hx
          | cons y l => rw [hbt] at hx; simp at hx; subst hx; rfl
        rw [cond_not, cond_split]
        refine ⟨fun h2 => ?_, fun h2 => ?_⟩
        · refine strTail_rule (by omega) (by omega) fun u hu => ?_
          have hus : u.size = t.size - 1 := by
            rw [← bts_len, hu, List.length_drop, bts_len]; rfl
          refine ih u.size (by omega) u rfl (by omega) ?_
          rw [hu, ← he, hcons, List.dropWhile_cons, if_pos h2]
          rfl
        · simp only [xs_e, nth0, Nat.beq_refl, cond_true, strW_string]
          refine hk t ?_
          rw [← he, hcons, List.dropWhile_cons, if_neg (by rw [h2]; decide)]
      · simp only [xs_e, nth0, Nat.beq_refl, cond_true, strW_string]
        refine hk t ?_
        have : bts t = [] := List.length_eq_zero_iff.mp (by rw [bts_len]; omega)
        rw [← he, this]; rfl
  exact key s.size s rfl hs rfl
theorem spec45 {D : Orc} (c : Cl45 D) (g : SpecHas D 47) : SpecTrimRA D 45 := by
  intro s b q h k kp hs hb hk
  refine c _ _ _ _ _ ?_
  unfold F45
  simp only [strW_string]
  intro I hI
  have key : ∀ n : Nat, ∀ t : ByteArray, t.size = n → t.size ≤ s.size → rtrim (fun x => q x.toNat) (bts t) = rtrim (fun x => q x.toNat) (bts s) → I [.string t, .pointer (some ⟨b, 0, none⟩)] h := by
    intro n
    induction n using Nat.strongRecOn with
    | _ n ih =>
      intro t ht hts he
      refine hI _ _ _ ?_
      unfold round45_1
      simp only [strW_string]
      rw [cond_dec]
      refine ⟨fun h1 => ?_, fun h1 => ?_⟩
      · rw [i64_id (by omega) (by omega)]
        refine strAt_rule (by omega) (by omega) fun x hx => ?_
        refine g _ _ _ _ _ _ hb ⟨_, rfl, ?_⟩
        rw [show ((t.size : Int) - 1).toNat = t.size - 1 by omega] at hx
        have hcons : bts t = (bts t).take (t.size - 1) ++ [x] := by
          have hl : (bts t).length = t.size - 1 + 1 := by rw [bts_len]; omega
          have := List.take_add_one (l := bts t) (i := t.size - 1)
          rw [hx, List.take_of_length_le (by omega)] at this
          simpa using this
        have hrev : (bts t).reverse = x :: ((bts t).take (t.size - 1)).reverse := by
          conv => lhs; rw [hcons]
          simp
        rw [cond_not, cond_split]
        refine ⟨fun h2 => ?_, fun h2 => ?_⟩
        · refine strHead_rule (by omega) (by omega) fun u hu => ?_
          rw [show ((t.size : Int) - 1).toNat = t.size - 1 by omega] at hu
          have hus : u.size = t.size - 1 := by
            rw [← bts_len, hu, List.length_take, bts_len]; omega
          refine ih u.size (by omega) u rfl (by omega) ?_
          rw [hu, ← he]
          unfold rtrim
          rw [hrev, List.dropWhile_cons, if_pos h2]
        · simp only [xs_e, nth0, Nat.beq_refl, cond_true, strW_string]
          refine hk t hts ?_
          rw [← he]
          unfold rtrim
          rw [hrev, List.dropWhile_cons, if_neg (by rw [h2]; decide), ← hrev, List.reverse_reverse]
      · simp only [xs_e, nth0, Nat.beq_refl, cond_true, strW_string]
        refine hk t hts ?_
        have : bts t = [] := List.length_eq_zero_iff.mp (by rw [bts_len]; omega)
        rw [← he, this]; rfl
  exact key s.size s rfl (Nat.le_refl _) rfl
end Go.Proofs.YtkgjpdadeakacaaDoor.Am

namespace Go.Proofs.YtkgjpdadeakacaaDoor.Am
open Go Go.Proofs
set_option linter.unusedVariables false
set_option linter.unusedSimpArgs false

def inSet (cut : ByteArray) (x : UInt8) : Bool := (bts cut).any (·.toNat == x.toNat)
def SpecTrimBoth (D : Orc) (f : Nat) : Prop := ∀ (s cut : ByteArray) h (k : Kv) kp, s.size < 2 ^ 62 → (∀ b ∈ bts cut, b.toNat < 128) → 2 ≤ cut.size → cut.size < 2 ^ 40 →
  (∀ t h', Ext h h' → bts t = (rtrim (inSet cut) (bts s)).dropWhile (inSet cut) → k (.string t) h') → D f [.string s, .string cut] h k kp
set_option maxRecDepth 100000 in
theorem spec37 {D : Orc} (c : Cl37 D) (t41 : SpecSet D 41) (t45 : SpecTrimRA D 45) (t42 : SpecTrimLA D 42) : SpecTrimBoth D 37 := by
  intro s cut h k kp hs ha h2 hcut hk
  refine c _ _ _ _ _ ?_
  unfold F37
  rw [strW_string, strW_string, cond_not, cond_beq_nil]
  refine ⟨fun h1 => ?_, fun h1 => ?_⟩
  · unfold j37__2
    rw [strW_string, strW_string, boolW_bool, cond_true]
    exact hk s h (Ext.refl h) (by rw [h1]; rfl)
  · have e1 : (cut.toList == (ByteArray.mk #[]).toList) = false := by
      rw [toList_eq, toList_eq]
      cases hc : bts cut with
      | nil => rw [← bts_len, hc] at h2; simp at h2
      | cons x l => rfl
    rw [e1]
    unfold j37__2
    rw [strW_string, strW_string, boolW_bool, cond_false, cond_eq]
    refine ⟨fun h => absurd h (by omega), fun _ => ?_⟩
    unfold j37__4
    rw [strW_string, strW_string, boolW_bool, cond_false]
    refine t41 _ _ _ _ ha hcut fun h1 he => ⟨_, true, rfl, ?_⟩
    intro b hb
    rw [ptrW_ptr]
    refine ⟨tab_len _, tab_one _, _, wr_all set_here (by rw [tab_len]; rfl), ?_⟩
    rw [cond_true, set_twice]
    refine t45 _ _ _ _ _ _ hs set_here fun t ht hbt => ⟨t, rfl, ?_⟩
    refine t42 _ _ _ _ _ _ (by omega) set_here fun u hu => ⟨u, rfl, ?_⟩
    refine hk u _ (he.trans (Ext.new hb)) ?_
    rw [hu, hbt]; rfl

/-- Nothing is left just if all is of the set. -/
theorem trim_nil {q : UInt8 → Bool} {l : List UInt8} : (rtrim q l).dropWhile q = [] ↔ l.all q = true := by
  have key : ∀ m : List UInt8, m.dropWhile q = [] ↔ m.all q = true := by
    intro m
    induction m with
    | nil => simp
    | cons x m ih =>
      rw [List.dropWhile_cons]
      by_cases hx : q x = true
      · rw [if_pos hx, ih]; simp [hx]
      · rw [if_neg hx]; simp [hx]
  constructor
  · intro h
    rw [key] at h
    unfold rtrim at h
    rw [List.all_reverse] at h
    have h3 : l.reverse.dropWhile q = [] := by
      cases hd : l.reverse.dropWhile q with
      | nil => rfl
      | cons x m =>
        have h4 := List.head_dropWhile_not q (l := l.reverse) (by rw [hd]; simp)
        rw [hd] at h
        simp only [hd, List.head_cons] at h4
        simp [h4] at h
    rw [key] at h3
    simpa using h3
  · intro h
    have h3 : l.reverse.dropWhile q = [] := by rw [key]; simpa using h
    unfold rtrim
    rw [h3]; rfl
end Go.Proofs.YtkgjpdadeakacaaDoor.Am
