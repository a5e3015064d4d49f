/-
  Naturals in limbs: plain arithmetic, no program in sight.
-/
namespace Go.Proofs.Nats

abbrev B : Nat := 4294967296
def val : List Nat → Nat
  | [] => 0
  | x :: l => x + B * val l
def limbs (n : Nat) : List Nat := if h : n = 0 then [] else (n % B) :: limbs (n / B)
termination_by n
decreasing_by exact Nat.div_lt_self (Nat.pos_of_ne_zero h) (by decide)
def Ok (l : List Nat) : Prop := ∀ x ∈ l, x < B

theorem limbs_zero : limbs 0 = [] := by rw [limbs]; simp
theorem limbs_pos {n : Nat} (h : n ≠ 0) : limbs n = (n % B) :: limbs (n / B) := by rw [limbs]; simp [h]
theorem val_limbs (n : Nat) : val (limbs n) = n := by
  induction n using Nat.strongRecOn with
  | _ n ih =>
    by_cases h : n = 0
    · subst h; rw [limbs_zero]; rfl
    · rw [limbs_pos h, val, ih (n / B) (Nat.div_lt_self (Nat.pos_of_ne_zero h) (by decide))]
      exact Nat.mod_add_div n B
theorem ok_limbs (n : Nat) : Ok (limbs n) := by
  induction n using Nat.strongRecOn with
  | _ n ih =>
    by_cases h : n = 0
    · subst h; rw [limbs_zero]; intro x hx; simp at hx
    · rw [limbs_pos h]
      intro x hx
      rcases List.mem_cons.mp hx with rfl | hx
      · exact Nat.mod_lt _ (by decide)
      · exact ih (n / B) (Nat.div_lt_self (Nat.pos_of_ne_zero h) (by decide)) x hx
theorem Ok.tail {x : Nat} {l : List Nat} (h : Ok (x :: l)) : Ok l := fun y hy => h y (by simp [hy])
theorem Ok.take {l : List Nat} (h : Ok l) (n : Nat) : Ok (l.take n) := fun y hy => h y (List.mem_of_mem_take hy)
/-- Digits without noughts at the end. -/
theorem limbs_unique : ∀ {l : List Nat}, Ok l → (l = [] ∨ l.getLast? ≠ some 0) → l = limbs (val l)
  | [], _, _ => by rw [val, limbs_zero]
  | x :: l, ok, hl => by
    have hx : x < B := ok x (by simp)
    have htail : l = [] ∨ l.getLast? ≠ some 0 := by
      rcases l with _ | ⟨y, l⟩
      · exact .inl rfl
      · refine .inr fun h0 => ?_
        rcases hl with hl | hl
        · cases hl
        · apply hl; rw [List.getLast?_cons_cons]; exact h0
    have ih := limbs_unique ok.tail htail
    have hne : val (x :: l) ≠ 0 := by
      intro h0
      rw [val] at h0
      have hx0 : x = 0 := by omega
      have hv0 : val l = 0 := by
        have : B * val l = 0 := by omega
        rcases Nat.mul_eq_zero.mp this with h | h
        · exact absurd h (by decide)
        · exact h
      rw [hv0, limbs_zero] at ih
      subst ih hx0
      rcases hl with hl | hl
      · cases hl
      · exact hl rfl
    rw [limbs_pos hne]
    have h1 : val (x :: l) % B = x := by rw [val, Nat.add_mul_mod_self_left, Nat.mod_eq_of_lt hx]
    have h2 : val (x :: l) / B = val l := by rw [val, Nat.add_mul_div_left _ _ (by decide), Nat.div_eq_of_lt hx, Nat.zero_add]
    rw [h1, h2, ← ih]
theorem limbs_last (n : Nat) : limbs n = [] ∨ (limbs n).getLast? ≠ some 0 := by
  induction n using Nat.strongRecOn with
  | _ n ih =>
    by_cases h : n = 0
    · subst h; exact .inl limbs_zero
    · refine .inr ?_
      rw [limbs_pos h]
      rcases ih (n / B) (Nat.div_lt_self (Nat.pos_of_ne_zero h) (by decide)) with h1 | h1
      · rw [h1]
        have h0 : n / B = 0 := by
          have := congrArg val h1
          rw [val_limbs] at this; exact this
        have : n % B = n := Nat.mod_eq_of_lt ((Nat.div_eq_zero_iff_lt (by decide)).mp h0)
        rw [this]
        simpa using h
      · cases hl : limbs (n / B) with
        | nil => rw [hl] at h1; simp at h1
                 have h0 : n / B = 0 := by
                   have := congrArg val hl
                   rw [val_limbs] at this; exact this
                 have : n % B = n := Nat.mod_eq_of_lt ((Nat.div_eq_zero_iff_lt (by decide)).mp h0)
                 rw [this]
                 simpa using h
        | cons y l => rw [hl] at h1; rw [List.getLast?_cons_cons]; exact h1

theorem val_append : ∀ (l m : List Nat), val (l ++ m) = val l + B ^ l.length * val m
  | [], m => by simp [val]
  | x :: l, m => by
    rw [List.cons_append, val, val_append l m, val, List.length_cons, Nat.pow_succ]
    rw [Nat.mul_add, ← Nat.mul_assoc, Nat.mul_comm B (B ^ l.length), Nat.add_assoc]
theorem val_zeros : ∀ {l : List Nat}, (∀ x ∈ l, x = 0) → val l = 0
  | [], _ => rfl
  | x :: l, h => by
    rw [val, h x (by simp), val_zeros fun y hy => h y (by simp [hy])]
    rfl
/-- What is left behind noughts at the end. -/
theorem take_limbs {l : List Nat} (ok : Ok l) {k : Nat} (hz : ∀ j, k ≤ j → ∀ x, l[j]? = some x → x = 0) (hk : k = 0 ∨ ∃ x, l[k - 1]? = some x ∧ x ≠ 0) (hle : k ≤ l.length) : l.take k = limbs (val l) := by
  have hv : val l = val (l.take k) := by
    conv => lhs; rw [← List.take_append_drop k l]
    rw [val_append, val_zeros (l := l.drop k), Nat.mul_zero, Nat.add_zero]
    intro x hx
    obtain ⟨i, hi⟩ := List.getElem?_of_mem hx
    rw [List.getElem?_drop] at hi
    exact hz (k + i) (by omega) x hi
  rw [hv]
  refine limbs_unique (ok.take k) ?_
  rcases hk with rfl | ⟨x, hx, hne⟩
  · exact .inl (by simp)
  · by_cases h0 : k = 0
    · subst h0; exact .inl (by simp)
    · refine .inr ?_
      rw [List.getLast?_eq_getElem?, List.length_take, Nat.min_eq_left hle, List.getElem?_take, if_pos (by omega), hx]
      simpa using hne
/-- Limbs that are a natural. -/
def right (l : List Nat) : Prop := l.length ≤ 64 ∧ l = limbs (val l)
instance (l : List Nat) : Decidable (right l) := inferInstanceAs (Decidable (_ ∧ _))
theorem right_iff {l : List Nat} (ok : Ok l) : right l ↔ l.length ≤ 64 ∧ (l = [] ∨ l.getLast? ≠ some 0) := by
  constructor
  · rintro ⟨h1, h2⟩
    refine ⟨h1, ?_⟩
    have := limbs_last (val l)
    rw [← h2] at this; exact this
  · rintro ⟨h1, h2⟩
    exact ⟨h1, limbs_unique ok h2⟩

/-! ### digits -/
def dig (l : List Nat) (i : Nat) : Nat := l[i]?.getD 0
theorem dig_lt {l : List Nat} (ok : Ok l) (i : Nat) : dig l i < B := by
  unfold dig
  cases h : l[i]? with
  | none => decide
  | some x => exact ok x (List.mem_of_getElem? h)
theorem dig_of {l : List Nat} {i x : Nat} (h : l[i]? = some x) : dig l i = x := by simp [dig, h]
theorem dig_out {l : List Nat} {i : Nat} (h : l.length ≤ i) : dig l i = 0 := by simp [dig, List.getElem?_eq_none h]
theorem val_take_succ (l : List Nat) (i : Nat) : val (l.take (i + 1)) = val (l.take i) + B ^ i * dig l i := by
  by_cases h : i < l.length
  · rw [List.take_add_one, val_append, List.length_take, Nat.min_eq_left (by omega)]
    rw [List.getElem?_eq_getElem h]
    simp [val, dig, h]
  · rw [List.take_of_length_le (by omega), List.take_of_length_le (by omega), dig_out (by omega)]; simp
theorem val_full {l : List Nat} {n : Nat} (h : l.length ≤ n) : val (l.take n) = val l := by rw [List.take_of_length_le h]
theorem take_set_succ {l : List Nat} {i x : Nat} (h : i < l.length) : (l.set i x).take (i + 1) = l.take i ++ [x] := by
  apply List.ext_getElem?
  intro j
  rw [List.getElem?_take, List.getElem?_set, List.getElem?_append, List.length_take, Nat.min_eq_left (by omega)]
  by_cases h1 : j < i
  · rw [if_pos (by omega), if_neg (by omega), if_pos h1, List.getElem?_take, if_pos h1]
  · rw [if_neg h1]
    by_cases h2 : i = j
    · subst h2; simp [h]
    · rw [if_neg (by omega), List.getElem?_eq_none (by simp; omega)]
theorem val_set_take {l : List Nat} {i x : Nat} (h : i < l.length) : val ((l.set i x).take (i + 1)) = val (l.take i) + B ^ i * x := by
  rw [take_set_succ h, val_append, List.length_take, Nat.min_eq_left (by omega)]; simp [val]
theorem Ok.set {l : List Nat} (h : Ok l) {i x : Nat} (hx : x < B) : Ok (l.set i x) := fun y hy => by
  rcases List.mem_or_eq_of_mem_set hy with h1 | rfl
  · exact h y h1
  · exact hx
theorem ok_zeros (n : Nat) : Ok (List.replicate n 0) := fun y hy => by rw [(List.mem_replicate.mp hy).2]; decide
theorem val_lt {l : List Nat} (ok : Ok l) : val l < B ^ l.length := by
  induction l with
  | nil => simp [val]
  | cons x l ih =>
    have h1 := ih ok.tail
    have h2 := ok x (by simp)
    rw [val, List.length_cons, Nat.pow_succ]
    have h3 : B * (val l + 1) ≤ B * B ^ l.length := Nat.mul_le_mul_left _ h1
    have h4 : B * (val l + 1) = B * val l + B := by rw [Nat.mul_add, Nat.mul_one]
    rw [Nat.mul_comm (B ^ l.length) B]
    omega
theorem val_take_lt {l : List Nat} (ok : Ok l) (i : Nat) : val (l.take i) < B ^ i := by
  induction i with
  | zero => simp [val]
  | succ i ih =>
    rw [val_take_succ, Nat.pow_succ]
    have h1 := dig_lt ok i
    have : B ^ i * (dig l i + 1) ≤ B ^ i * B := Nat.mul_le_mul_left _ h1
    rw [Nat.mul_add, Nat.mul_one] at this
    omega
/-- One step of reckoning in digits: t is carried, its rest laid down. -/
theorem carry_step {o c s t p q : Nat} (h : o + p * c = s) (ht : t = c + q) : (o + p * (t % B)) + (p * B) * (t / B) = s + p * q := by
  subst ht
  have h1 : p * ((c + q) % B) + (p * B) * ((c + q) / B) = p * (c + q) := by
    rw [Nat.mul_assoc, ← Nat.mul_add, Nat.mod_add_div]
  rw [Nat.add_assoc, h1, Nat.mul_add, ← h]; omega

theorem val_set_any {l : List Nat} {i x n : Nat} (h : i < l.length) (hn : i < n) : val ((l.set i x).take n) + B ^ i * dig l i = val (l.take n) + B ^ i * x := by
  obtain ⟨d, rfl⟩ : ∃ d, n = i + 1 + d := ⟨n - (i + 1), by omega⟩
  induction d with
  | zero => rw [Nat.add_zero, val_set_take h, val_take_succ]; omega
  | succ d ih =>
    have := ih (by omega)
    rw [show i + 1 + (d + 1) = (i + 1 + d) + 1 by omega, val_take_succ, val_take_succ]
    have e : dig (l.set i x) (i + 1 + d) = dig l (i + 1 + d) := by
      unfold dig
      rw [List.getElem?_set, if_neg (by omega)]
    rw [e]; omega
/-- One step of multiplying: x times a digit y is laid on the digit there. -/
theorem mul_step {v v' c s p x y d t q : Nat} (h : v + p * c = s) (ht : t = c + (x * y + d)) (hv : v' + p * d = v + p * (t % B)) (hq : q = p * B) : v' + q * (t / B) = s + p * (x * y) := by
  subst ht hq
  have h1 : p * ((c + (x * y + d)) % B) + (p * B) * ((c + (x * y + d)) / B) = p * (c + (x * y + d)) := by
    rw [Nat.mul_assoc, ← Nat.mul_add, Nat.mod_add_div]
  have h2 : p * (c + (x * y + d)) = p * c + (p * (x * y) + p * d) := by rw [Nat.mul_add, Nat.mul_add]
  omega
theorem prod_lt {x y : Nat} (hx : x < B) (hy : y < B) : x * y ≤ 18446744065119617025 := by
  have : x * y ≤ 4294967295 * 4294967295 := Nat.mul_le_mul (by have : B = 4294967296 := rfl; omega) (by have : B = 4294967296 := rfl; omega)
  omega

/-- What a sum, a product, of two rows of limbs comes to: digits, and what is wrong. -/
def outcome (ok : Bool) (v : Nat) : List Nat × Int := if ok then (if (limbs v).length ≤ 64 then (limbs v, 0) else ([], 2)) else ([], 10)
def both (l m : List Nat) : Bool := decide (right l) && decide (right m)
end Go.Proofs.Nats
