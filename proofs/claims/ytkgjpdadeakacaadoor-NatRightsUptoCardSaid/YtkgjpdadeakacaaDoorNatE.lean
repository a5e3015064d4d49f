/-
  The naturals' functions: comparing.
-/
import Derived.Test.YtkgjpdadeakacaaDoorNatD
namespace Go.Proofs.YtkgjpdadeakacaaDoor.Am
open Go Go.Proofs Nats
set_option linter.unusedVariables false
set_option linter.unusedSimpArgs false

def cmpI (a b : Int) : Int := if a < b then -1 else if a > b then 1 else 0
def SpecNaN (j : IntKind) (D : Orc) (f : Nat) : Prop := ∀ (x : Int) h (k : Kv) kp, k (.bool false) h → D f [.int j x] h k kp
def SpecCompare (j : IntKind) (D : Orc) (f : Nat) : Prop := ∀ (x y : Int) h (k : Kv) kp, k (.int .i64 (cmpI x y)) h → D f [.int j x, .int j y] h k kp
theorem cmp_core {x y : Int} {h : H} {k : Kv} (hk : k (.int .i64 (cmpI x y)) h) : cond (decide (x < y)) (k (Value.int IntKind.i64 (-1 : Int)) h) (cond (decide (x > y)) (k (Value.int IntKind.i64 (1 : Int)) h) (k (Value.int IntKind.i64 (0 : Int)) h)) := by
  unfold cmpI at hk
  rw [cond_dec, cond_dec]
  by_cases h1 : x < y
  · rw [if_pos h1] at hk
    exact ⟨fun _ => hk, fun h => absurd h1 h⟩
  · rw [if_neg h1] at hk
    refine ⟨fun h => absurd h h1, fun _ => ?_⟩
    by_cases h2 : x > y
    · rw [if_pos h2] at hk; exact ⟨fun _ => hk, fun h => absurd h2 h⟩
    · rw [if_neg h2] at hk; exact ⟨fun h => absurd h h2, fun _ => hk⟩
theorem spec38 {D : Orc} (c : Cl38 D) : SpecNaN .i64 D 38 := by
  intro x h k kp hk
  refine c _ _ _ _ ?_
  unfold F38
  simp only [intK_int]
  simpa using hk
theorem spec39 {D : Orc} (c : Cl39 D) : SpecNaN .u32 D 39 := by
  intro x h k kp hk
  refine c _ _ _ _ ?_
  unfold F39
  simp only [intK_int]
  simpa using hk
theorem spec33 {D : Orc} (c : Cl33 D) (t : SpecNaN .i64 D 38) : SpecCompare .i64 D 33 := by
  intro x y h k kp hk
  refine c _ _ _ _ _ ?_
  unfold F33
  simp only [intK_int]
  exact t _ _ _ _ ⟨_, rfl, t _ _ _ _ ⟨_, rfl, cmp_core hk⟩⟩
theorem spec34 {D : Orc} (c : Cl34 D) (t : SpecNaN .u32 D 39) : SpecCompare .u32 D 34 := by
  intro x y h k kp hk
  refine c _ _ _ _ _ ?_
  unfold F34
  simp only [intK_int]
  exact t _ _ _ _ ⟨_, rfl, t _ _ _ _ ⟨_, rfl, cmp_core hk⟩⟩

/-- Numbers held against each other, by their digits from the top. -/
def SpecCmp (D : Orc) (f : Nat) : Prop := ∀ a b l m h k kp, Nr h a l → Nr h b m →
  (both l m = true → k (.tuple #[.int .i64 (cmpI (val l) (val m)), .int .i64 0]) h) → (both l m = false → k (.tuple #[.int .i64 0, .int .i64 10]) h) → D f [a, b] h k kp
theorem cmpI_of_lt {a b : Nat} (h : a < b) : cmpI (a : Int) (b : Int) = -1 := by unfold cmpI; rw [if_pos (by omega)]
theorem cmpI_of_gt {a b : Nat} (h : b < a) : cmpI (a : Int) (b : Int) = 1 := by unfold cmpI; rw [if_neg (by omega), if_pos (by omega)]
theorem cmpI_self (a : Int) : cmpI a a = 0 := by unfold cmpI; rw [if_neg (by omega), if_neg (by omega)]
theorem val_len_lt {l m : List Nat} (hl : Ok l) (hm : right m) (h : l.length < m.length) : val l < val m := by
  have h1 := val_lt hl
  have hm0 : m ≠ [] := by rintro rfl; simp at h
  have h2 := limbs_last (val m)
  rw [← hm.2] at h2
  have h3 : B ^ (m.length - 1) ≤ val m := by
    have e : val m = val (m.take (m.length - 1)) + B ^ (m.length - 1) * dig m (m.length - 1) := by
      rw [← val_take_succ, val_full (by omega)]
    rcases h2 with h2 | h2
    · exact absurd h2 hm0
    · rw [List.getLast?_eq_getElem?] at h2
      have hx : m[m.length - 1]? = some m[m.length - 1] := List.getElem?_eq_getElem (by omega)
      rw [hx] at h2
      have hd : dig m (m.length - 1) ≠ 0 := by
        rw [dig_of hx]
        intro h0; rw [h0] at h2; exact h2 rfl
      have : B ^ (m.length - 1) * 1 ≤ B ^ (m.length - 1) * dig m (m.length - 1) := Nat.mul_le_mul_left _ (by omega)
      omega
  exact Nat.lt_of_lt_of_le h1 (Nat.le_trans (Nat.pow_le_pow_right (by decide) (by omega)) h3)
/-- Above the first i digits all are the same, the digit there is less. -/
theorem val_top_lt {l m : List Nat} {i : Nat} (hl : Ok l) (hm : Ok m) (hlen : l.length = m.length) (hd : ∀ j, i < j → l[j]? = m[j]?) (hi : dig l i < dig m i) : val l < val m := by
  have key : ∀ d, val (l.take (i + 1 + d)) < val (m.take (i + 1 + d)) := by
    intro d
    induction d with
    | zero =>
      rw [Nat.add_zero, val_take_succ, val_take_succ]
      have h1 := val_take_lt hl i
      have h2 : B ^ i * (dig l i + 1) ≤ B ^ i * dig m i := Nat.mul_le_mul_left _ hi
      rw [Nat.mul_add, Nat.mul_one] at h2
      omega
    | succ d ih =>
      rw [show i + 1 + (d + 1) = (i + 1 + d) + 1 by omega, val_take_succ, val_take_succ]
      have : dig l (i + 1 + d) = dig m (i + 1 + d) := by unfold dig; rw [hd _ (by omega)]
      rw [this]; omega
  have := key l.length
  rw [val_full (by omega), val_full (by omega)] at this
  exact this

theorem spec22 {D : Orc} (c : Cl22 D) (g : SpecRight D 11) (t33 : SpecCompare .i64 D 33) (t34 : SpecCompare .u32 D 34) : SpecCmp D 22 := by
  intro a b l m h k kp r q hk1 hk2
  refine c _ _ _ _ _ ?_
  unfold F22
  refine two_right g r q (J := fun v h => j22__2 D k kp a b v h) ?_
  unfold j22__2
  rw [boolW_bool, cond_split]
  refine ⟨fun h1 => hk2 (by simpa using h1), fun h1 => ?_⟩
  have hb : both l m = true := by simpa using h1
  have hk := hk1 hb
  obtain ⟨hr, hq⟩ := right_small hb
  have h64 := hr.1
  have h65 := hq.1
  rw [r.len, q.len]
  refine t33 _ _ _ _ _ ⟨_, rfl, ?_⟩
  rw [cond_ne]
  refine ⟨fun hne => ?_, fun heq => ?_⟩
  · have : cmpI (l.length : Int) (m.length : Int) = cmpI (val l) (val m) := by
      rcases Nat.lt_trichotomy l.length m.length with h2 | h2 | h2
      · rw [cmpI_of_lt h2, cmpI_of_lt (val_len_lt r.ok hq h2)]
      · rw [h2, cmpI_self] at hne; exact absurd rfl hne
      · rw [cmpI_of_gt h2, cmpI_of_gt (val_len_lt q.ok hr h2)]
    rw [this]; exact hk
  · have hlen : l.length = m.length := by
      rcases Nat.lt_trichotomy l.length m.length with h2 | h2 | h2
      · rw [cmpI_of_lt h2] at heq; cases heq
      · exact h2
      · rw [cmpI_of_gt h2] at heq; cases heq
    rw [r.len, i64_id (by omega) (by omega)]
    intro I hI
    have key : ∀ n : Nat, n ≤ l.length → (∀ j, n ≤ j → l[j]? = m[j]?) → I [a, b, .int .i64 ((n : Int) - 1)] h := by
      intro n
      induction n with
      | zero =>
        intro hn hj
        refine hI _ _ _ _ ?_
        unfold round22_7
        rw [intK_int, cond_dec]
        refine ⟨fun x => absurd x (by omega), fun _ => ?_⟩
        simp only [xs_e, Nat.beq_refl, cond_true]
        have : l = m := List.ext_getElem? fun j => hj j (by omega)
        subst this
        rw [cmpI_self] at hk; exact hk
      | succ n ih =>
        intro hn hj
        refine hI _ _ _ _ ?_
        unfold round22_7
        rw [intK_int, cond_dec, show ((n + 1 : Nat) : Int) - 1 = (n : Int) by omega]
        refine ⟨fun _ => ?_, fun x => absurd (show (n : Int) ≥ 0 by omega) x⟩
        refine r.at_ (by omega) (by omega) fun p x hx hxB ha => ⟨_, ha, ?_⟩
        refine q.at_ (by omega) (by omega) fun p' y hy hyB hb => ⟨_, hb, ?_⟩
        rw [Int.toNat_natCast] at hx hy
        refine t34 _ _ _ _ _ ⟨_, rfl, ?_⟩
        rw [cond_ne]
        refine ⟨fun hne => ?_, fun heq => ?_⟩
        · simp only [xs_r, nth0, nth1, intK_int]
          have : cmpI (x : Int) (y : Int) = cmpI (val l) (val m) := by
            rcases Nat.lt_trichotomy x y with h2 | h2 | h2
            · rw [cmpI_of_lt h2, cmpI_of_lt (val_top_lt (i := n) r.ok q.ok hlen (fun j hjn => hj j (by omega)) (by rw [dig_of hx, dig_of hy]; exact h2))]
            · rw [h2, cmpI_self] at hne; exact absurd rfl hne
            · rw [cmpI_of_gt h2, cmpI_of_gt (val_top_lt (i := n) q.ok r.ok hlen.symm (fun j hjn => (hj j (by omega)).symm) (by rw [dig_of hx, dig_of hy]; exact h2))]
          rw [this]; exact hk
        · rw [i64_id (by omega) (by omega)]
          refine ih (by omega) fun j hjn => ?_
          by_cases hjn' : j = n
          · subst hjn'
            have hxy : x = y := by
              rcases Nat.lt_trichotomy x y with h2 | h2 | h2
              · rw [cmpI_of_lt h2] at heq; cases heq
              · exact h2
              · rw [cmpI_of_gt h2] at heq; cases heq
            rw [hx, hy, hxy]
          · exact hj j (by omega)
    exact key l.length (Nat.le_refl _) fun j hj => by rw [List.getElem?_eq_none hj, List.getElem?_eq_none (by omega)]

theorem spec23 {D : Orc} (c : Cl23 D) (g : SpecRight D 12) : SpecCmp D 23 := by
  intro a b l m h k kp r q hk1 hk2
  refine c _ _ _ _ _ ?_
  unfold F23
  refine two_right g r q (J := fun v h => j23__2 D k kp a b v h) ?_
  unfold j23__2
  rw [boolW_bool, cond_split]
  refine ⟨fun h1 => hk2 (by simpa using h1), fun h1 => ?_⟩
  have hb : both l m = true := by simpa using h1
  have hk := hk1 hb
  obtain ⟨hr, hq⟩ := right_small hb
  have h64 := hr.1
  have h65 := hq.1
  rw [r.len, q.len, cond_ne]
  refine ⟨fun hne => ?_, fun heq => ?_⟩
  · rw [r.len, q.len, cond_dec]
    refine ⟨fun h2 => ?_, fun h2 => ?_⟩
    · rw [cmpI_of_lt (val_len_lt r.ok hq (by omega))] at hk; exact hk
    · rw [cmpI_of_gt (val_len_lt q.ok hr (by omega))] at hk; exact hk
  · have hlen : l.length = m.length := by omega
    rw [r.len, i64_id (by omega) (by omega)]
    intro I hI
    have key : ∀ n : Nat, n ≤ l.length → (∀ j, n ≤ j → l[j]? = m[j]?) → I [a, b, .int .i64 ((n : Int) - 1)] h := by
      intro n
      induction n with
      | zero =>
        intro hn hj
        refine hI _ _ _ _ ?_
        unfold round23_8
        rw [intK_int, cond_dec]
        refine ⟨fun x => absurd x (by omega), fun _ => ?_⟩
        simp only [xs_e, Nat.beq_refl, cond_true]
        have : l = m := List.ext_getElem? fun j => hj j (by omega)
        subst this
        rw [cmpI_self] at hk; exact hk
      | succ n ih =>
        intro hn hj
        refine hI _ _ _ _ ?_
        unfold round23_8
        rw [intK_int, cond_dec, show ((n + 1 : Nat) : Int) - 1 = (n : Int) by omega]
        refine ⟨fun _ => ?_, fun x => absurd (show (n : Int) ≥ 0 by omega) x⟩
        refine r.at_ (by omega) (by omega) fun p x hx hxB ha => ⟨_, ha, ?_⟩
        refine q.at_ (by omega) (by omega) fun p' y hy hyB hb => ⟨_, hb, ?_⟩
        rw [Int.toNat_natCast] at hx hy
        rw [cond_dec]
        refine ⟨fun h2 => ?_, fun h2 => ?_⟩
        · simp only [xs_r, nth0, nth1, intK_int]
          rw [cmpI_of_lt (val_top_lt (i := n) r.ok q.ok hlen (fun j hjn => hj j (by omega)) (by rw [dig_of hx, dig_of hy]; omega))] at hk
          exact hk
        · refine r.at_ (by omega) (by omega) fun p2 x' hx' _ ha' => ⟨_, ha', ?_⟩
          refine q.at_ (by omega) (by omega) fun p3 y' hy' _ hb' => ⟨_, hb', ?_⟩
          rw [Int.toNat_natCast, hx] at hx'
          rw [Int.toNat_natCast, hy] at hy'
          obtain rfl := Option.some.inj hx'
          obtain rfl := Option.some.inj hy'
          rw [cond_dec]
          refine ⟨fun h3 => ?_, fun h3 => ?_⟩
          · simp only [xs_r, nth0, nth1, intK_int]
            rw [cmpI_of_gt (val_top_lt (i := n) q.ok r.ok hlen.symm (fun j hjn => (hj j (by omega)).symm) (by rw [dig_of hx, dig_of hy]; omega))] at hk
            exact hk
          · rw [i64_id (by omega) (by omega)]
            refine ih (by omega) fun j hjn => ?_
            by_cases hjn' : j = n
            · subst hjn'
              rw [hx, hy, show x = y by omega]
            · exact hj j (by omega)
    exact key l.length (Nat.le_refl _) fun j hj => by rw [List.getElem?_eq_none hj, List.getElem?_eq_none (by omega)]
end Go.Proofs.YtkgjpdadeakacaaDoor.Am
