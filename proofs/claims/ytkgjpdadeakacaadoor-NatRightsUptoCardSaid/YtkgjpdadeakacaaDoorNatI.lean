/-
  Reading a natural: one digit more.
-/
import Derived.Test.YtkgjpdadeakacaaDoorNatH
import Derived.Test.YtkgjpdadeakacaaDoorStrD
namespace Go.Proofs.YtkgjpdadeakacaaDoor.Am
open Go Go.Proofs Nats
set_option linter.unusedVariables false
set_option linter.unusedSimpArgs false

theorem last_ne {o : List Nat} {n : Nat} (ok : Ok o) (ho : o.length = n + 1) (hv : B ^ n ≤ val o) : o.getLast? ≠ some 0 := by
  intro h0
  rw [List.getLast?_eq_getElem?, ho] at h0
  have h1 : val o = val (o.take n) + B ^ n * dig o n := by rw [← val_take_succ, val_full (by omega)]
  have h2 : dig o n = 0 := by rw [dig_of (x := 0) (by simpa using h0)]
  rw [h2, Nat.mul_zero, Nat.add_zero] at h1
  have := val_take_lt ok n
  omega
theorem limbs_low {v n : Nat} (h : (limbs v).length = n + 1) : B ^ n ≤ v := by
  have h1 := limbs_last v
  have hv := val_limbs v
  have e : val (limbs v) = val ((limbs v).take n) + B ^ n * dig (limbs v) n := by rw [← val_take_succ, val_full (by omega)]
  have hx : (limbs v)[n]? = some ((limbs v)[n]'(by omega)) := List.getElem?_eq_getElem (by omega)
  have hd : dig (limbs v) n ≠ 0 := by
    rw [dig_of hx]
    intro h0
    rw [h0] at hx
    rcases h1 with h1 | h1
    · rw [h1] at h; simp at h
    · exact h1 (by rw [List.getLast?_eq_getElem?, h]; simpa using hx)
  have : B ^ n * 1 ≤ B ^ n * dig (limbs v) n := Nat.mul_le_mul_left _ (by omega)
  omega
/-- The digits behind a step: ten times as much and a digit. -/
theorem ten_limbs {v d c : Nat} {o : List Nat} (ok : Ok o) (ho : o.length = (limbs v).length) (hc : c < B) (h : val o + B ^ (limbs v).length * c = d + 10 * v) : (if 0 < c then o ++ [c] else o) = limbs (10 * v + d) := by
  have hv : val (if 0 < c then o ++ [c] else o) = 10 * v + d := by
    by_cases h0 : 0 < c
    · rw [if_pos h0, val_append, ho]; simp only [val, Nat.mul_zero, Nat.add_zero]; omega
    · rw [if_neg h0]
      have : c = 0 := by omega
      subst this; omega
  rw [← hv]
  refine limbs_unique ?_ ?_
  · by_cases h0 : 0 < c
    · rw [if_pos h0]
      intro x hx
      rcases List.mem_append.mp hx with hx | hx
      · exact ok x hx
      · simp only [List.mem_singleton] at hx; omega
    · rw [if_neg h0]; exact ok
  · by_cases h0 : 0 < c
    · rw [if_pos h0]
      refine .inr ?_
      rw [List.getLast?_append]
      simp; omega
    · rw [if_neg h0]
      cases hn : (limbs v).length with
      | zero => exact .inl (List.length_eq_zero_iff.mp (by omega))
      | succ n =>
        refine .inr (last_ne (n := n) ok (by omega) ?_)
        have := limbs_low hn
        have hc0 : c = 0 := by omega
        subst hc0
        omega
theorem limbs_mono {v w : Nat} (h : v ≤ w) : (limbs v).length ≤ (limbs w).length := by
  cases hn : (limbs v).length with
  | zero => omega
  | succ n =>
    have h1 := limbs_low hn
    have h2 := val_lt (ok_limbs w)
    rw [val_limbs] at h2
    have h3 : B ^ n < B ^ (limbs w).length := by omega
    have := (Nat.pow_lt_pow_iff_right (by decide)).mp h3
    omega

/-- The inner loop of reading: ten times as much, and what is carried. -/
theorem ten_step {x c t : Nat} (hc : c < 10) (hx : x < B) (ht : t = c + 10 * x) : t / B < 10 := by
  subst ht
  have hx : x < 4294967296 := hx
  show (c + 10 * x) / 4294967296 < 10
  omega
theorem parse_inner {D : Orc} {h0 : H} {t : ByteArray} {a : Value} {l : List Nat} {i d : Nat} (hl : l.length ≤ 64) (hd : d < 10) {K : Kl}
    (hK : ∀ h2 o c, Nb h0 h2 a o → o.length = l.length → c < 10 → val o + B ^ l.length * c = d + 10 * val l → K (.e 2) [.string t, a, .int .i64 (i : Int), .int .u64 (c : Int)] h2)
    {h1 : H} (nb : Nb h0 h1 a l) :
    loop27_9 D [.string t, a, .int .i64 (i : Int), .int .u64 (d : Int), a, .int .i64 (l.length : Int), .int .i64 (0 : Int)] h1 K := by
  intro I hI
  have hB : B = 4294967296 := rfl
  have key : ∀ e k : Nat, ∀ (o : List Nat) (c : Nat) (h2 : H), k + e = l.length → o.length = l.length → Nb h0 h2 a o → c < 10 → (∀ j, k ≤ j → o[j]? = l[j]?) →
      val (o.take k) + B ^ k * c = d + 10 * val (l.take k) → I [.string t, a, .int .i64 (i : Int), .int .u64 (c : Int), a, .int .i64 (l.length : Int), .int .i64 (k : Int)] h2 := by
    intro e
    induction e with
    | zero =>
      intro k o c h2 hk ho nb hc hj hv
      refine hI _ _ _ _ _ _ _ _ ?_
      unfold round27_9
      simp only [intK_int, strW_string]
      rw [cond_dec]
      refine ⟨fun x => absurd x (by omega), fun _ => ?_⟩
      have hk' : k = l.length := by omega
      subst hk'
      rw [val_full (l := o) (by omega), val_full (l := l) (by omega)] at hv
      exact hK _ _ _ nb ho hc hv
    | succ e ih =>
      intro k o c h2 hk ho nb hc hj hv
      refine hI _ _ _ _ _ _ _ _ ?_
      unfold round27_9
      simp only [intK_int, strW_string]
      rw [cond_dec]
      refine ⟨fun _ => ?_, fun x => absurd (show (k : Int) < (l.length : Int) by omega) x⟩
      refine nb.nr.at_ (by omega) (by omega) fun p x hx hxB ha => ⟨_, ha, ?_⟩
      rw [Int.toNat_natCast] at hx
      have e2 : IntKind.wrap .u64 ((c : Int) + IntKind.wrap .u64 ((10 : Int) * IntKind.wrap .u64 (x : Int))) = ((c + 10 * x : Nat) : Int) := by
        rw [u64_id (n := (x : Int)) (by omega) (by omega), u64_id (n := (10 : Int) * (x : Int)) (by omega) (by omega), u64_id (by omega) (by omega)]
        omega
      rw [e2]
      refine nb.put (by trivial) (by trivial) (x := (c + 10 * x) % B) k rfl (by omega) (by rw [u32_mod]; rfl) (Nat.mod_lt _ (by decide)) (fun h3 nb3 => ?_)
      refine ⟨by decide, ?_⟩
      rw [shr32, i64_id (by omega) (by omega)]
      have := ih (k + 1) (o.set k ((c + 10 * x) % B)) ((c + 10 * x) / B) h3 (by omega) (by simpa using ho) nb3 (ten_step hc hxB rfl) (fun j hjk => by
          rw [List.getElem?_set, if_neg (by omega)]; exact hj j (by omega)) (by
          have hlx : l[k]? = some x := by rw [← hj k (Nat.le_refl _)]; exact hx
          rw [val_set_take (by omega), val_take_succ, dig_of hlx, Nat.pow_succ, carry_step hv rfl, Nat.mul_add, Nat.mul_left_comm 10]
          omega)
      simpa [hB] using this
  exact key l.length 0 l d h1 (by omega) rfl nb hd (fun _ _ => rfl) (by simp [val])
end Go.Proofs.YtkgjpdadeakacaaDoor.Am
