/-
  Writing a natural: nine digits more.
-/
import Derived.Test.YtkgjpdadeakacaaDoorNatO
namespace Go.Proofs.YtkgjpdadeakacaaDoor.Am
open Go Go.Proofs Nats
set_option linter.unusedVariables false
set_option linter.unusedSimpArgs false

/-- The value of digits, the least first. -/
def lsb : List UInt8 → Nat
  | [] => 0
  | x :: l => (x.toNat - 48) + 10 * lsb l
theorem lsb_app : ∀ (l m : List UInt8), lsb (l ++ m) = lsb l + 10 ^ l.length * lsb m
  | [], m => by simp [lsb]
  | x :: l, m => by
    rw [List.cons_append, lsb, lsb_app l m, lsb, List.length_cons, Nat.pow_succ, Nat.mul_add, ← Nat.mul_assoc, Nat.mul_comm 10 (10 ^ l.length)]
    omega
theorem lsb_snoc (l : List UInt8) (d : Nat) (hd : d < 10) : lsb (l ++ [UInt8.ofNat (48 + d)]) = lsb l + 10 ^ l.length * d := by
  rw [lsb_app]
  have : (UInt8.ofNat (48 + d)).toNat = 48 + d := by simp; omega
  simp only [lsb, this, Nat.mul_zero, Nat.add_zero]
  congr 2; omega
theorem isDig_of {d : Nat} (hd : d < 10) : isDig (UInt8.ofNat (48 + d)) = true := by
  have : (UInt8.ofNat (48 + d)).toNat = 48 + d := by simp; omega
  simp only [isDig, this, Bool.and_eq_true, decide_eq_true_eq]; omega
/-- Digits turned round, without the noughts ahead: the number's own. -/
theorem strip_rdig : ∀ (l : List UInt8), l.all isDig = true → l.reverse.dropWhile (· == 48) = rdig (lsb l)
  | [], _ => by rw [lsb, rdig_zero]; rfl
  | x :: l, h => by
    simp only [List.all_cons, Bool.and_eq_true] at h
    obtain ⟨hx, hl⟩ := h
    have ih := strip_rdig l hl
    simp only [isDig, Bool.and_eq_true, decide_eq_true_eq] at hx
    rw [List.reverse_cons, lsb]
    have hx2 : UInt8.ofNat (48 + (x.toNat - 48)) = x := by
      apply UInt8.toNat_inj.mp
      simp; omega
    by_cases h0 : lsb l = 0
    · rw [h0, rdig_zero] at ih
      have hz : l.reverse.all (· == 48) = true := by
        rw [List.all_eq_true]
        intro y hy
        have key : ∀ m : List UInt8, m.dropWhile (· == 48) = [] → ∀ y ∈ m, (y == 48) = true := by
          intro m
          induction m with
          | nil => intro _ y hy; simp at hy
          | cons z m ih =>
            intro hm y hy
            rw [List.dropWhile_cons] at hm
            by_cases hz : (z == 48) = true
            · rw [if_pos hz] at hm
              rcases List.mem_cons.mp hy with rfl | hy
              · exact hz
              · exact ih hm y hy
            · rw [if_neg hz] at hm; cases hm
        exact key _ ih y hy
      rw [h0, List.dropWhile_append, ih]
      simp only [List.isEmpty_nil, if_true]
      by_cases hx0 : x = 48
      · subst hx0
        have : ((48 : UInt8).toNat - 48 + 10 * 0) = 0 := rfl
        rw [this, rdig_zero]; rfl
      · have hne : x.toNat - 48 + 10 * 0 ≠ 0 := by
          intro h1
          apply hx0
          apply UInt8.toNat_inj.mp
          have : (48 : UInt8).toNat = 48 := rfl
          omega
        rw [rdig_pos hne]
        have e1 : (x.toNat - 48 + 10 * 0) / 10 = 0 := by omega
        have e2 : (x.toNat - 48 + 10 * 0) % 10 = x.toNat - 48 := by omega
        rw [e1, e2, rdig_zero, hx2]
        simp [hx0]
    · have hne : x.toNat - 48 + 10 * lsb l ≠ 0 := by omega
      rw [rdig_pos hne]
      have e1 : (x.toNat - 48 + 10 * lsb l) / 10 = lsb l := by omega
      have e2 : (x.toNat - 48 + 10 * lsb l) % 10 = x.toNat - 48 := by omega
      rw [e1, e2, hx2, List.dropWhile_append, ih]
      have : (rdig (lsb l)).isEmpty = false := by
        rw [rdig_pos h0]; simp
      rw [this]; rfl
end Go.Proofs.YtkgjpdadeakacaaDoor.Am
