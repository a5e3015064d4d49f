/-
  The document's examples.
-/
import Derived.Test.YtkgjpdadeakacaaDoorNatS
namespace Go.Proofs.YtkgjpdadeakacaaDoor.Am
open Go Go.Proofs Nats
set_option linter.unusedVariables false
set_option linter.unusedSimpArgs false

theorem lit_rule {h : H} {n : Nat} {cs : List Value} (l : List Nat) (hl : l.length = n) (hc : cs = U l) (ok : Ok l) (hs : l.length < 2 ^ 40) {K : Value → H → Prop} (hK : ∀ s h', Nb h h' s l → K s h') : newSl h n cs K := by
  subst hc hl
  intro b hb
  exact hK _ _ ⟨Ext.new hb, Buf.cells hb set_here (U_len l), ok, hs⟩
theorem limbs_one {n : Nat} (h0 : n ≠ 0) (h1 : n < B) : limbs n = [n] := by
  rw [limbs_pos h0, Nat.mod_eq_of_lt h1, Nat.div_eq_of_lt h1, limbs_zero]
theorem limbs_two {n : Nat} (h0 : B ≤ n) (h1 : n < B * B) : limbs n = [n % B, n / B] := by
  have hB : B = 4294967296 := rfl
  have h2 : n / B ≠ 0 := by
    intro h
    have := (Nat.div_eq_zero_iff_lt (by decide)).mp h
    omega
  rw [limbs_pos (by omega), limbs_one h2 (Nat.div_lt_of_lt_mul h1)]
theorem right_one {n : Nat} (h0 : n ≠ 0) (h1 : n < B) : right [n] := ⟨by simp, by
  have : val [n] = n := by simp [val]
  rw [this, limbs_one h0 h1]⟩
structure Env3 (D : Orc) : Prop where
  right : SpecRight D 11
  rright : SpecRight D 12
  of : SpecOf D 13
  same : SpecSame D 14
  rof : SpecOf D 15
  spoil : SpecSpoil D 16
  lent : SpecLent D 17
  add : SpecSum (· + ·) D 18
  radd : SpecSum (· + ·) D 19
  mul : SpecSum (· * ·) D 20
  rmul : SpecSum (· * ·) D 21
  cmp : SpecCmp D 22
  rcmp : SpecCmp D 23
  kept : SpecKept D 24
  text : SpecText D 25
  rtext : SpecText D 26
  parse : SpecParse D 27
  rparse : SpecParse D 28

theorem limbs_V : limbs 4294967296 = [0, 1] := limbs_two (by decide) (by decide)
theorem limbs_W : limbs 18446744065119617025 = [1, 4294967294] := limbs_two (by decide) (by decide)
theorem ex_add : outcome (both [4294967295] [1]) (val [4294967295] + val [1]) = ([0, 1], 0) := by
  have h1 : both [4294967295] [1] = true := by
    simp only [both, Bool.and_eq_true, decide_eq_true_eq]
    exact ⟨right_one (by decide) (by decide), right_one (by decide) (by decide)⟩
  have h2 : val [4294967295] + val [1] = 4294967296 := by simp [val]
  rw [h1, h2]
  simp [outcome, limbs_V]
theorem ex_mul : outcome (both [4294967295] [4294967295]) (val [4294967295] * val [4294967295]) = ([1, 4294967294], 0) := by
  have h1 : both [4294967295] [4294967295] = true := by
    simp only [both, Bool.and_eq_true, decide_eq_true_eq]
    exact ⟨right_one (by decide) (by decide), right_one (by decide) (by decide)⟩
  have h2 : val [4294967295] * val [4294967295] = 18446744065119617025 := by simp [val]
  rw [h1, h2]
  simp [outcome, limbs_W]
theorem right_V : right [0, 1] := ⟨by simp, by
  have : val [0, 1] = 4294967296 := by simp [val]
  rw [this, limbs_V]⟩
theorem not_right_0 : decide (right [0]) = false := by
  rw [decide_eq_false_iff_not]
  rintro ⟨_, h⟩
  have : val [0] = 0 := by simp [val]
  rw [this, limbs_zero] at h
  cases h
theorem ex_text : txt 4294967296 = [52, 50, 57, 52, 57, 54, 55, 50, 57, 54] := by
  unfold txt
  rw [if_neg (by decide)]
  simp [rdig_pos, rdig_zero]
theorem ex_read : readNat (bts (ByteArray.mk #[52, 50, 57, 52, 57, 54, 55, 50, 57, 54])) = ([0, 1], 0) := by
  have h0 : bts (ByteArray.mk #[52, 50, 57, 52, 57, 54, 55, 50, 57, 54]) = [52, 50, 57, 52, 57, 54, 55, 50, 57, 54] := rfl
  have h1 : textOk [52, 50, 57, 52, 57, 54, 55, 50, 57, 54] = true := by decide
  have h2 : dec [52, 50, 57, 52, 57, 54, 55, 50, 57, 54] = 4294967296 := by decide
  rw [h0]
  unfold readNat
  rw [h1, h2, limbs_V]
  rfl
end Go.Proofs.YtkgjpdadeakacaaDoor.Am
