/-
  The laws: which limbs are a natural.
-/
import Derived.Test.YtkgjpdadeakacaaDoorNatU
namespace Go.Proofs.YtkgjpdadeakacaaDoor.Am
open Go Go.Proofs Nats
set_option linter.unusedVariables false
set_option linter.unusedSimpArgs false

theorem limbs_short {n : Nat} (h : n < 2 ^ 64) : (limbs n).length ≤ 2 := by
  cases hn : (limbs n).length with
  | zero => omega
  | succ m =>
    have h1 := limbs_low hn
    have h2 : B ^ m < B ^ 2 := Nat.lt_of_le_of_lt h1 h
    have := (Nat.pow_lt_pow_iff_right (by decide)).mp h2
    omega
theorem Nb.later {h0 h h' : H} {s : Value} {l : List Nat} (r : Nb h0 h s l) (e : Ext h h') : Nb h0 h' s l := ⟨r.ext.trans e, r.buf.ext e, r.ok, r.small⟩
theorem spec3 {D : Orc} (c : Cl3 D) (e : Env3 D) (sh : SpecShown D 10) {a : Value} {l : List Nat} {n : Nat} {h : H} {k : Kv} {kp : Kp} (r : Nr h a l) (hn : n < 2 ^ 64) (hk : ∀ h', Ext h h' → k (.bool true) h') : D 3 [a, .int .u64 (n : Int)] h k kp := by
  refine c _ _ _ _ _ ?_
  unfold F3
  rw [intK_int]
  refine sh _ _ _ fun h1 e1 => ⟨_, rfl, ?_⟩
  have r1 := r.ext e1
  refine e.right _ _ _ _ _ r1 ⟨_, rfl, ?_⟩
  refine e.rright _ _ _ _ _ r1 ⟨_, rfl, ?_⟩
  refine e.of n _ _ _ hn fun b h2 nb => ⟨_, rfl, ?_⟩
  refine e.rof n _ _ _ hn fun b2 h3 nb2 => ⟨_, rfl, ?_⟩
  refine e.same _ _ _ _ _ _ _ (nb.nr.ext nb2.ext) nb2.nr ⟨_, rfl, ?_⟩
  refine e.spoil _ _ _ _ _ _ (nb.later nb2.ext) (by have := limbs_short hn; omega) fun h4 e4 => ⟨rfl, ?_⟩
  refine e.of n _ _ _ hn fun b3 h5 nb3 => ⟨_, rfl, ?_⟩
  refine e.rof n _ _ _ hn fun b4 h6 nb4 => ⟨_, rfl, ?_⟩
  refine e.same _ _ _ _ _ _ _ (nb3.nr.ext nb4.ext) nb4.nr ⟨_, rfl, ?_⟩
  simp only [decide_true, cond_true, BEq.rfl]
  exact hk _ (((e1.trans e4).trans nb3.ext).trans nb4.ext)
end Go.Proofs.YtkgjpdadeakacaaDoor.Am
