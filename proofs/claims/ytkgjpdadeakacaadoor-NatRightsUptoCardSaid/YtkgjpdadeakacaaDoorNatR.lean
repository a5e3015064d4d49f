/-
  Writing a natural: the program's function.
-/
import Derived.Test.YtkgjpdadeakacaaDoorNatQ
namespace Go.Proofs.YtkgjpdadeakacaaDoor.Am
open Go Go.Proofs Nats
set_option linter.unusedVariables false
set_option linter.unusedSimpArgs false

theorem Two.cut {g h : H} {ds a : Value} {dl : List UInt8} {l : List Nat} (w : Two g h ds dl a l) : Two g h ds dl (cutTo a (limbs (val l)).length) (limbs (val l)) := by
  refine ⟨w.y, w.n.trim, ?_, ?_⟩
  · have := w.s1; unfold Sep at this ⊢; rw [Blk_cut]; exact this
  · have := w.s2; unfold Sep at this ⊢; rw [Blk_cut]; exact this
theorem text_loop {D : Orc} (t29 : SpecTrim D 29) {g : H} {v : Nat} (hv : v < B ^ 64) {K : Kl}
    (hK : ∀ h2 ds dl, Yb g h2 ds dl → dl.all isDig = true → lsb dl = v → K (.e 0) [ds] h2) :
    ∀ (w : Nat) (ds a : Value) (dl : List UInt8) (h1 : H), Two g h1 ds dl a (limbs w) → dl.all isDig = true → lsb dl + 10 ^ dl.length * w = v → ∀ (I : List Value → H → Prop), (∀ a0 a1 h, round25_6 D I K a0 a1 h → I [a0, a1] h) → I [ds, a] h1 := by
  intro w
  induction w using Nat.strongRecOn with
  | _ w ih =>
    intro ds a dl h1 tw hd hvw I hI
    refine hI _ _ _ ?_
    unfold round25_6
    rw [tw.n.len, cond_dec]
    refine ⟨fun h2 => ?_, fun h2 => ?_⟩
    · have hw0 : w ≠ 0 := by
        rintro rfl
        rw [limbs_zero] at h2
        exact absurd h2 (by decide)
      have hwv : w ≤ v := by
        have : 1 * w ≤ 10 ^ dl.length * w := Nat.mul_le_mul_right _ (Nat.pow_pos (by decide))
        omega
      have h64 : (limbs w).length ≤ 64 := by
        cases hn : (limbs w).length with
        | zero => omega
        | succ n =>
          have := limbs_low hn
          have h3 : B ^ n < B ^ 64 := by omega
          have := (Nat.pow_lt_pow_iff_right (by decide)).mp h3
          omega
      have hdl : dl.length < 640 := by
        obtain ⟨n6, hn6⟩ : ∃ n, n = 640 := ⟨_, rfl⟩
        rw [← hn6]
        have h4 : 10 ^ dl.length * 1 ≤ 10 ^ dl.length * w := Nat.mul_le_mul_left _ (by omega)
        have h5 : B ^ 64 ≤ 10 ^ n6 := tens_big hn6 rfl
        have h6 : 10 ^ dl.length < 10 ^ n6 := by omega
        exact (Nat.pow_lt_pow_iff_right (by decide)).mp h6
      rw [tw.n.len, i64_id (by omega) (by omega)]
      have hg : Ext g (h1.drop a) := tw.n.ext.drop_of tw.n.buf
      refine text_inner (h0 := h1.drop a) h64 (fun h3 o r nb3 he3 ho hr hvo => ?_) ⟨Ext.drop h1 a, tw.n.buf.self, tw.n.ok, tw.n.small⟩
      rw [val_limbs] at hvo
      have tw3 : Two g h3 ds dl a o := ⟨⟨hg.trans he3, (tw.y.buf.drop tw.s2).ext he3, tw.y.small⟩, ⟨hg.trans he3, nb3.buf.mono hg, nb3.ok, nb3.small⟩, tw.s1, tw.s2⟩
      simp only [xs_e, nth0, nth1, nth2, nth3, intK_int, Nat.beq_refl, cond_true]
      refine chunk hr (by omega) hd (fun h4 ds' dl' tw4 hl' hd' hv' => ?_) tw3
      simp only [xs_e, nth0, nth1, nth2, nth3, intK_int, Nat.beq_refl, cond_true]
      refine t29 _ _ _ _ _ tw4.n.nr ⟨_, rfl, ?_⟩
      have tw5 := tw4.cut
      have hvo9 : val o = w / 1000000000 := by omega
      rw [hvo9] at tw5 ⊢
      refine ih (w / 1000000000) (Nat.div_lt_self (by omega) (by decide)) _ _ _ _ tw5 hd' ?_ I hI
      have hr9 : r = w % 1000000000 := by omega
      have e9 : (10 : Nat) ^ (dl.length + 9) = 10 ^ dl.length * 1000000000 := by rw [Nat.pow_add]
      rw [hv', hl', e9, ← hvw, hr9, Nat.add_assoc, Nat.mul_assoc, ← Nat.mul_add, Nat.mod_add_div]
    · have hw0 : w = 0 := by
        have : (limbs w) = [] := List.length_eq_zero_iff.mp (by omega)
        have h3 := val_limbs w
        rw [this] at h3
        exact h3.symm
      subst hw0
      exact hK _ _ _ tw.y hd (by simpa using hvw)
end Go.Proofs.YtkgjpdadeakacaaDoor.Am
