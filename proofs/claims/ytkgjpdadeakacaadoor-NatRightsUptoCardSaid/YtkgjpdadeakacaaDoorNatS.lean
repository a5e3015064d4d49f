/-
  Writing a natural: the program's function, whole.
-/
import Derived.Test.YtkgjpdadeakacaaDoorNatR
namespace Go.Proofs.YtkgjpdadeakacaaDoor.Am
open Go Go.Proofs Nats
set_option linter.unusedVariables false
set_option linter.unusedSimpArgs false

theorem sep_nil (s : Value) : Sep (.slice none 0 0) s := by
  unfold Sep
  cases hb : Blk s with
  | none => exact .inl rfl
  | some b => exact .inr (by simp [Blk])
theorem spec25 {D : Orc} (c : Cl25 D) (g : SpecRight D 11) (t29 : SpecTrim D 29) (t35 : SpecReverse D 35) (t36 : SpecTrimLeft0 D 36) : SpecText D 25 := by
  intro a l h k kp r hk1 hk2
  refine c _ _ _ _ ?_
  unfold F25
  refine g _ _ _ _ _ r ⟨_, rfl, ?_⟩
  rw [cond_not, cond_dec]
  refine ⟨fun hr => ?_, fun hr => hk2 hr⟩
  have hk := hk1 hr
  have h64 := hr.1
  have hv : val l < B ^ 64 := Nat.lt_of_lt_of_le (val_lt r.ok) (Nat.pow_le_pow_right (by decide) h64)
  rw [r.len]
  refine make_rule l.length rfl (by omega) fun s h1 nb => ?_
  have r1 := r.ext nb.ext
  rw [r1.row.slen, U_len, nb.nr.row.slen, U_len, List.length_replicate]
  refine r1.row.src (by rw [U_len]; omega) ?_
  rw [Nat.min_self, U_take, List.take_length]
  refine nb.buf.copy nb.ext (U_all l) (by simp [U_len]) (U_len l).symm fun h2 hb he => ?_
  have nb2 : Nb h h2 s (limbs (val l)) := by
    refine ⟨he, ?_, ok_limbs _, by rw [← hr.2]; exact r.small⟩
    rw [← hr.2]
    rw [U_drop, U_len, List.drop_replicate, Nat.sub_self, U_app] at hb
    simpa using hb
  have tw : Two h h2 (.slice none 0 0) [] s (limbs (val l)) := ⟨⟨he, .inl ⟨⟨none, rfl⟩, rfl⟩, by decide⟩, nb2, sep_nil s, .inl rfl⟩
  intro I hI
  refine text_loop t29 hv (fun h3 ds dl y hd hdl => ?_) (val l) (.slice none 0 0) s [] h2 tw rfl (by simp [lsb]) I hI
  simp only [xs_e, nth0, Nat.beq_refl, cond_true]
  refine t35 _ _ _ _ _ _ y fun h4 y4 => ⟨rfl, ?_⟩
  refine bs_rule y4.buf.row fun t ht => ?_
  have hts : t.size < 2 ^ 62 := by rw [← bts_len, ht]; have := y4.small; omega
  refine t36 _ _ _ _ hts fun u hu => ⟨u, rfl, ?_⟩
  rw [ht, strip_rdig dl hd, hdl] at hu
  unfold j25__24
  rw [strW_string, strW_string, cond_beq_nil]
  refine ⟨fun h0 => ?_, fun h0 => ?_⟩
  · refine hk _ h4 y4.ext ?_
    have : val l = 0 := by
      by_cases hz : val l = 0
      · exact hz
      · rw [h0, rdig_pos hz] at hu
        simp at hu
    unfold txt
    rw [if_pos this]; rfl
  · refine hk u h4 y4.ext ?_
    unfold txt
    rw [if_neg]
    · exact hu
    · intro hz
      rw [hz, rdig_zero] at hu
      exact h0 hu
end Go.Proofs.YtkgjpdadeakacaaDoor.Am
