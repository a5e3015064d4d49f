/-
  Reading a natural: the program's function.
-/
import Derived.Test.YtkgjpdadeakacaaDoorNatJ
namespace Go.Proofs.YtkgjpdadeakacaaDoor.Am
open Go Go.Proofs Nats
set_option linter.unusedVariables false
set_option linter.unusedSimpArgs false

theorem trim_digits {s t : ByteArray} (h : bts t = (rtrim isDig (bts s)).dropWhile isDig) : (t.toList == (ByteArray.mk #[]).toList) = (bts s).all isDig := by
  rw [toList_eq, toList_eq, Bool.eq_iff_iff]
  have e : bts (ByteArray.mk #[]) = [] := rfl
  rw [e, beq_iff_eq, h, trim_nil]
theorem spec27 {D : Orc} (c : Cl27 D) (t37 : SpecTrimBoth D 37) : SpecParse D 27 := by
  intro s h k kp hs hk
  refine c _ _ _ _ ?_
  unfold F27
  rw [strW_string, cond_not, cond_beq_nil]
  have bad : textOk (bts s) = false → ∀ h', Ext h h' → j27__2 D k kp (.string s) (.bool true) h' := by
    intro h1 h' he
    unfold j27__2
    simp only [strW_string, boolW_bool, cond_true]
    have := hk (.slice none 0 0) h'
    simp only [readNat, h1] at this
    exact this (Nb.nil_ he)
  have good : (bts s ≠ [] → ∀ x r, bts s = x :: r → x = 48 → r = []) → ∀ h', bts s ≠ [] → Ext h h' → j27__2 D k kp (.string s) (.bool (!((bts s).all isDig))) h' := by
    intro hz h' hne he
    cases ha : (bts s).all isDig with
    | false =>
      refine bad ?_ h' he
      unfold textOk
      split
      · rfl
      · rename_i x r hb
        rw [hb] at ha
        rw [ha]; simp
    | true =>
      have hok : textOk (bts s) = true := by
        cases hb : bts s with
        | nil => exact absurd hb hne
        | cons x r =>
          unfold textOk
          rw [hb] at ha
          simp only [ha, Bool.and_true, Bool.or_eq_true, Bool.not_eq_true']
          by_cases hx : x = 48
          · right
            have := hz hne x r hb hx
            rw [this]; rfl
          · left
            simpa using hx
      unfold j27__2
      simp only [strW_string, boolW_bool, Bool.not_true, cond_false]
      simp only [readNat, hok, if_true] at hk
      refine parse_loop (h0 := h) hs ha (fun h2 a nb h64 => ?_) (fun h2 he2 h64 => ?_) he
      · simp only [xs_e, nth0, Nat.beq_refl, cond_true]
        rw [if_pos h64] at hk
        exact hk a h2 nb
      · simp only [xs_r, nth0, nth1, intK_int]
        rw [if_neg (by omega)] at hk
        exact hk _ h2 (Nb.nil_ he2)
  have trim : (bts s ≠ [] → ∀ x r, bts s = x :: r → x = 48 → r = []) → bts s ≠ [] → D 37 [(Value.string s), (Value.string (ByteArray.mk #[48, 49, 50, 51, 52, 53, 54, 55, 56, 57]))] h (fun v2 h3 => ∃ s4 : ByteArray, v2 = (Value.string s4) ∧ j27__2 D k kp (Value.string s) (Value.bool (!(s4.toList == (ByteArray.mk #[]).toList))) h3) kp := by
    intro hz hne
    refine t37 _ _ _ _ _ hs ?_ (by decide) (by decide) fun t h' he ht => ⟨t, rfl, ?_⟩
    · intro b hb
      rw [digits_cut] at hb
      simp only [List.mem_cons, List.not_mem_nil, or_false] at hb
      rcases hb with rfl | rfl | rfl | rfl | rfl | rfl | rfl | rfl | rfl | rfl <;> decide
    · rw [inSet_digits] at ht
      rw [trim_digits ht]
      exact good hz h' hne he
  refine ⟨fun h1 => bad (by rw [h1]; rfl) h (Ext.refl h), fun h1 => ?_⟩
  have hpos : 0 < s.size := by
    rw [← bts_len]
    exact List.length_pos_iff.mpr h1
  refine strAt_rule (by omega) (by omega) fun x hx => ?_
  have hcons : bts s = x :: (bts s).drop 1 := by
    cases hb : bts s with
    | nil => exact absurd hb h1
    | cons y l => rw [hb] at hx; simp at hx; subst hx; rfl
  rw [cond_eq]
  refine ⟨fun h2 => ?_, fun h2 => ?_⟩
  · have hx48 : x = 48 := u8_eq.mp (by rw [h2]; rfl)
    rw [cond_not, cond_not, cond_split]
    have e48 : bts (ByteArray.mk #[48]) = [48] := rfl
    refine ⟨fun h3 => ?_, fun h3 => ?_⟩
    · have h4 : bts s = [48] := by
        rw [toList_eq, toList_eq, e48] at h3
        simpa using h3
      exact trim (fun _ y r hb _ => by rw [h4] at hb; cases hb; rfl) h1
    · refine bad ?_ h (Ext.refl h)
      have h4 : bts s ≠ [48] := by
        rw [toList_eq, toList_eq, e48] at h3
        simpa using h3
      rw [hcons]
      unfold textOk
      subst hx48
      cases hr : (bts s).drop 1 with
      | nil => rw [hr] at hcons; exact absurd hcons h4
      | cons y r => rfl
  · refine trim (fun _ y r hb hy => ?_) h1
    rw [hcons] at hb
    cases hb
    exact absurd (by rw [hy]; rfl) h2
end Go.Proofs.YtkgjpdadeakacaaDoor.Am
