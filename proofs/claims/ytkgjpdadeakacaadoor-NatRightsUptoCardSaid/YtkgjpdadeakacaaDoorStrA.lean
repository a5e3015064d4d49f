/-
  The library's trimming, of one byte.
-/
import Derived.Test.YtkgjpdadeakacaaDoorAmFns
import Derived.Test.YtkgjpdadeakacaaDoorAmStr
namespace Go.Proofs.YtkgjpdadeakacaaDoor.Am
open Go Go.Proofs
set_option linter.unusedVariables false
set_option linter.unusedSimpArgs false

def SpecTrimLB (D : Orc) (f : Nat) : Prop := ∀ (s : ByteArray) (c : UInt8) h (k : Kv) kp, s.size < 2 ^ 62 → (∀ t, bts t = (bts s).dropWhile (· == c) → k (.string t) h) → D f [.string s, .int .u8 (c.toNat : Int)] h k kp
theorem u8_eq {a b : UInt8} : ((a.toNat : Int) = (b.toNat : Int)) ↔ a = b := by
  constructor
  · intro h
    exact UInt8.toNat_inj.mp (by omega)
  · rintro rfl; rfl
theorem spec40 {D : Orc} (c : Cl40 D) : SpecTrimLB D 40 := by
  intro s b h k kp hs hk
  refine c _ _ _ _ _ ?_
  unfold F40
  simp only [strW_string, intK_int]
  intro I hI
  have key : ∀ n : Nat, ∀ t : ByteArray, t.size = n → t.size < 2 ^ 62 → (bts t).dropWhile (· == b) = (bts s).dropWhile (· == b) → I [.string t, .int .u8 (b.toNat : Int)] h := by
    intro n
    induction n using Nat.strongRecOn with
    | _ n ih =>
      intro t ht hts he
      refine hI _ _ _ ?_
      unfold round40_1
      simp only [strW_string, intK_int]
      rw [cond_dec]
      refine ⟨fun h1 => ?_, fun h1 => ?_⟩
      · refine strAt_rule (by omega) (by omega) fun x hx => ?_
        rw [cond_eq]
        have hcons : bts t = x :: (bts t).drop 1 := by
          cases hbt : bts t with
          | nil => rw [hbt] at hx; simp at hx
          | cons y l => rw [hbt] at hx; simp at hx; subst hx; rfl
        refine ⟨fun h2 => ?_, fun h2 => ?_⟩
        · have hxb := u8_eq.mp h2
          refine strTail_rule (by omega) (by omega) fun u hu => ?_
          have hus : u.size = t.size - 1 := by
            rw [← bts_len, hu, List.length_drop, bts_len]; rfl
          refine ih u.size (by omega) u rfl (by omega) ?_
          rw [hu, ← he, hcons, List.dropWhile_cons, if_pos (by simpa using hxb)]
          rfl
        · simp only [xs_e, nth0, Nat.beq_refl, cond_true, strW_string]
          refine hk t ?_
          rw [← he, hcons, List.dropWhile_cons, if_neg (by
            intro h3; exact h2 (u8_eq.mpr (by simpa using h3)))]
      · simp only [xs_e, nth0, Nat.beq_refl, cond_true, strW_string]
        refine hk t ?_
        have : bts t = [] := List.length_eq_zero_iff.mp (by rw [bts_len]; omega)
        rw [← he, this]; rfl
  exact key s.size s rfl hs rfl
end Go.Proofs.YtkgjpdadeakacaaDoor.Am
