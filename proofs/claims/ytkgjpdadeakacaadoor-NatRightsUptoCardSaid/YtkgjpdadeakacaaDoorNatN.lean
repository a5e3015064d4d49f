/-
  Writing a natural: the document's function.
-/
import Derived.Test.YtkgjpdadeakacaaDoorNatM
namespace Go.Proofs.YtkgjpdadeakacaaDoor.Am
open Go Go.Proofs Nats
set_option linter.unusedVariables false
set_option linter.unusedSimpArgs false

theorem rdig_len : ∀ (n w : Nat), w < 10 ^ n → (rdig w).length ≤ n
  | 0, w, h => by
    have : w = 0 := by simpa using h
    subst this; rw [rdig_zero]; simp
  | n + 1, w, h => by
    by_cases h0 : w = 0
    · subst h0; rw [rdig_zero]; simp
    · rw [rdig_pos h0, List.length_append]
      have := rdig_len n (w / 10) (by rw [Nat.pow_succ] at h; omega)
      simp; omega
theorem tens_big {n k : Nat} (hn : n = 640) (hk : k = 64) : B ^ k ≤ 10 ^ n := by
  have h : n = 10 * k := by omega
  rw [h, Nat.pow_mul]
  exact Nat.pow_le_pow_left (by decide) k
theorem big_len {v : Nat} (h : v < B ^ 64) : (rdig v).length ≤ 640 := by
  obtain ⟨n, hn⟩ : ∃ n, n = 640 := ⟨_, rfl⟩
  rw [← hn]
  exact rdig_len n v (Nat.lt_of_lt_of_le h (tens_big hn rfl))

/-- What is told of a text: its digits, or that the row is no natural. -/
def SpecText (D : Orc) (f : Nat) : Prop := ∀ a l h (k : Kv) kp, Nr h a l →
  (right l → ∀ t h', Ext h h' → bts t = txt (val l) → k (.tuple #[.string t, .int .i64 0]) h') →
  (¬ right l → k (.tuple #[.string (ByteArray.mk #[]), .int .i64 10]) h) → D f [a] h k kp

theorem reftext_loop {D : Orc} (t30 : SpecTrim D 30) {h0 : H} {v : Nat} (hv : v < B ^ 64) {K : Kl}
    (hK : ∀ h2 t, Ext h0 h2 → bts t = rdig v → K (.e 0) [.string t] h2) :
    ∀ (w : Nat) (a : Value) (t : ByteArray) (h1 : H), Nb h0 h1 a (limbs w) → w ≤ v → rdig w ++ bts t = rdig v → ∀ (I : List Value → H → Prop), (∀ a0 a1 h, round26_7 D I K a0 a1 h → I [a0, a1] h) → I [a, .string t] h1 := by
  intro w
  induction w using Nat.strongRecOn with
  | _ w ih =>
    intro a t h1 nb hwv ht I hI
    refine hI _ _ _ ?_
    unfold round26_7
    simp only [strW_string]
    have h64 : (limbs w).length ≤ 64 := by
      cases hn : (limbs w).length with
      | zero => omega
      | succ n =>
        have := limbs_low hn
        have h3 : B ^ n < B ^ 64 := by omega
        have := (Nat.pow_lt_pow_iff_right (by decide)).mp h3
        omega
    have hlen : (bts t).length ≤ 640 := by
      have := congrArg List.length ht
      rw [List.length_append] at this
      have := big_len hv
      omega
    rw [nb.len, cond_dec]
    refine ⟨fun h2 => ?_, fun h2 => ?_⟩
    · rw [nb.len, i64_id (by omega) (by omega)]
      refine reftext_inner h64 (fun h3 o r nb3 ho hr hvo => ?_) nb
      rw [val_limbs] at hvo
      simp only [xs_e, nth0, nth1, nth2, nth3, strW_string, intK_int, Nat.beq_refl, cond_true]
      have hw0 : w ≠ 0 := by
        rintro rfl
        rw [limbs_zero] at h2
        exact absurd h2 (by decide)
      have e1 : IntKind.wrap .u8 (IntKind.wrap .u64 ((48 : Int) + (r : Int))) = (((UInt8.ofNat (48 + r)).toNat : Nat) : Int) := by
        rw [u64_id (by omega) (by omega), IntWalk.u8_in _ (by omega)]
        have : (UInt8.ofNat (48 + r)).toNat = 48 + r := by simp; omega
        rw [this]; omega
      rw [e1]
      refine ⟨by trivial, by decide, ?_⟩
      intro b hb
      have hrow : Row (h3.set b (.cells (U8 [UInt8.ofNat (48 + r)]))) (.slice (some ⟨b, 0, none⟩) 1 1) (U8 [UInt8.ofNat (48 + r)]) := Row.cells set_here rfl
      refine bs_rule hrow fun u hu => ⟨?_, ?_⟩
      · rw [← bts_len, ← bts_len, hu, List.length_singleton]; omega
      · have nb4 : Nb h0 (h3.set b (.cells (U8 [UInt8.ofNat (48 + r)]))) a o := ⟨nb3.ext.trans (Ext.new hb), nb3.buf.ext (Ext.new hb), nb3.ok, nb3.small⟩
        refine t30 _ _ _ _ _ nb4.nr ⟨_, rfl, ?_⟩
        have hvo10 : val o = w / 10 := by omega
        have hr10 : r = w % 10 := by omega
        have nb5 := nb4.trim
        rw [hvo10] at nb5 ⊢
        refine ih (w / 10) (Nat.div_lt_self (by omega) (by decide)) _ _ _ nb5 (by omega) ?_ I hI
        rw [bts_append, hu, ← ht, rdig_pos hw0, hr10, List.append_assoc]
    · have hw0 : w = 0 := by
        have : (limbs w) = [] := List.length_eq_zero_iff.mp (by omega)
        have h3 := val_limbs w
        rw [this] at h3
        exact h3.symm
      subst hw0
      rw [rdig_zero] at ht
      exact hK _ t nb.ext ht

theorem spec26 {D : Orc} (c : Cl26 D) (g : SpecRight D 12) (t30 : SpecTrim D 30) : SpecText D 26 := by
  intro a l h k kp r hk1 hk2
  refine c _ _ _ _ ?_
  unfold F26
  refine g _ _ _ _ _ r ⟨_, rfl, ?_⟩
  rw [cond_not, cond_dec]
  refine ⟨fun hr => ?_, fun hr => hk2 hr⟩
  have hk := hk1 hr
  have h64 := hr.1
  rw [r.len, cond_eq]
  refine ⟨fun h1 => ?_, fun h1 => ?_⟩
  · have : l = [] := List.length_eq_zero_iff.mp (by omega)
    subst this
    exact hk _ h (Ext.refl h) rfl
  · intro b hb
    have nb0 : Nb h (h.set b (.cells (U []))) (.slice (some ⟨b, 0, none⟩) 0 0) [] := ⟨Ext.new hb, Buf.cells hb set_here rfl, fun _ h => by simp at h, by decide⟩
    have r1 := r.ext nb0.ext
    have hsl : slenW a = fun k => k l.length := by
      funext k
      have := r1.row.slen (k := k)
      rw [U_len] at this
      exact propext this
    rw [hsl]
    refine r1.row.src (by rw [U_len]; omega) ?_
    have e0 : (U l).take l.length = U l := by rw [List.take_of_length_le (by rw [U_len]; omega)]
    rw [e0]
    have e1 : l.length = (U l).length := (U_len l).symm
    rw [e1]
    refine nb0.buf.app nb0.ext rfl (U_all l) (by rw [U_len, U_len]; simp; omega) (by rw [U_len, U_len]; simp; omega) fun s' h2 hb2 he2 => ?_
    have nb1 : Nb h h2 s' (limbs (val l)) := by
      refine ⟨he2, ?_, ok_limbs _, ?_⟩
      · rw [← hr.2]; simpa [U] using hb2
      · rw [← hr.2]; exact r.small
    have hv : val l < B ^ 64 := Nat.lt_of_lt_of_le (val_lt r.ok) (Nat.pow_le_pow_right (by decide) h64)
    intro I hI
    refine reftext_loop t30 hv (fun h3 t he ht => ?_) (val l) s' (ByteArray.mk #[]) h2 nb1 (Nat.le_refl _) (by simp [bts]) I hI
    simp only [xs_e, nth0, Nat.beq_refl, cond_true, strW_string]
    refine hk t h3 he ?_
    rw [ht]
    unfold txt
    rw [if_neg]
    intro h0
    have hr2 := hr.2
    rw [h0, limbs_zero] at hr2
    exact h1 (by rw [hr2]; rfl)
end Go.Proofs.YtkgjpdadeakacaaDoor.Am
