/-
  Reading a natural: the document's function.
-/
import Derived.Test.YtkgjpdadeakacaaDoorNatK
namespace Go.Proofs.YtkgjpdadeakacaaDoor.Am
open Go Go.Proofs Nats
set_option linter.unusedVariables false
set_option linter.unusedSimpArgs false

theorem refparse_inner {D : Orc} {h0 : H} {t : ByteArray} {a : Value} {l : List Nat} {i d : Nat} (hl : l.length ≤ 64) (hd : d < 10) {K : Kl}
    (hK : ∀ h2 o c, Nb h0 h2 a o → o.length = l.length → c < 10 → val o + B ^ l.length * c = d + 10 * val l → K (.e 4) [.string t, a, .int .i64 (i : Int), .int .u64 (c : Int)] h2)
    {h1 : H} (nb : Nb h0 h1 a l) :
    loop28_14 D [.string t, a, .int .i64 (i : Int), .int .u64 (d : Int), .int .i64 (0 : Int)] h1 K := by
  intro I hI
  have hB : B = 4294967296 := rfl
  have key : ∀ e k : Nat, ∀ (o : List Nat) (c : Nat) (h2 : H), k + e = l.length → o.length = l.length → Nb h0 h2 a o → c < 10 → (∀ j, k ≤ j → o[j]? = l[j]?) →
      val (o.take k) + B ^ k * c = d + 10 * val (l.take k) → I [.string t, a, .int .i64 (i : Int), .int .u64 (c : Int), .int .i64 (k : Int)] h2 := by
    intro e
    induction e with
    | zero =>
      intro k o c h2 hk ho nb hc hj hv
      refine hI _ _ _ _ _ _ ?_
      unfold round28_14
      simp only [intK_int, strW_string]
      rw [nb.len, cond_dec]
      refine ⟨fun x => absurd x (by omega), fun _ => ?_⟩
      have hk' : k = l.length := by omega
      subst hk'
      rw [val_full (l := o) (by omega), val_full (l := l) (by omega)] at hv
      exact hK _ _ _ nb ho hc hv
    | succ e ih =>
      intro k o c h2 hk ho nb hc hj hv
      refine hI _ _ _ _ _ _ ?_
      unfold round28_14
      simp only [intK_int, strW_string]
      rw [nb.len, cond_dec]
      refine ⟨fun _ => ?_, fun x => absurd (show (k : Int) < (o.length : Int) by omega) x⟩
      refine nb.nr.at_ (by omega) (by omega) fun p x hx hxB ha => ⟨_, ha, ?_⟩
      rw [Int.toNat_natCast] at hx
      have e2 : IntKind.wrap .u64 ((c : Int) + IntKind.wrap .u64 ((10 : Int) * IntKind.wrap .u64 (x : Int))) = ((c + 10 * x : Nat) : Int) := by
        rw [u64_id (n := (x : Int)) (by omega) (by omega), u64_id (n := (10 : Int) * (x : Int)) (by omega) (by omega), u64_id (by omega) (by omega)]
        omega
      rw [e2]
      refine nb.put (by trivial) (by trivial) (x := (c + 10 * x) % B) k rfl (by omega) (by rw [u32_mod]; rfl) (Nat.mod_lt _ (by decide)) (fun h3 nb3 => ?_)
      refine ⟨by decide, ?_⟩
      rw [shr32, i64_id (by omega) (by omega)]
      have := ih (k + 1) (o.set k ((c + 10 * x) % B)) ((c + 10 * x) / B) h3 (by omega) (by simpa using ho) nb3 (ten_step hc hxB rfl) (fun j hjk => by
          rw [List.getElem?_set, if_neg (by omega)]; exact hj j (by omega)) (by
          have hlx : l[k]? = some x := by rw [← hj k (Nat.le_refl _)]; exact hx
          rw [val_set_take (by omega), val_take_succ, dig_of hlx, Nat.pow_succ, carry_step hv rfl, Nat.mul_add, Nat.mul_left_comm 10]
          omega)
      simpa [hB] using this
  exact key l.length 0 l d h1 (by omega) rfl nb hd (fun _ _ => rfl) (by simp [val])

theorem refparse_loop {D : Orc} {h0 : H} {s : ByteArray} (hs : s.size < 2 ^ 62) (hd : (bts s).all isDig = true) {K : Kl}
    (hK : ∀ h2 a, Nb h0 h2 a (limbs (dec (bts s))) → (limbs (dec (bts s))).length ≤ 64 → K (.e 2) [a] h2)
    (hR : ∀ h2, Ext h0 h2 → 64 < (limbs (dec (bts s))).length → K .r [.slice none 0 0, .int .i64 2] h2) {h1 : H} {a0 : Value} (nb0 : Nb h0 h1 a0 []) :
    loop28_10 D [.string s, a0, .int .i64 (0 : Int)] h1 K := by
  intro I hI
  have hB : B = 4294967296 := rfl
  have key : ∀ d i : Nat, ∀ (a : Value) (h2 : H), i + d = s.size → Nb h0 h2 a (limbs (dec ((bts s).take i))) → (limbs (dec ((bts s).take i))).length ≤ 64 → I [.string s, a, .int .i64 (i : Int)] h2 := by
    intro d
    induction d with
    | zero =>
      intro i a h2 hi nb h64
      refine hI _ _ _ _ ?_
      unfold round28_10
      simp only [strW_string, intK_int]
      rw [cond_dec]
      refine ⟨fun x => absurd x (by omega), fun _ => ?_⟩
      rw [List.take_of_length_le (by rw [bts_len]; omega)] at nb h64
      exact hK _ _ nb h64
    | succ d ih =>
      intro i a h2 hi nb h64
      refine hI _ _ _ _ ?_
      unfold round28_10
      simp only [strW_string, intK_int]
      rw [cond_dec]
      refine ⟨fun _ => ?_, fun x => absurd (show (i : Int) < (s.size : Int) by omega) x⟩
      refine strAt_rule (by omega) (by omega) fun x hx => ?_
      rw [Int.toNat_natCast] at hx
      have hxd : isDig x = true := List.all_eq_true.mp hd x (List.mem_of_getElem? hx)
      obtain ⟨hx1, hx2⟩ := dig_val hxd
      rw [hx1]
      refine refparse_inner h64 hx2 (fun h3 o c nb3 ho hc hv => ?_) nb
      simp only [xs_e, nth0, nth1, nth2, nth3, strW_string, intK_int, Nat.beq_refl, cond_true]
      have hstep := ten_limbs (c := c) (d := x.toNat - 48) (v := dec ((bts s).take i)) nb3.ok ho (by omega) (by rw [val_limbs] at hv; exact hv)
      rw [← dec_take_succ hx] at hstep
      have last : ∀ a' h', Nb h0 h' a' (limbs (dec ((bts s).take (i + 1)))) → j28_10_21 D I K (.string s) a' (.int .i64 (i : Int)) h' := by
        intro a' h' nb'
        unfold j28_10_21
        simp only [strW_string, intK_int]
        rw [nb'.len, cond_dec]
        refine ⟨fun h5 => hR _ nb'.ext ?_, fun h5 => ?_⟩
        · have := limbs_mono (dec_take_le (bts s) (s.size - (i + 1)) (i + 1) (by rw [bts_len]; omega))
          omega
        · rw [i64_id (by omega) (by omega), show (i : Int) + 1 = ((i + 1 : Nat) : Int) by omega]
          exact ih (i + 1) a' h' (by omega) nb' (by omega)
      rw [cond_dec]
      refine ⟨fun h5 => ?_, fun h5 => ?_⟩
      · rw [if_pos (by omega)] at hstep
        rw [← hstep] at last
        exact nb3.push (by omega) (c := c) (by omega) (by rw [u32_id (by omega) (by omega)]) (by trivial) (by trivial) (fun a' h' nb' => last a' h' nb')
      · rw [if_neg (by omega)] at hstep
        rw [← hstep] at last
        exact last _ _ nb3
  have h0l : limbs (dec ((bts s).take 0)) = [] := by
    have : dec ((bts s).take 0) = 0 := rfl
    rw [this, limbs_zero]
  exact key s.size 0 _ h1 (by omega) (by rw [h0l]; exact nb0) (by rw [h0l]; decide)

/-- All signs are looked at. -/
theorem digits_loop {D : Orc} {s : ByteArray} (hs : s.size < 2 ^ 62) {K : Kl} {h : H} (hK : (bts s).all isDig = true → K (.e 0) [.string s] h) (hR : (bts s).all isDig = false → K .r [.slice none 0 0, .int .i64 11] h) :
    loop28_4 D [.string s, .int .i64 (0 : Int)] h K := by
  intro I hI
  have key : ∀ d i : Nat, i + d = s.size → ((bts s).take i).all isDig = true → I [.string s, .int .i64 (i : Int)] h := by
    intro d
    induction d with
    | zero =>
      intro i hi ha
      refine hI _ _ _ ?_
      unfold round28_4
      simp only [strW_string, intK_int]
      rw [cond_dec]
      refine ⟨fun x => absurd x (by omega), fun _ => hK ?_⟩
      rw [List.take_of_length_le (by rw [bts_len]; omega)] at ha
      exact ha
    | succ d ih =>
      intro i hi ha
      refine hI _ _ _ ?_
      unfold round28_4
      simp only [strW_string, intK_int]
      rw [cond_dec]
      refine ⟨fun _ => ?_, fun x => absurd (show (i : Int) < (s.size : Int) by omega) x⟩
      refine strAt_rule (by omega) (by omega) fun x hx => ?_
      rw [Int.toNat_natCast] at hx
      have yes : isDig x = true → j28_4_7 D I K (.string s) (.int .i64 (i : Int)) (.bool false) h := by
        intro h1
        unfold j28_4_7
        simp only [strW_string, intK_int, boolW_bool, cond_false]
        rw [i64_id (by omega) (by omega), show (i : Int) + 1 = ((i + 1 : Nat) : Int) by omega]
        refine ih (i + 1) (by omega) ?_
        rw [List.take_add_one, hx, List.all_append, ha]
        simpa using h1
      have no : isDig x = false → j28_4_7 D I K (.string s) (.int .i64 (i : Int)) (.bool true) h := by
        intro h1
        unfold j28_4_7
        simp only [strW_string, intK_int, boolW_bool, cond_true]
        refine hR ?_
        rw [List.all_eq_false]
        exact ⟨x, List.mem_of_getElem? hx, by rw [h1]; decide⟩
      rw [cond_not, cond_dec]
      refine ⟨fun h1 => ?_, fun h1 => ?_⟩
      · refine no ?_
        simp only [isDig, Bool.and_eq_false_iff, decide_eq_false_iff_not]; omega
      · refine strAt_rule (by omega) (by omega) fun y hy => ?_
        rw [Int.toNat_natCast, hx] at hy
        obtain rfl := Option.some.inj hy
        by_cases h2 : (x.toNat : Int) > 57
        · rw [decide_eq_true h2]
          refine no ?_
          simp only [isDig, Bool.and_eq_false_iff, decide_eq_false_iff_not]; omega
        · rw [decide_eq_false h2]
          refine yes ?_
          simp only [isDig, Bool.and_eq_true, decide_eq_true_eq]; omega
  exact key s.size 0 (by omega) rfl

theorem spec28 {D : Orc} (c : Cl28 D) : SpecParse D 28 := by
  intro s h k kp hs hk
  refine c _ _ _ _ ?_
  unfold F28
  rw [strW_string, cond_not, cond_eq]
  have bad : textOk (bts s) = false → j28__2 D k kp (.string s) (.bool true) h := by
    intro h1
    unfold j28__2
    simp only [strW_string, boolW_bool, cond_true]
    have := hk (.slice none 0 0) h
    simp only [readNat, h1] at this
    exact this (Nb.nil_ (Ext.refl h))
  have good : bts s ≠ [] → (∀ x r, bts s = x :: r → x = 48 → r = []) → j28__2 D k kp (.string s) (.bool false) h := by
    intro hne hz
    have hok : textOk (bts s) = (bts s).all isDig := by
      cases hb : bts s with
      | nil => exact absurd hb hne
      | cons x r =>
        unfold textOk
        by_cases hx : x = 48
        · rw [hz x r hb hx]; simp
        · have : (!(x == 48)) = true := by simpa using hx
          simp only [this, Bool.true_or, Bool.true_and]
    unfold j28__2
    simp only [strW_string, boolW_bool, cond_false]
    refine digits_loop hs (fun ha => ?_) (fun ha => ?_)
    · simp only [xs_e, nth0, Nat.beq_refl, cond_true, strW_string]
      intro b hb
      rw [ha] at hok
      simp only [readNat, hok, if_true] at hk
      have nb0 : Nb h (h.set b (.cells [])) (.slice (some ⟨b, 0, none⟩) 0 0) [] := ⟨Ext.new hb, Buf.cells (vs := []) hb set_here rfl, fun _ h => by simp at h, by decide⟩
      refine refparse_loop (h0 := h) hs ha (fun h2 a nb h64 => ?_) (fun h2 he2 h64 => ?_) nb0
      · simp only [xs_e, nth0, Nat.beq_refl, cond_true]
        rw [if_pos h64] at hk
        exact hk a h2 nb
      · simp only [xs_r, nth0, nth1, intK_int]
        rw [if_neg (by omega)] at hk
        exact hk _ h2 (Nb.nil_ he2)
    · simp only [xs_r, nth0, nth1, intK_int]
      rw [ha] at hok
      have := hk (.slice none 0 0) h
      simp only [readNat, hok] at this
      exact this (Nb.nil_ (Ext.refl h))
  refine ⟨fun h1 => bad (by
    have : bts s = [] := List.length_eq_zero_iff.mp (by rw [bts_len]; omega)
    rw [this]; rfl), fun h1 => ?_⟩
  have hne : bts s ≠ [] := fun h0 => h1 (by rw [← bts_len, h0]; rfl)
  rw [cond_dec]
  refine ⟨fun h2 => ?_, fun h2 => ?_⟩
  · refine strAt_rule (by omega) (by omega) fun x hx => ?_
    have hcons : bts s = x :: (bts s).drop 1 := by
      cases hb : bts s with
      | nil => exact absurd hb hne
      | cons y l => rw [hb] at hx; simp at hx; subst hx; rfl
    by_cases h3 : x = 48
    · subst h3
      have : (((48 : UInt8).toNat : Int) == 48) = true := rfl
      rw [this]
      refine bad ?_
      rw [hcons]
      have hl : 0 < ((bts s).drop 1).length := by rw [List.length_drop, bts_len]; omega
      unfold textOk
      cases hr : (bts s).drop 1 with
      | nil => rw [hr] at hl; simp at hl
      | cons y r => rfl
    · have : ((x.toNat : Int) == 48) = false := by
        rw [beq_eq_false_iff_ne]
        intro h4
        exact h3 (u8_eq.mp (by rw [h4]; rfl))
      rw [this]
      refine good hne fun y r hb hy => ?_
      rw [hcons] at hb
      cases hb
      exact absurd hy h3
  · refine good hne fun y r hb hy => ?_
    have : (bts s).length = 1 := by rw [bts_len]; have := List.length_pos_iff.mpr hne; rw [bts_len] at this; omega
    rw [hb] at this
    exact List.length_eq_zero_iff.mp (by simpa using this)
end Go.Proofs.YtkgjpdadeakacaaDoor.Am
