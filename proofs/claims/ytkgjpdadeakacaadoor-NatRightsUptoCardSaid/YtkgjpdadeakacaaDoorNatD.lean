/-
  The naturals' functions: the document's sum, comparing.
-/
import Derived.Test.YtkgjpdadeakacaaDoorNatC
namespace Go.Proofs.YtkgjpdadeakacaaDoor.Am
open Go Go.Proofs Nats
set_option linter.unusedVariables false
set_option linter.unusedSimpArgs false

theorem max_rule {a b : Nat} {k : Value → Prop} (hk : k (.int .i64 ((max a b : Nat) : Int))) : minMax true [(Value.int IntKind.i64 (a : Int)), (Value.int IntKind.i64 (b : Int))] k := by
  refine ⟨rfl, ?_⟩
  show k (.int .i64 (bif true then (if (a : Int) < (b : Int) then (b : Int) else (a : Int)) else (if (b : Int) < (a : Int) then (b : Int) else (a : Int))))
  rw [cond_true]
  have : (if (a : Int) < (b : Int) then (b : Int) else (a : Int)) = ((max a b : Nat) : Int) := by split <;> omega
  rw [this]; exact hk

theorem carry_none {p v a b c : Nat} (h : v + p * B * c = a + b) (ha : a < p) (hb : b < p) : v = a + b := by
  cases c with
  | zero => rw [Nat.mul_zero] at h; omega
  | succ c =>
    exfalso
    have h1 : p * B ≤ p * B * (c + 1) := Nat.le_mul_of_pos_right _ (by omega)
    have h2 : p * 2 ≤ p * B := Nat.mul_le_mul_left _ (by decide)
    omega
theorem add_end {o l m : List Nat} {c n : Nat} (hl : Ok l) (hm : Ok m) (hn : l.length ≤ n ∧ m.length ≤ n) (h : val (o.take (n + 1)) + B ^ (n + 1) * c = val (l.take (n + 1)) + val (m.take (n + 1))) (ho : o.length = n + 1) : val o = val l + val m := by
  rw [val_full (l := o) (by omega), val_full (l := l) (by omega), val_full (l := m) (by omega), Nat.pow_succ] at h
  have h1 : val l < B ^ n := Nat.lt_of_lt_of_le (val_lt hl) (Nat.pow_le_pow_right (by decide) hn.1)
  have h2 : val m < B ^ n := Nat.lt_of_lt_of_le (val_lt hm) (Nat.pow_le_pow_right (by decide) hn.2)
  exact carry_none h h1 h2

theorem spec19 {D : Orc} (c : Cl19 D) (g : SpecRight D 12) (t : SpecFit D 32) : SpecSum (· + ·) D 19 := by
  intro a b l m h k kp r q hk
  refine c _ _ _ _ _ ?_
  unfold F19
  refine two_right g r q (J := fun v h => j19__2 D k kp a b v h) ?_
  unfold j19__2
  rw [boolW_bool, cond_split]
  refine ⟨fun h1 => ?_, fun h1 => ?_⟩
  · have hb : both l m = false := by simpa using h1
    have := hk (.slice none 0 0) h
    rw [hb] at this
    exact this (Nb.nil_ (Ext.refl h))
  have hb : both l m = true := by simpa using h1
  have h64 := (right_small hb).1.1
  have h65 := (right_small hb).2.1
  rw [hb] at hk
  rw [r.len, q.len]
  refine max_rule ?_
  rw [intK_int, i64_id (by omega) (by omega)]
  obtain ⟨n, hn⟩ : ∃ n, max l.length m.length = n := ⟨_, rfl⟩
  rw [hn]
  refine make_rule (n + 1) (by omega) (by omega) fun s h1 nb => ?_
  intro I hI
  have hB : B = 4294967296 := rfl
  have key : ∀ d i : Nat, ∀ (o : List Nat) (c : Nat) (h2 : H), i + d = n + 1 → o.length = n + 1 → Nb h h2 s o → c ≤ 1 →
      val (o.take i) + B ^ i * c = val (l.take i) + val (m.take i) → I [a, b, s, .int .u64 (c : Int), .int .i64 (i : Int)] h2 := by
    intro d
    induction d with
    | zero =>
      intro i o c h2 hi ho nb hc hv
      refine hI _ _ _ _ _ _ ?_
      unfold round19_6
      simp only [intK_int]
      rw [nb.len, cond_dec]
      refine ⟨fun x => absurd x (by omega), fun _ => ?_⟩
      simp only [xs_e, nth0, nth1, nth2, intK_int, Nat.beq_refl, cond_true]
      have hi' : i = n + 1 := by omega
      subst hi'
      exact fit_rule t nb (add_end r.ok q.ok (by omega) hv ho) hk
    | succ d ih =>
      intro i o c h2 hi ho nb hc hv
      refine hI _ _ _ _ _ _ ?_
      unfold round19_6
      simp only [intK_int]
      rw [nb.len, cond_dec]
      refine ⟨fun _ => ?_, fun x => absurd (show (i : Int) < (o.length : Int) by omega) x⟩
      have r2 := r.ext nb.ext
      have q2 := q.ext nb.ext
      have h6 := dig_lt r.ok i
      have h7 := dig_lt q.ok i
      have last : ∀ (t' : Nat) tv, t' = c + (dig l i + dig m i) → tv = (t' : Int) → j19_6_12 D I (fun x33 vs34 h32 => xs x33 (intK IntKind.i64 (nth vs34 1) (fun x36 => k (Value.tuple #[(nth vs34 0), (Value.int IntKind.i64 x36)]) h32)) (fun i35 => cond (Nat.beq i35 0) (
D 32 [(nth vs34 0)] h32 (fun v37 h38 => ∃ v39 : Value, ∃ x40 : Int, v37 = (Value.tuple #[v39, (Value.int IntKind.i64 x40)]) ∧ k (Value.tuple #[v39, (Value.int IntKind.i64 x40)]) h38) kp) (False)) (fun c => kp c h32)) a b s (.int .u64 tv) (.int .i64 (i : Int)) h2 := by
        rintro t' tv rfl rfl
        unfold j19_6_12
        simp only [intK_int]
        refine nb.put (by trivial) (by trivial) (x := (c + (dig l i + dig m i)) % B) i rfl (by omega) (by rw [u32_mod]; rfl) (Nat.mod_lt _ (by decide)) (fun h3 nb3 => ?_)
        refine ⟨by decide, ?_⟩
        rw [shr32, i64_id (by omega) (by omega)]
        have := ih (i + 1) (o.set i ((c + (dig l i + dig m i)) % B)) ((c + (dig l i + dig m i)) / B) h3 (by omega) (by simpa using ho) nb3 (by
          rw [hB]; omega) (by
          rw [val_set_take (by omega), val_take_succ, val_take_succ, Nat.pow_succ, carry_step hv rfl, Nat.mul_add]; omega)
        simpa [hB] using this
      have mid : ∀ (t' : Nat) tv, t' = c + dig l i → tv = (t' : Int) → j19_6_10 D I (fun x33 vs34 h32 => xs x33 (intK IntKind.i64 (nth vs34 1) (fun x36 => k (Value.tuple #[(nth vs34 0), (Value.int IntKind.i64 x36)]) h32)) (fun i35 => cond (Nat.beq i35 0) (
D 32 [(nth vs34 0)] h32 (fun v37 h38 => ∃ v39 : Value, ∃ x40 : Int, v37 = (Value.tuple #[v39, (Value.int IntKind.i64 x40)]) ∧ k (Value.tuple #[v39, (Value.int IntKind.i64 x40)]) h38) kp) (False)) (fun c => kp c h32)) a b s (.int .u64 tv) (.int .i64 (i : Int)) h2 := by
        rintro t' tv ht rfl
        unfold j19_6_10
        simp only [intK_int]
        rw [q2.len, cond_dec]
        refine ⟨fun h8 => ?_, fun h8 => ?_⟩
        · refine q2.at_ (by omega) (by omega) fun p' y hy hyB hb => ⟨_, hb, ?_⟩
          rw [Int.toNat_natCast] at hy
          refine last (c + (dig l i + y)) _ (by rw [dig_of hy]) ?_
          rw [u64_id (n := (y : Int)) (by omega) (by omega), u64_id (by omega) (by omega)]
          omega
        · exact last t' _ (by rw [dig_out (l := m) (by omega)]; omega) rfl
      rw [r2.len, cond_dec]
      refine ⟨fun h8 => ?_, fun h8 => ?_⟩
      · refine r2.at_ (by omega) (by omega) fun p x hx hxB ha => ⟨_, ha, ?_⟩
        rw [Int.toNat_natCast] at hx
        refine mid (c + x) _ (by rw [dig_of hx]) ?_
        rw [u64_id (n := (x : Int)) (by omega) (by omega), u64_id (by omega) (by omega)]
        omega
      · exact mid c _ (by rw [dig_out (l := l) (by omega)]; omega) rfl
  have := key (n + 1) 0 (List.replicate (n + 1) 0) 0 h1 (by omega) (by simp) nb (by omega) (by simp [val])
  exact this
end Go.Proofs.YtkgjpdadeakacaaDoor.Am
