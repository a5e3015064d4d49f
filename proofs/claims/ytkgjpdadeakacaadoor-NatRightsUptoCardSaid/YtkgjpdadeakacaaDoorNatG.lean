/-
  The naturals' functions: the document's product.
-/
import Derived.Test.YtkgjpdadeakacaaDoorNatF
namespace Go.Proofs.YtkgjpdadeakacaaDoor.Am
open Go Go.Proofs Nats
set_option linter.unusedVariables false
set_option linter.unusedSimpArgs false

theorem val_set_all {l : List Nat} {i x : Nat} (h : i < l.length) : val (l.set i x) + B ^ i * dig l i = val l + B ^ i * x := by
  have := val_set_any (x := x) (n := l.length) h h
  rw [val_full (Nat.le_refl _), val_full (by simp)] at this
  exact this

theorem refmul_inner {D : Orc} {h0 : H} {a b s : Value} {l m : List Nat} {i x V : Nat} (r : Nr h0 a l) (q : Nr h0 b m) (hxi : l[i]? = some x) (hx : x < B) (hl : l.length ≤ 64) (hm : m.length ≤ 64) {K : Kl}
    (hbig : V + B ^ i * (x * val m) < B ^ (i + 1 + m.length))
    (hK : ∀ h2 o, Nb h0 h2 s o → o.length = l.length + m.length + 1 → val o = V + B ^ i * (x * val m) → K (.e 2) [a, b, s, .int .i64 (i : Int)] h2)
    {h1 : H} {o1 : List Nat} (nb : Nb h0 h1 s o1) (ho : o1.length = l.length + m.length + 1) (hV : val o1 = V) :
    loop21_9 D [a, b, s, .int .i64 (i : Int), .int .u64 (0 : Int), .int .i64 (0 : Int)] h1 K := by
  intro I hI
  have hB : B = 4294967296 := rfl
  have hil : i < l.length := (List.getElem?_eq_some_iff.mp hxi).1
  have key : ∀ d k : Nat, ∀ (o : List Nat) (c : Nat) (h2 : H), k + d = m.length + 1 → o.length = l.length + m.length + 1 → Nb h0 h2 s o → c < B →
      val o + B ^ (i + k) * c = V + B ^ i * (x * val (m.take k)) → I [a, b, s, .int .i64 (i : Int), .int .u64 (c : Int), .int .i64 (k : Int)] h2 := by
    intro d
    induction d with
    | zero =>
      intro k o c h2 hk ho nb hc hv
      refine hI _ _ _ _ _ _ _ ?_
      unfold round21_9
      simp only [intK_int]
      rw [(q.ext nb.ext).len, cond_not, cond_dec]
      refine ⟨fun x => absurd x (by omega), fun _ => ?_⟩
      rw [val_full (l := m) (by omega)] at hv
      have hc0 : c = 0 := by
        cases c with
        | zero => rfl
        | succ c =>
          exfalso
          have h3 : B ^ (i + k) * 1 ≤ B ^ (i + k) * (c + 1) := Nat.mul_le_mul_left _ (by omega)
          rw [show i + k = i + 1 + m.length by omega] at h3 hv
          omega
      subst hc0
      rw [cond_dec]
      refine ⟨fun x => absurd x (by decide), fun _ => hK _ _ nb ho (by simpa using hv)⟩
    | succ d ih =>
      intro k o c h2 hk ho nb hc hv
      have q2 := q.ext nb.ext
      have r2 := r.ext nb.ext
      have h6 := dig_lt nb.ok (i + k)
      have h7 := dig_lt q.ok k
      have hxy := prod_lt hx h7
      have last : ∀ (t' : Nat) tv, t' = c + (x * dig m k + dig o (i + k)) → tv = (t' : Int) → j21_9_14 D I K a b s (.int .i64 (i : Int)) (.int .u64 tv) (.int .i64 (k : Int)) h2 := by
        rintro t' tv rfl rfl
        unfold j21_9_14
        simp only [intK_int]
        have e1 : IntKind.wrap .i64 ((i : Int) + (k : Int)) = ((i + k : Nat) : Int) := by rw [i64_id (by omega) (by omega)]; omega
        rw [e1]
        refine nb.put (by trivial) (by trivial) (x := (c + (x * dig m k + dig o (i + k))) % B) (i + k) rfl (by omega) (by rw [u32_mod]; rfl) (Nat.mod_lt _ (by decide)) (fun h3 nb3 => ?_)
        refine ⟨by decide, ?_⟩
        rw [shr32, i64_id (n := (k : Int) + 1) (by omega) (by omega)]
        have := ih (k + 1) (o.set (i + k) ((c + (x * dig m k + dig o (i + k))) % B)) ((c + (x * dig m k + dig o (i + k))) / B) h3 (by omega) (by simpa using ho) nb3 (by
          rw [hB]; omega) (by
          have h5 := val_set_all (l := o) (i := i + k) (x := (c + (x * dig m k + dig o (i + k))) % B) (by omega)
          rw [mul_step hv rfl h5 (by rw [← Nat.add_assoc, Nat.pow_succ]), val_take_succ, Nat.mul_add x, Nat.mul_add, Nat.pow_add, Nat.add_assoc]
          congr 1
          congr 1
          rw [Nat.mul_left_comm x, Nat.mul_assoc])
        simpa [hB] using this
      have e1 : IntKind.wrap .i64 ((i : Int) + (k : Int)) = ((i + k : Nat) : Int) := by rw [i64_id (by omega) (by omega)]; omega
      refine hI _ _ _ _ _ _ _ ?_
      unfold round21_9
      simp only [intK_int]
      rw [q2.len, cond_not, cond_dec, e1]
      refine ⟨fun h8 => ?_, fun h8 => ?_⟩
      · refine nb.nr.at_ (by omega) (by omega) fun p' z hz hzB hb => ⟨_, hb, ?_⟩
        rw [Int.toNat_natCast] at hz
        rw [q2.len, cond_dec]
        refine ⟨fun _ => ?_, fun x => absurd h8 x⟩
        refine r2.at_ (by omega) (by omega) fun p x' hx' hxB ha => ⟨_, ha, ?_⟩
        rw [Int.toNat_natCast, hxi] at hx'
        obtain rfl := Option.some.inj hx'
        refine q2.at_ (by omega) (by omega) fun p y hy hyB ha => ⟨_, ha, ?_⟩
        rw [Int.toNat_natCast] at hy
        rw [dig_of hy] at hxy
        refine last (c + (x * y + z)) _ (by rw [dig_of hy, dig_of hz]) ?_
        rw [u64_id (n := (x : Int)) (by omega) (by omega), u64_id (n := (y : Int)) (by omega) (by omega), u64_id (n := (z : Int)) (by omega) (by omega), ← Int.natCast_mul, u64_id (n := ((x * y : Nat) : Int)) (by omega) (by omega),
          u64_id (n := (c : Int) + (z : Int)) (by omega) (by omega), u64_id (by omega) (by omega)]
        omega
      · rw [cond_dec]
        refine ⟨fun h9 => ?_, fun h9 => ?_⟩
        · refine nb.nr.at_ (by omega) (by omega) fun p' z hz hzB hb => ⟨_, hb, ?_⟩
          rw [Int.toNat_natCast] at hz
          rw [q2.len, cond_dec]
          refine ⟨fun x => absurd x h8, fun _ => ?_⟩
          refine last (c + z) _ (by rw [dig_out (l := m) (by omega), dig_of hz, Nat.mul_zero, Nat.zero_add]) ?_
          rw [u64_id (n := (z : Int)) (by omega) (by omega), u64_id (by omega) (by omega)]
          omega
        · have hc0 : c = 0 := by omega
          subst hc0
          rw [val_full (l := m) (by omega)] at hv
          exact hK _ _ nb ho (by simpa using hv)
  exact key (m.length + 1) 0 o1 0 h1 (by omega) ho nb (by decide) (by simp [val, hV])

theorem spec21 {D : Orc} (c : Cl21 D) (g : SpecRight D 12) (t : SpecFit D 32) : SpecSum (· * ·) D 21 := by
  intro a b l m h k kp r q hk
  refine c _ _ _ _ _ ?_
  unfold F21
  refine two_right g r q (J := fun v h => j21__2 D k kp a b v h) ?_
  unfold j21__2
  rw [boolW_bool, cond_split]
  refine ⟨fun h1 => ?_, fun h1 => ?_⟩
  · have hb : both l m = false := by simpa using h1
    have := hk (.slice none 0 0) h
    rw [hb] at this
    exact this (Nb.nil_ (Ext.refl h))
  have hb : both l m = true := by simpa using h1
  have h64 := (right_small hb).1.1
  have h65 := (right_small hb).2.1
  rw [hb] at hk
  rw [r.len, q.len, i64_id (n := (l.length : Int) + m.length) (by omega) (by omega), i64_id (by omega) (by omega)]
  refine make_rule (l.length + m.length + 1) (by omega) (by omega) fun s h1 nb => ?_
  intro I hI
  have hB : B = 4294967296 := rfl
  have key : ∀ d i : Nat, ∀ (o : List Nat) (h2 : H), i + d = l.length → o.length = l.length + m.length + 1 → Nb h h2 s o →
      val o = val (l.take i) * val m → I [a, b, s, .int .i64 (i : Int)] h2 := by
    intro d
    induction d with
    | zero =>
      intro i o h2 hi ho nb hv
      refine hI _ _ _ _ _ ?_
      unfold round21_5
      simp only [intK_int]
      rw [(r.ext nb.ext).len, cond_dec]
      refine ⟨fun x => absurd x (by omega), fun _ => ?_⟩
      simp only [xs_e, nth0, nth1, nth2, intK_int, Nat.beq_refl, cond_true]
      refine fit_rule t nb ?_ hk
      rw [val_full (l := l) (by omega)] at hv
      exact hv
    | succ d ih =>
      intro i o h2 hi ho nb hv
      refine hI _ _ _ _ _ ?_
      unfold round21_5
      simp only [intK_int]
      rw [(r.ext nb.ext).len, cond_dec]
      refine ⟨fun _ => ?_, fun x => absurd (show (i : Int) < (l.length : Int) by omega) x⟩
      have hxi : l[i]? = some l[i] := List.getElem?_eq_getElem (by omega)
      have hstep : val (l.take i) * val m + B ^ i * (l[i] * val m) = val (l.take (i + 1)) * val m := by
        rw [val_take_succ, dig_of hxi, Nat.add_mul, Nat.mul_assoc]
      refine refmul_inner (D := D) (V := val (l.take i) * val m) r q hxi (r.ok _ (List.getElem_mem _)) h64 h65 ?_ (fun h3 o3 nb3 ho3 hv3 => ?_) nb ho hv
      · rw [hstep, Nat.pow_add]
        exact Nat.mul_lt_mul'' (val_take_lt r.ok (i + 1)) (val_lt q.ok)
      · simp only [xs_e, nth0, nth1, nth2, nth3, intK_int, Nat.beq_refl, cond_true]
        rw [i64_id (by omega) (by omega)]
        rw [hstep] at hv3
        have := ih (i + 1) o3 h3 (by omega) ho3 nb3 hv3
        simpa using this
  have := key l.length 0 (List.replicate (l.length + m.length + 1) 0) h1 (by omega) (by simp) nb (by
    rw [val_zeros fun x hx => (List.mem_replicate.mp hx).2]; simp [val])
  exact this
end Go.Proofs.YtkgjpdadeakacaaDoor.Am
