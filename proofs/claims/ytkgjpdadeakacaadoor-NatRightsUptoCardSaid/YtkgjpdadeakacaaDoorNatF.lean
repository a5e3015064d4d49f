/-
  The naturals' functions: products.
-/
import Derived.Test.YtkgjpdadeakacaaDoorNatE
namespace Go.Proofs.YtkgjpdadeakacaaDoor.Am
open Go Go.Proofs Nats
set_option linter.unusedVariables false
set_option linter.unusedSimpArgs false

/-- The program's inner loop: a digit x times all of b. -/
theorem mul_inner {D : Orc} {h0 : H} {b s a : Value} {l m : List Nat} {i x V : Nat} (q : Nr h0 b m) (hx : x < B) (hm : m.length ≤ 64) (hi : i < 64) {K : Kl} {N : Nat} (hN : i + m.length ≤ N) (hN2 : N ≤ 200)
    (hK : ∀ h2 o c, Nb h0 h2 s o → o.length = N → c < B → val (o.take (i + m.length)) + B ^ (i + m.length) * c = V + B ^ i * (x * val m) →
      K (.e 2) [b, s, .int .i64 (i : Int), .int .u64 (c : Int), a, .int .i64 (l.length : Int), .int .i64 (i : Int)] h2)
    {h1 : H} {o1 : List Nat} (nb : Nb h0 h1 s o1) (ho : o1.length = N) (hV : val (o1.take (i + m.length)) = V) :
    loop20_9 D [b, s, .int .i64 (i : Int), .int .u32 (x : Int), .int .u64 (0 : Int), a, .int .i64 (l.length : Int), .int .i64 (i : Int), b, .int .i64 (m.length : Int), .int .i64 (0 : Int)] h1 K := by
  intro I hI
  have hB : B = 4294967296 := rfl
  have key : ∀ d k : Nat, ∀ (o : List Nat) (c : Nat) (h2 : H), k + d = m.length → o.length = N → Nb h0 h2 s o → c < B →
      val (o.take (i + m.length)) + B ^ (i + k) * c = V + B ^ i * (x * val (m.take k)) → I [b, s, .int .i64 (i : Int), .int .u32 (x : Int), .int .u64 (c : Int), a, .int .i64 (l.length : Int), .int .i64 (i : Int), b, .int .i64 (m.length : Int), .int .i64 (k : Int)] h2 := by
    intro d
    induction d with
    | zero =>
      intro k o c h2 hk ho nb hc hv
      refine hI _ _ _ _ _ _ _ _ _ _ _ _ ?_
      unfold round20_9
      simp only [intK_int]
      rw [cond_dec]
      refine ⟨fun x => absurd x (by omega), fun _ => ?_⟩
      have hk' : k = m.length := by omega
      subst hk'
      rw [val_full (l := m) (Nat.le_refl _)] at hv
      exact hK _ _ _ nb ho hc hv
    | succ d ih =>
      intro k o c h2 hk ho nb hc hv
      refine hI _ _ _ _ _ _ _ _ _ _ _ _ ?_
      unfold round20_9
      simp only [intK_int]
      rw [cond_dec]
      refine ⟨fun _ => ?_, fun x => absurd (show (k : Int) < (m.length : Int) by omega) x⟩
      have q2 := q.ext nb.ext
      refine q2.at_ (by omega) (by omega) fun p y hy hyB ha => ⟨_, ha, ?_⟩
      rw [Int.toNat_natCast] at hy
      have e1 : IntKind.wrap .i64 ((i : Int) + (k : Int)) = ((i + k : Nat) : Int) := by rw [i64_id (by omega) (by omega)]; omega
      rw [e1]
      refine nb.nr.at_ (by omega) (by omega) fun p' z hz hzB hb => ⟨_, hb, ?_⟩
      rw [Int.toNat_natCast] at hz
      have hxy := prod_lt hx hyB
      have e2 : IntKind.wrap .u64 ((c : Int) + IntKind.wrap .u64 (IntKind.wrap .u64 (IntKind.wrap .u64 (x : Int) * IntKind.wrap .u64 (y : Int)) + IntKind.wrap .u64 (z : Int))) = ((c + (x * y + z) : Nat) : Int) := by
        rw [u64_id (n := (x : Int)) (by omega) (by omega), u64_id (n := (y : Int)) (by omega) (by omega), u64_id (n := (z : Int)) (by omega) (by omega), ← Int.natCast_mul, u64_id (n := ((x * y : Nat) : Int)) (by omega) (by omega),
          u64_id (n := ((x * y : Nat) : Int) + (z : Int)) (by omega) (by omega), u64_id (by omega) (by omega)]
        omega
      rw [e2]
      refine nb.put (by trivial) (by trivial) (x := (c + (x * y + z)) % B) (i + k) rfl (by omega) (by rw [u32_mod]; rfl) (Nat.mod_lt _ (by decide)) (fun h3 nb3 => ?_)
      refine ⟨by decide, ?_⟩
      rw [shr32, i64_id (n := (k : Int) + 1) (by omega) (by omega)]
      have := ih (k + 1) (o.set (i + k) ((c + (x * y + z)) % B)) ((c + (x * y + z)) / B) h3 (by omega) (by simpa using ho) nb3 (by
        rw [hB]; omega) (by
        have h5 := val_set_any (l := o) (i := i + k) (x := (c + (x * y + z)) % B) (n := i + m.length) (by omega) (by omega)
        rw [dig_of hz] at h5
        rw [mul_step hv rfl h5 (by rw [← Nat.add_assoc, Nat.pow_succ]), val_take_succ, dig_of hy, Nat.mul_add x, Nat.mul_add, Nat.pow_add, Nat.add_assoc]
        congr 1
        congr 1
        rw [Nat.mul_left_comm x, Nat.mul_assoc])
      simpa [hB] using this
  exact key m.length 0 o1 0 h1 (by omega) ho nb (by decide) (by simp [val, hV])

theorem spec20 {D : Orc} (c : Cl20 D) (g : SpecRight D 11) (t : SpecFit D 31) : SpecSum (· * ·) D 20 := by
  intro a b l m h k kp r q hk
  refine c _ _ _ _ _ ?_
  unfold F20
  refine two_right g r q (J := fun v h => j20__2 D k kp a b v h) ?_
  unfold j20__2
  rw [boolW_bool, cond_split]
  refine ⟨fun h1 => ?_, fun h1 => ?_⟩
  · have hb : both l m = false := by simpa using h1
    have := hk (.slice none 0 0) h
    rw [hb] at this
    exact this (Nb.nil_ (Ext.refl h))
  have hb : both l m = true := by simpa using h1
  have h64 := (right_small hb).1.1
  have h65 := (right_small hb).2.1
  rw [hb] at hk
  rw [r.len, q.len, i64_id (by omega) (by omega)]
  refine make_rule (l.length + m.length) (by omega) (by omega) fun s h1 nb => ?_
  rw [(r.ext nb.ext).len]
  intro I hI
  have hB : B = 4294967296 := rfl
  have key : ∀ d i : Nat, ∀ (o : List Nat) (h2 : H), i + d = l.length → o.length = l.length + m.length → Nb h h2 s o →
      val (o.take (i + m.length)) = val (l.take i) * val m → I [b, s, a, .int .i64 (l.length : Int), .int .i64 (i : Int)] h2 := by
    intro d
    induction d with
    | zero =>
      intro i o h2 hi ho nb hv
      refine hI _ _ _ _ _ _ ?_
      unfold round20_5
      simp only [intK_int]
      rw [cond_dec]
      refine ⟨fun x => absurd x (by omega), fun _ => ?_⟩
      simp only [xs_e, nth0, nth1, nth2, intK_int, Nat.beq_refl, cond_true]
      refine fit_rule t nb ?_ hk
      rw [val_full (l := o) (by omega), val_full (l := l) (by omega)] at hv
      exact hv
    | succ d ih =>
      intro i o h2 hi ho nb hv
      refine hI _ _ _ _ _ _ ?_
      unfold round20_5
      simp only [intK_int]
      rw [cond_dec]
      refine ⟨fun _ => ?_, fun x => absurd (show (i : Int) < (l.length : Int) by omega) x⟩
      have r2 := r.ext nb.ext
      refine r2.at_ (by omega) (by omega) fun p x hx hxB ha => ⟨_, ha, ?_⟩
      rw [Int.toNat_natCast] at hx
      rw [(q.ext nb.ext).len]
      refine mul_inner (l := l) (x := x) (i := i) q hxB h65 (by omega) (N := l.length + m.length) (by omega) (by omega) (fun h3 o3 c nb3 ho3 hc hv3 => ?_) nb ho hv
      have n5 : ∀ {a b c d e f : Value} {l : List Value}, nth (a :: b :: c :: d :: e :: f :: l) 5 = f := rfl
      have n6 : ∀ {a b c d e f g : Value} {l : List Value}, nth (a :: b :: c :: d :: e :: f :: g :: l) 6 = g := rfl
      simp only [xs_e, nth0, nth1, nth2, nth3, nth4, n5, n6, intK_int, Nat.beq_refl, cond_true]
      rw [(q.ext nb3.ext).len]
      have e1 : IntKind.wrap .i64 ((i : Int) + (m.length : Int)) = ((i + m.length : Nat) : Int) := by rw [i64_id (by omega) (by omega)]; omega
      rw [e1]
      refine nb3.put (by trivial) (by trivial) (x := c) (i + m.length) rfl (by omega) (by rw [u32_id (by omega) (by omega)]) hc (fun h4 nb4 => ?_)
      rw [i64_id (by omega) (by omega)]
      have := ih (i + 1) (o3.set (i + m.length) c) h4 (by omega) (by simpa using ho3) nb4 (by
        rw [show i + 1 + m.length = i + m.length + 1 by omega, val_set_take (by omega), hv3, val_take_succ, dig_of hx, Nat.add_mul, Nat.mul_assoc])
      simpa using this
  have := key l.length 0 (List.replicate (l.length + m.length) 0) h1 (by omega) (by simp) nb (by
    rw [val_zeros fun x hx => (List.mem_replicate.mp (List.mem_of_mem_take hx)).2]; simp [val])
  exact this
end Go.Proofs.YtkgjpdadeakacaaDoor.Am
