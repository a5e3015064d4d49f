/-
  The naturals' functions: sums.
-/
import Derived.Test.YtkgjpdadeakacaaDoorNatB
namespace Go.Proofs.YtkgjpdadeakacaaDoor.Am
open Go Go.Proofs Nats
set_option linter.unusedVariables false
set_option linter.unusedSimpArgs false

theorem Nb.put {h0 h : H} {s : Value} {l : List Nat} (r : Nb h0 h s l) {T O : Prop} (hT : T) (hO : O) {n : Int} (i : Nat) (hn : n = (i : Int)) (hi : i < l.length) {v : Value} {x : Nat} (hv : v = .int .u32 (x : Int)) (hx : x < B) {K : H → Prop} (hk : ∀ h', Nb h0 h' s (l.set i x) → K h') :
    slAtW s n 1 (fun a => O ∧ T ∧ ∃ h', wr1 h a v = some h' ∧ K h') := by
  subst hn hv
  refine r.buf.put (by rw [U_len]; exact hi) fun a h' hw he hb => ⟨hO, hT, h', hw, hk h' ⟨he h0 r.ext fun _ h => h, ?_, r.ok.set hx, by simpa using r.small⟩⟩
  rw [U_set] at hb; exact hb
theorem Nb.nil_ {h0 h : H} (e : Ext h0 h) : Nb h0 h (.slice none 0 0) [] := ⟨e, .inl ⟨⟨none, rfl⟩, rfl⟩, fun _ h => by simp at h, by decide⟩
theorem Nb.len {h0 h : H} {s : Value} {l : List Nat} (r : Nb h0 h s l) {k : Nat → Prop} : lenW s k ↔ k l.length := r.nr.len
theorem make_rule {h : H} {m : Int} (n : Nat) (hm : m = (n : Int)) (hn : n < 2 ^ 40) {k : Kv} (hk : ∀ s h', Nb h h' s (List.replicate n 0) → k s h') : mkSliceW h 4 [(Value.int IntKind.u32 (0 : Int))] m m k := by
  subst hm
  refine ⟨by omega, by omega, by omega, by omega, fun b hb => hk _ _ ⟨Ext.new hb, ?_, ok_zeros n, by simpa using hn⟩⟩
  have hb' := hb
  clear hk
  have e : (List.replicate (n : Int).toNat [(Value.int IntKind.u32 (0 : Int))]).flatten = U (List.replicate n 0) := by
    rw [Int.toNat_natCast]
    simp only [U, List.map_replicate]
    induction n with
    | zero => rfl
    | succ n ih => rw [List.replicate_succ, List.flatten_cons, ih (by omega), List.replicate_succ]; rfl
  rw [e]
  exact Buf.cells hb' set_here (by simp [U])

theorem two_right {D : Orc} {f : Nat} (t : SpecRight D f) {a b : Value} {l m : List Nat} {h : H} {kp : Kp} (r : Nr h a l) (q : Nr h b m) {J : Value → H → Prop} (hj : J (.bool (!both l m)) h) :
    D f [a] h (fun v0 h1 => ∃ t2 : Bool, v0 = (Value.bool t2) ∧ cond (!(!t2)) (D f [b] h1 (fun v3 h4 => ∃ t5 : Bool, v3 = (Value.bool t5) ∧ J (Value.bool (!t5)) h4) kp) (J (Value.bool true) h1)) kp := by
  refine t _ _ _ _ _ r ⟨_, rfl, ?_⟩
  unfold both at hj
  cases hl : decide (right l) with
  | false => rw [hl] at hj; exact hj
  | true =>
    rw [hl] at hj
    exact t _ _ _ _ _ q ⟨_, rfl, hj⟩

def SpecSum (op : Nat → Nat → Nat) (D : Orc) (f : Nat) : Prop := ∀ a b l m h k kp, Nr h a l → Nr h b m →
  (∀ s h', Nb h h' s (outcome (both l m) (op (val l) (val m))).1 → k (.tuple #[s, .int .i64 (outcome (both l m) (op (val l) (val m))).2]) h') → D f [a, b] h k kp
theorem right_small {l m : List Nat} (h : both l m = true) : right l ∧ right m := by simpa [both] using h

theorem fit_rule {D : Orc} {f : Nat} (t : SpecFit D f) {h0 h : H} {s : Value} {o : List Nat} {v : Nat} {k : Kv} {kp : Kp} (r : Nb h0 h s o) (hv : val o = v)
    (hk : ∀ s h', Nb h0 h' s (outcome true v).1 → k (.tuple #[s, .int .i64 (outcome true v).2]) h') :
    D f [s] h (fun v40 h41 => ∃ v42 : Value, ∃ x43 : Int, v40 = (Value.tuple #[v42, (Value.int IntKind.i64 x43)]) ∧ k (Value.tuple #[v42, (Value.int IntKind.i64 x43)]) h41) kp := by
  subst hv
  refine t _ _ _ _ _ r.nr (fun h1 => ⟨_, _, rfl, ?_⟩) (fun h1 => ⟨_, _, rfl, ?_⟩)
  · have := hk (cutTo s (limbs (val o)).length) h
    simp only [outcome, h1, if_true] at this
    exact this r.trim
  · have := hk (.slice none 0 0) h
    simp only [outcome, if_true, if_neg (show ¬ (limbs (val o)).length ≤ 64 by omega)] at this
    exact this (Nb.nil_ r.ext)

/-- The program's sum, the longer row first. -/
theorem add_core {D : Orc} (t : SpecFit D 31) {a b : Value} {l m : List Nat} {h : H} {k : Kv} {kp : Kp} (r : Nr h a l) (q : Nr h b m) (hlen : m.length ≤ l.length) (h64 : l.length ≤ 64)
    (hk : ∀ s h', Nb h h' s (outcome true (val l + val m)).1 → k (.tuple #[s, .int .i64 (outcome true (val l + val m)).2]) h') : j18__5 D k kp a b h := by
  have hs := r.small
  unfold j18__5
  rw [r.len]
  rw [i64_id (by omega) (by omega)]
  refine make_rule (l.length + 1) (by omega) (by omega) fun s h1 nb => ?_
  rw [(r.ext nb.ext).len]
  intro I hI
  have key : ∀ d i : Nat, ∀ (o : List Nat) (c : Nat) (h2 : H), i + d = l.length → o.length = l.length + 1 → Nb h h2 s o → c ≤ 1 →
      val (o.take i) + B ^ i * c = val (l.take i) + val (m.take i) → I [a, b, s, .int .u64 (c : Int), a, .int .i64 (l.length : Int), .int .i64 (i : Int)] h2 := by
    intro d
    induction d with
    | zero =>
      intro i o c h2 hi ho nb hc hv
      refine hI _ _ _ _ _ _ _ _ ?_
      unfold round18_8
      simp only [intK_int]
      rw [cond_dec]
      refine ⟨fun x => absurd x (by omega), fun _ => ?_⟩
      simp only [xs_e, nth0, nth1, nth2, intK_int, Nat.beq_refl, cond_true]
      rw [(r.ext nb.ext).len, u32_id (by omega) (by omega)]
      refine nb.put (by trivial) (by trivial) (x := c) l.length rfl (by omega) rfl (by have : B = 4294967296 := rfl; omega) fun h3 nb3 => ?_
      refine fit_rule t nb3 ?_ hk
      have hi' : i = l.length := by omega
      subst hi'
      have h5 : val ((o.set l.length c).take (l.length + 1)) = val (o.set l.length c) := val_full (by simp; omega)
      rw [← h5, val_set_take (by omega), hv, val_full (Nat.le_refl _), val_full hlen]
    | succ d ih =>
      intro i o c h2 hi ho nb hc hv
      refine hI _ _ _ _ _ _ _ _ ?_
      unfold round18_8
      simp only [intK_int]
      rw [cond_dec]
      refine ⟨fun _ => ?_, fun x => absurd (show (i : Int) < (l.length : Int) by omega) x⟩
      have r2 := r.ext nb.ext
      have q2 := q.ext nb.ext
      have next : ∀ (n t' : Nat), t' = c + (dig l i + dig m i) → n = i → ∀ tv, tv = (t' : Int) → j18_8_13 D I (fun x32 vs33 h31 => xs x32 (intK IntKind.i64 (nth vs33 1) (fun x35 => k (Value.tuple #[(nth vs33 0), (Value.int IntKind.i64 x35)]) h31)) (fun i34 => cond (Nat.beq i34 0) (
intK IntKind.u64 (nth vs33 2) (fun x36 => lenW (nth vs33 0) (fun n37 => slAtW (nth vs33 1) (n37 : Int) 1 (fun a38 => one (Value.int IntKind.u32 (IntKind.wrap IntKind.u32 x36)) = true ∧ 1 = 1 ∧ ∃ h39, wr1 h31 a38 (Value.int IntKind.u32 (IntKind.wrap IntKind.u32 x36)) = some h39 ∧ D 31 [(nth vs33 1)] h39 (fun v40 h41 => ∃ v42 : Value, ∃ x43 : Int, v40 = (Value.tuple #[v42, (Value.int IntKind.i64 x43)]) ∧ k (Value.tuple #[v42, (Value.int IntKind.i64 x43)]) h41) kp)))) (False)) (fun c => kp c h31)) a b s (.int .u64 tv) (.int .i64 (n : Int)) a (.int .i64 (l.length : Int)) (.int .i64 (n : Int)) h2 := by
        rintro n t' rfl rfl tv rfl
        have h6 := dig_lt r.ok n
        have h7 := dig_lt q.ok n
        have hB : B = 4294967296 := rfl
        unfold j18_8_13
        simp only [intK_int]
        refine nb.put (by trivial) (by trivial) (x := (c + (dig l n + dig m n)) % B) n rfl (by omega) (by rw [u32_mod]; rfl) (Nat.mod_lt _ (by decide)) (fun h3 nb3 => ?_)
        refine ⟨by decide, ?_⟩
        rw [shr32, i64_id (by omega) (by omega)]
        have := ih (n + 1) (o.set n ((c + (dig l n + dig m n)) % B)) ((c + (dig l n + dig m n)) / B) h3 (by omega) (by simpa using ho) nb3 (by
          rw [hB]; omega) (by
          rw [val_set_take (by omega), val_take_succ, val_take_succ, Nat.pow_succ, carry_step hv rfl, Nat.mul_add]; omega)
        simpa [hB] using this
      refine r2.at_ (by omega) (by omega) fun p x hx hxB ha => ⟨_, ha, ?_⟩
      rw [Int.toNat_natCast] at hx
      rw [q2.len, cond_dec]
      have hB : B = 4294967296 := rfl
      refine ⟨fun h8 => ?_, fun h8 => ?_⟩
      · refine q2.at_ (by omega) (by omega) fun p' y hy hyB hb => ⟨_, hb, ?_⟩
        rw [Int.toNat_natCast] at hy
        refine next i (c + (x + y)) (by rw [dig_of hx, dig_of hy]) rfl _ ?_
        rw [u64_id (n := (x : Int)) (by omega) (by omega), u64_id (n := (y : Int)) (by omega) (by omega), u64_id (n := (c : Int) + x) (by omega) (by omega), u64_id (by omega) (by omega)]
        omega
      · refine next i (c + x) (by rw [dig_of hx, dig_out (by omega)]; omega) rfl _ ?_
        rw [u64_id (n := (x : Int)) (by omega) (by omega), u64_id (by omega) (by omega)]
        omega
  have := key l.length 0 (List.replicate (l.length + 1) 0) 0 h1 (by omega) (by simp) nb (by omega) (by simp [val])
  exact this
theorem spec18 {D : Orc} (c : Cl18 D) (g : SpecRight D 11) (t : SpecFit D 31) : SpecSum (· + ·) D 18 := by
  intro a b l m h k kp r q hk
  refine c _ _ _ _ _ ?_
  unfold F18
  refine two_right g r q (J := fun v h => j18__2 D k kp a b v h) ?_
  unfold j18__2
  rw [boolW_bool, cond_split]
  refine ⟨fun h1 => ?_, fun h1 => ?_⟩
  · have hb : both l m = false := by simpa using h1
    have := hk (.slice none 0 0) h
    rw [hb] at this
    exact this (Nb.nil_ (Ext.refl h))
  · have hb : both l m = true := by simpa using h1
    have hk := hk
    rw [hb] at hk
    rw [r.len, q.len, cond_dec]
    refine ⟨fun h2 => ?_, fun h2 => ?_⟩
    · refine add_core t q r (by omega) (right_small hb).2.1 ?_
      rw [Nat.add_comm]; exact hk
    · exact add_core t r q (by omega) (right_small hb).1.1 hk
end Go.Proofs.YtkgjpdadeakacaaDoor.Am
