/-
  The laws' helpers: a row lent and looked at again, a row spoilt.
-/
import Derived.Test.YtkgjpdadeakacaaDoorNatG
namespace Go.Proofs.YtkgjpdadeakacaaDoor.Am
open Go Go.Proofs Nats
set_option linter.unusedVariables false
set_option linter.unusedSimpArgs false

theorem U_all (l : List Nat) : (U l).all one = true := by simp [U, one]
theorem U_drop (l : List Nat) (n : Nat) : (U l).drop n = U (l.drop n) := by simp [U, List.map_drop]

def SpecLent (D : Orc) (f : Nat) : Prop := ∀ a l h (k : Kv) kp, Nr h a l → l.length ≤ 1048576 → (∀ s h', Nb h h' s (l ++ [77, 77, 77]) → k (cutTo s l.length) h') → D f [a] h k kp
def SpecKept (D : Orc) (f : Nat) : Prop := ∀ s a l h (k : Kv) kp, Nr h s (l ++ [77, 77, 77]) → Nr h a l → l.length ≤ 1048576 → k (.bool true) h → D f [cutTo s l.length, a] h k kp
def SpecSpoil (D : Orc) (f : Nat) : Prop := ∀ s l g h (k : Kv) kp, Nb g h s l → l.length ≤ 1048576 → (∀ h', Ext g h' → k (.tuple #[]) h') → D f [s] h k kp

theorem spec17 {D : Orc} (c : Cl17 D) : SpecLent D 17 := by
  intro a l h k kp r hl hk
  refine c _ _ _ _ ?_
  unfold F17
  rw [r.len, i64_id (by omega) (by omega)]
  refine make_rule (l.length + 3) (by omega) (by omega) fun s h1 nb => ?_
  have r1 := r.ext nb.ext
  rw [r1.row.slen, U_len, nb.nr.row.slen, U_len, List.length_replicate]
  refine r1.row.src (by rw [U_len]; omega) ?_
  rw [Nat.min_eq_left (by omega), U_take, List.take_length]
  refine nb.buf.copy nb.ext (U_all l) (by simp [U_len]) (U_len l).symm fun h2 hb he => ?_
  have nb2 : Nb h h2 s (l ++ List.replicate 3 0) := by
    refine ⟨he, ?_, ?_, by simp; omega⟩
    · rw [U_drop, U_len, List.drop_replicate, U_app, show l.length + 3 - l.length = 3 by omega] at hb
      exact hb
    · intro x hx
      rcases List.mem_append.mp hx with hx | hx
      · exact r.ok x hx
      · rw [(List.mem_replicate.mp hx).2]; decide
  rw [(r.ext nb2.ext).len]
  intro I hI
  have hB : B = 4294967296 := rfl
  have key : ∀ d j : Nat, ∀ (h3 : H), j + d = 3 → Nb h h3 s (l ++ (List.replicate j 77 ++ List.replicate d 0)) → I [a, s, .int .i64 ((l.length + j : Nat) : Int)] h3 := by
    intro d
    induction d with
    | zero =>
      intro j h3 hj nb3
      refine hI _ _ _ _ ?_
      unfold round17_4
      rw [intK_int, nb3.len, cond_dec]
      have hlen : (l ++ (List.replicate j 77 ++ List.replicate 0 0)).length = l.length + 3 := by simp; omega
      rw [hlen]
      refine ⟨fun x => absurd x (by omega), fun _ => ?_⟩
      simp only [xs_e, nth0, nth1, Nat.beq_refl, cond_true]
      rw [(r.ext nb3.ext).len]
      refine nb3.nr.upto (by omega) (by rw [hlen]; omega) ?_
      rw [Int.toNat_natCast]
      have hj3 : j = 3 := by omega
      subst hj3
      exact hk s h3 nb3
    | succ d ih =>
      intro j h3 hj nb3
      refine hI _ _ _ _ ?_
      unfold round17_4
      have hlen : (l ++ (List.replicate j 77 ++ List.replicate (d + 1) 0)).length = l.length + 3 := by simp; omega
      rw [intK_int, nb3.len, cond_dec, hlen]
      refine ⟨fun _ => ?_, fun x => absurd (show ((l.length + j : Nat) : Int) < ((l.length + 3 : Nat) : Int) by omega) x⟩
      refine nb3.put (by trivial) (by trivial) (x := 77) (l.length + j) rfl (by omega) rfl (by decide) (fun h4 nb4 => ?_)
      rw [i64_id (by omega) (by omega), show ((l.length + j : Nat) : Int) + 1 = ((l.length + (j + 1) : Nat) : Int) by omega]
      refine ih (j + 1) h4 (by omega) ?_
      have e : (l ++ (List.replicate j 77 ++ List.replicate (d + 1) 0)).set (l.length + j) 77 = l ++ (List.replicate (j + 1) 77 ++ List.replicate d 0) := by
        rw [List.set_append, if_neg (by omega), Nat.add_sub_cancel_left, List.set_append, if_neg (by simp), List.length_replicate, Nat.sub_self, List.replicate_succ, List.set_cons_zero, List.replicate_succ', List.append_assoc]
        rfl
      rw [e] at nb4
      exact nb4
  have := key 3 0 h2 (by omega) (by simpa using nb2)
  exact this

theorem spec24 {D : Orc} (c : Cl24 D) : SpecKept D 24 := by
  intro s a l h k kp q r hl hk
  refine c _ _ _ _ _ ?_
  unfold F24
  have hlen : (l ++ [77, 77, 77]).length = l.length + 3 := by simp
  have hcap := q.row.cap
  rw [U_len, hlen] at hcap
  have hsl := q.row.isSl
  have hfull := q.row.full
  rw [U_len, hlen] at hfull
  rw [r.len, i64_id (by omega) (by omega)]
  refine cut_rule (by cases s <;> first | exact hsl.elim | trivial) (by omega) (by
    have : capOf (cutTo s l.length) = capOf s := by cases s <;> rfl
    rw [this]; omega) ?_
  rw [cutTo_cutTo, show ((l.length : Int) + 3).toNat = l.length + 3 by omega, hfull]
  intro I hI
  have key : ∀ d n : Nat, n + d = l.length + 3 → I [s, a, .int .i64 (n : Int)] h := by
    intro d
    induction d with
    | zero =>
      intro n hn
      refine hI _ _ _ _ ?_
      unfold round24_3
      rw [intK_int, q.len, cond_dec, hlen]
      refine ⟨fun x => absurd x (by omega), fun _ => ?_⟩
      simp only [xs_e, Nat.beq_refl, cond_true]
      exact hk
    | succ d ih =>
      intro n hn
      have next : j24_3_6 D I (fun x20 vs21 h19 => xs x20 (boolW (nth vs21 0) (fun t23 => k (Value.bool t23) h19)) (fun i22 => cond (Nat.beq i22 0) (
k (Value.bool true) h19) (False)) (fun c => kp c h19)) s a (.int .i64 (n : Int)) (.bool false) h := by
        unfold j24_3_6
        rw [intK_int, boolW_bool, cond_false, i64_id (by omega) (by omega), show (n : Int) + 1 = ((n + 1 : Nat) : Int) by omega]
        exact ih (n + 1) (by omega)
      refine hI _ _ _ _ ?_
      unfold round24_3
      rw [intK_int, q.len, cond_dec, hlen]
      refine ⟨fun _ => ?_, fun x => absurd (show (n : Int) < ((l.length + 3 : Nat) : Int) by omega) x⟩
      rw [r.len, cond_dec]
      refine ⟨fun h1 => ?_, fun h1 => ?_⟩
      · refine q.at_ (by omega) (by omega) fun p x hx hxB ha => ⟨_, ha, ?_⟩
        refine r.at_ (by omega) (by omega) fun p' y hy hyB hb => ⟨_, hb, ?_⟩
        rw [Int.toNat_natCast] at hx hy
        rw [List.getElem?_append_left (by omega), hy] at hx
        obtain rfl := Option.some.inj hx
        rw [cond_not, cond_ne]
        refine ⟨fun h2 => absurd rfl h2, fun _ => ?_⟩
        rw [r.len, cond_dec]
        exact ⟨fun x => absurd x (by omega), fun _ => next⟩
      · rw [r.len, cond_dec]
        refine ⟨fun _ => ?_, fun x => absurd (show (n : Int) ≥ (l.length : Int) by omega) x⟩
        refine q.at_ (by omega) (by omega) fun p x hx hxB ha => ⟨_, ha, ?_⟩
        rw [Int.toNat_natCast, List.getElem?_append_right (by omega)] at hx
        have : x = 77 := by
          have := List.mem_of_getElem? hx
          simpa using this
        subst this
        exact next
  exact key (l.length + 3) 0 (by omega)

theorem spec16 {D : Orc} (c : Cl16 D) : SpecSpoil D 16 := by
  intro s l g h k kp nb hl hk
  refine c _ _ _ _ ?_
  unfold F16
  intro I hI
  have key : ∀ d n : Nat, ∀ (o : List Nat) (h1 : H), n + d = l.length → o.length = l.length → Nb g h1 s o → I [s, .int .i64 (n : Int)] h1 := by
    intro d
    induction d with
    | zero =>
      intro n o h1 hn ho nb
      refine hI _ _ _ ?_
      unfold round16_1
      rw [intK_int, nb.len, cond_dec]
      refine ⟨fun x => absurd x (by omega), fun _ => ?_⟩
      simp only [xs_e, nth0, Nat.beq_refl, cond_true]
      refine ⟨rfl, by decide, rfl, by decide, ?_⟩
      intro b hb
      have hrow : Row (h1.set b (.cells (U [98, 97]))) (.slice (some ⟨b, 0, none⟩) 2 2) (U [98, 97]) := Row.cells set_here rfl
      rw [slenW_slice]
      refine hrow.src (n := 2) (by decide) ?_
      have e0 : (U [98, 97]).take 2 = U [98, 97] := rfl
      rw [e0]
      have nb2 : Nb g (h1.set b (.cells (U [98, 97]))) s o := ⟨nb.ext.trans (Ext.new hb), nb.buf.ext (Ext.new hb), nb.ok, nb.small⟩
      refine nb2.buf.app (ws := U [98, 97]) nb2.ext rfl rfl (by rw [U_len]; simp [U]; omega) (by rw [U_len]; simp [U]; omega) fun s' h2 hb2 he2 => ?_
      have nb3 : Nb g h2 s' (o ++ [98, 97]) := by
        refine ⟨he2, by rw [U_app] at hb2; exact hb2, ?_, by simp; omega⟩
        intro x hx
        rcases List.mem_append.mp hx with hx | hx
        · exact nb.ok x hx
        · simp only [List.mem_cons, List.not_mem_nil, or_false] at hx
          rcases hx with rfl | rfl <;> decide
      rw [nb3.len, i64_id (by simp; omega) (by simp; omega)]
      refine nb3.put (by trivial) (by trivial) (x := 96) (o.length + 1) (by simp; omega) (by simp) rfl (by decide) (fun h4 nb4 => ?_)
      exact hk h4 nb4.ext
    | succ d ih =>
      intro n o h1 hn ho nb
      refine hI _ _ _ ?_
      unfold round16_1
      rw [intK_int, nb.len, cond_dec]
      refine ⟨fun _ => ?_, fun x => absurd (show (n : Int) < (o.length : Int) by omega) x⟩
      refine nb.put (by trivial) (by trivial) (x := 99) n rfl (by omega) rfl (by decide) (fun h4 nb4 => ?_)
      rw [i64_id (by omega) (by omega), show (n : Int) + 1 = ((n + 1 : Nat) : Int) by omega]
      exact ih (n + 1) (o.set n 99) h4 (by omega) (by simpa using ho) nb4
  exact key l.length 0 l h (by omega) rfl nb
end Go.Proofs.YtkgjpdadeakacaaDoor.Am
