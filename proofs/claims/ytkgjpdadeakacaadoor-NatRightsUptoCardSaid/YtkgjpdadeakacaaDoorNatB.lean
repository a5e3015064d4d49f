/-
  The naturals' functions: rows without noughts at their end, numbers as rows, rows held against each other.
-/
import Derived.Test.YtkgjpdadeakacaaDoorNatA
namespace Go.Proofs.YtkgjpdadeakacaaDoor.Am
open Go Go.Proofs Nats
set_option linter.unusedVariables false
set_option linter.unusedSimpArgs false

def SpecTrim (D : Orc) (f : Nat) : Prop := ∀ s l h k kp, Nr h s l → k (cutTo s (limbs (val l)).length) h → D f [s] h k kp
theorem trim_len {l : List Nat} (ok : Ok l) {k : Nat} (hz : ∀ j, k ≤ j → ∀ x, l[j]? = some x → x = 0) (hk : k = 0 ∨ ∃ x, l[k - 1]? = some x ∧ x ≠ 0) (hle : k ≤ l.length) : k = (limbs (val l)).length := by
  rw [← take_limbs ok hz hk hle, List.length_take, Nat.min_eq_left hle]
theorem limbs_le {l : List Nat} (ok : Ok l) : (limbs (val l)).length ≤ l.length ∧ l.take (limbs (val l)).length = limbs (val l) := by
  have key : ∀ n, n ≤ l.length → (∀ j, n ≤ j → ∀ x, l[j]? = some x → x = 0) → (limbs (val l)).length ≤ l.length ∧ l.take (limbs (val l)).length = limbs (val l) := by
    intro n
    induction n with
    | zero =>
      intro hn hz
      have h1 := trim_len ok hz (.inl rfl) hn
      have h2 := take_limbs ok hz (.inl rfl) hn
      rw [← h1]; exact ⟨hn, by rw [h2]⟩
    | succ n ih =>
      intro hn hz
      have hx : l[n]? = some l[n] := List.getElem?_eq_getElem (by omega)
      by_cases h0 : l[n] = 0
      · refine ih (by omega) fun j hj x hx' => ?_
        by_cases hjn : j = n
        · subst hjn; rw [hx] at hx'; simp at hx'; omega
        · exact hz j (by omega) x hx'
      · have hk : n + 1 = 0 ∨ ∃ x, l[n + 1 - 1]? = some x ∧ x ≠ 0 := .inr ⟨_, hx, h0⟩
        have h1 := trim_len ok hz hk hn
        have h2 := take_limbs ok hz hk hn
        rw [← h1]; exact ⟨hn, by rw [h2]⟩
  exact key l.length (Nat.le_refl _) fun j hj x hx => by rw [List.getElem?_eq_none hj] at hx; cases hx
theorem Nr.cut {h : H} {s : Value} {l : List Nat} (r : Nr h s l) {n : Nat} (hn : n ≤ l.length) : Nr h (cutTo s n) (l.take n) :=
  ⟨by have := r.row.cut (n := n) (by rw [U_len]; exact hn); rw [U_take] at this; exact this, r.ok.take n, by have := r.small; rw [List.length_take]; omega⟩
theorem Nr.trim {h : H} {s : Value} {l : List Nat} (r : Nr h s l) : Nr h (cutTo s (limbs (val l)).length) (limbs (val l)) := by
  have := r.cut (limbs_le r.ok).1
  rw [(limbs_le r.ok).2] at this; exact this
theorem Nr.upto {h : H} {s : Value} {l : List Nat} (r : Nr h s l) {n : Int} (h0 : 0 ≤ n) (h1 : n ≤ l.length) {k : Value → Prop} (hk : k (cutTo s n.toNat)) : slCutW s none (some n) none 1 k :=
  r.row.upto' h0 (by rw [U_len]; exact h1) hk

theorem spec29 {D : Orc} (c : Cl29 D) : SpecTrim D 29 := by
  intro s l h k kp r hk
  refine c _ _ _ _ ?_
  unfold F29
  rw [r.len]
  intro I hI
  have key : ∀ n : Nat, n ≤ l.length → (∀ j, n ≤ j → ∀ x, l[j]? = some x → x = 0) → I [s, .int .i64 (n : Int)] h := by
    intro n
    induction n with
    | zero =>
      intro hn hz
      refine hI _ _ _ ?_
      unfold round29_2
      rw [intK_int, cond_dec]
      refine ⟨fun x => absurd x (by decide), fun _ => ?_⟩
      simp only [xs_e, nth0, nth1, intK_int, Nat.beq_refl, cond_true]
      refine r.upto (by omega) (by omega) ?_
      have := trim_len r.ok hz (.inl rfl) hn
      simpa [← this] using hk
    | succ n ih =>
      intro hn hz
      have := r.small
      refine hI _ _ _ ?_
      unfold round29_2
      rw [intK_int, cond_dec]
      refine ⟨fun _ => ?_, fun x => absurd (show ((n + 1 : Nat) : Int) > 0 by omega) x⟩
      rw [i64_id (by omega) (by omega), show ((n + 1 : Nat) : Int) - 1 = (n : Int) by omega]
      refine r.at_ (by omega) (by omega) fun a x hx _ ha => ⟨_, ha, ?_⟩
      rw [Int.toNat_natCast] at hx
      rw [cond_eq]
      refine ⟨fun h0 => ih (by omega) fun j hj y hy => ?_, fun h0 => ?_⟩
      · by_cases hjn : j = n
        · subst hjn; rw [hx] at hy; simp at hy; omega
        · exact hz j (by omega) y hy
      · simp only [xs_e, nth0, nth1, intK_int, Nat.beq_refl, cond_true]
        refine r.upto (by omega) (by omega) ?_
        have := trim_len (k := n + 1) r.ok hz (.inr ⟨x, hx, by omega⟩) hn
        rw [Int.toNat_natCast, this]; exact hk
  exact key l.length (Nat.le_refl _) fun j hj x hx => by rw [List.getElem?_eq_none hj] at hx; cases hx

theorem spec30 {D : Orc} (c : Cl30 D) : SpecTrim D 30 := by
  intro s l h k kp r hk
  refine c _ _ _ _ ?_
  unfold F30
  intro I hI
  have key : ∀ n : Nat, n ≤ l.length → (∀ j, n ≤ j → ∀ x, l[j]? = some x → x = 0) → I [cutTo s n] h := by
    intro n
    induction n with
    | zero =>
      intro hn hz
      refine hI _ _ ?_
      unfold round30_1
      have rc := r.cut hn
      rw [rc.len, cond_dec]
      refine ⟨fun x => absurd x (by simp), fun _ => ?_⟩
      simp only [xs_e, nth0, Nat.beq_refl, cond_true]
      have := trim_len r.ok hz (.inl rfl) hn
      rw [← this] at hk; exact hk
    | succ n ih =>
      intro hn hz
      have := r.small
      have rc := r.cut hn
      have hl : (l.take (n + 1)).length = n + 1 := by rw [List.length_take, Nat.min_eq_left hn]
      refine hI _ _ ?_
      unfold round30_1
      rw [rc.len, cond_dec, hl]
      refine ⟨fun _ => ?_, fun x => absurd (show ((n + 1 : Nat) : Int) > 0 by omega) x⟩
      rw [rc.len, hl, i64_id (by omega) (by omega), show ((n + 1 : Nat) : Int) - 1 = (n : Int) by omega]
      refine rc.at_ (by omega) (by omega) fun a x hx _ ha => ⟨_, ha, ?_⟩
      rw [Int.toNat_natCast, List.getElem?_take, if_pos (by omega)] at hx
      rw [cond_eq]
      refine ⟨fun h0 => ?_, fun h0 => ?_⟩
      · rw [rc.len, hl, i64_id (by omega) (by omega), show ((n + 1 : Nat) : Int) - 1 = (n : Int) by omega]
        refine rc.upto (by omega) (by omega) ?_
        rw [Int.toNat_natCast, cutTo_cutTo]
        refine ih (by omega) fun j hj y hy => ?_
        by_cases hjn : j = n
        · subst hjn; rw [hx] at hy; simp at hy; omega
        · exact hz j (by omega) y hy
      · simp only [xs_e, nth0, Nat.beq_refl, cond_true]
        have := trim_len (k := n + 1) r.ok hz (.inr ⟨x, hx, by omega⟩) hn
        rw [this]; exact hk
  have := key l.length (Nat.le_refl _) fun j hj x hx => by rw [List.getElem?_eq_none hj] at hx; cases hx
  have hf := r.row.full
  rw [U_len] at hf
  rw [hf] at this; exact this

/-- A row that was made anew: in a block of its own (h0: what there was before). -/
structure Nb (h0 h : H) (s : Value) (l : List Nat) : Prop where
  ext : Ext h0 h
  buf : Buf h0 h s (U l)
  ok : Ok l
  small : l.length < 2 ^ 40
theorem Nb.nr {h0 h : H} {s : Value} {l : List Nat} (r : Nb h0 h s l) : Nr h s l := ⟨r.buf.row, r.ok, r.small⟩
theorem Nb.cut {h0 h : H} {s : Value} {l : List Nat} (r : Nb h0 h s l) {n : Nat} (hn : n ≤ l.length) : Nb h0 h (cutTo s n) (l.take n) :=
  ⟨r.ext, by have := r.buf.cut (n := n) (by rw [U_len]; exact hn); rw [U_take] at this; exact this, r.ok.take n, r.nr.cut hn |>.small⟩
theorem Nb.trim {h0 h : H} {s : Value} {l : List Nat} (r : Nb h0 h s l) : Nb h0 h (cutTo s (limbs (val l)).length) (limbs (val l)) := by
  have := r.cut (limbs_le r.ok).1
  rw [(limbs_le r.ok).2] at this; exact this

def SpecOf (D : Orc) (f : Nat) : Prop := ∀ (n : Nat) h k kp, n < 2 ^ 64 → (∀ s h', Nb h h' s (limbs n) → k s h') → D f [.int .u64 (n : Int)] h k kp
theorem of_val {n : Nat} (hn : n < 2 ^ 64) : val [n % B, n / B] = n ∧ Ok [n % B, n / B] := by
  refine ⟨?_, ?_⟩
  · simp only [val]; have := Nat.mod_add_div n B; omega
  · intro x hx
    simp only [List.mem_cons, List.not_mem_nil, or_false] at hx
    rcases hx with rfl | rfl
    · exact Nat.mod_lt _ (by decide)
    · show n / 4294967296 < 4294967296
      omega
theorem of_core {D : Orc} {f : Nat} (t : SpecTrim D f) {n : Nat} {h : H} {k : Kv} {kp : Kp} (hn : n < 2 ^ 64) (hk : ∀ s h', Nb h h' s (limbs n) → k s h') :
    newSl h 2 [(Value.int IntKind.u32 (IntKind.wrap IntKind.u32 (n : Int))), (Value.int IntKind.u32 (IntKind.wrap IntKind.u32 (Int.fdiv (n : Int) (2 ^ (min (Int.toNat (32 : Int)) (IntKind.bits IntKind.u64))))))] (fun s1 h2 => D f [s1] h2 (fun v3 h4 => ∃ v5 : Value, v3 = v5 ∧ k v5 h4) kp) := by
  intro b hb
  have e1 : [(Value.int IntKind.u32 (IntKind.wrap IntKind.u32 (n : Int))), (Value.int IntKind.u32 (IntKind.wrap IntKind.u32 (Int.fdiv (n : Int) (2 ^ (min (Int.toNat (32 : Int)) (IntKind.bits IntKind.u64))))))] = U [n % B, n / B] := by
    rw [shr32, u32_mod, u32_mod]
    simp only [U, List.map_cons, List.map_nil]
    rw [show ((n / B : Nat) : Int) = (n : Int) / 4294967296 % 4294967296 by simp only [B]; omega, show ((n % B : Nat) : Int) = (n : Int) % 4294967296 by simp only [B]; omega]
  rw [e1]
  obtain ⟨hv, ok⟩ := of_val hn
  have nb : Nb h (h.set b (.cells (U [n % B, n / B]))) (.slice (some ⟨b, 0, none⟩) 2 2) [n % B, n / B] :=
    ⟨Ext.new hb, Buf.cells hb set_here (by simp [U]), ok, by simp⟩
  refine t _ _ _ _ _ nb.nr ⟨_, rfl, ?_⟩
  have := nb.trim
  rw [hv] at this
  rw [hv]
  exact hk _ _ this
theorem spec13 {D : Orc} (c : Cl13 D) (t : SpecTrim D 29) : SpecOf D 13 := by
  intro n h k kp hn hk
  refine c _ _ _ _ ?_
  unfold F13
  rw [intK_int]
  exact ⟨by decide, rfl, by decide, rfl, by decide, of_core t hn hk⟩
theorem spec15 {D : Orc} (c : Cl15 D) (t : SpecTrim D 30) : SpecOf D 15 := by
  intro n h k kp hn hk
  refine c _ _ _ _ ?_
  unfold F15
  rw [intK_int]
  exact ⟨by decide, rfl, by decide, rfl, by decide, of_core t hn hk⟩

def SpecSame (D : Orc) (f : Nat) : Prop := ∀ a b l m h k kp, Nr h a l → Nr h b m → k (.bool (decide (l = m))) h → D f [a, b] h k kp
theorem spec14 {D : Orc} (c : Cl14 D) : SpecSame D 14 := by
  intro a b l m h k kp r q hk
  refine c _ _ _ _ _ ?_
  unfold F14
  rw [r.len, q.len, cond_ne]
  have hs := r.small
  refine ⟨fun hne => ?_, fun heq => ?_⟩
  · have : decide (l = m) = false := by rw [decide_eq_false_iff_not]; intro h; exact hne (by rw [h])
    rw [this] at hk; exact hk
  · have hlen : l.length = m.length := by omega
    intro I hI
    have key : ∀ d n : Nat, n + d = l.length → (∀ j, j < n → l[j]? = m[j]?) → I [a, b, .int .i64 (n : Int)] h := by
      intro d
      induction d with
      | zero =>
        intro n hn hj
        refine hI _ _ _ _ ?_
        unfold round14_4
        rw [intK_int, r.len, cond_dec]
        refine ⟨fun x => absurd x (by omega), fun _ => ?_⟩
        simp only [xs_e, Nat.beq_refl, cond_true]
        have : decide (l = m) = true := by
          rw [decide_eq_true_iff]
          apply List.ext_getElem?
          intro j
          by_cases hjn : j < n
          · exact hj j hjn
          · rw [List.getElem?_eq_none (by omega), List.getElem?_eq_none (by omega)]
        rw [this] at hk; exact hk
      | succ d ih =>
        intro n hn hj
        refine hI _ _ _ _ ?_
        unfold round14_4
        rw [intK_int, r.len, cond_dec]
        refine ⟨fun _ => ?_, fun x => absurd (show (n : Int) < (l.length : Int) by omega) x⟩
        refine r.at_ (by omega) (by omega) fun p x hx _ ha => ⟨_, ha, ?_⟩
        refine q.at_ (by omega) (by omega) fun p' y hy _ hb => ⟨_, hb, ?_⟩
        rw [Int.toNat_natCast] at hx hy
        rw [cond_ne]
        refine ⟨fun hne => ?_, fun heq => ?_⟩
        · simp only [xs_r, nth0, boolW_bool]
          have : decide (l = m) = false := by
            rw [decide_eq_false_iff_not]
            rintro rfl
            rw [hx] at hy
            exact hne (by rw [Option.some.inj hy])
          rw [this] at hk; exact hk
        · rw [i64_id (by omega) (by omega), show (n : Int) + 1 = ((n + 1 : Nat) : Int) by omega]
          refine ih (n + 1) (by omega) fun j hjn => ?_
          by_cases hjn' : j = n
          · subst hjn'; rw [hx, hy]; congr 1; omega
          · exact hj j (by omega)
    exact key l.length 0 (by omega) fun j hj => by omega

/-- A row that was reckoned, if it is not too big. -/
def SpecFit (D : Orc) (f : Nat) : Prop := ∀ s l h k kp, Nr h s l → ((limbs (val l)).length ≤ 64 → k (.tuple #[cutTo s (limbs (val l)).length, .int .i64 0]) h) →
  (64 < (limbs (val l)).length → k (.tuple #[.slice none 0 0, .int .i64 2]) h) → D f [s] h k kp
theorem fit_core {D : Orc} {f : Nat} (t : SpecTrim D f) {s : Value} {l : List Nat} {h : H} {k : Kv} {kp : Kp} (r : Nr h s l) (h1 : (limbs (val l)).length ≤ 64 → k (.tuple #[cutTo s (limbs (val l)).length, .int .i64 0]) h)
    (h2 : 64 < (limbs (val l)).length → k (.tuple #[.slice none 0 0, .int .i64 2]) h) :
    D f [s] h (fun v0 h1 => ∃ v2 : Value, v0 = v2 ∧ lenW v2 (fun n3 => cond (decide ((n3 : Int) > (64 : Int))) (
      k (Value.tuple #[(Value.slice none 0 0), (Value.int IntKind.i64 (2 : Int))]) h1) (
      k (Value.tuple #[v2, (Value.int IntKind.i64 (0 : Int))]) h1))) kp := by
  refine t _ _ _ _ _ r ⟨_, rfl, ?_⟩
  rw [r.trim.len, cond_dec]
  exact ⟨fun x => h2 (by omega), fun x => h1 (by omega)⟩
theorem spec31 {D : Orc} (c : Cl31 D) (t : SpecTrim D 29) : SpecFit D 31 := fun s l h k kp r h1 h2 => c _ _ _ _ (by unfold F31; exact fit_core t r h1 h2)
theorem spec32 {D : Orc} (c : Cl32 D) (t : SpecTrim D 30) : SpecFit D 32 := fun s l h k kp r h1 h2 => c _ _ _ _ (by unfold F32; exact fit_core t r h1 h2)
end Go.Proofs.YtkgjpdadeakacaaDoor.Am
