/-
  The library's trimming: on the left, of noughts; reversing.
-/
import Derived.Test.YtkgjpdadeakacaaDoorStrA
namespace Go.Proofs.YtkgjpdadeakacaaDoor.Am
open Go Go.Proofs
set_option linter.unusedVariables false
set_option linter.unusedSimpArgs false

theorem cond_beq_nil {s : ByteArray} {A B : Prop} : cond (s.toList == (ByteArray.mk #[]).toList) A B ↔ (bts s = [] → A) ∧ (bts s ≠ [] → B) := by
  rw [toList_eq, toList_eq, cond_split]
  simp [bts]
def SpecTrimLeft0 (D : Orc) (f : Nat) : Prop := ∀ (s : ByteArray) h (k : Kv) kp, s.size < 2 ^ 62 → (∀ t, bts t = (bts s).dropWhile (· == 48) → k (.string t) h) → D f [.string s, .string (ByteArray.mk #[48])] h k kp
theorem spec36 {D : Orc} (c : Cl36 D) (t40 : SpecTrimLB D 40) : SpecTrimLeft0 D 36 := by
  intro s h k kp hs hk
  refine c _ _ _ _ _ ?_
  unfold F36
  simp only [strW_string]
  rw [cond_not, cond_beq_nil]
  refine ⟨fun h1 => ?_, fun h1 => ?_⟩
  · unfold j36__2
    simp only [strW_string, boolW_bool, cond_true]
    exact hk s (by rw [h1]; rfl)
  · have e1 : ((ByteArray.mk #[48]).toList == (ByteArray.mk #[]).toList) = false := by rw [toList_eq, toList_eq]; rfl
    rw [e1]
    unfold j36__2
    simp only [strW_string, boolW_bool, cond_false]
    rw [cond_eq]
    refine ⟨fun _ => ?_, fun h => absurd rfl h⟩
    refine strAt_rule (by decide) (by decide) fun x hx => ?_
    have hx48 : x = 48 := by simpa [bts] using hx.symm
    subst hx48
    unfold j36__4
    rw [strW_string, strW_string, boolW_bool, cond_dec]
    refine ⟨fun _ => ?_, fun h => absurd (by decide) h⟩
    refine strAt_rule (by decide) (by decide) fun y hy => ?_
    have hy48 : y = 48 := by simpa [bts] using hy.symm
    subst hy48
    exact t40 s 48 _ _ _ hs fun t ht => ⟨t, rfl, hk t ht⟩

/-- A row of bytes in a block of its own. -/
structure Yb (h0 h : H) (s : Value) (l : List UInt8) : Prop where
  ext : Ext h0 h
  buf : Buf h0 h s (U8 l)
  small : l.length < 2 ^ 40
theorem U8_len (l : List UInt8) : (U8 l).length = l.length := by simp [U8]
theorem U8_set (l : List UInt8) (n : Nat) (x : UInt8) : (U8 l).set n (.int .u8 (x.toNat : Int)) = U8 (l.set n x) := by simp [U8, List.map_set]
theorem U8_app (l m : List UInt8) : U8 l ++ U8 m = U8 (l ++ m) := by simp [U8]
theorem Yb.len {h0 h : H} {s : Value} {l : List UInt8} (r : Yb h0 h s l) {k : Nat → Prop} : lenW s k ↔ k l.length := by rw [r.buf.row.len, U8_len]
theorem Yb.at_ {h0 h : H} {s : Value} {l : List UInt8} (r : Yb h0 h s l) {n : Int} (i : Nat) (hn : n = (i : Int)) (hi : i < l.length) {k : Addr → Prop} (hk : ∀ a (x : UInt8), l[i]? = some x → rd h a = some (.int .u8 (x.toNat : Int)) → k a) : slAtW s n 1 k := by
  subst hn
  refine r.buf.row.at_ (by omega) (by rw [U8_len]; omega) fun a v hv ha => ?_
  rw [Int.toNat_natCast] at hv
  simp only [U8, List.getElem?_map, Option.map_eq_some_iff] at hv
  obtain ⟨x, hx, rfl⟩ := hv
  exact hk a x hx ha
theorem Yb.put {h0 h : H} {s : Value} {l : List UInt8} (r : Yb h0 h s l) {T O : Prop} (hT : T) (hO : O) {n : Int} (i : Nat) (hn : n = (i : Int)) (hi : i < l.length) {v : Value} {x : UInt8} (hv : v = .int .u8 (x.toNat : Int)) {K : H → Prop} (hk : ∀ h', Yb h0 h' s (l.set i x) → K h') :
    slAtW s n 1 (fun a => O ∧ T ∧ ∃ h', wr1 h a v = some h' ∧ K h') := by
  subst hn hv
  refine r.buf.put (by rw [U8_len]; exact hi) fun a h' hw he hb => ⟨hO, hT, h', hw, hk h' ⟨he h0 r.ext fun _ h => h, ?_, by simpa using r.small⟩⟩
  rw [U8_set] at hb; exact hb

def SpecReverse (D : Orc) (f : Nat) : Prop := ∀ s l h0 h (k : Kv) kp, Yb h0 h s l → (∀ h', Yb h0 h' s l.reverse → k (.tuple #[]) h') → D f [s] h k kp
/-- Two places change. -/
theorem rev_step {l : List UInt8} {i : Nat} {o : List UInt8} (ho : ∀ j, j < l.length → o[j]? = if j < i ∨ l.length - i ≤ j then l[l.length - 1 - j]? else l[j]?) (hol : o.length = l.length) (hi : i < l.length - 1 - i) {x y : UInt8} (hx : o[l.length - 1 - i]? = some x) (hy : o[i]? = some y) :
    ∀ j, j < l.length → ((o.set i x).set (l.length - 1 - i) y)[j]? = if j < i + 1 ∨ l.length - (i + 1) ≤ j then l[l.length - 1 - j]? else l[j]? := by
  intro j hj
  rw [List.getElem?_set, List.getElem?_set, List.length_set, hol]
  by_cases h1 : l.length - 1 - i = j
  · rw [if_pos h1, if_pos (by omega), if_pos (by omega)]
    rw [← hy, ho i (by omega), if_neg (by omega)]
    congr 1; omega
  · rw [if_neg h1]
    by_cases h2 : i = j
    · rw [if_pos h2, if_pos (by omega), if_pos (by omega)]
      subst h2
      rw [← hx, ho _ (by omega), if_neg (by omega)]
    · rw [if_neg h2, ho j hj]
      by_cases h3 : j < i ∨ l.length - i ≤ j
      · rw [if_pos h3, if_pos (by omega)]
      · rw [if_neg h3, if_neg (by omega)]
theorem spec35 {D : Orc} (c : Cl35 D) : SpecReverse D 35 := by
  intro s l h0 h k kp r hk
  refine c _ _ _ _ ?_
  unfold F35
  have hs := r.small
  rw [r.len, i64_id (by omega) (by omega)]
  intro I hI
  have key : ∀ d i : Nat, ∀ (o : List UInt8) (h1 : H), 2 * i + d = l.length + 2 → o.length = l.length → Yb h0 h1 s o → (∀ j, j < l.length → o[j]? = if j < i ∨ l.length - i ≤ j then l[l.length - 1 - j]? else l[j]?) →
      I [s, .int .i64 (i : Int), .int .i64 ((l.length : Int) - 1 - (i : Int))] h1 := by
    intro d
    induction d using Nat.strongRecOn with
    | _ d ih =>
      intro i o h1 hd ho r hj
      refine hI _ _ _ _ ?_
      unfold round35_1
      simp only [intK_int]
      rw [cond_dec]
      refine ⟨fun h2 => ?_, fun h2 => ?_⟩
      · refine r.at_ (l.length - 1 - i) (by omega) (by omega) fun a x hx ha => ⟨_, ha, ?_⟩
        refine r.at_ i rfl (by omega) fun a y hy hb => ⟨_, hb, ?_⟩
        refine r.put (by trivial) (by trivial) (x := x) i rfl (by omega) rfl fun h3 r3 => ?_
        refine r3.put (by trivial) (by trivial) (x := y) (l.length - 1 - i) (by omega) (by simp; omega) rfl fun h4 r4 => ?_
        rw [i64_id (by omega) (by omega), i64_id (by omega) (by omega), show (i : Int) + 1 = ((i + 1 : Nat) : Int) by omega, show (l.length : Int) - 1 - (i : Int) - 1 = (l.length : Int) - 1 - ((i + 1 : Nat) : Int) by omega]
        exact ih (d - 2) (by omega) (i + 1) _ h4 (by omega) (by simpa using ho) r4 (rev_step hj ho (by omega) hx hy)
      · simp only [xs_e, Nat.beq_refl, cond_true]
        refine hk h1 ?_
        have : o = l.reverse := by
          apply List.ext_getElem?
          intro j
          by_cases hjl : j < l.length
          · rw [hj j hjl, List.getElem?_reverse hjl]
            split
            · rfl
            · congr 1; omega
          · rw [List.getElem?_eq_none (by omega), List.getElem?_eq_none (by simp; omega)]
        rw [← this]; exact r
  have := key (l.length + 2) 0 l h (by omega) rfl r (fun j hj => by rw [if_neg (by omega)])
  simpa using this
end Go.Proofs.YtkgjpdadeakacaaDoor.Am
