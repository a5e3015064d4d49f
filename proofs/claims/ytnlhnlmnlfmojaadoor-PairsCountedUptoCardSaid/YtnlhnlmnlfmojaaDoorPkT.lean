/-
  Packed: Rows that are equal, rows that are copied. Rows of rows, with their variables numbered as they are met. Rules that are the same but for their variables' names: by the program. Rules that are the same but for their variables' names: by the document. Two systems are the same: by the program. Two systems are the same: by the program, whole. Two systems are the same: by the document, whole. The symbols at the roots of left sides.
-/
import Derived.Test.YtnlhnlmnlfmojaaDoorPkS
import Derived.MapKept
set_option linter.unusedVariables false
set_option linter.unusedSimpArgs false
set_option linter.unnecessarySimpa false
namespace Go.Proofs.YtnlhnlmnlfmojaaDoor.Am
open Go Go.Proofs Sys Go.Lib
set_option linter.unusedVariables false
set_option linter.unusedSimpArgs false
set_option maxRecDepth 100000
variable {D : Orc} {T : H → Prop}

/-- A row rests on its own block alone. -/
def Keep (h h' : H) (s : Value) : Prop := ∀ d o, Blk s = some d → h d = some o → h' d = some o
theorem Ext.keep {h h' : H} (e : Ext h h') (s : Value) : Keep h h' s := fun d o _ hx => e d o hx
theorem Row.kept {h h' : H} {s : Value} {vs : List Value} (r : Row h s vs) (e : Keep h h' s) : Row h' s vs := by
  obtain ⟨base, cap, rfl, hc, hb⟩ := r
  refine ⟨base, cap, rfl, hc, ?_⟩
  by_cases h0 : cap = 0
  · exact .inl h0
  rcases hb with hb | ⟨a, rfl, h1, l, h2, h3, h4⟩
  · exact .inl hb
  · refine .inr ⟨a, rfl, h1, l, ?_, h3, h4⟩
    cases hx : h a.block with
    | none => rw [hx] at h2; simp [rowOf] at h2
    | some o => rw [hx] at h2; rw [e _ o (Blk_some h0) hx]; exact h2
theorem RowK.kept {h h' : H} {s : Value} {sz : Nat} {vs : List (List Value)} (r : RowK sz h s vs) (e : Keep h h' s) : RowK sz h' s vs := by
  obtain ⟨base, cap, rfl, hc, he, hb⟩ := r
  refine ⟨base, cap, rfl, hc, he, ?_⟩
  by_cases h0 : cap = 0
  · exact .inl h0
  rcases hb with hb | ⟨a, rfl, h1, l, h2, h3, h4⟩
  · exact .inl hb
  · refine .inr ⟨a, rfl, h1, l, ?_, h3, h4⟩
    cases hx : h a.block with
    | none => rw [hx] at h2; simp [rowOf] at h2
    | some o => rw [hx] at h2; rw [e _ o (Blk_some h0) hx]; exact h2
theorem Ir.kept {h h' : H} {s : Value} {l : List Int} (r : Ir h s l) (e : Keep h h' s) : Ir h' s l := ⟨r.row.kept e, r.len, r.rng⟩
theorem at_own {b n c i : Nat} {k : Addr → Prop} (hi : i < n) (hk : k (Addr.add ⟨b, 0, none⟩ i)) : slAtW (.slice (some ⟨b, 0, none⟩) n c) ((i : Nat) : Int) 1 k := by
  refine ⟨by omega, by omega, ?_⟩
  have : Int.toNat (i : Int) * 1 = i := by simp
  rw [this]; exact hk

theorem bytes_eq (s t : ByteArray) : (s.toList == t.toList) = decide (s = t) := by
  rw [toList_eq, toList_eq, bts_data, bts_data]
  by_cases h : s = t
  · subst h; simp
  · have : ¬ s.data.toList = t.data.toList := fun h' => h (by
      cases s; cases t
      simp only [ByteArray.mk.injEq]
      exact Array.toList_inj.mp h')
    rw [decide_eq_false h, beq_eq_false_iff_ne]; exact this
theorem spec68 (c : Cl68 D) {a b : Value} {l m : List Int} {h : H} {k : Kv} {kp : Kp} (ra : Ir h a l) (rb : Ir h b m) (hk : k (.bool (decide (l = m))) h) : D 68 [a, b] h k kp := by
  refine c _ _ _ _ _ ?_
  unfold F68
  have hl := ra.len
  have hm := rb.len
  rw [ra.len_, rb.len_, cond_ne]
  refine ⟨fun hne => ?_, fun heq => ?_⟩
  · have : decide (l = m) = false := decide_eq_false fun h => hne (by rw [h])
    rw [this] at hk; exact hk
  have hlen : l.length = m.length := by omega
  rw [ra.len_]
  intro I hI
  have key : ∀ (n i : Nat), l.length - i ≤ n → i ≤ l.length → decide (l.drop i = m.drop i) = decide (l = m) → I [a, b, .int .i64 ((l.length : Nat) : Int), .int .i64 ((i : Nat) : Int)] h := by
    intro n
    induction n with
    | zero =>
      intro i hn hi he
      refine hI _ _ _ _ _ ?_
      unfold round68_4
      rw [intK_int, intK_int, cond_dec]
      refine ⟨fun hlt => by omega, fun _ => ?_⟩
      rw [List.drop_eq_nil_of_le (by omega), List.drop_eq_nil_of_le (by omega)] at he
      have : decide (l = m) = true := by rw [← he]; rfl
      rw [this] at hk; exact hk
    | succ n ih =>
      intro i hn hi he
      refine hI _ _ _ _ _ ?_
      unfold round68_4
      rw [intK_int, intK_int, cond_dec]
      refine ⟨fun hlt => ?_, fun _ => ?_⟩
      · refine ra.at_ (by omega) (by omega) fun ad x hx _ hrd => ⟨x, hrd, ?_⟩
        refine rb.at_ (by omega) (by omega) fun ad2 y hy _ hrd2 => ⟨y, hrd2, ?_⟩
        rw [Int.toNat_natCast] at hx hy
        rw [(split_at hx).2.2, (split_at hy).2.2] at he
        rw [cond_ne]
        refine ⟨fun hne => ?_, fun heq => ?_⟩
        · have : decide (l = m) = false := by rw [← he]; exact decide_eq_false fun h => hne (List.cons.inj h).1
          rw [this] at hk; exact hk
        · subst heq
          rw [i64_id (by omega) (by omega)]
          refine ih (i + 1) (by omega) (by omega) ?_
          rw [← he, decide_eq_decide]
          constructor
          · intro h; rw [h]
          · intro h; exact (List.cons.inj h).2
      · rw [List.drop_eq_nil_of_le (by omega), List.drop_eq_nil_of_le (by omega)] at he
        have : decide (l = m) = true := by rw [← he]; rfl
        rw [this] at hk; exact hk
  exact key l.length 0 (by omega) (by omega) (by simp)
theorem sy_eq {x y : Sy} : ((x.1.toList == y.1.toList) && ((x.2 == y.2) && true)) = decide (x = y) := by
  rw [bytes_eq]
  by_cases h : x = y
  · subst h; simp
  · have : ¬ (x.1 = y.1 ∧ x.2 = y.2) := fun h' => h (Prod.ext h'.1 h'.2)
    by_cases h1 : x.1 = y.1
    · simp [h1, h, show ¬ x.2 = y.2 from fun h2 => this ⟨h1, h2⟩]
    · simp [h1, h]
theorem Sr.at_ {h : H} {s : Value} {sig : List Sy} (r : Sr h s sig) {n : Int} (h0 : 0 ≤ n) (h1 : n < sig.length) {k : Addr → Prop}
    (hk : ∀ a x, sig[n.toNat]? = some x → rdN h a 2 = some [.string x.1, .int .i64 x.2] → k a) : slAtW s n 2 k := by
  refine r.row.at_ h0 (by rw [sgRow_len]; exact h1) fun a v hv hrd hj => ?_
  obtain ⟨x, hx, rfl⟩ := sgRow_at hv
  exact hk a x hx hrd
theorem Sr.len_ {h : H} {s : Value} {sig : List Sy} (r : Sr h s sig) {k : Nat → Prop} : lenW s k ↔ k sig.length := by rw [r.row.len, sgRow_len]
theorem spec34 (c : Cl34 D) {a b : Value} {l m : List Sy} {h : H} {k : Kv} {kp : Kp} (ra : Sr h a l) (rb : Sr h b m) (hk : k (.bool (decide (l = m))) h) : D 34 [a, b] h k kp := by
  refine c _ _ _ _ _ ?_
  unfold F34
  have hl := ra.len
  have hm := rb.len
  rw [ra.len_, rb.len_, cond_ne]
  refine ⟨fun hne => ?_, fun heq => ?_⟩
  · have : decide (l = m) = false := decide_eq_false fun h => hne (by rw [h])
    rw [this] at hk; exact hk
  have hlen : l.length = m.length := by omega
  rw [ra.len_]
  intro I hI
  have key : ∀ (n i : Nat), l.length - i ≤ n → i ≤ l.length → decide (l.drop i = m.drop i) = decide (l = m) → I [a, b, .int .i64 ((l.length : Nat) : Int), .int .i64 ((i : Nat) : Int)] h := by
    intro n
    induction n with
    | zero =>
      intro i hn hi he
      refine hI _ _ _ _ _ ?_
      unfold round34_4
      rw [intK_int, intK_int, cond_dec]
      refine ⟨fun hlt => by omega, fun _ => ?_⟩
      rw [List.drop_eq_nil_of_le (by omega), List.drop_eq_nil_of_le (by omega)] at he
      have : decide (l = m) = true := by rw [← he]; rfl
      rw [this] at hk; exact hk
    | succ n ih =>
      intro i hn hi he
      refine hI _ _ _ _ _ ?_
      unfold round34_4
      rw [intK_int, intK_int, cond_dec]
      refine ⟨fun hlt => ?_, fun _ => ?_⟩
      · refine ra.at_ (by omega) (by omega) fun ad x hx hrd => ⟨x.1, x.2, hrd, ?_⟩
        refine rb.at_ (by omega) (by omega) fun ad2 y hy hrd2 => ⟨y.1, y.2, hrd2, ?_⟩
        rw [Int.toNat_natCast] at hx hy
        rw [(split_at hx).2.2, (split_at hy).2.2] at he
        rw [sy_eq, cond_not, cond_dec]
        refine ⟨fun heq => ?_, fun hne => ?_⟩
        · subst heq
          rw [i64_id (by omega) (by omega)]
          refine ih (i + 1) (by omega) (by omega) ?_
          rw [← he, decide_eq_decide]
          constructor
          · intro h; rw [h]
          · intro h; exact (List.cons.inj h).2
        · have : decide (l = m) = false := by rw [← he]; exact decide_eq_false fun h => hne (List.cons.inj h).1
          rw [this] at hk; exact hk
      · rw [List.drop_eq_nil_of_le (by omega), List.drop_eq_nil_of_le (by omega)] at he
        have : decide (l = m) = true := by rw [← he]; rfl
        rw [this] at hk; exact hk
  exact key l.length 0 (by omega) (by omega) (by simp)
theorem eq_nil_rule {s : Value} {k : Bool → Prop} (hs : isSl s) (h1 : (∃ n c, s = .slice none n c) → k true) (h2 : k false) : eqSl s (.slice none 0 0) k := by
  cases s with
  | slice a n c =>
    cases a with
    | none => exact h1 ⟨n, c, rfl⟩
    | some a => exact h2
  | _ => exact hs.elim
theorem Row.nil_of {h : H} {vs : List Value} {n c : Nat} (r : Row h (.slice none n c) vs) : vs = [] ∧ n = 0 := by
  obtain ⟨base, cap, he, hc, hb⟩ := r
  simp only [Value.slice.injEq] at he
  obtain ⟨rfl, rfl, rfl⟩ := he
  rcases hb with hb | ⟨a, ha, _⟩
  · exact ⟨List.length_eq_zero_iff.mp (by omega), by omega⟩
  · cases ha
theorem RowK.nil_of {h : H} {sz : Nat} {vs : List (List Value)} {n c : Nat} (r : RowK sz h (.slice none n c) vs) : vs = [] ∧ n = 0 := by
  obtain ⟨base, cap, he, hc, _, hb⟩ := r
  simp only [Value.slice.injEq] at he
  obtain ⟨rfl, rfl, rfl⟩ := he
  rcases hb with hb | ⟨a, ha, _⟩
  · exact ⟨List.length_eq_zero_iff.mp (by omega), by omega⟩
  · cases ha
/-- A copy of a row of numbers, in a block of its own. -/
theorem spec48 (c : Cl48 D) {a : Value} {l : List Int} {h : H} {k : Kv} {kp : Kp} (ra : Ir h a l) (hk : ∀ v h', Buf h h' v (Z l) → Ext h h' → k v h') : D 48 [a] h k kp := by
  refine c _ _ _ _ ?_
  unfold F48
  have hl := ra.len
  refine eq_nil_rule ra.row.isSl (fun ⟨n, c, hs⟩ => ?_) ?_
  · subst hs
    have : l = [] := by have := ra.row.nil_of.1; simpa [Z] using this
    subst this
    exact hk _ _ (.inl ⟨⟨none, rfl⟩, rfl⟩) (Ext.refl _)
  · rw [cond_false]
    intro b hb
    have e1 : Ext h (h.set b (.cells [])) := Ext.new hb
    rw [(ra.row.ext e1).slen]
    refine (ra.row.ext e1).src (Nat.le_refl _) ?_
    rw [List.take_length]
    have hbytes : 2 * (0 + (Z l).length) * 8 ≤ 2 ^ 48 := by rw [Z_len]; have : l.length < 1099511627776 := hl; omega
    refine (Buf.cells (h0 := h) (n := 0) hb set_here rfl).app e1 (vs := []) rfl ?_ ?_ ?_ ?_
    · simp [Z, one]
    · simpa using hbytes
    · rw [Z_len]; simp only [List.length_nil]; omega
    · intro s' h' r' e'
      exact hk _ _ r' e'
/-- A copy of a row of pairs of cells, in a block of its own. -/
theorem spec35 (c : Cl35 D) {a : Value} {vs : List (Value × Value)} {h : H} {k : Kv} {kp : Kp} (ra : RowK 2 h a (ruRow vs)) (hl : vs.length < 2 ^ 40) (hone : ∀ v ∈ vs, one v.1 = true ∧ one v.2 = true) (hk : ∀ v h', BufK 2 h h' v (ruRow vs) → Ext h h' → k v h') : D 35 [a] h k kp := by
  refine c _ _ _ _ ?_
  unfold F35
  refine eq_nil_rule ra.isSl (fun ⟨n, c, hs⟩ => ?_) ?_
  · subst hs
    have : vs = [] := by have := ra.nil_of.1; simpa [ruRow] using this
    subst this
    exact hk _ _ BufK.nil_ (Ext.refl _)
  · rw [cond_false]
    intro b hb
    have e1 : Ext h (h.set b (.cells [])) := Ext.new hb
    rw [(ra.ext e1).slen]
    refine (ra.ext e1).src (Nat.le_refl _) ?_
    rw [List.take_length]
    refine (BufK.cells (sz := 2) (h0 := h) (n := 0) (vs := []) hb set_here rfl (by simp) rfl).app e1 (us := ruRow vs) rfl ?_ ?_ rfl rfl ?_ ?_ ?_
    · rw [List.all_eq_true]
      intro x hx
      rw [List.mem_flatten] at hx
      obtain ⟨l, hl', hx⟩ := hx
      simp only [ruRow, List.mem_map] at hl'
      obtain ⟨v, hv, rfl⟩ := hl'
      simp only [List.mem_cons, List.not_mem_nil, or_false] at hx
      rcases hx with rfl | rfl
      · exact (hone v hv).1
      · exact (hone v hv).2
    · intro v hv
      simp only [ruRow, List.mem_map] at hv
      obtain ⟨v, hv, rfl⟩ := hv
      rfl
    · rw [ruRow_len]
      have : vs.length < 1099511627776 := hl
      simp only [List.length_nil]; omega
    · rw [ruRow_len]
      simp only [List.length_nil]; omega
    · intro s' h' r' e'
      exact hk _ _ r' e'
end Go.Proofs.YtnlhnlmnlfmojaaDoor.Am

namespace Go.Proofs.YtnlhnlmnlfmojaaDoor.Am
open Go Go.Proofs Sys Go.Lib
set_option linter.unusedVariables false
set_option linter.unusedSimpArgs false
set_option maxRecDepth 100000
variable {D : Orc} {T : H → Prop}

theorem find_at {x : Int} : ∀ {es : List MapEntry} {ks : List Int}, KeysAre es ks → ∀ n, (x ∈ ks → ∃ e, es[ks.idxOf x]? = some e ∧ Instr.findNow (.int .i64) (.int .i64 x) es n = some (some (n + ks.idxOf x, e.val))) ∧ (x ∉ ks → Instr.findNow (.int .i64) (.int .i64 x) es n = some none)
  | [], ks, hk, n => by
    have : ks = [] := by cases ks <;> simp [KeysAre] at hk ⊢
    subst this
    exact ⟨fun h => by simp at h, fun _ => rfl⟩
  | e :: es, [], hk, n => by simp [KeysAre] at hk
  | e :: es, y :: ks, hk, n => by
    simp only [KeysAre, List.map_cons, List.cons.injEq] at hk
    obtain ⟨h1, h2⟩ := hk
    obtain ⟨i1, i2⟩ := find_at (x := x) (es := es) (ks := ks) h2 (n + 1)
    have hs : Instr.sameNow (.int .i64) (.int .i64 x) e.key = some (x == y) := by rw [h1]; simp [Instr.sameNow]
    unfold Instr.findNow
    rw [hs]
    by_cases hxy : x = y
    · subst hxy
      refine ⟨fun _ => ⟨e, by simp, by simp⟩, fun h => absurd (by simp) h⟩
    · have hb : (x == y) = false := by simpa using hxy
      have hi : (y :: ks).idxOf x = ks.idxOf x + 1 := by
        rw [List.idxOf_cons]
        have : (y == x) = false := by simpa using fun h : y = x => hxy h.symm
        rw [this]; rfl
      rw [hb, hi]
      refine ⟨fun h => ?_, fun h => ?_⟩
      · obtain ⟨e', h3, h4⟩ := i1 (by simpa [hxy] using h)
        refine ⟨e', by simpa using h3, ?_⟩
        rw [show n + (ks.idxOf x + 1) = n + 1 + ks.idxOf x by omega]
        exact h4
      · exact i2 fun h' => h (by simp [h'])
/-- Entries that tell the place of their keys. -/
structure Places (es : List MapEntry) (met : List Int) : Prop where
  keys : KeysAre es met
  vals : ∀ (p : Nat) (e : MapEntry), es[p]? = some e → e.val = .int .i64 (p : Int)
theorem Places.len {es : List MapEntry} {met : List Int} (p : Places es met) : es.length = met.length := by
  have := congrArg List.length p.keys
  simpa using this
theorem Places.look {es : List MapEntry} {met : List Int} (p : Places es met) {x : Int} {z : Value} {k : Value → Bool → Prop} (h1 : x ∈ met → k (.int .i64 (met.idxOf x : Nat)) true) (h2 : x ∉ met → k z false) : lookW (.int .i64) (.int .i64 x) es z k := by
  obtain ⟨i1, i2⟩ := find_at (x := x) p.keys 0
  unfold lookW
  by_cases hx : x ∈ met
  · obtain ⟨e, h3, h4⟩ := i1 hx
    rw [h4]
    show k e.val true
    rw [p.vals _ _ h3]; exact h1 hx
  · rw [i2 hx]; exact h2 hx
theorem Places.add {es : List MapEntry} {met : List Int} (p : Places es met) {x : Int} {c : Nat} : Places (es ++ [{ key := .int .i64 x, val := .int .i64 ((es.length : Nat) : Int), born := c }]) (met ++ [x]) := by
  refine ⟨?_, fun q e he => ?_⟩
  · have := p.keys
    unfold KeysAre at this ⊢
    rw [List.map_append, this, List.map_append]; rfl
  · rw [List.getElem?_append] at he
    split at he
    · exact p.vals q e he
    · rename_i hq
      by_cases h0 : q - es.length = 0
      · rw [h0] at he
        simp only [List.getElem?_cons_zero, Option.some.injEq] at he
        subst he
        have : q = es.length := by omega
        rw [this]
      · obtain ⟨w, hw⟩ : ∃ w, q - es.length = w + 1 := ⟨q - es.length - 1, by omega⟩
        rw [hw] at he; simp at he
/-- Rows, each numbered behind what was met before. -/
def canonL : List Int → List (List Int) → List (List Int)
  | _, [] => []
  | met, t :: ts => canonGo met t :: canonL (metGo met t) ts
theorem canonGo_len : ∀ (t met : List Int), (canonGo met t).length = t.length
  | [], met => rfl
  | c :: t, met => by
    unfold canonGo
    split <;> simp [canonGo_len]
theorem metGo_len : ∀ (t met : List Int), (metGo met t).length ≤ met.length + t.length
  | [], met => by simp [metGo]
  | c :: t, met => by
    unfold metGo
    split
    · have := metGo_len t (met ++ [c]); simp at this ⊢; omega
    · have := metGo_len t met; simp at this ⊢; omega
/-- A row of rows of numbers. -/
structure Rw (h : H) (s : Value) (ts : List (List Int)) : Prop where
  ex : ∃ vs, Row h s vs ∧ vs.length = ts.length ∧ ∀ (i : Nat) v, vs[i]? = some v → ∃ t, ts[i]? = some t ∧ Ir h v t
theorem Rw.ext {h h' : H} {s : Value} {ts : List (List Int)} (r : Rw h s ts) (e : Ext h h') : Rw h' s ts := by
  obtain ⟨vs, h1, h2, h3⟩ := r.ex
  exact ⟨⟨vs, h1.ext e, h2, fun i v hv => by obtain ⟨t, a, b⟩ := h3 i v hv; exact ⟨t, a, b.ext e⟩⟩⟩
theorem Rw.len_ {h : H} {s : Value} {ts : List (List Int)} (r : Rw h s ts) {k : Nat → Prop} : lenW s k ↔ k ts.length := by
  obtain ⟨vs, h1, h2, h3⟩ := r.ex
  rw [h1.len, h2]
theorem Rw.at_ {h : H} {s : Value} {ts : List (List Int)} (r : Rw h s ts) {n : Int} (h0 : 0 ≤ n) (h1 : n < ts.length) {k : Addr → Prop}
    (hk : ∀ a v t, ts[n.toNat]? = some t → rd h a = some v → Ir h v t → k a) : slAtW s n 1 k := by
  obtain ⟨vs, g1, g2, g3⟩ := r.ex
  refine g1.at_ h0 (by rw [g2]; exact h1) fun a v hv hrd => ?_
  obtain ⟨t, ht, hi⟩ := g3 _ _ hv
  exact hk a v t ht hrd hi
theorem Z_set {l m : List Int} {j : Nat} {x y : Int} (hj : l[j]? = some x) : ∀ {pre : List Int}, pre.length = j → (Z (pre ++ l.drop j)).set j (.int .i64 y) = Z ((pre ++ [y]) ++ l.drop (j + 1)) := by
  intro pre hp
  subst hp
  rw [(split_at hj).2.2, Z, Z, List.map_append, List.map_append, List.map_append, List.set_append_right _ _ (by simp)]
  simp
/-- The state within a row: the map, the rows that are done, the row at work. -/
structure CIn (h1 h : H) (bm : Nat) (v : Value) (met cur : List Int) : Prop where
  keep : ∀ d o, d ≠ bm → Blk v ≠ some d → h1 d = some o → h d = some o
  map : ∃ es c, h bm = some (.map es c) ∧ Places es met
  buf : Buf (h.drop v) h v (Z cur)
  nm : Blk v ≠ some bm
theorem canon_row {s2 v v10 : Value} {bm bs i N : Nat} {l : List Int} {h0 h1 : H} {L : List Value} (q : Ir h0 v10 l) (e01 : ∀ d o, d ≠ bm → Blk v ≠ some d → h0 d = some o → h1 d = some o)
    (h0v : ∀ d, Blk v = some d → h0 d = none) (h0m : h0 bm = none) (hs : h1 bs = some (.cells L)) (hi : i < N) (hL : L[i]? = some v) (hbs : bs ≠ bm) (hvs : Blk v ≠ some bs)
    {K : Kl} {I : List Value → H → Prop} (hI : ∀ a0 a1 a2 a3 a4 a5 a6 a7 a8 h, round67_8 D I K a0 a1 a2 a3 a4 a5 a6 a7 a8 h → I [a0, a1, a2, a3, a4, a5, a6, a7, a8] h)
    {out mt : List Int} {x7 x8 : Int} (hlen : out.length = l.length) (hmt : mt.length < 2 ^ 62) (hK : ∀ h, CIn h1 h bm v mt out → K (.e 2) [.map (some bm), (.slice (some ⟨bs, 0, none⟩) N N), s2, .int .i64 x7, .int .i64 x8] h) :
    ∀ (m j : Nat) (pre met : List Int) (h : H), l.length - j ≤ m → j ≤ l.length → pre.length = j → CIn h1 h bm v met (pre ++ l.drop j) → (∀ x ∈ pre, inI x) → pre ++ canonGo met (l.drop j) = out → metGo met (l.drop j) = mt →
      I [.map (some bm), (.slice (some ⟨bs, 0, none⟩) N N), .int .i64 ((i : Nat) : Int), s2, .int .i64 x7, .int .i64 x8, v10, .int .i64 ((l.length : Nat) : Int), .int .i64 ((j : Nat) : Int)] h := by
  have hl := q.len
  intro m
  induction m with
  | zero =>
    intro j pre met h hm hj hp o hr ho hmet
    refine hI _ _ _ _ _ _ _ _ _ _ ?_
    unfold round67_8
    rw [intK_int, intK_int, intK_int, intK_int, intK_int, cond_dec]
    refine ⟨fun hlt => by omega, fun _ => ?_⟩
    rw [List.drop_eq_nil_of_le (by omega)] at ho hmet o
    simp only [canonGo, List.append_nil] at ho o
    have hmet : met = mt := hmet
    subst ho hmet
    exact hK h o
  | succ m ih =>
    intro j pre met h hm hj hp o hr ho hmet
    have hq : Ir h v10 l := q.kept fun d x hd hx => by
      have hdm : d ≠ bm := fun hh => by subst hh; rw [h0m] at hx; cases hx
      have hdv : Blk v ≠ some d := fun hh => by rw [h0v d hh] at hx; cases hx
      exact o.keep d x hdm hdv (e01 d x hdm hdv hx)
    have hbs2 : h bs = some (.cells L) := o.keep bs _ hbs hvs hs
    refine hI _ _ _ _ _ _ _ _ _ _ ?_
    unfold round67_8
    rw [intK_int, intK_int, intK_int, intK_int, intK_int, cond_dec]
    refine ⟨fun hlt => ?_, fun _ => ?_⟩
    · refine hq.at_ (by omega) (by omega) fun ad x hx hxi hrd => ⟨x, hrd, ?_⟩
      rw [Int.toNat_natCast] at hx
      have hsp := split_at hx
      have ho' := ho
      have hmet' := hmet
      rw [hsp.2.2, canonGo] at ho'
      rw [hsp.2.2, metGo] at hmet'
      have hxi' := hxi
      unfold inI at hxi'
      have next : ∀ h' pre' met', pre'.length = j + 1 → CIn h1 h' bm v met' (pre' ++ l.drop (j + 1)) → (∀ x ∈ pre', inI x) → pre' ++ canonGo met' (l.drop (j + 1)) = out → metGo met' (l.drop (j + 1)) = mt →
          j67_8_15 D I K (.map (some bm)) (.slice (some ⟨bs, 0, none⟩) N N) (.int .i64 ((i : Nat) : Int)) s2 (.int .i64 x7) (.int .i64 x8) v10 (.int .i64 ((l.length : Nat) : Int)) (.int .i64 ((j : Nat) : Int)) h' := by
        intro h' pre' met' a1 a2 a3 a4 a5
        unfold j67_8_15
        rw [intK_int, intK_int, intK_int, intK_int, intK_int, i64_id (by omega) (by omega)]
        exact ih (j + 1) pre' met' h' (by omega) (by omega) a1 a2 a3 a4 a5
      -- the write of a number
      have put : ∀ h' met', CIn h1 h' bm v met' (pre ++ l.drop j) → x < 0 → x ∈ met' → met'.length < 2 ^ 62 + 1 → (∀ y, y = (-1 - (met'.idxOf x : Int)) → (pre ++ [y]) ++ canonGo met' (l.drop (j + 1)) = out) → metGo met' (l.drop (j + 1)) = mt →
          j67_8_14 D I K (.map (some bm)) (.slice (some ⟨bs, 0, none⟩) N N) (.int .i64 ((i : Nat) : Int)) (.int .i64 ((j : Nat) : Int)) (.int .i64 x) s2 (.int .i64 x7) (.int .i64 x8) v10 (.int .i64 ((l.length : Nat) : Int)) (.int .i64 ((j : Nat) : Int)) h' := by
        intro h' met' o' hneg hin hml ho2 hm2
        unfold j67_8_14
        rw [intK_int, intK_int, intK_int, intK_int, intK_int, intK_int, intK_int]
        have hbs3 : h' bs = some (.cells L) := o'.keep bs _ hbs hvs hs
        refine at_own hi ⟨v, rd_cell hbs3 hL, ?_⟩
        obtain ⟨es, cl, hbm, hpl⟩ := o'.map
        refine ⟨es, cl, hbm, ?_⟩
        refine hpl.look (fun _ => ?_) (fun hno => absurd hin hno)
        have hid : met'.idxOf x < met'.length := List.idxOf_lt_length_of_mem hin
        refine ⟨_, rfl, rd_cell hbs3 hL, ?_⟩
        have hjl : j < (Z (pre ++ l.drop j)).length := by rw [Z_len, List.length_append, List.length_drop]; omega
        refine o'.buf.put hjl (v := .int .i64 (IntKind.i64.wrap ((-1 : Int) - (met'.idxOf x : Nat)))) fun a h2 hw hext hbuf => ?_
        refine ⟨rfl, by trivial, h2, hw, ?_⟩
        rw [i64_id (by omega) (by omega), Z_set (m := l) hx hp] at hbuf
        have hdr : Ext (h'.drop v) h2 := hext _ (Ext.drop h' v) fun b hb => hb
        have hkeep : ∀ d x, Blk v ≠ some d → h' d = some x → h2 d = some x := fun d x hd hx => hdr d x (by rw [drop_away hd]; exact hx)
        refine next h2 (pre ++ [-1 - (met'.idxOf x : Int)]) met' (by simp [hp]) ⟨fun d x hdm hdv hx => hkeep d x hdv (o'.keep d x hdm hdv hx), ⟨es, cl, hkeep bm _ o'.nm hbm, hpl⟩, hbuf.self, o'.nm⟩ (fun y hy => ?_) (ho2 _ rfl) hm2
        rcases List.mem_append.mp hy with hy | hy
        · exact hr y hy
        · simp only [List.mem_singleton] at hy
          subst hy; unfold inI; omega
      rw [cond_dec]
      refine ⟨fun hpos => ?_, fun hneg => ?_⟩
      · have hn : ¬ x < 0 := by omega
        rw [if_neg hn] at ho'
        rw [if_neg (fun hh => hn hh.1)] at hmet'
        have e : pre ++ l.drop j = (pre ++ [x]) ++ l.drop (j + 1) := by rw [hsp.2.2]; simp
        refine next h (pre ++ [x]) met (by simp [hp]) (e ▸ o) (fun y hy => ?_) (by rw [← ho']; simp) hmet'
        rcases List.mem_append.mp hy with hy | hy
        · exact hr y hy
        · simp only [List.mem_singleton] at hy
          subst hy; exact hxi
      · have hn : x < 0 := by omega
        rw [if_pos hn] at ho'
        obtain ⟨es, cl, hbm, hpl⟩ := o.map
        have hml : met.length < 2 ^ 62 := by
          obtain ⟨u, hu⟩ := metGo_pre (l.drop j) met
          rw [hmet] at hu
          rw [hu, List.length_append] at hmt; omega
        refine ⟨es, cl, hbm, ?_⟩
        refine hpl.look (fun hin => ⟨_, rfl, ?_⟩) (fun hno => ⟨_, rfl, ?_⟩)
        · rw [Bool.not_true, cond_false]
          rw [if_pos hin] at ho'
          rw [if_neg (fun hh => hh.2 hin)] at hmet'
          refine put h met o hn hin (by omega) (fun y hy => ?_) hmet'
          subst hy
          rw [← ho']; simp
        · rw [Bool.not_false, cond_true]
          rw [if_neg hno] at ho'
          rw [if_pos ⟨hn, hno⟩] at hmet'
          refine ⟨es, cl, hbm, mapU_new hbm hpl.keys hno ?_⟩
          have hid : (met ++ [x]).idxOf x = met.idxOf x := idx_new hno
          refine put _ (met ++ [x]) ⟨fun d y hdm hdv hy => ?_, ⟨_, _, set_here, hpl.add⟩, ?_, o.nm⟩ hn (by simp) (by simp; omega) (fun y hy => ?_) hmet'
          · rw [set_away hdm]; exact o.keep d y hdm hdv hy
          · exact (o.buf.but o.nm ExtBut.set).self
          · subst hy
            rw [hid, ← ho']; simp
    · rw [List.drop_eq_nil_of_le (by omega)] at ho hmet o
      simp only [canonGo, List.append_nil] at ho o
      have hmet : met = mt := hmet
      subst ho hmet
      exact hK h o
def nilS : Value := .slice none 0 0
/-- The state between rows. -/
structure COut (h0 h : H) (bm bs N : Nat) (met : List Int) (done : List (List Int)) : Prop where
  ext : Ext h0 h
  map : ∃ es c, h bm = some (.map es c) ∧ Places es met
  row : ∃ ws, h bs = some (.cells (ws ++ List.replicate (N - ws.length) nilS)) ∧ ws.length = done.length ∧ ∀ (p : Nat) w, ws[p]? = some w → ∃ t, done[p]? = some t ∧ Ir h w t ∧ Blk w ≠ some bm ∧ Blk w ≠ some bs
def tot (ts : List (List Int)) : Nat := (ts.map List.length).sum
theorem canonGo_rng : ∀ (t met : List Int), met.length + t.length < 2 ^ 62 → (∀ x ∈ t, inI x) → ∀ x ∈ canonGo met t, inI x
  | [], met, _, _, x, hx => by simp [canonGo] at hx
  | c :: t, met, hl, ht, x, hx => by
    simp only [List.length_cons] at hl
    unfold canonGo at hx
    split at hx
    · rcases List.mem_cons.mp hx with rfl | hx
      · have : met.idxOf c ≤ met.length := List.idxOf_le_length
        unfold inI; omega
      · refine canonGo_rng t _ ?_ (fun y hy => ht y (by simp [hy])) x hx
        split
        · omega
        · simp; omega
    · rcases List.mem_cons.mp hx with rfl | hx
      · exact ht _ (by simp)
      · exact canonGo_rng t met (by omega) (fun y hy => ht y (by simp [hy])) x hx
theorem rd_ext {h h' : H} (e : Ext h h') {a : Addr} {v : Value} (hr : rd h a = some v) : rd h' a = some v := by
  unfold rd at hr ⊢
  split at hr
  · cases hx : rowOf (h a.block) with
    | none => rw [hx] at hr; cases hr
    | some l => rw [hx] at hr; rw [rowOf_ext e hx]; exact hr
  · cases hr
theorem canon_rows (c48 : Cl48 D) {a0 : Value} {bm bs : Nat} {ts all : List (List Int)} {h0 : H} (q : Rw h0 a0 ts) (hts : ts.length < 2 ^ 40) (hb : tot ts < 2 ^ 60) (h0m : h0 bm = none) (h0s : h0 bs = none) (hne : bs ≠ bm)
    {K : Kl} {I : List Value → H → Prop} (hI : ∀ a0 a1 a2 a3 a4 h, round67_4 D I K a0 a1 a2 a3 a4 h → I [a0, a1, a2, a3, a4] h)
    (hK : ∀ h met, COut h0 h bm bs ts.length met all → K (.e 0) [.slice (some ⟨bs, 0, none⟩) ts.length ts.length] h) :
    ∀ (m i : Nat) (met : List Int) (done : List (List Int)) (h : H), ts.length - i ≤ m → i ≤ ts.length → done.length = i → COut h0 h bm bs ts.length met done → done ++ canonL met (ts.drop i) = all → met.length + tot (ts.drop i) < 2 ^ 61 →
      I [.map (some bm), .slice (some ⟨bs, 0, none⟩) ts.length ts.length, a0, .int .i64 ((ts.length : Nat) : Int), .int .i64 ((i : Nat) : Int)] h := by
  intro m
  induction m with
  | zero =>
    intro i met done h hm hi hd o ha ht
    refine hI _ _ _ _ _ _ ?_
    unfold round67_4
    rw [intK_int, intK_int, cond_dec]
    refine ⟨fun hlt => by omega, fun _ => ?_⟩
    rw [List.drop_eq_nil_of_le (by omega)] at ha
    simp only [canonL, List.append_nil] at ha
    subst ha
    exact hK h met o
  | succ m ih =>
    intro i met done h hm hi hd o ha ht
    refine hI _ _ _ _ _ _ ?_
    unfold round67_4
    rw [intK_int, intK_int, cond_dec]
    refine ⟨fun hlt => ?_, fun _ => ?_⟩
    · refine q.at_ (by omega) (by omega) fun ad v10 t htt hrd hir => ⟨v10, rd_ext o.ext hrd, ?_⟩
      rw [Int.toNat_natCast] at htt
      have hsp := split_at htt
      rw [hsp.2.2] at ha ht
      have htot : tot (t :: ts.drop (i + 1)) = t.length + tot (ts.drop (i + 1)) := by simp [tot]
      rw [htot] at ht
      obtain ⟨es, cl, hbm, hpl⟩ := o.map
      obtain ⟨ws, hbs, hwl, hw⟩ := o.row
      have hil : i < ts.length := by omega
      refine spec48 c48 (hir.ext o.ext) fun v h2 hbuf e2 => ⟨v, rfl, ?_⟩
      have hfresh : ∀ d, Blk v = some d → h d = none := fun d hd => hbuf.blk hd
      have hvm : Blk v ≠ some bm := fun hh => by rw [hfresh bm hh] at hbm; cases hbm
      have hvs : Blk v ≠ some bs := fun hh => by rw [hfresh bs hh] at hbs; cases hbs
      have hbs2 := e2 _ _ hbs
      have hbm2 := e2 _ _ hbm
      have hLlen : (ws ++ List.replicate (ts.length - ws.length) nilS).length = ts.length := by simp; omega
      refine at_own hil ⟨sl_one hbuf.row.isSl, by trivial, _, wr_cell hbs2 (by omega), ?_⟩
      have hL : ((ws ++ List.replicate (ts.length - ws.length) nilS).set i v) = (ws ++ [v]) ++ List.replicate (ts.length - (ws ++ [v]).length) nilS := by
        rw [List.set_append_right _ _ (by omega)]
        have e : i - ws.length = 0 := by omega
        obtain ⟨w, hw⟩ : ∃ w, ts.length - ws.length = w + 1 := ⟨ts.length - ws.length - 1, by omega⟩
        rw [e, hw, List.replicate_succ, List.set_cons_zero, List.length_append, List.length_singleton, List.append_assoc]
        have : ts.length - (ws.length + 1) = w := by omega
        rw [this]; rfl
      rw [hL]
      have hset : (h2.set bs (.cells ((ws ++ [v]) ++ List.replicate (ts.length - (ws ++ [v]).length) nilS))) bs = some (.cells ((ws ++ [v]) ++ List.replicate (ts.length - (ws ++ [v]).length) nilS)) := set_here
      generalize hh3 : h2.set bs (.cells ((ws ++ [v]) ++ List.replicate (ts.length - (ws ++ [v]).length) nilS)) = h3 at hset ⊢
      have haway : ∀ d, d ≠ bs → h3 d = h2 d := fun d hd => by rw [← hh3]; exact set_away hd
      have h03 : Ext h0 h3 := fun d x hx => by
        have hds : d ≠ bs := fun hh => by subst hh; rw [h0s] at hx; cases hx
        rw [haway d hds]; exact e2 _ _ (o.ext _ _ hx)
      have h0v : ∀ d, Blk v = some d → h0 d = none := fun d hd => o.ext.free (hfresh d hd)
      have hirl := hir.len
      have hbm3 : h3 bm = some (.map es cl) := by rw [haway bm hne.symm]; exact hbm2
      have hbuf3 : Buf (h3.drop v) h3 v (Z t) := by
        have : Buf h h3 v (Z t) := by rw [← hh3]; exact hbuf.but hvs ExtBut.set
        exact this.self
      have hmg := metGo_len t met
      rw [hir.len_]
      intro I2 hI2
      refine canon_row hir (fun d x _ _ hx => h03 d x hx) h0v h0m hset hil (by rw [List.append_assoc, ← hwl.trans hd]; simp) hne hvs hI2 (out := canonGo met t) (mt := metGo met t) (by rw [canonGo_len]) (by omega) (fun h4 o4 => ?_) t.length 0 [] met h3 (by omega) (by omega) rfl ⟨fun d x _ _ hx => hx, ⟨es, cl, hbm3, hpl⟩, by simpa using hbuf3, hvm⟩ (by simp) (by simp) (by simp)
      rw [xs_e]
      show cond (Nat.beq 2 2) _ False
      simp only [cond_true, Nat.beq, nth0, nth1, nth2, nth3, nth4, intK_int]
      show I _ _
      rw [i64_id (by omega) (by omega)]
      refine ih (i + 1) (metGo met t) (done ++ [canonGo met t]) h4 (by omega) (by omega) (by simp [hd]) ⟨fun d x hx => ?_, o4.map, ?_⟩ (by rw [← ha]; simp [canonL]) (by omega)
      · refine o4.keep d x (fun hh => ?_) (fun hh => ?_) (h03 d x hx)
        · subst hh; rw [h0m] at hx; cases hx
        · rw [h0v d hh] at hx; cases hx
      · refine ⟨ws ++ [v], o4.keep bs _ hne hvs hset, by simp [hwl], fun p w hp => ?_⟩
        rw [List.getElem?_append] at hp
        split at hp
        · obtain ⟨t', ht', hir', hb1, hb2⟩ := hw p w hp
          refine ⟨t', by rw [List.getElem?_append_left (by omega)]; exact ht', hir'.kept fun d x hdw hx => ?_, hb1, hb2⟩
          have hds : d ≠ bs := fun hh => hb2 (by rw [← hh]; exact hdw)
          refine o4.keep d x (fun hh => hb1 (by rw [← hh]; exact hdw)) (fun hh => ?_) ?_
          · rw [hfresh d hh] at hx; cases hx
          · rw [haway d hds]; exact e2 _ _ hx
        · rename_i hpl2
          have hp0 : p - ws.length = 0 := by
            by_cases h0 : p - ws.length = 0
            · exact h0
            · rw [List.getElem?_eq_none (by simp; omega)] at hp; cases hp
          rw [hp0] at hp
          simp only [List.getElem?_cons_zero, Option.some.injEq] at hp
          subst hp
          have : p = done.length := by omega
          subst this
          refine ⟨canonGo met t, by simp, ⟨o4.buf.row, by rw [canonGo_len]; exact hir.len, canonGo_rng t met (by omega) hir.rng⟩, hvm, hvs⟩
    · rw [List.drop_eq_nil_of_le (by omega)] at ha
      simp only [canonL, List.append_nil] at ha
      subst ha
      exact hK h met o
theorem canonL_len : ∀ (ts : List (List Int)) (met : List Int), (canonL met ts).length = ts.length
  | [], met => rfl
  | t :: ts, met => by simp [canonL, canonL_len ts]
theorem flat_rep {v : Value} : ∀ n : Nat, (List.replicate n [v]).flatten = List.replicate n v
  | 0 => rfl
  | n + 1 => by rw [List.replicate_succ, List.flatten_cons, flat_rep n, List.replicate_succ]; rfl
theorem spec67 (c : Cl67 D) (c48 : Cl48 D) {a0 : Value} {ts : List (List Int)} {h : H} {k : Kv} {kp : Kp} (q : Rw h a0 ts) (hts : ts.length < 2 ^ 40) (hb : tot ts < 2 ^ 60) (hk : ∀ v h', Rw h' v (canonL [] ts) → Ext h h' → k v h') : D 67 [a0] h k kp := by
  refine c _ _ _ _ ?_
  unfold F67
  intro bm hbm
  have e1 : Ext h (h.set bm (.map [] 0)) := Ext.new hbm
  rw [(q.ext e1).len_]
  have hts' : ts.length < 1099511627776 := hts
  refine ⟨by omega, by omega, by omega, by omega, fun bs hbs => ?_⟩
  have hne : bs ≠ bm := fun hh => by subst hh; rw [set_here] at hbs; cases hbs
  have hbs0 : h bs = none := e1.free hbs
  have e2 := e1.trans (Ext.new (o := .cells (List.replicate (ts.length : Int).toNat [Value.slice none 0 0]).flatten) hbs)
  show lenW a0 _
  rw [(q.ext e2).len_, Int.toNat_natCast]
  intro I hI
  refine canon_rows c48 q hts hb hbm hbs0 hne hI (all := canonL [] ts) (fun h2 met o => ?_) ts.length 0 [] [] _ (by omega) (by omega) rfl ⟨e2, ⟨[], 0, by rw [set_away hne.symm]; exact set_here, ⟨rfl, by simp⟩⟩, ⟨[], ?_, rfl, by simp⟩⟩ (by simp) (by simpa using (by omega : tot ts < 2 ^ 61))
  · rw [xs_e]
    show cond (Nat.beq 0 0) _ _
    rw [nth0]
    obtain ⟨ws, h1, h2', h3⟩ := o.row
    have hal : (canonL [] ts).length = ts.length := canonL_len ts []
    have hwl : ws.length = ts.length := by omega
    rw [hwl, Nat.sub_self] at h1
    simp only [List.replicate_zero, List.append_nil] at h1
    refine hk _ _ ⟨⟨ws, Row.cells h1 hwl, h2', fun i v hv => ?_⟩⟩ o.ext
    obtain ⟨t, a, b, _⟩ := h3 i v hv
    exact ⟨t, a, b⟩
  · rw [set_here]
    simp [nilS, flat_rep]
end Go.Proofs.YtnlhnlmnlfmojaaDoor.Am

namespace Go.Proofs.YtnlhnlmnlfmojaaDoor.Am
open Go Go.Proofs Sys Go.Lib
set_option linter.unusedVariables false
set_option linter.unusedSimpArgs false
set_option maxRecDepth 100000
variable {D : Orc} {T : H → Prop}

def vkey (r : Ru) : List (List Int) := canonL [] [r.1, r.2]
theorem vkey_iff (a b : Ru) : vkey a = vkey b ↔ a.1.length = b.1.length ∧ a.2.length = b.2.length ∧ Like (a.1 ++ a.2) (b.1 ++ b.2) := by
  rw [like_iff, canon_split, canon_split]
  unfold vkey
  simp only [canonL, List.cons.injEq, and_true]
  constructor
  · rintro ⟨h1, h2⟩
    have l1 := congrArg List.length h1
    have l2 := congrArg List.length h2
    simp only [canonGo_len] at l1 l2
    exact ⟨l1, l2, by simp [l1, l2], by rw [h1, h2]⟩
  · rintro ⟨l1, l2, _, h⟩
    exact List.append_inj h (by rw [canonGo_len, canonGo_len]; exact l1)
def termsOk (sig : List Sy) (ts : List (List Int)) : Bool := ts.all fun t => chkTerm sig t == 0
def varB (sig : List Sy) (a b : Ru) : Bool := termsOk sig [a.1, a.2, b.1, b.2] && decide (vkey a = vkey b)
def SpecVar (D : Orc) (f : Nat) (T : H → Prop) : Prop := ∀ s v1 w1 v2 w2 sig (a b : Ru) h (k : Kv) kp, Sr h s sig → T h → Ir h v1 a.1 → Ir h w1 a.2 → Ir h v2 b.1 → Ir h w2 b.2 → a.1.length + a.2.length < 2 ^ 40 → b.1.length + b.2.length < 2 ^ 40 →
  (∀ h', Ext h h' → k (.bool (varB sig a b)) h') → D f [s, .agg #[v1, w1], .agg #[v2, w2]] h k kp
theorem ir_pair {h : H} {b n : Nat} {v w : Value} {l m : List Int} (hb : h b = some (.cells [v, w])) (h1 : Ir h v l) (h2 : Ir h w m) (hn : n = 2) : Rw h (.slice (some ⟨b, 0, none⟩) n n) [l, m] := by
  subst hn
  refine ⟨⟨[v, w], Row.cells hb rfl, rfl, fun i x hx => ?_⟩⟩
  match i with
  | 0 => simp only [List.getElem?_cons_zero, Option.some.injEq] at hx; subst hx; exact ⟨l, rfl, h1⟩
  | 1 => simp only [List.getElem?_cons_succ, List.getElem?_cons_zero, Option.some.injEq] at hx; subst hx; exact ⟨m, rfl, h2⟩
  | i + 2 => simp at hx
theorem var_tail (c68 : Cl68 D) {va vb : Value} {x0 x1 y0 y1 : List Int} {h : H} {k : Kv} {kp : Kp} (ra : Rw h va [x0, x1]) (rb : Rw h vb [y0, y1]) (hk : k (.bool (decide ([x0, x1] = [y0, y1]))) h) :
    slAtW va (0 : Int) 1 (fun ad48 => ∃ v49 : Value, rd h ad48 = some v49 ∧ slAtW vb (0 : Int) 1 (fun ad50 => ∃ v51 : Value, rd h ad50 = some v51 ∧ D 68 [v49, v51] h (fun v52 h53 => ∃ t54 : Bool, v52 = (Value.bool t54) ∧ cond t54 (
      slAtW va (1 : Int) 1 (fun ad55 => ∃ v56 : Value, rd h53 ad55 = some v56 ∧ slAtW vb (1 : Int) 1 (fun ad57 => ∃ v58 : Value, rd h53 ad57 = some v58 ∧ D 68 [v56, v58] h53 (fun v59 h60 => ∃ t61 : Bool, v59 = (Value.bool t61) ∧ k (Value.bool t61) h60) kp))) (
      k (Value.bool false) h53)) kp)) := by
  refine ra.at_ (by omega) (by simp) fun a1 u1 t1 ht1 hr1 hi1 => ⟨u1, hr1, ?_⟩
  refine rb.at_ (by omega) (by simp) fun a2 u2 t2 ht2 hr2 hi2 => ⟨u2, hr2, ?_⟩
  have e1 : t1 = x0 := by simpa using ht1.symm
  have e2 : t2 = y0 := by simpa using ht2.symm
  subst e1 e2
  refine spec68 c68 hi1 hi2 ⟨_, rfl, ?_⟩
  rw [cond_dec]
  refine ⟨fun heq => ?_, fun hne => ?_⟩
  · subst heq
    refine ra.at_ (by omega) (by simp) fun a3 u3 t3 ht3 hr3 hi3 => ⟨u3, hr3, ?_⟩
    refine rb.at_ (by omega) (by simp) fun a4 u4 t4 ht4 hr4 hi4 => ⟨u4, hr4, ?_⟩
    have e3 : t3 = x1 := by simpa using ht3.symm
    have e4 : t4 = y1 := by simpa using ht4.symm
    subst e3 e4
    refine spec68 c68 hi3 hi4 ⟨_, rfl, ?_⟩
    have : decide ([t1, t3] = [t1, t4]) = decide (t3 = t4) := by simp
    rw [← this]; exact hk
  · have : decide ([t1, x1] = [t2, y1]) = false := decide_eq_false fun h => hne (List.cons.inj h).1
    rw [this] at hk; exact hk
theorem var_loop (hT : Stays T) (s66 : SpecCheck D 66 T) {s a1 a2 v : Value} {sig : List Sy} {ts : List (List Int)} {h0 : H} (r : Sr h0 s sig) (ht : T h0) (q : Rw h0 v ts) (hts : ts.length < 2 ^ 40) {K : Kl} {I : List Value → H → Prop}
    (hI : ∀ a0 a1 a2 a3 a4 a5 h, round38_2 D I K a0 a1 a2 a3 a4 a5 h → I [a0, a1, a2, a3, a4, a5] h) (hK1 : termsOk sig ts = true → ∀ h, Ext h0 h → K (.e 0) [a1, a2] h) (hK2 : termsOk sig ts = false → ∀ h, Ext h0 h → K .r [.bool false] h) :
    ∀ (m i : Nat) (h : H), ts.length - i ≤ m → i ≤ ts.length → Ext h0 h → termsOk sig (ts.drop i) = termsOk sig ts → I [s, a1, a2, v, .int .i64 ((ts.length : Nat) : Int), .int .i64 ((i : Nat) : Int)] h := by
  have hl : ts.length < 1099511627776 := hts
  intro m
  induction m with
  | zero =>
    intro i h hm hi he ho
    refine hI _ _ _ _ _ _ _ ?_
    unfold round38_2
    rw [intK_int, intK_int, cond_dec]
    refine ⟨fun hlt => by omega, fun _ => ?_⟩
    rw [List.drop_eq_nil_of_le (by omega)] at ho
    exact hK1 ho.symm h he
  | succ m ih =>
    intro i h hm hi he ho
    refine hI _ _ _ _ _ _ _ ?_
    unfold round38_2
    rw [intK_int, intK_int, cond_dec]
    refine ⟨fun hlt => ?_, fun _ => ?_⟩
    · refine (q.ext he).at_ (by omega) (by omega) fun ad u t htt hrd hir => ⟨u, hrd, ?_⟩
      rw [Int.toNat_natCast] at htt
      have e : termsOk sig (ts.drop i) = ((chkTerm sig t == 0) && termsOk sig (ts.drop (i + 1))) := by rw [(split_at htt).2.2]; rfl
      rw [e] at ho
      refine s66 _ _ _ _ _ _ _ (r.ext he) (hT _ _ he ht) hir fun h2 e2 => ⟨_, rfl, ?_⟩
      have he2 := he.trans e2
      rw [cond_ne]
      refine ⟨fun hne => ?_, fun hz => ?_⟩
      · have hf : (chkTerm sig t == 0) = false := by simpa using hne
        rw [hf, Bool.false_and] at ho
        exact hK2 ho.symm _ he2
      · rw [hz] at ho
        rw [i64_id (by omega) (by omega)]
        exact ih (i + 1) h2 (by omega) (by omega) he2 (by simpa using ho)
    · rw [List.drop_eq_nil_of_le (by omega)] at ho
      exact hK1 ho.symm h he
theorem spec38 (hT : Stays T) (c : Cl38 D) (c48 : Cl48 D) (c67 : Cl67 D) (c68 : Cl68 D) (s66 : SpecCheck D 66 T) : SpecVar D 38 T := by
  intro s v1 w1 v2 w2 sig a b h k kp r ht i1 j1 i2 j2 hla hlb hk
  refine c _ _ _ _ _ _ ?_
  unfold F38
  have la1 := i1.len
  have la2 := j1.len
  have lb1 := i2.len
  have lb2 := j2.len
  rw [aggW_agg]
  intro p1 hp1
  rw [aggW_agg]
  intro p2 hp2
  have e1 : Ext h (h.set p1 (.cells #[v1, w1].toList)) := Ext.new hp1
  have e2 : Ext (h.set p1 (.cells #[v1, w1].toList)) ((h.set p1 (.cells #[v1, w1].toList)).set p2 (.cells #[v2, w2].toList)) := Ext.new hp2
  generalize hh2 : (h.set p1 (.cells #[v1, w1].toList)).set p2 (.cells #[v2, w2].toList) = h2 at e2 ⊢
  have b1 : h2 p1 = some (.cells [v1, w1]) := e2 _ _ set_here
  have b2 : h2 p2 = some (.cells [v2, w2]) := by rw [← hh2]; exact set_here
  have e12 := e1.trans e2
  rw [ptrW_ptr]
  refine ⟨v1, rd_cell (i := 0) b1 rfl, ?_⟩
  rw [ptrW_ptr]
  refine ⟨w1, rd_cell (i := 1) b1 rfl, ?_⟩
  rw [ptrW_ptr]
  refine ⟨v2, rd_cell (i := 0) b2 rfl, ?_⟩
  rw [ptrW_ptr]
  refine ⟨w2, rd_cell (i := 1) b2 rfl, ?_⟩
  refine ⟨ir_one i1, (by decide), ir_one j1, (by decide), ir_one i2, (by decide), ir_one j2, (by decide), ?_⟩
  intro p3 hp3
  have e3 : Ext h2 (h2.set p3 (.cells [v1, w1, v2, w2])) := Ext.new hp3
  have b3 : (h2.set p3 (.cells [v1, w1, v2, w2])) p3 = some (.cells [v1, w1, v2, w2]) := set_here
  generalize h2.set p3 (.cells [v1, w1, v2, w2]) = h3 at e3 b3 ⊢
  have e13 := e12.trans e3
  have hrw : Rw h3 (.slice (some ⟨p3, 0, none⟩) 4 4) [a.1, a.2, b.1, b.2] := by
    refine ⟨⟨[v1, w1, v2, w2], Row.cells b3 rfl, rfl, fun i x hx => ?_⟩⟩
    match i with
    | 0 => simp only [List.getElem?_cons_zero, Option.some.injEq] at hx; subst hx; exact ⟨_, rfl, i1.ext e13⟩
    | 1 => simp only [List.getElem?_cons_succ, List.getElem?_cons_zero, Option.some.injEq] at hx; subst hx; exact ⟨_, rfl, j1.ext e13⟩
    | 2 => simp only [List.getElem?_cons_succ, List.getElem?_cons_zero, Option.some.injEq] at hx; subst hx; exact ⟨_, rfl, i2.ext e13⟩
    | 3 => simp only [List.getElem?_cons_succ, List.getElem?_cons_zero, Option.some.injEq] at hx; subst hx; exact ⟨_, rfl, j2.ext e13⟩
    | i + 4 => simp at hx
  rw [lenW_slice]
  intro I hI
  refine var_loop hT s66 (r.ext e13) (hT _ _ e13 ht) hrw (by simp) hI (fun hok h4 e4 => ?_) (fun hno h4 e4 => ?_) 4 0 h3 (by simp) (by simp) (Ext.refl _) (by simp)
  · have e14 := e13.trans e4
    have b1' := e4 _ _ (e3 _ _ b1)
    have b2' := e4 _ _ (e3 _ _ b2)
    have hk' : ∀ h', Ext h h' → k (.bool (decide (vkey a = vkey b))) h' := fun h' e' => by
      have := hk h' e'
      unfold varB at this
      rw [hok, Bool.true_and] at this
      exact this
    rw [xs_e]
    show cond (Nat.beq 0 0) _ False
    simp only [cond_true, Nat.beq, nth0, nth1]
    have htot : ∀ r : Ru, r.1.length + r.2.length < 2 ^ 40 → tot [r.1, r.2] < 2 ^ 60 := fun r hr => by
      simp only [tot, List.map_cons, List.map_nil, List.sum_cons, List.sum_nil]; omega
    refine ⟨?_, ?_⟩
    · rw [ptrW_ptr]
      refine ⟨v1, rd_cell (i := 0) b1' rfl, ?_⟩
      rw [ptrW_ptr]
      refine ⟨w1, rd_cell (i := 1) b1' rfl, ir_one i1, (by decide), ir_one j1, (by decide), fun q1 hq1 => ?_⟩
      have f1 : Ext h4 (h4.set q1 (.cells [v1, w1])) := Ext.new hq1
      show ptrW (.pointer (some ⟨p2, 0, none⟩)) _
      rw [ptrW_ptr]
      refine ⟨v2, rd_cell (i := 0) (f1 _ _ b2') rfl, ?_⟩
      rw [ptrW_ptr]
      refine ⟨w2, rd_cell (i := 1) (f1 _ _ b2') rfl, ?_⟩
      refine spec67 c67 c48 (ir_pair set_here (i1.ext (e14.trans f1)) (j1.ext (e14.trans f1)) rfl) (by simp) (htot a hla) fun x h5 rx f2 => ⟨x, rfl, ?_⟩
      have f12 := f1.trans f2
      refine ⟨rd_cell (i := 1) (f12 _ _ b2') rfl, rd_cell (i := 0) (f12 _ _ b2') rfl, ir_one i2, (by decide), ir_one j2, (by decide), fun q2 hq2 => ?_⟩
      have f3 : Ext h5 (h5.set q2 (.cells [v2, w2])) := Ext.new hq2
      have f13 := f12.trans f3
      refine spec67 c67 c48 (ir_pair set_here (i2.ext (e14.trans f13)) (j2.ext (e14.trans f13)) rfl) (by simp) (htot b hlb) fun y h6 ry f4 => ⟨y, rfl, ?_⟩
      exact var_tail c68 ((rx.ext f3).ext f4) ry (hk' _ (e14.trans (f13.trans f4)))
    · rw [ptrW_ptr]
      refine ⟨v1, rd_cell (i := 0) b1' rfl, ?_⟩
      rw [ptrW_ptr]
      refine ⟨w1, rd_cell (i := 1) b1' rfl, ir_one i1, (by decide), ir_one j1, (by decide), fun q1 hq1 => ?_⟩
      have f1 : Ext h4 (h4.set q1 (.cells [v1, w1])) := Ext.new hq1
      have g1 : (h4.set q1 (.cells [v1, w1])) q1 = some (.cells [v1, w1]) := set_here
      show ptrW (.pointer (some ⟨p2, 0, none⟩)) _
      rw [ptrW_ptr]
      refine ⟨v2, rd_cell (i := 0) (f1 _ _ b2') rfl, ?_⟩
      rw [ptrW_ptr]
      refine ⟨w2, rd_cell (i := 1) (f1 _ _ b2') rfl, ir_one i2, (by decide), ir_one j2, (by decide), fun q2 hq2 => ?_⟩
      have f2 : Ext (h4.set q1 (.cells [v1, w1])) ((h4.set q1 (.cells [v1, w1])).set q2 (.cells [v2, w2])) := Ext.new hq2
      have g2 : ((h4.set q1 (.cells [v1, w1])).set q2 (.cells [v2, w2])) q2 = some (.cells [v2, w2]) := set_here
      have g1' := f2 _ _ g1
      generalize (h4.set q1 (.cells [v1, w1])).set q2 (.cells [v2, w2]) = h5 at f2 g2 g1' ⊢
      have f12 := f1.trans f2
      refine spec67 c67 c48 (ir_pair g1' (i1.ext (e14.trans f12)) (j1.ext (e14.trans f12)) rfl) (by simp) (htot a hla) fun x h6 rx f3 => ⟨x, rfl, ?_⟩
      have f13 := f12.trans f3
      refine spec67 c67 c48 (ir_pair (f3 _ _ g2) (i2.ext (e14.trans f13)) (j2.ext (e14.trans f13)) rfl) (by simp) (htot b hlb) fun y h7 ry f4 => ⟨y, rfl, ?_⟩
      exact var_tail c68 (rx.ext f4) ry (hk' _ (e14.trans (f13.trans f4)))
  · have := hk h4 (e13.trans e4)
    unfold varB at this
    rw [hno, Bool.false_and] at this
    exact this
end Go.Proofs.YtnlhnlmnlfmojaaDoor.Am

namespace Go.Proofs.YtnlhnlmnlfmojaaDoor.Am
open Go Go.Proofs Sys Go.Lib
set_option linter.unusedVariables false
set_option linter.unusedSimpArgs false
set_option maxRecDepth 100000
variable {D : Orc} {T : H → Prop}

/-- Numbers behind numbers of one's own. -/
theorem app_ir {h0 h : H} {s v : Value} {l m : List Int} (r : Buf h0 h s (Z l)) (e : Ext h0 h) (q : Ir h v m) (hl : l.length + m.length < 2 ^ 41) {K : Value → H → Prop}
    (hK : ∀ s' h', Buf h0 h' s' (Z (l ++ m)) → Ext h0 h' → K s' h') : slenW v (fun n => srcW h 1 v n (fun w => apW h 1 8 [(Value.int IntKind.i64 (0 : Int))] s n w (fun s' h' => K s' h'))) := by
  have hl' : l.length + m.length < 2199023255552 := hl
  rw [q.row.slen]
  refine q.row.src (Nat.le_refl _) ?_
  rw [List.take_length]
  refine r.app e rfl ?_ ?_ ?_ fun s' h' r' e' => ?_
  · simp [Z, one]
  · rw [Z_len, Z_len]; omega
  · rw [Z_len, Z_len]; omega
  · rw [Z_app] at r'
    exact hK s' h' r' e'
def symAt (x y : List Int) (i : Nat) : Prop := ∀ a b, x[i]? = some a → y[i]? = some b → (0 ≤ a ∨ 0 ≤ b) → a = b
theorem sym_loop {s t : Value} {x y : List Int} {h : H} (rx : Ir h s x) (ry : Ir h t y) (hlen : x.length = y.length) {K : Kl} {I : List Value → H → Prop}
    (hI : ∀ a0 a1 a2 h, round40_8 D I K a0 a1 a2 h → I [a0, a1, a2] h) (hK1 : (∀ i, symAt x y i) → K (.e 0) [s, t] h) (hK2 : ¬ (∀ i, symAt x y i) → K .r [.bool false] h) :
    ∀ (m i : Nat), x.length - i ≤ m → i ≤ x.length → (∀ j, j < i → symAt x y j) → I [s, t, .int .i64 ((i : Nat) : Int)] h := by
  have hl := rx.len
  intro m
  induction m with
  | zero =>
    intro i hm hi ho
    refine hI _ _ _ _ ?_
    unfold round40_8
    rw [intK_int, rx.len_, cond_dec]
    refine ⟨fun hlt => by omega, fun _ => hK1 fun j => ?_⟩
    by_cases hj : j < i
    · exact ho j hj
    · intro a b ha
      rw [List.getElem?_eq_none (by omega)] at ha; cases ha
  | succ m ih =>
    intro i hm hi ho
    refine hI _ _ _ _ ?_
    unfold round40_8
    rw [intK_int, rx.len_, cond_dec]
    refine ⟨fun hlt => ?_, fun _ => hK1 fun j => ?_⟩
    · refine rx.at_ (by omega) (by omega) fun a1 a ha _ hr1 => ⟨a, hr1, ?_⟩
      rw [Int.toNat_natCast] at ha
      have nxt : ∀ t' : Bool, (t' = true → ¬ symAt x y i) → (t' = false → symAt x y i) → j40_8_11 D I K s t (.int .i64 ((i : Nat) : Int)) (.bool t') h := by
        intro t' h1 h2
        unfold j40_8_11
        rw [intK_int, boolW_bool, cond_split]
        refine ⟨fun ht => hK2 fun hall => h1 ht (hall i), fun hf => ?_⟩
        rw [i64_id (by omega) (by omega)]
        refine ih (i + 1) (by omega) (by omega) fun j hj => ?_
        by_cases hji : j = i
        · subst hji; exact h2 hf
        · exact ho j (by omega)
      have bad : ∀ a' b', x[i]? = some a' → y[i]? = some b' → (0 ≤ a' ∨ 0 ≤ b') → (a' != b') = true → ¬ symAt x y i := fun a' b' h1 h2 h3 h4 hs => by
        have := hs a' b' h1 h2 h3
        simp [this] at h4
      have good : ∀ a' b', x[i]? = some a' → y[i]? = some b' → (a' != b') = false → symAt x y i := fun a' b' h1 h2 h3 u v hu hv _ => by
        rw [h1] at hu; rw [h2] at hv; cases hu; cases hv
        simpa using h3
      rw [cond_not, cond_dec]
      refine ⟨fun hpos => ?_, fun hneg => ?_⟩
      · refine rx.at_ (by omega) (by omega) fun a2 a' ha' _ hr2 => ⟨a', hr2, ?_⟩
        refine ry.at_ (by omega) (by omega) fun a3 b hb _ hr3 => ⟨b, hr3, ?_⟩
        rw [Int.toNat_natCast] at ha' hb
        have : a' = a := by rw [ha] at ha'; cases ha'; rfl
        subst this
        exact nxt _ (bad _ _ ha hb (.inl hpos)) (good _ _ ha hb)
      · refine ry.at_ (by omega) (by omega) fun a3 b hb _ hr3 => ⟨b, hr3, ?_⟩
        rw [Int.toNat_natCast] at hb
        rw [cond_dec]
        refine ⟨fun hpos => ?_, fun hneg2 => ?_⟩
        · refine rx.at_ (by omega) (by omega) fun a2 a' ha' _ hr2 => ⟨a', hr2, ?_⟩
          refine ry.at_ (by omega) (by omega) fun a4 b' hb' _ hr4 => ⟨b', hr4, ?_⟩
          rw [Int.toNat_natCast] at ha' hb'
          have h1 : a' = a := by rw [ha] at ha'; cases ha'; rfl
          have h2 : b' = b := by rw [hb] at hb'; cases hb'; rfl
          subst h1 h2
          exact nxt _ (bad _ _ ha hb (.inr hpos)) (good _ _ ha hb)
        · refine nxt false (fun h => by cases h) fun _ u v hu hv ho => ?_
          rw [ha] at hu; rw [hb] at hv; cases hu; cases hv
          omega
    · by_cases hj : j < i
      · exact ho j hj
      · intro a b ha
        rw [List.getElem?_eq_none (by omega)] at ha; cases ha
def numAt (vx vy : List Int) (a b : Int) (k : Nat) : Prop := ∀ c d, vx[k]? = some c → vy[k]? = some d → (a = -1 - c ↔ b = -1 - d)
theorem num_in {s t vs vt : Value} {x y vx vy : List Int} {h : H} (rx : Ir h s x) (ry : Ir h t y) (qx : Ir h vs vx) (qy : Ir h vt vy) (hlen : vx.length = vy.length) (h0x : ∀ v ∈ vx, 0 ≤ v) (h0y : ∀ v ∈ vy, 0 ≤ v)
    {i : Nat} {a b : Int} (ha : x[i]? = some a) (hb : y[i]? = some b) {K : Kl} {I : List Value → H → Prop}
    (hI : ∀ a0 a1 a2 a3 a4 a5 h, round40_20 D I K a0 a1 a2 a3 a4 a5 h → I [a0, a1, a2, a3, a4, a5] h) (hK1 : (∀ k, numAt vx vy a b k) → K (.e 4) [s, t, vs, vt, .int .i64 ((i : Nat) : Int)] h) (hK2 : ¬ (∀ k, numAt vx vy a b k) → K .r [.bool false] h) :
    ∀ (m j : Nat), vx.length - j ≤ m → j ≤ vx.length → (∀ k, k < j → numAt vx vy a b k) → I [s, t, vs, vt, .int .i64 ((i : Nat) : Int), .int .i64 ((j : Nat) : Int)] h := by
  have hl := qx.len
  have hix := (List.getElem?_eq_some_iff.mp ha).1
  have hiy := (List.getElem?_eq_some_iff.mp hb).1
  intro m
  induction m with
  | zero =>
    intro j hm hj ho
    refine hI _ _ _ _ _ _ _ ?_
    unfold round40_20
    rw [intK_int, intK_int, qx.len_, cond_dec]
    refine ⟨fun hlt => by omega, fun _ => hK1 fun k => ?_⟩
    by_cases hk : k < j
    · exact ho k hk
    · intro c d hc
      rw [List.getElem?_eq_none (by omega)] at hc; cases hc
  | succ m ih =>
    intro j hm hj ho
    refine hI _ _ _ _ _ _ _ ?_
    unfold round40_20
    rw [intK_int, intK_int, qx.len_, cond_dec]
    refine ⟨fun hlt => ?_, fun _ => hK1 fun k => ?_⟩
    · refine rx.at_ (by omega) (by omega) fun a1 a' ha' _ hr1 => ⟨a', hr1, ?_⟩
      refine qx.at_ (by omega) (by omega) fun a2 c hc hci hr2 => ⟨c, hr2, ?_⟩
      refine ry.at_ (by omega) (by omega) fun a3 b' hb' _ hr3 => ⟨b', hr3, ?_⟩
      refine qy.at_ (by omega) (by omega) fun a4 d hd hdi hr4 => ⟨d, hr4, ?_⟩
      rw [Int.toNat_natCast] at ha' hb' hc hd
      have h1 : a' = a := by rw [ha] at ha'; cases ha'; rfl
      have h2 : b' = b := by rw [hb] at hb'; cases hb'; rfl
      subst h1 h2
      have hc0 := h0x c (List.mem_of_getElem? hc)
      have hd0 := h0y d (List.mem_of_getElem? hd)
      unfold inI at hci hdi
      rw [i64_id (n := -1 - c) (by omega) (by omega), i64_id (n := -1 - d) (by omega) (by omega), cond_not]
      have hnum : numAt vx vy a' b' j ↔ (a' = -1 - c ↔ b' = -1 - d) := by
        unfold numAt
        rw [hc, hd]
        constructor
        · intro h; exact h c d rfl rfl
        · intro h u v hu hv; cases hu; cases hv; exact h
      have hiff : ((a' == -1 - c) == (b' == -1 - d)) = decide (a' = -1 - c ↔ b' = -1 - d) := by
        rw [Bool.eq_iff_iff]
        simp only [beq_iff_eq, decide_eq_true_eq]
        rw [Bool.eq_iff_iff, beq_iff_eq, beq_iff_eq]
      rw [hiff, cond_dec, ← hnum]
      refine ⟨fun hy => ?_, fun hn => hK2 fun hall => hn (hall j)⟩
      rw [i64_id (by omega) (by omega)]
      refine ih (j + 1) (by omega) (by omega) fun k hk => ?_
      by_cases hkj : k = j
      · subst hkj; exact hy
      · exact ho k (by omega)
    · by_cases hk : k < j
      · exact ho k hk
      · intro c d hc
        rw [List.getElem?_eq_none (by omega)] at hc; cases hc
theorem num_out {s t vs vt : Value} {x y vx vy : List Int} {h : H} (rx : Ir h s x) (ry : Ir h t y) (hxy : x.length = y.length) (qx : Ir h vs vx) (qy : Ir h vt vy) (hlen : vx.length = vy.length) (h0x : ∀ v ∈ vx, 0 ≤ v) (h0y : ∀ v ∈ vy, 0 ≤ v)
    {K : Kl} {I : List Value → H → Prop}
    (hI : ∀ a0 a1 a2 a3 a4 h, round40_17 D I K a0 a1 a2 a3 a4 h → I [a0, a1, a2, a3, a4] h) (hK1 : (∀ (i : Nat) (a b : Int), x[i]? = some a → y[i]? = some b → ∀ k, numAt vx vy a b k) → K (.e 2) [] h) (hK2 : ¬ (∀ (i : Nat) (a b : Int), x[i]? = some a → y[i]? = some b → ∀ k, numAt vx vy a b k) → K .r [.bool false] h) :
    ∀ (m i : Nat), x.length - i ≤ m → i ≤ x.length → (∀ j, j < i → ∀ a b, x[j]? = some a → y[j]? = some b → ∀ k, numAt vx vy a b k) → I [s, t, vs, vt, .int .i64 ((i : Nat) : Int)] h := by
  have hl := rx.len
  intro m
  induction m with
  | zero =>
    intro i hm hi ho
    refine hI _ _ _ _ _ _ ?_
    unfold round40_17
    rw [intK_int, rx.len_, cond_dec]
    refine ⟨fun hlt => by omega, fun _ => hK1 fun j a b ha => ?_⟩
    by_cases hj : j < i
    · exact ho j hj a b ha
    · rw [List.getElem?_eq_none (by omega)] at ha; cases ha
  | succ m ih =>
    intro i hm hi ho
    refine hI _ _ _ _ _ _ ?_
    unfold round40_17
    rw [intK_int, rx.len_, cond_dec]
    refine ⟨fun hlt => ?_, fun _ => hK1 fun j a b ha => ?_⟩
    · have hix : i < x.length := by omega
      have hiy : i < y.length := by omega
      have ha : x[i]? = some x[i] := List.getElem?_eq_getElem hix
      have hb : y[i]? = some y[i] := List.getElem?_eq_getElem hiy
      intro I2 hI2
      refine num_in rx ry qx qy hlen h0x h0y ha hb hI2 (fun hall => ?_) (fun hno => ?_) vx.length 0 (by omega) (by omega) (by omega)
      · rw [xs_e]
        show cond (Nat.beq 4 4) _ False
        simp only [cond_true, Nat.beq, nth0, nth1, nth2, nth3, nth4, intK_int]
        show I _ _
        rw [i64_id (by omega) (by omega)]
        refine ih (i + 1) (by omega) (by omega) fun j hj a b ha' hb' k => ?_
        by_cases hji : j = i
        · subst hji
          rw [ha] at ha'; rw [hb] at hb'; cases ha'; cases hb'
          exact hall k
        · exact ho j (by omega) a b ha' hb' k
      · rw [xs_r]
        simp only [nth0, boolW_bool]
        exact hK2 fun hall => hno (hall i _ _ ha hb)
    · by_cases hj : j < i
      · exact ho j hj a b ha
      · rw [List.getElem?_eq_none (by omega)] at ha; cases ha
theorem vars_nonneg {t : List Int} : ∀ v ∈ vars t, 0 ≤ v := fun v hv => by
  obtain ⟨c, _, hc, rfl⟩ := mem_vars.mp hv
  omega
theorem mets_at {t : List Int} {k : Nat} {c : Int} : (mets t)[k]? = some c ↔ ∃ v, (vars t)[k]? = some v ∧ c = -1 - v := by
  rw [← vars_mets, List.getElem?_map, Option.map_eq_some_iff]
  constructor
  · rintro ⟨v, h1, h2⟩; exact ⟨v, h1, h2.symm⟩
  · rintro ⟨v, h1, h2⟩; exact ⟨v, h1, h2.symm⟩
theorem like_of {x y : List Int} (h1 : x.length = y.length) (h2 : ∀ i, symAt x y i) (h3 : (vars x).length = (vars y).length) (h4 : ∀ (i : Nat) (a b : Int), x[i]? = some a → y[i]? = some b → ∀ k, numAt (vars x) (vars y) a b k) : Like x y := by
  refine ⟨h1, fun i a b ha hb ho => h2 i a b ha hb ho, ?_, fun i k a b c d ha hb hc hd => ?_⟩
  · rw [← vars_mets, ← vars_mets, List.length_map, List.length_map, h3]
  · obtain ⟨u, hu, rfl⟩ := mets_at.mp hc
    obtain ⟨v, hv, rfl⟩ := mets_at.mp hd
    exact h4 i a b ha hb k u v hu hv
theorem like_vars {x y : List Int} (h : Like x y) : (vars x).length = (vars y).length ∧ ∀ (i : Nat) (a b : Int), x[i]? = some a → y[i]? = some b → ∀ k, numAt (vars x) (vars y) a b k := by
  refine ⟨?_, fun i a b ha hb k c d hc hd => ?_⟩
  · have := h.num
    rw [← vars_mets, ← vars_mets, List.length_map, List.length_map] at this
    exact this
  · exact h.var i k a b _ _ ha hb (mets_at.mpr ⟨c, hc, rfl⟩) (mets_at.mpr ⟨d, hd, rfl⟩)
theorem spec40 (hT : Stays T) (c : Cl40 D) (s69 : SpecCheck D 69 T) (s61 : SpecVars D 61) : SpecVar D 40 T := by
  intro s v1 w1 v2 w2 sig a b h k kp r ht i1 j1 i2 j2 hla hlb hk
  refine c _ _ _ _ _ _ ?_
  unfold F40
  have la1 := i1.len
  have la2 := j1.len
  have lb1 := i2.len
  have lb2 := j2.len
  have hla' : a.1.length + a.2.length < 1099511627776 := hla
  have hlb' : b.1.length + b.2.length < 1099511627776 := hlb
  rw [aggW_agg]
  intro p1 hp1
  rw [aggW_agg]
  intro p2 hp2
  have e1 : Ext h (h.set p1 (.cells #[v1, w1].toList)) := Ext.new hp1
  have e2 : Ext (h.set p1 (.cells #[v1, w1].toList)) ((h.set p1 (.cells #[v1, w1].toList)).set p2 (.cells #[v2, w2].toList)) := Ext.new hp2
  generalize hh2 : (h.set p1 (.cells #[v1, w1].toList)).set p2 (.cells #[v2, w2].toList) = h2 at e2 ⊢
  have b1 : h2 p1 = some (.cells [v1, w1]) := e2 _ _ set_here
  have b2 : h2 p2 = some (.cells [v2, w2]) := by rw [← hh2]; exact set_here
  have e12 := e1.trans e2
  -- a bool that tells of a fault
  have bad : ∀ h', Ext h2 h' → varB sig a b = false → j40__2 D k kp (.pointer (some ⟨p1, 0, none⟩)) (.pointer (some ⟨p2, 0, none⟩)) (.bool true) h' := by
    intro h' e' hv
    unfold j40__2
    rw [boolW_bool, cond_true]
    have := hk h' (e12.trans e')
    rw [hv] at this; exact this
  have hts : termsOk sig [a.1, a.2, b.1, b.2] = ((chkTerm sig a.1 == 0) && ((chkTerm sig a.2 == 0) && ((chkTerm sig b.1 == 0) && ((chkTerm sig b.2 == 0) && true)))) := rfl
  have no : ∀ P : Prop, (varB sig a b = true → P) → ¬ P → varB sig a b = false := fun P h1 h2 => by
    cases hv : varB sig a b with
    | false => rfl
    | true => exact absurd (h1 hv) h2
  have hvB : varB sig a b = true ↔ (chkTerm sig a.1 = 0 ∧ chkTerm sig a.2 = 0 ∧ chkTerm sig b.1 = 0 ∧ chkTerm sig b.2 = 0 ∧ a.1.length = b.1.length ∧ a.2.length = b.2.length ∧ Like (a.1 ++ a.2) (b.1 ++ b.2)) := by
    unfold varB
    rw [hts, Bool.and_eq_true, decide_eq_true_eq, vkey_iff]
    simp only [Bool.and_eq_true, beq_iff_eq, and_true, and_assoc]
  rw [ptrW_ptr]
  refine ⟨v1, rd_cell (i := 0) b1 rfl, ?_⟩
  refine s69 _ _ _ _ _ _ _ (r.ext e12) (hT _ _ e12 ht) (i1.ext e12) fun h3 e3 => ⟨_, rfl, ?_⟩
  rw [cond_not, cond_ne]
  refine ⟨fun hne => bad _ e3 (no _ (fun hv => (hvB.mp hv).1) hne), fun hz1 => ?_⟩
  rw [ptrW_ptr]
  refine ⟨w1, rd_cell (i := 1) (e3 _ _ b1) rfl, ?_⟩
  refine s69 _ _ _ _ _ _ _ (r.ext (e12.trans e3)) (hT _ _ (e12.trans e3) ht) (j1.ext (e12.trans e3)) fun h4 e4 => ⟨_, rfl, ?_⟩
  have e34 := e3.trans e4
  rw [cond_not, cond_ne]
  refine ⟨fun hne => bad _ e34 (no _ (fun hv => (hvB.mp hv).2.1) hne), fun hz2 => ?_⟩
  rw [ptrW_ptr]
  refine ⟨v2, rd_cell (i := 0) (e34 _ _ b2) rfl, ?_⟩
  refine s69 _ _ _ _ _ _ _ (r.ext (e12.trans e34)) (hT _ _ (e12.trans e34) ht) (i2.ext (e12.trans e34)) fun h5 e5 => ⟨_, rfl, ?_⟩
  have e35 := e34.trans e5
  rw [cond_not, cond_ne]
  refine ⟨fun hne => bad _ e35 (no _ (fun hv => (hvB.mp hv).2.2.1) hne), fun hz3 => ?_⟩
  rw [ptrW_ptr]
  refine ⟨w2, rd_cell (i := 1) (e35 _ _ b2) rfl, ?_⟩
  refine s69 _ _ _ _ _ _ _ (r.ext (e12.trans e35)) (hT _ _ (e12.trans e35) ht) (j2.ext (e12.trans e35)) fun h6 e6 => ⟨_, rfl, ?_⟩
  have e36 := e35.trans e6
  have e16 := e12.trans e36
  have b1' := e36 _ _ b1
  have b2' := e36 _ _ b2
  have hvB' : varB sig a b = true ↔ (chkTerm sig b.2 = 0 ∧ a.1.length = b.1.length ∧ a.2.length = b.2.length ∧ Like (a.1 ++ a.2) (b.1 ++ b.2)) := by
    rw [hvB]; simp [hz1, hz2, hz3]
  have fin : ∀ h', Ext h6 h' → ∀ t, varB sig a b = t → k (.bool t) h' := fun h' e' t hv => by
    have := hk h' (e16.trans e')
    rw [hv] at this; exact this
  unfold j40__2
  rw [boolW_bool, cond_ne]
  refine ⟨fun hne => fin _ (Ext.refl _) _ (no _ (fun hv => (hvB'.mp hv).1) hne), fun hz4 => ?_⟩
  rw [ptrW_ptr]
  refine ⟨v1, rd_cell (i := 0) b1' rfl, ?_⟩
  rw [(i1.ext e16).len_, ptrW_ptr]
  refine ⟨v2, rd_cell (i := 0) b2' rfl, ?_⟩
  rw [(i2.ext e16).len_, cond_not, cond_ne]
  refine ⟨fun hne => ?_, fun hl1 => ?_⟩
  · unfold j40__4
    rw [boolW_bool, cond_true]
    exact fin _ (Ext.refl _) _ (no _ (fun hv => (hvB'.mp hv).2.1) fun hh => hne (by rw [hh]))
  rw [ptrW_ptr]
  refine ⟨w1, rd_cell (i := 1) b1' rfl, ?_⟩
  rw [(j1.ext e16).len_, ptrW_ptr]
  refine ⟨w2, rd_cell (i := 1) b2' rfl, ?_⟩
  rw [(j2.ext e16).len_]
  unfold j40__4
  rw [boolW_bool, cond_ne]
  refine ⟨fun hne => fin _ (Ext.refl _) _ (no _ (fun hv => (hvB'.mp hv).2.2.1) fun hh => hne (by rw [hh])), fun hl2 => ?_⟩
  have hl1' : a.1.length = b.1.length := by omega
  have hl2' : a.2.length = b.2.length := by omega
  have hvB2 : varB sig a b = true ↔ Like (a.1 ++ a.2) (b.1 ++ b.2) := by
    rw [hvB']; simp [hz4, hl1', hl2']
  intro q1 hq1
  have f1 : Ext h6 (h6.set q1 (.cells [])) := Ext.new hq1
  show ptrW (.pointer (some ⟨p1, 0, none⟩)) _
  rw [ptrW_ptr]
  refine ⟨v1, rd_cell (i := 0) (f1 _ _ b1') rfl, ?_⟩
  rw [ptrW_ptr]
  refine ⟨w1, rd_cell (i := 1) (f1 _ _ b1') rfl, ?_⟩
  refine app_ir (h0 := h6) (l := []) (Buf.cells (n := 0) hq1 set_here rfl) f1 (i1.ext (e16.trans f1)) (by simp; omega) fun s5 h7 r5 f2 => ?_
  refine ⟨rd_cell (i := 1) (f2 _ _ b1') rfl, ?_⟩
  refine app_ir (l := [] ++ a.1) r5 f2 (j1.ext (e16.trans f2)) (by simp; omega) fun s6 h8 r6 f3 => ?_
  intro q2 hq2
  have f4 : Ext h8 (h8.set q2 (.cells [])) := Ext.new hq2
  have f34 := f3.trans f4
  show ptrW (.pointer (some ⟨p2, 0, none⟩)) _
  rw [ptrW_ptr]
  refine ⟨v2, rd_cell (i := 0) (f34 _ _ b2') rfl, ?_⟩
  rw [ptrW_ptr]
  refine ⟨w2, rd_cell (i := 1) (f34 _ _ b2') rfl, ?_⟩
  refine app_ir (h0 := h8) (l := []) (Buf.cells (n := 0) hq2 set_here rfl) f4 (i2.ext (e16.trans f34)) (by simp; omega) fun s7 h9 r7 f5 => ?_
  refine ⟨rd_cell (i := 1) (f5 _ _ (f3 _ _ b2')) rfl, ?_⟩
  refine app_ir (l := [] ++ b.1) r7 f5 (j2.ext (e16.trans (f3.trans f5))) (by simp; omega) fun s8 h10 r8 f6 => ?_
  have f7 := f3.trans f6
  have e17 := e16.trans f7
  simp only [List.nil_append] at r6 r8
  have hrx : Ir h10 s6 (a.1 ++ a.2) := ⟨r6.row.ext f6, by simp; omega, fun x hx => by
    rcases List.mem_append.mp hx with hx | hx
    · exact i1.rng x hx
    · exact j1.rng x hx⟩
  have hry : Ir h10 s8 (b.1 ++ b.2) := ⟨r8.row, by simp; omega, fun x hx => by
    rcases List.mem_append.mp hx with hx | hx
    · exact i2.rng x hx
    · exact j2.rng x hx⟩
  have hxy : (a.1 ++ a.2).length = (b.1 ++ b.2).length := by simp; omega
  intro I hI
  refine sym_loop hrx hry hxy hI (fun hsym => ?_) (fun hns => ?_) (a.1 ++ a.2).length 0 (by omega) (by omega) (by omega)
  · rw [xs_e]
    show cond (Nat.beq 0 0) _ False
    simp only [cond_true, Nat.beq, nth0, nth1]
    refine s61 _ _ _ _ _ hrx fun u1 h11 ru1 g1 => ⟨u1, rfl, ?_⟩
    refine s61 _ _ _ _ _ (hry.ext g1) fun u2 h12 ru2 g2 => ⟨u2, rfl, ?_⟩
    have g12 := g1.trans g2
    rw [(ru1.ext g2).len_, ru2.len_, cond_ne]
    refine ⟨fun hne => ?_, fun hnum => ?_⟩
    · exact fin _ (f7.trans g12) _ (no _ (fun hv => (like_vars (hvB2.mp hv)).1) fun hh => hne (by rw [hh]))
    intro I2 hI2
    refine num_out (hrx.ext g12) (hry.ext g12) hxy (ru1.ext g2) ru2 (by omega) vars_nonneg vars_nonneg hI2 (fun hall => ?_) (fun hnall => ?_) (a.1 ++ a.2).length 0 (by omega) (by omega) (by omega)
    · exact fin _ (f7.trans g12) _ (hvB2.mpr (like_of hxy hsym (by omega) hall))
    · exact fin _ (f7.trans g12) _ (no _ (fun hv => (like_vars (hvB2.mp hv)).2) hnall)
  · exact fin _ f7 _ (no _ (fun hv => (hvB2.mp hv).sym) hns)
end Go.Proofs.YtnlhnlmnlfmojaaDoor.Am

namespace Go.Proofs.YtnlhnlmnlfmojaaDoor.Am
open Go Go.Proofs Sys Go.Lib
set_option linter.unusedVariables false
set_option linter.unusedSimpArgs false
set_option maxRecDepth 100000
variable {D : Orc} {T : H → Prop}

theorem ruleE_ok {sig : List Sy} {r : Ru} (h : ruleE sig r = 0) : scan (S2 sig) 1 r.1 = 0 ∧ scan (S2 sig) 1 r.2 = 0 ∧ r.1.length ≤ 512 ∧ r.2.length ≤ 512 ∧ 0 ≤ r.1.headD 0 ∧ ∀ v ∈ vars r.2, v ∈ vars r.1 := by
  by_cases h1 : scan (S2 sig) 1 r.1 = 0
  · by_cases h2 : scan (S2 sig) 1 r.2 = 0
    · rw [ruleE_rest h1 h2] at h
      split at h
      · omega
      · split at h
        · omega
        · split at h
          · rename_i ha hb hc
            rw [List.all_eq_true] at hc
            exact ⟨h1, h2, by omega, by omega, by omega, fun v hv => by simpa using hc v hv⟩
          · omega
    · unfold ruleE at h; rw [if_neg (by simpa using h1), if_pos h2] at h; exact absurd h h2
  · unfold ruleE at h; rw [if_pos h1] at h; exact absurd h h1
theorem rulesE_ok {sig : List Sy} : ∀ {rs : List Ru} {i : Nat}, (rulesE sig i rs).1 = 0 → ∀ r ∈ rs, ruleE sig r = 0
  | [], i, h, r, hr => by cases hr
  | r0 :: rs, i, h, r, hr => by
    unfold rulesE at h
    by_cases h0 : ruleE sig r0 ≠ 0
    · rw [if_pos h0] at h; exact absurd h h0
    · rw [if_neg h0] at h
      rcases List.mem_cons.mp hr with rfl | hr
      · simpa using h0
      · exact rulesE_ok h r hr
theorem right_ok {S : Sm} (h : rightS S = true) : plainE S.sig = 0 ∧ chkSig S.sig = 0 ∧ S.rules.length ≤ 64 ∧ ∀ r ∈ S.rules, ruleE S.sig r = 0 := by
  unfold rightS chkSys at h
  have h := beq_iff_eq.mp h
  by_cases h1 : plainE S.sig ≠ 0
  · rw [if_pos h1] at h; exact absurd h h1
  · rw [if_neg h1] at h
    have h1' : plainE S.sig = 0 := by simpa using h1
    by_cases h2 : 64 < S.rules.length
    · rw [if_pos h2] at h; simp at h
    · rw [if_neg h2] at h
      exact ⟨h1', (plain_ok h1').1, by omega, rulesE_ok h⟩
theorem var_right {sig : List Sy} {a b : Ru} (hs : chkSig sig = 0) (ha : ruleE sig a = 0) (hb : ruleE sig b = 0) : varB sig a b = decide (vkey a = vkey b) := by
  have ct : ∀ t, scan (S2 sig) 1 t = 0 → (chkTerm sig t == 0) = true := fun t ht => by
    unfold chkTerm; rw [if_neg (by simpa using hs), ht]; rfl
  unfold varB termsOk
  simp only [List.all_cons, List.all_nil]
  rw [ct _ (ruleE_ok ha).1, ct _ (ruleE_ok ha).2.1, ct _ (ruleE_ok hb).1, ct _ (ruleE_ok hb).2.1]
  rfl
/-- Two systems are the same. -/
def sameS (a b : Sm) : Bool := rightS a && (rightS b && (decide (a.sig = b.sig) && (decide (a.rules.length = b.rules.length) && (a.rules.map vkey).isPerm (b.rules.map vkey))))

/-! ### the first place -/
theorem idx_rule {s fv : Value} {vs : List (Value × Value)} {q : Nat → Bool} {h0 : H} (c : Cl36 D) (r : RowK 2 h0 s (ruRow vs)) (hs : vs.length < 2 ^ 40)
    (hf : ∀ (i : Nat) v, vs[i]? = some v → ∀ h' (k : Kv) kp, Ext h0 h' → (∀ h'', Ext h' h'' → k (.bool (q i)) h'') → callV Tryd.prog D 4 fv [.agg #[v.1, v.2]] h' k kp) {k : Kv} {kp : Kp}
    (hno : (∀ i, i < vs.length → q i = false) → ∀ h', Ext h0 h' → k (.int .i64 (-1)) h') (hyes : ∀ i, i < vs.length → q i = true → (∀ j, j < i → q j = false) → ∀ h', Ext h0 h' → k (.int .i64 ((i : Nat) : Int)) h') : D 36 [s, fv] h0 k kp := by
  refine c _ _ _ _ _ ?_
  unfold F36
  have hs' : vs.length < 1099511627776 := hs
  rw [r.len, ruRow_len]
  intro I hI
  have key : ∀ (m i : Nat) (h : H), vs.length - i ≤ m → i ≤ vs.length → Ext h0 h → (∀ j, j < i → q j = false) → I [s, fv, .int .i64 ((vs.length : Nat) : Int), .int .i64 ((i : Nat) : Int)] h := by
    intro m
    induction m with
    | zero =>
      intro i h hm hi he ho
      refine hI _ _ _ _ _ ?_
      unfold round36_2
      rw [intK_int, intK_int, cond_dec]
      refine ⟨fun hlt => by omega, fun _ => ?_⟩
      exact hno (fun j hj => ho j (by omega)) h he
    | succ m ih =>
      intro i h hm hi he ho
      refine hI _ _ _ _ _ ?_
      unfold round36_2
      rw [intK_int, intK_int, cond_dec]
      refine ⟨fun hlt => ?_, fun _ => ?_⟩
      · refine (r.ext he).at_ (by omega) (by rw [ruRow_len]; omega) fun ad v hv hrd _ => ?_
        rw [Int.toNat_natCast] at hv
        simp only [ruRow, List.getElem?_map, Option.map_eq_some_iff] at hv
        obtain ⟨u, hu, rfl⟩ := hv
        refine ⟨u.1, u.2, hrd, ?_⟩
        refine hf i u hu h _ _ he fun h2 e2 => ?_
        have he2 := he.trans e2
        rw [boolW_bool, cond_split]
        refine ⟨fun ht => ?_, fun hn => ?_⟩
        · simp only [xs_r, nth0, intK_int]
          exact hyes i (by omega) ht ho h2 he2
        · rw [i64_id (by omega) (by omega)]
          refine ih (i + 1) h2 (by omega) (by omega) he2 fun j hj => ?_
          by_cases hji : j = i
          · subst hji; exact hn
          · exact ho j (by omega)
      · exact hno (fun j hj => ho j (by omega)) h he
  exact key vs.length 0 h0 (by omega) (by omega) (Ext.refl _) (by omega)
theorem body37 : hasBody Tryd.prog 37 = true := by kernel_rfl
/-- The closure of Same. -/
theorem fn37 (hT : Stays T) (c : Cl37 D) (s38 : SpecVar D 38 T) {h : H} {pa pr : Nat} {sa ra rv rw qv qw : Value} {sig : List Sy} {a b : Ru} (hpa : h pa = some (.cells [sa, ra])) (hpr : h pr = some (.cells [rv, rw])) (r : Sr h sa sig) (ht : T h)
    (i1 : Ir h rv a.1) (j1 : Ir h rw a.2) (i2 : Ir h qv b.1) (j2 : Ir h qw b.2) (hla : a.1.length + a.2.length < 2 ^ 40) (hlb : b.1.length + b.2.length < 2 ^ 40) {k : Kv} {kp : Kp} (hk : ∀ h', Ext h h' → k (.bool (varB sig a b)) h') :
    callV Tryd.prog D 4 (.func (.func 37) #[] #[.pointer (some ⟨pa, 0, none⟩), .pointer (some ⟨pr, 0, none⟩)]) [.agg #[qv, qw]] h k kp := by
  refine callB body37 ?_
  refine c _ _ _ _ _ _ ?_
  unfold F37
  rw [aggW_agg]
  intro p1 hp1
  have e1 : Ext h (h.set p1 (.cells #[qv, qw].toList)) := Ext.new hp1
  have b1 : (h.set p1 (.cells #[qv, qw].toList)) p1 = some (.cells [qv, qw]) := set_here
  generalize h.set p1 (.cells #[qv, qw].toList) = h1 at e1 b1 ⊢
  rw [ptrW_ptr]
  refine ⟨sa, rd_cell (i := 0) (e1 _ _ hpa) rfl, ?_⟩
  rw [ptrW_ptr]
  refine ⟨rv, rw, rd2 (e1 _ _ hpr), ?_⟩
  rw [ptrW_ptr]
  refine ⟨qv, qw, rd2 b1, ?_⟩
  exact s38 _ _ _ _ _ _ a b _ _ _ (r.ext e1) (hT _ _ e1 ht) (i1.ext e1) (j1.ext e1) (i2.ext e1) (j2.ext e1) hla hlb fun h2 e2 => ⟨_, rfl, ⟨_, rfl, hk h2 (e1.trans e2)⟩⟩
/-! ### an element is left out -/
theorem spec39 (c : Cl39 D) {h0 h : H} {s : Value} {vs : List (Value × Value)} {i : Nat} (r : BufK 2 h0 h s (ruRow vs)) (e : Ext h0 h) (hi : i < vs.length) (hs : vs.length < 2 ^ 40) (hone : ∀ v ∈ vs, one v.1 = true ∧ one v.2 = true) {k : Kv} {kp : Kp}
    (hk : ∀ s' h', BufK 2 h0 h' s' (ruRow (vs.take i ++ vs.drop (i + 1))) → Ext h0 h' → k s' h') : D 39 [s, .int .i64 ((i : Nat) : Int), .int .i64 (((i + 1 : Nat)) : Int)] h k kp := by
  refine c _ _ _ _ _ _ ?_
  unfold F39
  obtain ⟨he, ⟨⟨a, rfl⟩, hnil⟩ | ⟨b, off, cap, l, g1, rfl, g2, g3, g4, g5⟩⟩ := r
  · have : vs = [] := by simpa [ruRow] using hnil
    subst this; simp at hi
  rw [ruRow_len] at g3 g5 ⊢
  have hflat := flat_len he
  rw [ruRow_len] at hflat
  simp only [intK_int, lenW_slice]
  -- the whole, up to its length
  refine ⟨by simp, by simp; omega, by simp; omega, by simp; omega, by simp, ?_⟩
  have hne : (((i : Nat) : Int) == ((i + 1 : Nat) : Int)) = false := by
    rw [beq_eq_false_iff_ne]; omega
  rw [hne, cond_false]
  -- the first part
  refine ⟨by simp, by simp, by simp; omega, by simp, by simp, ?_⟩
  refine ⟨by simp; omega, by simp; omega, by simp; omega, by simp, by simp, ?_⟩
  simp only [slenW_slice, Option.getD_none, Option.getD_some, Int.toNat_natCast, Int.toNat_zero, Nat.sub_zero, Nat.zero_mul, Option.map_some]
  have hw : rdR h ((⟨b, off, none⟩ : Addr).add ((i + 1) * 2)) ((vs.length - (i + 1)) * 2) = some ((ruRow vs).drop (i + 1)).flatten := by
    by_cases hz : vs.length - (i + 1) = 0
    · rw [hz, Nat.zero_mul]
      have : (ruRow vs).drop (i + 1) = [] := List.drop_eq_nil_of_le (by rw [ruRow_len]; omega)
      rw [this]
      simp [rdR]
    · rw [add_at, rdR_row rfl (by show rowOf (h b) = some l; rw [g2]; rfl) (by show off + (i + 1) * 2 + (vs.length - (i + 1)) * 2 ≤ l.length; omega)]
      show some ((l.drop (off + (i + 1) * 2)).take _) = _
      rw [← flat_drop (i + 1) he, ← g5, List.drop_take, List.drop_drop]
      congr 2
      omega
  have hsrc : ∀ K : List Value → Prop, K ((ruRow vs).drop (i + 1)).flatten → srcW h 2 (Value.slice (if cap = i + 1 then some ⟨b, off, none⟩ else some ((⟨b, off, none⟩ : Addr).add ((i + 1) * 2))) (vs.length - (i + 1)) (cap - (i + 1))) (vs.length - (i + 1)) K := by
    intro K hK
    by_cases hc : cap = i + 1
    · rw [if_pos hc]
      have hz : vs.length - (i + 1) = 0 := by omega
      have : (ruRow vs).drop (i + 1) = [] := List.drop_eq_nil_of_le (by rw [ruRow_len]; omega)
      rw [this] at hK
      exact ⟨[], by rw [hz]; simp [rdR], hK⟩
    · rw [if_neg hc]
      exact ⟨_, hw, hK⟩
  refine hsrc _ ?_
  rw [if_neg (by omega), add_at, Nat.add_zero]
  have hdl : ((ruRow vs).drop (i + 1)).flatten.length = (vs.length - (i + 1)) * 2 := by
    rw [flat_len (sz := 2) fun v hv => he v (List.mem_of_mem_drop hv), List.length_drop, ruRow_len]
  have hsum : i + (vs.length - (i + 1)) = vs.length - 1 := by omega
  have hrest : (ruRow (vs.take i ++ vs.drop (i + 1))) = (ruRow vs).take i ++ (ruRow vs).drop (i + 1) := by simp [ruRow, List.map_take, List.map_drop]
  have hfl : (ruRow (vs.take i ++ vs.drop (i + 1))).flatten = (l.drop off).take (i * 2) ++ ((ruRow vs).drop (i + 1)).flatten := by
    rw [hrest, List.flatten_append, ← flat_take i he, ← g5, List.take_take, Nat.min_eq_left (by omega)]
  have hln : (vs.take i ++ vs.drop (i + 1)).length = vs.length - 1 := by simp; omega
  -- what is left to do behind the move
  have fin : ∀ h1 l1, h1 b = some (.cells l1) → l1.length = l.length → Ext h0 h1 → (l1.drop off).take ((vs.length - 1) * 2) = (ruRow (vs.take i ++ vs.drop (i + 1))).flatten →
      lenW (.slice (some ⟨b, off, none⟩) (i + (vs.length - (i + 1))) cap) fun n11 => slCutW (.slice (some ⟨b, off, none⟩) (i + (vs.length - (i + 1))) cap) (some (n11 : Int)) (some (vs.length : Int)) none 2 fun s12 =>
        clW h1 [Value.slice none 0 0, Value.slice none 0 0] s12 fun h13 => k (.slice (some ⟨b, off, none⟩) (i + (vs.length - (i + 1))) cap) h13 := by
    intro h1 l1 hb1 hl1 he1 ht1
    rw [hsum, lenW_slice]
    refine ⟨by simp, (by first | (simp; done) | (simp; omega)), (by first | (simp; done) | (simp; omega)), by simp, by simp, ?_⟩
    simp only [Option.getD_none, Option.getD_some, Int.toNat_natCast, Option.map_some]
    rw [if_neg (by omega), add_at]
    have h1n : vs.length - (vs.length - 1) = 1 := by omega
    rw [h1n]
    refine ⟨fun h => (by cases h), fun _ => ⟨rfl, h1.set b (.cells (splice l1 (off + (vs.length - 1) * 2) [Value.slice none 0 0, Value.slice none 0 0])), ?_, ?_⟩⟩
    · simp only [wr, hb1]
      rw [if_pos (by show off + (vs.length - 1) * 2 + 2 ≤ l1.length; omega)]
      rfl
    · refine hk _ _ ⟨fun v hv => ?_, .inr ⟨b, off, cap, _, g1, by rw [ruRow_len, hln], set_here, by rw [ruRow_len, hln]; omega, ?_, ?_⟩⟩ (he1.set g1)
      · rw [hrest] at hv
        rcases List.mem_append.mp hv with hv | hv
        · exact he v (List.mem_of_mem_take hv)
        · exact he v (List.mem_of_mem_drop hv)
      · rw [length_splice (by show off + (vs.length - 1) * 2 + 2 ≤ l1.length; omega), hl1]; exact g4
      · rw [ruRow_len, hln, ← ht1]
        unfold splice
        have hm : (vs.length - 1) * 2 + 2 ≤ cap * 2 := by omega
        rw [List.drop_append_of_le_length (by rw [List.length_take]; omega), List.take_append_of_le_length (by rw [List.length_drop, List.length_take]; omega), List.drop_take, List.take_take]
        congr 1
        omega
  refine ⟨fun _ => ⟨fun hw0 => ?_, fun hwn => ⟨?_, h.set b (.cells (splice l (off + i * 2) ((ruRow vs).drop (i + 1)).flatten)), ?_, ?_⟩⟩, fun hc => by omega⟩
  · have hz : (vs.length - (i + 1)) * 2 = 0 := by rw [← hdl, hw0]; rfl
    refine fin h l g2 rfl e ?_
    rw [hfl, hw0, List.append_nil]
    have : vs.length - 1 = i := by omega
    rw [this]
  · rw [List.all_eq_true]
    intro x hx
    rw [List.mem_flatten] at hx
    obtain ⟨u, hu, hx⟩ := hx
    have hu := List.mem_of_mem_drop hu
    simp only [ruRow, List.mem_map] at hu
    obtain ⟨v, hv, rfl⟩ := hu
    simp only [List.mem_cons, List.not_mem_nil, or_false] at hx
    rcases hx with rfl | rfl
    · exact (hone v hv).1
    · exact (hone v hv).2
  · rw [add_at]
    simp only [wr, g2]
    rw [if_pos (by rw [hdl]; show off + i * 2 + (vs.length - (i + 1)) * 2 ≤ l.length; omega)]
  · refine fin _ _ set_here (length_splice (by rw [hdl]; omega)) (e.set g1) ?_
    rw [hfl]
    unfold splice
    rw [List.drop_append_of_le_length (by rw [List.length_take]; omega), List.drop_take, show off + i * 2 - off = i * 2 by omega, List.take_append, List.length_take, List.length_drop, Nat.min_eq_left (by omega), List.take_of_length_le (by rw [List.length_take]; omega)]
    congr 1
    rw [List.take_append_of_le_length (by rw [hdl]; omega), List.take_of_length_le (by rw [hdl]; omega)]
end Go.Proofs.YtnlhnlmnlfmojaaDoor.Am

namespace Go.Proofs.YtnlhnlmnlfmojaaDoor.Am
open Go Go.Proofs Sys Go.Lib
set_option linter.unusedVariables false
set_option linter.unusedSimpArgs false
set_option maxRecDepth 100000
variable {D : Orc} {T : H → Prop}

theorem perm_step {β : Type} [BEq β] [LawfulBEq β] {x : β} {xs L : List β} {k : Nat} (hk : L[k]? = some x) (hb : ∀ j, j < k → L[j]? ≠ some x) : (x :: xs).isPerm L = xs.isPerm (L.take k ++ L.drop (k + 1)) := by
  have hs := (split_at hk).1
  have hx : x ∉ L.take k := fun hm => by
    obtain ⟨j, hj, he⟩ := List.getElem_of_mem hm
    rw [List.getElem_take] at he
    rw [List.length_take] at hj
    exact hb j (by omega) (by rw [List.getElem?_eq_getElem (by omega), he])
  have he : L.erase x = L.take k ++ L.drop (k + 1) := by
    conv => lhs; rw [hs]
    rw [List.erase_append_right _ hx, List.erase_cons_head]
  have hc : L.contains x = true := by rw [List.contains_iff_mem]; exact List.mem_of_getElem? hk
  rw [List.isPerm, hc, Bool.true_and, he]
theorem perm_none {β : Type} [BEq β] [LawfulBEq β] {x : β} {xs L : List β} (hb : ∀ j, j < L.length → L[j]? ≠ some x) : (x :: xs).isPerm L = false := by
  have hc : L.contains x = false := by
    cases h : L.contains x with
    | false => rfl
    | true =>
      rw [List.contains_iff_mem] at h
      obtain ⟨j, hj, he⟩ := List.getElem_of_mem h
      exact absurd (by rw [List.getElem?_eq_getElem hj, he]) (hb j hj)
  rw [List.isPerm, hc, Bool.false_and]
abbrev Pv := (Value × Value) × Ru
theorem mem_erased {α : Type} {ps : List α} {k : Nat} {p : α} (h : p ∈ ps.take k ++ ps.drop (k + 1)) : p ∈ ps := by
  rcases List.mem_append.mp h with h | h
  · exact List.mem_of_mem_take h
  · exact List.mem_of_mem_drop h
theorem same_loop15 (hT : Stays T) (c36 : Cl36 D) (c37 : Cl37 D) (c39 : Cl39 D) (s38 : SpecVar D 38 T) {pa : Nat} {sa ra : Value} {sig : List Sy} {rules : List Ru} {h0 : H} (hpa : h0 pa = some (.cells [sa, ra])) (r : Sr h0 sa sig) (ht : T h0) (rr : Rr h0 ra rules)
    (hsig : chkSig sig = 0) (hok : ∀ r ∈ rules, ruleE sig r = 0) {K : Kl} {I : List Value → H → Prop} (hI : ∀ a0 a1 a2 a3 a4 h, round15_5 D I K a0 a1 a2 a3 a4 h → I [a0, a1, a2, a3, a4] h) {R : Bool}
    (hK1 : R = true → ∀ h, Ext h0 h → K (.e 0) [] h) (hK2 : R = false → ∀ h, Ext h0 h → K .r [.bool false] h) :
    ∀ (m i : Nat) (s : Value) (ps : List Pv) (h : H), rules.length - i ≤ m → i ≤ rules.length → BufK 2 h0 h s (ruRow (ps.map (·.1))) → Ext h0 h → (∀ p ∈ ps, Ir h0 p.1.1 p.2.1 ∧ Ir h0 p.1.2 p.2.2 ∧ ruleE sig p.2 = 0) → ps.length = rules.length - i →
      ((rules.drop i).map vkey).isPerm (ps.map fun p => vkey p.2) = R → I [.pointer (some ⟨pa, 0, none⟩), s, ra, .int .i64 ((rules.length : Nat) : Int), .int .i64 ((i : Nat) : Int)] h := by
  have hl := rr.len
  have hl' : rules.length < 1099511627776 := hl
  intro m
  induction m with
  | zero =>
    intro i s ps h hm hi hb he hp hpl hR
    refine hI _ _ _ _ _ _ ?_
    unfold round15_5
    rw [intK_int, intK_int, cond_dec]
    refine ⟨fun hlt => by omega, fun _ => ?_⟩
    rw [List.drop_eq_nil_of_le (by omega)] at hR
    have : ps = [] := List.length_eq_zero_iff.mp (by omega)
    subst this
    exact hK1 hR.symm h he
  | succ m ih =>
    intro i s ps h hm hi hb he hp hpl hR
    refine hI _ _ _ _ _ _ ?_
    unfold round15_5
    rw [intK_int, intK_int, cond_dec]
    refine ⟨fun hlt => ?_, fun _ => ?_⟩
    · refine (rr.ext he).at_ (by omega) (by omega) fun ad v w x hx hrd _ _ i1 j1 => ?_
      rw [Int.toNat_natCast] at hx
      have hsp := (split_at hx).2.2
      have hxm := List.mem_of_getElem? hx
      rw [hsp, List.map_cons] at hR
      refine ⟨v, w, hrd, ?_⟩
      refine two_rule (ir_one i1) (ir_one j1) (by trivial) fun c h1 hc0 hc e1 => ?_
      have he1 := he.trans e1
      have hb1 := hb.ext e1
      have hxk := ruleE_ok (hok x hxm)
      have hq : ∀ (j : Nat) (u : Value × Value), (ps.map (·.1))[j]? = some u → ∃ p, ps[j]? = some p ∧ p ∈ ps ∧ u = p.1 := fun j u hu => by
        rw [List.getElem?_map, Option.map_eq_some_iff] at hu
        obtain ⟨p, hp1, hp2⟩ := hu
        exact ⟨p, hp1, List.mem_of_getElem? hp1, hp2.symm⟩
      refine idx_rule c36 (vs := ps.map (·.1)) (q := fun j => decide ((ps.map fun p => vkey p.2)[j]? = some (vkey x))) hb1.row (by simp; omega) (fun j u hu h2 k2 kp2 e2 hk2 => ?_) (fun hno h2 e2 => ⟨_, rfl, ?_⟩) (fun j hj hyes hbef h2 e2 => ⟨_, rfl, ?_⟩)
      · obtain ⟨p, hp1, hp2, rfl⟩ := hq j u hu
        obtain ⟨i2, j2, hr2⟩ := hp p hp2
        have he2 := he1.trans e2
        have hpk := ruleE_ok hr2
        refine fn37 hT c37 s38 (he2 _ _ hpa) (e2 _ _ hc) (r.ext he2) (hT _ _ he2 ht) ((i1.ext e1).ext e2) ((j1.ext e1).ext e2) (i2.ext he2) (j2.ext he2) (by omega) (by omega) fun h3 e3 => ?_
        rw [var_right hsig (hok x hxm) hr2]
        have := hk2 h3 e3
        rw [List.getElem?_map, hp1] at this
        simp only [Option.map_some, Option.some.injEq] at this
        rw [decide_eq_decide.mpr (eq_comm (a := vkey x) (b := vkey p.2))]
        exact this
      · rw [cond_dec]
        refine ⟨fun _ => hK2 ?_ h2 (he1.trans e2), fun hn => absurd (by decide) hn⟩
        rw [← hR]
        refine perm_none fun j hj heq => ?_
        have := hno j (by simpa using hj)
        rw [decide_eq_false_iff_not] at this
        exact this heq
      · have hjp : j < ps.length := by simpa using hj
        rw [cond_dec]
        refine ⟨fun hneg => by omega, fun _ => ?_⟩
        rw [i64_id (by omega) (by omega)]
        have hone : ∀ u ∈ ps.map (·.1), one u.1 = true ∧ one u.2 = true := fun u hu => by
          obtain ⟨p, hp1, rfl⟩ := List.mem_map.mp hu
          exact ⟨ir_one (hp p hp1).1, ir_one (hp p hp1).2.1⟩
        refine spec39 c39 (hb1.ext e2) (he1.trans e2) hj (by simp; omega) hone fun s' h3 hb3 e3 => ⟨_, rfl, ?_⟩
        rw [i64_id (by omega) (by omega)]
        rw [← List.map_take, ← List.map_drop, ← List.map_append] at hb3
        refine ih (i + 1) s' (ps.take j ++ ps.drop (j + 1)) h3 (by omega) (by omega) hb3 e3 (fun p hp1 => hp p (mem_erased hp1)) (by simp; omega) ?_
        rw [← hR, perm_step (k := j) (of_decide_eq_true hyes) fun j' hj' heq => ?_]
        · simp only [List.map_append, List.map_take, List.map_drop]
        · have := hbef j' hj'
          rw [decide_eq_false_iff_not] at this
          exact this heq
    · rw [List.drop_eq_nil_of_le (by omega)] at hR
      have : ps = [] := List.length_eq_zero_iff.mp (by omega)
      subst this
      exact hK1 hR.symm h he
/-- The pairs of a row of rules. -/
theorem Rr.pairs {h : H} {s : Value} {rs : List Ru} (r : Rr h s rs) : ∃ ps : List Pv, RowK 2 h s (ruRow (ps.map (·.1))) ∧ ps.map (·.2) = rs ∧ ∀ p ∈ ps, Ir h p.1.1 p.2.1 ∧ Ir h p.1.2 p.2.2 := by
  obtain ⟨vs, h1, h2, h3⟩ := r.ex
  refine ⟨vs.zip rs, ?_, ?_, ?_⟩
  · rw [List.map_fst_zip (by omega)]; exact h1
  · exact List.map_snd_zip (by omega)
  · intro p hp
    obtain ⟨j, hj, rfl⟩ := List.getElem_of_mem hp
    rw [List.length_zip] at hj
    obtain ⟨x, hx, a, b⟩ := h3 j vs[j] (List.getElem?_eq_getElem (by omega))
    rw [List.getElem?_eq_getElem (by omega)] at hx
    cases hx
    rw [List.getElem_zip]
    exact ⟨a, b⟩
def SpecSame (D : Orc) (f : Nat) (T : H → Prop) : Prop := ∀ va vb (a b : Sm) h (k : Kv) kp, Ss h va a → Ss h vb b → T h → (∀ h', Ext h h' → k (.bool (sameS a b)) h') → D f [va, vb] h k kp
theorem spec15 (hT : Stays T) (c : Cl15 D) (s31 : SpecRightS D 31 T) (c34 : Cl34 D) (c35 : Cl35 D) (c36 : Cl36 D) (c37 : Cl37 D) (c39 : Cl39 D) (s38 : SpecVar D 38 T) : SpecSame D 15 T := by
  intro va vb a b h k kp qa qb ht hk
  obtain ⟨sa, ra, rfl, r1, r2⟩ := qa.ex
  obtain ⟨sb, rb, rfl, t1, t2⟩ := qb.ex
  refine c _ _ _ _ _ ?_
  unfold F15
  rw [aggW_agg]
  intro p1 hp1
  rw [aggW_agg]
  intro p2 hp2
  have e1 : Ext h (h.set p1 (.cells #[sa, ra].toList)) := Ext.new hp1
  have e2 : Ext (h.set p1 (.cells #[sa, ra].toList)) ((h.set p1 (.cells #[sa, ra].toList)).set p2 (.cells #[sb, rb].toList)) := Ext.new hp2
  generalize hh2 : (h.set p1 (.cells #[sa, ra].toList)).set p2 (.cells #[sb, rb].toList) = h2 at e2 ⊢
  have b1 : h2 p1 = some (.cells [sa, ra]) := e2 _ _ set_here
  have b2 : h2 p2 = some (.cells [sb, rb]) := by rw [← hh2]; exact set_here
  have e12 := e1.trans e2
  have bad : ∀ h', Ext h2 h' → sameS a b = false → j15__2 D k kp (.pointer (some ⟨p1, 0, none⟩)) (.pointer (some ⟨p2, 0, none⟩)) (.bool true) h' := by
    intro h' e' hv
    unfold j15__2
    rw [boolW_bool, cond_true]
    have := hk h' (e12.trans e')
    rw [hv] at this; exact this
  rw [ptrW_ptr]
  refine ⟨sa, ra, rd2 b1, ?_⟩
  refine s31 _ a _ _ _ ⟨⟨sa, ra, rfl, r1.ext e12, r2.ext e12⟩⟩ (hT _ _ e12 ht) fun h3 e3 => ⟨_, rfl, ?_⟩
  rw [Bool.not_not, cond_split]
  refine ⟨fun hra => ?_, fun hra => bad _ e3 (by unfold sameS; rw [hra]; rfl)⟩
  rw [ptrW_ptr]
  refine ⟨sb, rb, rd2 (e3 _ _ b2), ?_⟩
  refine s31 _ b _ _ _ ⟨⟨sb, rb, rfl, t1.ext (e12.trans e3), t2.ext (e12.trans e3)⟩⟩ (hT _ _ (e12.trans e3) ht) fun h4 e4 => ⟨_, rfl, ?_⟩
  have e34 := e3.trans e4
  rw [Bool.not_not, cond_split]
  refine ⟨fun hrb => ?_, fun hrb => bad _ e34 (by unfold sameS; rw [hra, hrb]; rfl)⟩
  have e14 := e12.trans e34
  rw [ptrW_ptr]
  refine ⟨sa, rd_cell (i := 0) (e34 _ _ b1) rfl, ?_⟩
  rw [ptrW_ptr]
  refine ⟨sb, rd_cell (i := 0) (e34 _ _ b2) rfl, ?_⟩
  refine spec34 c34 (r1.ext e14) (t1.ext e14) ⟨_, rfl, ?_⟩
  rw [Bool.not_not, cond_dec]
  refine ⟨fun hsg => ?_, fun hsg => bad _ e34 (by unfold sameS; rw [hra, hrb, decide_eq_false hsg]; rfl)⟩
  rw [ptrW_ptr]
  refine ⟨ra, rd_cell (i := 1) (e34 _ _ b1) rfl, ?_⟩
  rw [(r2.ext e14).len_, ptrW_ptr]
  refine ⟨rb, rd_cell (i := 1) (e34 _ _ b2) rfl, ?_⟩
  rw [(t2.ext e14).len_]
  have hsame : sameS a b = (decide (a.rules.length = b.rules.length) && (a.rules.map vkey).isPerm (b.rules.map vkey)) := by
    unfold sameS; rw [hra, hrb, decide_eq_true hsg]; rfl
  unfold j15__2
  rw [boolW_bool, cond_ne]
  refine ⟨fun hne => ?_, fun hln => ?_⟩
  · have := hk _ e14
    rw [hsame, decide_eq_false (by omega)] at this
    exact this
  have hln' : a.rules.length = b.rules.length := by omega
  rw [decide_eq_true hln', Bool.true_and] at hsame
  obtain ⟨_, hsig, hl64, hok⟩ := right_ok hra
  obtain ⟨_, _, hl64b, hokb⟩ := right_ok hrb
  obtain ⟨ps, g1, g2, g3⟩ := (t2.ext e14).pairs
  have hpl : ps.length = b.rules.length := by rw [← g2, List.length_map]
  rw [ptrW_ptr]
  refine ⟨rb, rd_cell (i := 1) (e34 _ _ b2) rfl, ?_⟩
  have hone : ∀ u ∈ ps.map (·.1), one u.1 = true ∧ one u.2 = true := fun u hu => by
    obtain ⟨p, hp1, rfl⟩ := List.mem_map.mp hu
    exact ⟨ir_one (g3 p hp1).1, ir_one (g3 p hp1).2⟩
  refine spec35 c35 g1 (by simp; omega) hone fun s h5 hb e5 => ⟨_, rfl, ?_⟩
  have e15 := e14.trans e5
  rw [ptrW_ptr]
  refine ⟨ra, rd_cell (i := 1) (e5 _ _ (e34 _ _ b1)) rfl, ?_⟩
  rw [(r2.ext e15).len_]
  intro I hI
  refine same_loop15 hT c36 c37 c39 s38 (e34 _ _ b1) (r1.ext e14) (hT _ _ e14 ht) (r2.ext e14) hsig hok hI (R := sameS a b) (fun hR h6 e6 => ?_) (fun hR h6 e6 => ?_) a.rules.length 0 s ps h5 (by omega) (by omega) hb e5 (fun p hp => ⟨(g3 p hp).1, (g3 p hp).2, ?_⟩) (by omega) ?_
  · have := hk h6 (e14.trans e6)
    rw [hR] at this; exact this
  · have := hk h6 (e14.trans e6)
    rw [hR] at this; exact this
  · rw [hsg]
    exact hokb _ (by rw [← g2]; exact List.mem_map_of_mem hp)
  · rw [hsame, ← g2, List.map_map, List.drop_zero]; rfl
end Go.Proofs.YtnlhnlmnlfmojaaDoor.Am

namespace Go.Proofs.YtnlhnlmnlfmojaaDoor.Am
open Go Go.Proofs Sys Go.Lib
set_option linter.unusedVariables false
set_option linter.unusedSimpArgs false
set_option maxRecDepth 100000
variable {D : Orc} {T : H → Prop}

theorem sig_loop16 {pa pb : Nat} {sa ra sb rb : Value} {l m : List Sy} {h : H} (b1 : h pa = some (.cells [sa, ra])) (b2 : h pb = some (.cells [sb, rb])) (r1 : Sr h sa l) (r2 : Sr h sb m) (hlen : l.length = m.length) {K : Kl} {I : List Value → H → Prop}
    (hI : ∀ a0 a1 a2 h, round16_4 D I K a0 a1 a2 h → I [a0, a1, a2] h) (hK1 : l = m → K (.e 0) [.pointer (some ⟨pa, 0, none⟩), .pointer (some ⟨pb, 0, none⟩)] h) (hK2 : l ≠ m → K .r [.bool false] h) :
    ∀ (n i : Nat), l.length - i ≤ n → i ≤ l.length → (l.drop i = m.drop i ↔ l = m) → I [.pointer (some ⟨pa, 0, none⟩), .pointer (some ⟨pb, 0, none⟩), .int .i64 ((i : Nat) : Int)] h := by
  have hl := r1.len
  intro n
  induction n with
  | zero =>
    intro i hn hi he
    refine hI _ _ _ _ ?_
    unfold round16_4
    rw [intK_int, ptrW_ptr]
    refine ⟨sa, rd_cell (i := 0) b1 rfl, ?_⟩
    rw [r1.len_, cond_dec]
    refine ⟨fun hlt => by omega, fun _ => hK1 (he.mp ?_)⟩
    rw [List.drop_eq_nil_of_le (by omega), List.drop_eq_nil_of_le (by omega)]
  | succ n ih =>
    intro i hn hi he
    refine hI _ _ _ _ ?_
    unfold round16_4
    rw [intK_int, ptrW_ptr]
    refine ⟨sa, rd_cell (i := 0) b1 rfl, ?_⟩
    rw [r1.len_, cond_dec]
    refine ⟨fun hlt => ?_, fun _ => hK1 (he.mp ?_)⟩
    · rw [ptrW_ptr]
      refine ⟨sa, rd_cell (i := 0) b1 rfl, ?_⟩
      refine r1.at_ (by omega) (by omega) fun a1 x hx hr1 => ⟨x.1, x.2, hr1, ?_⟩
      rw [ptrW_ptr]
      refine ⟨sb, rd_cell (i := 0) b2 rfl, ?_⟩
      refine r2.at_ (by omega) (by omega) fun a2 y hy hr2 => ⟨y.1, y.2, hr2, ?_⟩
      rw [Int.toNat_natCast] at hx hy
      rw [(split_at hx).2.2, (split_at hy).2.2] at he
      rw [sy_eq, cond_not, cond_dec]
      refine ⟨fun heq => ?_, fun hne => hK2 fun h => hne (List.cons.inj (he.mpr h)).1⟩
      subst heq
      rw [i64_id (by omega) (by omega)]
      refine ih (i + 1) (by omega) (by omega) ⟨fun h => he.mp (by rw [h]), fun h => (List.cons.inj (he.mpr h)).2⟩
    · rw [List.drop_eq_nil_of_le (by omega), List.drop_eq_nil_of_le (by omega)]
/-- How many are like a rule, counted from a place. -/
def likeFrom (rs : List Ru) (x : Ru) (k : Nat) : Nat := ((rs.map vkey).drop k).count (vkey x)
theorem like_step {rs : List Ru} {x y : Ru} {k : Nat} (h : rs[k]? = some y) : likeFrom rs x k = (if vkey x = vkey y then 1 else 0) + likeFrom rs x (k + 1) := by
  unfold likeFrom
  have : (rs.map vkey)[k]? = some (vkey y) := by rw [List.getElem?_map, h]; rfl
  rw [(split_at this).2.2, List.count_cons]
  by_cases e : vkey x = vkey y
  · rw [if_pos e]; simp [e]; omega
  · rw [if_neg e]; simp [show ¬ vkey y = vkey x from fun h => e h.symm]
theorem like_end {rs : List Ru} {x : Ru} {k : Nat} (h : rs.length ≤ k) : likeFrom rs x k = 0 := by
  unfold likeFrom; rw [List.drop_eq_nil_of_le (by simpa using h)]; rfl
theorem cnt_loop16 (hT : Stays T) (s40 : SpecVar D 40 T) {pa pb : Nat} {sa ra sb rb : Value} {sig : List Sy} {xa xb : List Ru} {h0 : H} (b1 : h0 pa = some (.cells [sa, ra])) (b2 : h0 pb = some (.cells [sb, rb])) (r1 : Sr h0 sa sig) (ht : T h0) (q1 : Rr h0 ra xa) (q2 : Rr h0 rb xb)
    (hlen : xa.length = xb.length) (hl64 : xa.length ≤ 64) (hsig : chkSig sig = 0) (hoka : ∀ r ∈ xa, ruleE sig r = 0) (hokb : ∀ r ∈ xb, ruleE sig r = 0) {i : Nat} {x : Ru} (hx : xa[i]? = some x) {K : Kl} {I : List Value → H → Prop}
    (hI : ∀ a0 a1 a2 a3 a4 h, round16_13 D I K a0 a1 a2 a3 a4 h → I [a0, a1, a2, a3, a4] h) {R : Int} (hK : ∀ h, Ext h0 h → K (.e 4) [.pointer (some ⟨pa, 0, none⟩), .pointer (some ⟨pb, 0, none⟩), .int .i64 ((i : Nat) : Int), .int .i64 R] h) :
    ∀ (m k : Nat) (n : Int) (h : H), xa.length - k ≤ m → k ≤ xa.length → Ext h0 h → n + (likeFrom xa x k : Int) - (likeFrom xb x k : Int) = R → -(k : Int) ≤ n → n ≤ (k : Int) → I [.pointer (some ⟨pa, 0, none⟩), .pointer (some ⟨pb, 0, none⟩), .int .i64 ((i : Nat) : Int), .int .i64 n, .int .i64 ((k : Nat) : Int)] h := by
  have hxm := List.mem_of_getElem? hx
  have hxk := ruleE_ok (hoka x hxm)
  have hil := (List.getElem?_eq_some_iff.mp hx).1
  intro m
  induction m with
  | zero =>
    intro k n h hm hk he hR hn1 hn2
    refine hI _ _ _ _ _ _ ?_
    unfold round16_13
    rw [intK_int, intK_int, intK_int, ptrW_ptr]
    refine ⟨ra, rd_cell (i := 1) (he _ _ b1) rfl, ?_⟩
    rw [(q1.ext he).len_, cond_dec]
    refine ⟨fun hlt => by omega, fun _ => ?_⟩
    rw [like_end (by omega), like_end (by omega)] at hR
    have : n = R := by omega
    subst this
    exact hK h he
  | succ m ih =>
    intro k n h hm hk he hR hn1 hn2
    refine hI _ _ _ _ _ _ ?_
    unfold round16_13
    rw [intK_int, intK_int, intK_int, ptrW_ptr]
    refine ⟨ra, rd_cell (i := 1) (he _ _ b1) rfl, ?_⟩
    rw [(q1.ext he).len_, cond_dec]
    refine ⟨fun hlt => ?_, fun _ => ?_⟩
    · rw [ptrW_ptr]
      refine ⟨sa, rd_cell (i := 0) (he _ _ b1) rfl, ?_⟩
      rw [ptrW_ptr]
      refine ⟨ra, rd_cell (i := 1) (he _ _ b1) rfl, ?_⟩
      refine (q1.ext he).at_ (by omega) (by omega) fun a1 v1 w1 x1 hx1 hr1 _ _ i1 j1 => ⟨v1, w1, hr1, ?_⟩
      rw [Int.toNat_natCast, hx] at hx1
      cases hx1
      rw [ptrW_ptr]
      refine ⟨ra, rd_cell (i := 1) (he _ _ b1) rfl, ?_⟩
      refine (q1.ext he).at_ (by omega) (by omega) fun a2 v2 w2 y hy hr2 _ _ i2 j2 => ⟨v2, w2, hr2, ?_⟩
      rw [Int.toNat_natCast] at hy
      have hya := hoka y (List.mem_of_getElem? hy)
      have hyk := ruleE_ok hya
      rw [like_step hy] at hR
      refine s40 _ _ _ _ _ _ x y _ _ _ (r1.ext he) (hT _ _ he ht) i1 j1 i2 j2 (by omega) (by omega) fun h2 e2 => ⟨_, rfl, ?_⟩
      have he2 := he.trans e2
      rw [var_right hsig (hoka x hxm) hya]
      -- the second part
      have two : ∀ n1 : Int, n1 = n + (if vkey x = vkey y then 1 else 0) → j16_13_17 D I K (.pointer (some ⟨pa, 0, none⟩)) (.pointer (some ⟨pb, 0, none⟩)) (.int .i64 ((i : Nat) : Int)) (.int .i64 n1) (.int .i64 ((k : Nat) : Int)) h2 := by
        intro n1 hn1'
        unfold j16_13_17
        rw [intK_int, intK_int, intK_int, ptrW_ptr]
        refine ⟨sa, rd_cell (i := 0) (he2 _ _ b1) rfl, ?_⟩
        rw [ptrW_ptr]
        refine ⟨ra, rd_cell (i := 1) (he2 _ _ b1) rfl, ?_⟩
        refine (q1.ext he2).at_ (by omega) (by omega) fun a3 v3 w3 x3 hx3 hr3 _ _ i3 j3 => ⟨v3, w3, hr3, ?_⟩
        rw [Int.toNat_natCast, hx] at hx3
        cases hx3
        rw [ptrW_ptr]
        refine ⟨rb, rd_cell (i := 1) (he2 _ _ b2) rfl, ?_⟩
        refine (q2.ext he2).at_ (by omega) (by omega) fun a4 v4 w4 z hz hr4 _ _ i4 j4 => ⟨v4, w4, hr4, ?_⟩
        rw [Int.toNat_natCast] at hz
        have hzb := hokb z (List.mem_of_getElem? hz)
        have hzk := ruleE_ok hzb
        rw [like_step hz] at hR
        refine s40 _ _ _ _ _ _ x z _ _ _ (r1.ext he2) (hT _ _ he2 ht) i3 j3 i4 j4 (by omega) (by omega) fun h3 e3 => ⟨_, rfl, ?_⟩
        have he3 := he2.trans e3
        rw [var_right hsig (hoka x hxm) hzb, cond_dec]
        have last : ∀ n2 : Int, n2 = n1 - (if vkey x = vkey z then 1 else 0) → j16_13_14 D I K (.pointer (some ⟨pa, 0, none⟩)) (.pointer (some ⟨pb, 0, none⟩)) (.int .i64 ((i : Nat) : Int)) (.int .i64 n2) (.int .i64 ((k : Nat) : Int)) h3 := by
          intro n2 hn2'
          unfold j16_13_14
          rw [intK_int, intK_int, intK_int, i64_id (by omega) (by omega)]
          refine ih (k + 1) n2 h3 (by omega) (by omega) he3 ?_ ?_ ?_
          · subst hn2' hn1'
            by_cases c1 : vkey x = vkey y
            · by_cases c2 : vkey x = vkey z
              · rw [if_pos c1, if_pos c2] at hR; rw [if_pos c1, if_pos c2]; omega
              · rw [if_pos c1, if_neg c2] at hR; rw [if_pos c1, if_neg c2]; omega
            · by_cases c2 : vkey x = vkey z
              · rw [if_neg c1, if_pos c2] at hR; rw [if_neg c1, if_pos c2]; omega
              · rw [if_neg c1, if_neg c2] at hR; rw [if_neg c1, if_neg c2]; omega
          · subst hn2' hn1'; split <;> split <;> omega
          · subst hn2' hn1'; split <;> split <;> omega
        refine ⟨fun c2 => ?_, fun c2 => ?_⟩
        · refine last _ ?_
          rw [if_pos c2, i64_id]
          · subst hn1'; split <;> omega
          · subst hn1'; split <;> omega
        · refine last _ ?_
          rw [if_neg c2]; omega
      rw [cond_dec]
      refine ⟨fun c1 => ?_, fun c1 => ?_⟩
      · refine two _ ?_
        rw [if_pos c1, i64_id (by omega) (by omega)]
      · refine two _ ?_
        rw [if_neg c1]; omega
    · rw [like_end (by omega), like_end (by omega)] at hR
      have : n = R := by omega
      subst this
      exact hK h he
theorem rule_loop16 (hT : Stays T) (s40 : SpecVar D 40 T) {pa pb : Nat} {sa ra sb rb : Value} {sig : List Sy} {xa xb : List Ru} {h0 : H} (b1 : h0 pa = some (.cells [sa, ra])) (b2 : h0 pb = some (.cells [sb, rb])) (r1 : Sr h0 sa sig) (ht : T h0) (q1 : Rr h0 ra xa) (q2 : Rr h0 rb xb)
    (hlen : xa.length = xb.length) (hl64 : xa.length ≤ 64) (hsig : chkSig sig = 0) (hoka : ∀ r ∈ xa, ruleE sig r = 0) (hokb : ∀ r ∈ xb, ruleE sig r = 0) {K : Kl} {I : List Value → H → Prop}
    (hI : ∀ a0 a1 a2 h, round16_9 D I K a0 a1 a2 h → I [a0, a1, a2] h) (hK1 : (∀ x ∈ xa, likeFrom xa x 0 = likeFrom xb x 0) → ∀ h, Ext h0 h → K (.e 2) [] h) (hK2 : (∃ x ∈ xa, likeFrom xa x 0 ≠ likeFrom xb x 0) → ∀ h, Ext h0 h → K .r [.bool false] h) :
    ∀ (m i : Nat) (h : H), xa.length - i ≤ m → i ≤ xa.length → Ext h0 h → (∀ x ∈ xa.take i, likeFrom xa x 0 = likeFrom xb x 0) → I [.pointer (some ⟨pa, 0, none⟩), .pointer (some ⟨pb, 0, none⟩), .int .i64 ((i : Nat) : Int)] h := by
  intro m
  induction m with
  | zero =>
    intro i h hm hi he ho
    refine hI _ _ _ _ ?_
    unfold round16_9
    rw [intK_int, ptrW_ptr]
    refine ⟨ra, rd_cell (i := 1) (he _ _ b1) rfl, ?_⟩
    rw [(q1.ext he).len_, cond_dec]
    refine ⟨fun hlt => by omega, fun _ => hK1 ?_ h he⟩
    rw [List.take_of_length_le (by omega)] at ho; exact ho
  | succ m ih =>
    intro i h hm hi he ho
    refine hI _ _ _ _ ?_
    unfold round16_9
    rw [intK_int, ptrW_ptr]
    refine ⟨ra, rd_cell (i := 1) (he _ _ b1) rfl, ?_⟩
    rw [(q1.ext he).len_, cond_dec]
    refine ⟨fun hlt => ?_, fun _ => hK1 ?_ h he⟩
    · have hil : i < xa.length := by omega
      have hx : xa[i]? = some xa[i] := List.getElem?_eq_getElem hil
      intro I2 hI2
      refine cnt_loop16 hT s40 (he _ _ b1) (he _ _ b2) (r1.ext he) (hT _ _ he ht) (q1.ext he) (q2.ext he) hlen hl64 hsig hoka hokb hx hI2 (R := 0 + (likeFrom xa xa[i] 0 : Int) - (likeFrom xb xa[i] 0 : Int)) (fun h2 e2 => ?_) xa.length 0 0 h (by omega) (by omega) (Ext.refl _) rfl (by omega) (by omega)
      rw [xs_e]
      show cond (Nat.beq 4 4) _ False
      simp only [cond_true, Nat.beq, nth0, nth1, nth2, nth3, intK_int]
      rw [cond_ne]
      refine ⟨fun hne => hK2 ⟨xa[i], List.getElem_mem hil, by omega⟩ h2 (he.trans e2), fun hz => ?_⟩
      rw [i64_id (by omega) (by omega)]
      refine ih (i + 1) h2 (by omega) (by omega) (he.trans e2) fun x hx1 => ?_
      rw [(split_at hx).2.1] at hx1
      rcases List.mem_append.mp hx1 with hx1 | hx1
      · exact ho x hx1
      · simp only [List.mem_singleton] at hx1
        subst hx1; omega
    · rw [List.take_of_length_le (by omega)] at ho; exact ho
theorem same_counts {xa xb : List Ru} (hlen : xa.length = xb.length) : (xa.map vkey).isPerm (xb.map vkey) = true ↔ ∀ x ∈ xa, likeFrom xa x 0 = likeFrom xb x 0 := by
  unfold likeFrom
  simp only [List.drop_zero]
  rw [List.isPerm_iff]
  constructor
  · intro h x _; exact h.count_eq _
  · intro h
    refine perm_of_counts _ _ (by simp [hlen]) fun y hy => ?_
    obtain ⟨x, hx, rfl⟩ := List.mem_map.mp hy
    exact h x hx
theorem spec16 (hT : Stays T) (c : Cl16 D) (s17 : SpecRightS D 17 T) (s40 : SpecVar D 40 T) : SpecSame D 16 T := by
  intro va vb a b h k kp qa qb ht hk
  obtain ⟨sa, ra, rfl, r1, r2⟩ := qa.ex
  obtain ⟨sb, rb, rfl, t1, t2⟩ := qb.ex
  refine c _ _ _ _ _ ?_
  unfold F16
  rw [aggW_agg]
  intro p1 hp1
  rw [aggW_agg]
  intro p2 hp2
  have e1 : Ext h (h.set p1 (.cells #[sa, ra].toList)) := Ext.new hp1
  have e2 : Ext (h.set p1 (.cells #[sa, ra].toList)) ((h.set p1 (.cells #[sa, ra].toList)).set p2 (.cells #[sb, rb].toList)) := Ext.new hp2
  generalize hh2 : (h.set p1 (.cells #[sa, ra].toList)).set p2 (.cells #[sb, rb].toList) = h2 at e2 ⊢
  have b1 : h2 p1 = some (.cells [sa, ra]) := e2 _ _ set_here
  have b2 : h2 p2 = some (.cells [sb, rb]) := by rw [← hh2]; exact set_here
  have e12 := e1.trans e2
  have bad : ∀ h', Ext h2 h' → sameS a b = false → j16__2 D k kp (.pointer (some ⟨p1, 0, none⟩)) (.pointer (some ⟨p2, 0, none⟩)) (.bool true) h' := by
    intro h' e' hv
    unfold j16__2
    rw [boolW_bool, cond_true]
    have := hk h' (e12.trans e')
    rw [hv] at this; exact this
  rw [ptrW_ptr]
  refine ⟨sa, ra, rd2 b1, ?_⟩
  refine s17 _ a _ _ _ ⟨⟨sa, ra, rfl, r1.ext e12, r2.ext e12⟩⟩ (hT _ _ e12 ht) fun h3 e3 => ⟨_, rfl, ?_⟩
  rw [Bool.not_not, cond_split]
  refine ⟨fun hra => ?_, fun hra => bad _ e3 (by unfold sameS; rw [hra]; rfl)⟩
  rw [ptrW_ptr]
  refine ⟨sb, rb, rd2 (e3 _ _ b2), ?_⟩
  refine s17 _ b _ _ _ ⟨⟨sb, rb, rfl, t1.ext (e12.trans e3), t2.ext (e12.trans e3)⟩⟩ (hT _ _ (e12.trans e3) ht) fun h4 e4 => ⟨_, rfl, ?_⟩
  have e34 := e3.trans e4
  rw [Bool.not_not, cond_split]
  refine ⟨fun hrb => ?_, fun hrb => bad _ e34 (by unfold sameS; rw [hra, hrb]; rfl)⟩
  have e14 := e12.trans e34
  have b1' := e34 _ _ b1
  have b2' := e34 _ _ b2
  have hsame : sameS a b = (decide (a.sig = b.sig) && (decide (a.rules.length = b.rules.length) && (a.rules.map vkey).isPerm (b.rules.map vkey))) := by
    unfold sameS; rw [hra, hrb]; rfl
  rw [ptrW_ptr]
  refine ⟨sa, rd_cell (i := 0) b1' rfl, ?_⟩
  rw [(r1.ext e14).len_, ptrW_ptr]
  refine ⟨sb, rd_cell (i := 0) b2' rfl, ?_⟩
  rw [(t1.ext e14).len_, cond_not, cond_ne]
  refine ⟨fun hne => bad _ e34 ?_, fun hsl => ?_⟩
  · rw [hsame, decide_eq_false (fun hh => hne (by rw [hh]))]; rfl
  rw [ptrW_ptr]
  refine ⟨ra, rd_cell (i := 1) b1' rfl, ?_⟩
  rw [(r2.ext e14).len_, ptrW_ptr]
  refine ⟨rb, rd_cell (i := 1) b2' rfl, ?_⟩
  rw [(t2.ext e14).len_]
  unfold j16__2
  rw [boolW_bool, cond_ne]
  refine ⟨fun hne => ?_, fun hln => ?_⟩
  · have := hk _ e14
    rw [hsame, decide_eq_false (p := a.rules.length = b.rules.length) (by omega), Bool.false_and, Bool.and_false] at this
    exact this
  have hln' : a.rules.length = b.rules.length := by omega
  rw [decide_eq_true hln', Bool.true_and] at hsame
  obtain ⟨_, hsig, hl64, hok⟩ := right_ok hra
  obtain ⟨_, _, hl64b, hokb⟩ := right_ok hrb
  intro I hI
  refine sig_loop16 b1' b2' (r1.ext e14) (t1.ext e14) (by omega) hI (fun hsg => ?_) (fun hns => ?_) a.sig.length 0 (by omega) (by omega) (by simp)
  · rw [xs_e]
    show cond (Nat.beq 0 0) _ False
    simp only [cond_true, Nat.beq, nth0, nth1]
    rw [decide_eq_true hsg, Bool.true_and] at hsame
    intro I2 hI2
    refine rule_loop16 hT s40 b1' b2' (r1.ext e14) (hT _ _ e14 ht) (r2.ext e14) (t2.ext e14) hln' hl64 hsig hok (by rw [hsg]; exact hokb) hI2 (fun hall h6 e6 => ?_) (fun hno h6 e6 => ?_) a.rules.length 0 h4 (by omega) (by omega) (Ext.refl _) (by simp)
    · have := hk h6 (e14.trans e6)
      rw [hsame, (same_counts hln').mpr hall] at this
      exact this
    · have := hk h6 (e14.trans e6)
      have hf : (a.rules.map vkey).isPerm (b.rules.map vkey) = false := by
        cases hv : (a.rules.map vkey).isPerm (b.rules.map vkey) with
        | false => rfl
        | true =>
          obtain ⟨x, hx, hne⟩ := hno
          exact absurd ((same_counts hln').mp hv x hx) hne
      rw [hsame, hf] at this
      exact this
  · have := hk h4 e14
    rw [hsame, decide_eq_false hns] at this
    exact this
end Go.Proofs.YtnlhnlmnlfmojaaDoor.Am

namespace Go.Proofs.YtnlhnlmnlfmojaaDoor.Am
open Go Go.Proofs Sys Go.Lib
set_option linter.unusedVariables false
set_option linter.unusedSimpArgs false
set_option maxRecDepth 100000
variable {D : Orc} {T : H → Prop}

def isRoot (rs : List Ru) (c : Int) : Bool := rs.any fun r => r.1.headD 0 == c
def defL (S : Sm) : List Int := if rightS S then ((List.range S.sig.length).map fun (c : Nat) => (c : Int)).filter (isRoot S.rules) else []
def SpecDef (D : Orc) (f : Nat) (T : H → Prop) : Prop := ∀ v (S : Sm) h (k : Kv) kp, Ss h v S → T h → (∀ v' h', Ir h' v' (defL S) → Ext h h' → (∀ d, Blk v' = some d → h d = none) → k v' h') → D f [v] h k kp
theorem root_at {sig : List Sy} {r : Ru} (h : ruleE sig r = 0) : ∃ c, r.1[(0 : Int).toNat]? = some c ∧ r.1.headD 0 = c ∧ 0 ≤ c ∧ c < sig.length := by
  obtain ⟨h1, _, _, _, h5, _⟩ := ruleE_ok h
  cases hr : r.1 with
  | nil => exact absurd hr (isTerm_ne h1)
  | cons c t =>
    have hc := scan_codes (S2 sig) r.1 1 h1 c (by rw [hr]; simp)
    rw [S2_len] at hc
    rw [hr] at h5
    exact ⟨c, rfl, rfl, h5, hc.2⟩
theorem is_loop {pb : Nat} {sa ra out : Value} {sig : List Sy} {rules : List Ru} {h : H} (hp : h pb = some (.cells [sa, ra])) (rr : Rr h ra rules) (hl64 : rules.length ≤ 64) (hok : ∀ r ∈ rules, ruleE sig r = 0) {c : Int} {K : Kl} {I : List Value → H → Prop}
    (hI : ∀ a0 a1 a2 a3 a4 h, round13_9 D I K a0 a1 a2 a3 a4 h → I [a0, a1, a2, a3, a4] h) (hK : K (.e 2) [.pointer (some ⟨pb, 0, none⟩), out, .int .i64 c, .bool (isRoot rules c)] h) :
    ∀ (m i : Nat) (t : Bool), rules.length - i ≤ m → i ≤ rules.length → (t || isRoot (rules.drop i) c) = isRoot rules c → I [.pointer (some ⟨pb, 0, none⟩), out, .int .i64 c, .bool t, .int .i64 ((i : Nat) : Int)] h := by
  intro m
  induction m with
  | zero =>
    intro i t hm hi ho
    refine hI _ _ _ _ _ _ ?_
    unfold round13_9
    rw [intK_int, boolW_bool, intK_int, ptrW_ptr]
    refine ⟨ra, rd_cell (i := 1) hp rfl, ?_⟩
    rw [rr.len_, cond_dec]
    refine ⟨fun hlt => by omega, fun _ => ?_⟩
    rw [List.drop_eq_nil_of_le (by omega)] at ho
    have : t = isRoot rules c := by rw [← ho]; simp [isRoot]
    rw [this]; exact hK
  | succ m ih =>
    intro i t hm hi ho
    refine hI _ _ _ _ _ _ ?_
    unfold round13_9
    rw [intK_int, boolW_bool, intK_int, ptrW_ptr]
    refine ⟨ra, rd_cell (i := 1) hp rfl, ?_⟩
    rw [rr.len_, cond_dec]
    refine ⟨fun hlt => ?_, fun _ => ?_⟩
    · have nxt : ∀ t', (t' || isRoot (rules.drop (i + 1)) c) = isRoot rules c → j13_9_10 D I K (.pointer (some ⟨pb, 0, none⟩)) out (.int .i64 c) (.bool t') (.int .i64 ((i : Nat) : Int)) h := by
        intro t' ht'
        unfold j13_9_10
        rw [intK_int, boolW_bool, intK_int, i64_id (by omega) (by omega)]
        exact ih (i + 1) t' (by omega) (by omega) ht'
      rw [cond_split]
      refine ⟨fun ht => ?_, fun ht => ?_⟩
      · have ht : t = false := by simpa using ht
        subst ht
        rw [ptrW_ptr]
        refine ⟨ra, rd_cell (i := 1) hp rfl, ?_⟩
        refine rr.at_ (by omega) (by omega) fun ad v w x hx _ hr0 _ i1 j1 => ⟨v, hr0, ?_⟩
        rw [Int.toNat_natCast] at hx
        obtain ⟨y, hy, hy2, _⟩ := root_at (hok x (List.mem_of_getElem? hx))
        have hlen : (0 : Int) < x.1.length := by
          have := (List.getElem?_eq_some_iff.mp hy).1
          simp at this; omega
        refine i1.at_ (by omega) hlen fun ad2 z hz _ hrd => ⟨z, hrd, ?_⟩
        rw [hy] at hz; cases hz
        refine nxt _ ?_
        rw [← ho, (split_at hx).2.2]
        show _ = (false || ((x.1.headD 0 == c) || isRoot (rules.drop (i + 1)) c))
        rw [hy2, Bool.false_or]
      · have ht : t = true := by simpa using ht
        subst ht
        exact nxt true (by rw [← ho]; rfl)
    · rw [List.drop_eq_nil_of_le (by omega)] at ho
      have : t = isRoot rules c := by rw [← ho]; simp [isRoot]
      rw [this]; exact hK
theorem spec13 (hT : Stays T) (c : Cl13 D) (s17 : SpecRightS D 17 T) : SpecDef D 13 T := by
  intro v S h k kp q ht hk
  obtain ⟨sa, ra, rfl, r1, r2⟩ := q.ex
  refine c _ _ _ _ ?_
  unfold F13
  rw [aggW_agg]
  intro pb hpb
  have e1 : Ext h (h.set pb (.cells #[sa, ra].toList)) := Ext.new hpb
  have b1 : (h.set pb (.cells #[sa, ra].toList)) pb = some (.cells [sa, ra]) := set_here
  generalize h.set pb (.cells #[sa, ra].toList) = h1 at e1 b1 ⊢
  rw [ptrW_ptr]
  refine ⟨sa, ra, rd2 b1, ?_⟩
  refine s17 _ S _ _ _ ⟨⟨sa, ra, rfl, r1.ext e1, r2.ext e1⟩⟩ (hT _ _ e1 ht) fun h2 e2 => ⟨_, rfl, ?_⟩
  have e12 := e1.trans e2
  have b2 := e2 _ _ b1
  rw [cond_split]
  refine ⟨fun hno => ?_, fun hyes => ?_⟩
  · have hno : rightS S = false := by simpa using hno
    refine hk _ _ ?_ e12 fun d hd => by rw [Blk_nil] at hd; cases hd
    unfold defL
    rw [hno, if_neg (by simp)]
    exact ⟨Row.nil_, by simp, by simp⟩
  have hyes : rightS S = true := by simpa using hyes
  obtain ⟨hpl, hsig, hl64, hok⟩ := right_ok hyes
  have hs64 := (plain_ok hpl).2
  have hdef : defL S = ((List.range S.sig.length).map fun (c : Nat) => (c : Int)).filter (isRoot S.rules) := by unfold defL; rw [if_pos hyes]
  intro I hI
  have key : ∀ (m i : Nat) (out : Value) (l : List Int) (h3 : H), S.sig.length - i ≤ m → i ≤ S.sig.length → Own h2 h3 out (Z l) → l = ((List.range i).map fun (c : Nat) => (c : Int)).filter (isRoot S.rules) →
      I [.pointer (some ⟨pb, 0, none⟩), out, .int .i64 ((i : Nat) : Int)] h3 := by
    have fin : ∀ (i : Nat) (out : Value) (l : List Int) (h3 : H), ¬ ((i : Int) < S.sig.length) → i ≤ S.sig.length → Own h2 h3 out (Z l) → l = ((List.range i).map fun (c : Nat) => (c : Int)).filter (isRoot S.rules) → k out h3 := by
      intro i out l h3 hn hi o hl
      have : i = S.sig.length := by omega
      subst this
      have hl' := hl.trans hdef.symm
      subst hl'
      have hlen : (defL S).length ≤ S.sig.length := by
        rw [hdef]
        refine Nat.le_trans (List.length_filter_le _ _) ?_
        simp
      refine hk _ _ ⟨o.row, by omega, fun x hx => ?_⟩ (e12.trans o.ext) fun d hd => e12.free (o.blk d hd)
      rw [hdef, List.mem_filter] at hx
      obtain ⟨hx, _⟩ := hx
      obtain ⟨c, hc, rfl⟩ := List.mem_map.mp hx
      rw [List.mem_range] at hc
      unfold inI; omega
    intro m
    induction m with
    | zero =>
      intro i out l h3 hm hi o hl
      refine hI _ _ _ _ ?_
      unfold round13_5
      rw [intK_int, ptrW_ptr]
      refine ⟨sa, rd_cell (i := 0) (o.ext _ _ b2) rfl, ?_⟩
      rw [(r1.ext (e12.trans o.ext)).len_, cond_dec]
      refine ⟨fun hlt => by omega, fun hn => ?_⟩
      exact fin i out l h3 hn hi o hl
    | succ m ih =>
      intro i out l h3 hm hi o hl
      refine hI _ _ _ _ ?_
      unfold round13_5
      rw [intK_int, ptrW_ptr]
      refine ⟨sa, rd_cell (i := 0) (o.ext _ _ b2) rfl, ?_⟩
      rw [(r1.ext (e12.trans o.ext)).len_, cond_dec]
      refine ⟨fun hlt => ?_, fun hn => fin i out l h3 hn hi o hl⟩
      have hil : i < S.sig.length := by omega
      have hllen : l.length ≤ i := by
        rw [hl]
        refine Nat.le_trans (List.length_filter_le _ _) ?_
        simp
      have hrng : ((List.range (i + 1)).map fun (c : Nat) => (c : Int)).filter (isRoot S.rules) = l ++ (if isRoot S.rules (i : Int) then [(i : Int)] else []) := by
        rw [List.range_succ, List.map_append, List.filter_append, ← hl]
        congr 1
        simp only [List.map_cons, List.map_nil, List.filter_cons, List.filter_nil]
      intro I2 hI2
      refine is_loop (sig := S.sig) (o.ext _ _ b2) ((r2.ext e12).ext o.ext) hl64 hok hI2 ?_ S.rules.length 0 false (by omega) (by omega) (by simp)
      rw [xs_e]
      show cond (Nat.beq 2 2) _ False
      simp only [cond_true, Nat.beq, nth0, nth1, nth2, nth3, intK_int, boolW_bool]
      rw [cond_split]
      refine ⟨fun hy => ?_, fun hno => ?_⟩
      · refine o.push (by rw [Z_len]; omega) (by decide) rfl rfl (by decide) fun s' h4 o' hkeep hnew => ?_
        have e : Z l ++ [Value.int .i64 (i : Int)] = Z (l ++ [(i : Int)]) := by simp [Z]
        rw [e] at o'
        unfold j13_5_6
        rw [intK_int, i64_id (by omega) (by omega)]
        exact ih (i + 1) s' (l ++ [(i : Int)]) h4 (by omega) (by omega) o' (by rw [hrng, if_pos hy])
      · unfold j13_5_6
        rw [intK_int, i64_id (by omega) (by omega)]
        exact ih (i + 1) out l h3 (by omega) (by omega) o (by rw [hrng, if_neg (by simp [hno]), List.append_nil])
  exact key S.sig.length 0 _ [] h2 (by omega) (by omega) (Own.nil_ (Ext.refl _)) (by simp)
/-! ### by the program: a map of roots -/
def addKey (ks : List Int) (x : Int) : List Int := if x ∈ ks then ks else ks ++ [x]
structure MInv (es : List MapEntry) (cl : Nat) (ks : List Int) : Prop where
  keys : KeysAre es ks
  st : MapKept.Stamped es.toArray cl
theorem MInv.put {h : H} {b : Nat} {es : List MapEntry} {cl : Nat} {ks : List Int} {x : Int} {v : Value} {k : H → Prop} (hb : h b = some (.map es cl)) (mi : MInv es cl ks)
    (hk : ∀ es' cl', MInv es' cl' (addKey ks x) → k (h.set b (.map es' cl'))) : mapU h (.map (some b)) (.int .i64) (.int .i64 x) v k := by
  refine ⟨es, cl, hb, ?_⟩
  obtain ⟨f1, f2⟩ := find_at (x := x) mi.keys 0
  by_cases hx : x ∈ ks
  · obtain ⟨e, he, hf⟩ := f1 hx
    rw [hf]
    have hkey : e.key = .int .i64 x := by
      have h1 := mi.keys
      unfold KeysAre at h1
      have h2 := congrArg (·[ks.idxOf x]?) h1
      simp only [List.getElem?_map, he, Option.map_some] at h2
      rw [List.getElem?_eq_getElem (List.idxOf_lt_length_of_mem hx), List.getElem_idxOf] at h2
      simpa using h2
    have ha : addKey ks x = ks := by unfold addKey; rw [if_pos hx]
    refine hk _ _ ⟨?_, ?_⟩
    · rw [ha]
      unfold KeysAre
      rw [← mi.keys]
      apply List.ext_getElem?
      intro j
      rw [List.getElem?_map, List.getElem?_map, List.getElem?_modify]
      by_cases hj : 0 + ks.idxOf x = j
      · subst hj
        rw [Nat.zero_add, he]
        simp [hkey]
      · have hj' : ¬ ks.idxOf x = j := by omega
        cases hh : es[j]? with
        | none => rfl
        | some u => simp [hj']
    · rw [← List.modify_toArray]
      refine MapKept.stamped_modify mi.st _ _ (fun _ _ => rfl) fun e' _ he' => ?_
      rw [List.getElem?_toArray, Nat.zero_add, he] at he'
      cases he'
      exact hkey.symm
  · rw [f2 hx]
    have ha : addKey ks x = ks ++ [x] := by unfold addKey; rw [if_neg hx]
    refine hk _ _ ⟨?_, ?_⟩
    · rw [ha]
      have := mi.keys
      unfold KeysAre at this ⊢
      rw [List.map_append, this, List.map_append]; rfl
    · rw [← List.push_toArray]
      refine MapKept.stamped_push mi.st fun e he heq => hx ?_
      have h1 := mi.keys
      unfold KeysAre at h1
      have h2 : (Value.int .i64 x) ∈ es.map (·.key) := List.mem_map.mpr ⟨e, by simpa using he, heq⟩
      rw [h1] at h2
      obtain ⟨y, hy, hyx⟩ := List.mem_map.mp h2
      cases hyx
      exact hy
def rootKeys (rs : List Ru) (ks : List Int) : List Int := rs.foldl (fun ks r => addKey ks (r.1.headD 0)) ks
theorem mem_addKey {ks : List Int} {x y : Int} : y ∈ addKey ks x ↔ y ∈ ks ∨ y = x := by
  unfold addKey
  split
  · rename_i h
    constructor
    · exact .inl
    · rintro (h1 | rfl)
      · exact h1
      · exact h
  · simp
theorem nodup_addKey {ks : List Int} {x : Int} (h : ks.Nodup) : (addKey ks x).Nodup := by
  unfold addKey
  split
  · exact h
  · rename_i hx
    rw [List.nodup_append]
    exact ⟨h, by simp, fun a ha b hb => by simp only [List.mem_singleton] at hb; subst hb; exact fun hab => hx (hab ▸ ha)⟩
theorem rootKeys_props : ∀ (rs : List Ru) (ks : List Int), ks.Nodup → (rootKeys rs ks).Nodup ∧ ∀ y, y ∈ rootKeys rs ks ↔ y ∈ ks ∨ isRoot rs y = true
  | [], ks, h => ⟨h, fun y => by simp [rootKeys, isRoot]⟩
  | r :: rs, ks, h => by
    obtain ⟨h1, h2⟩ := rootKeys_props rs (addKey ks (r.1.headD 0)) (nodup_addKey h)
    refine ⟨h1, fun y => ?_⟩
    show y ∈ rootKeys rs (addKey ks (r.1.headD 0)) ↔ _
    rw [h2 y, mem_addKey]
    simp only [isRoot, List.any_cons, Bool.or_eq_true, beq_iff_eq]
    constructor
    · rintro ((h3 | h3) | h3)
      · exact .inl h3
      · exact .inr (.inl h3.symm)
      · exact .inr (.inr h3)
    · rintro (h3 | h3 | h3)
      · exact .inl (.inl h3)
      · exact .inl (.inr h3.symm)
      · exact .inr h3
theorem addKey_len {ks : List Int} {x : Int} : (addKey ks x).length ≤ ks.length + 1 := by unfold addKey; split <;> simp
theorem rootKeys_len : ∀ (rs : List Ru) (ks : List Int), (rootKeys rs ks).length ≤ ks.length + rs.length
  | [], ks => by simp [rootKeys]
  | r :: rs, ks => by
    have := rootKeys_len rs (addKey ks (r.1.headD 0))
    have h2 := addKey_len (ks := ks) (x := r.1.headD 0)
    show (rootKeys rs (addKey ks (r.1.headD 0))).length ≤ _
    simp only [List.length_cons]; omega
/-- The keys, sorted, are the defined symbols. -/
theorem roots_sorted {S : Sm} (h : rightS S = true) : (rootKeys S.rules []).mergeSort (fun x y => decide (x ≤ y)) = defL S := by
  obtain ⟨hpl, hsig, hl64, hok⟩ := right_ok h
  obtain ⟨hnd, hmem⟩ := rootKeys_props S.rules [] List.nodup_nil
  have hdef : defL S = ((List.range S.sig.length).map fun (c : Nat) => (c : Int)).filter (isRoot S.rules) := by unfold defL; rw [if_pos h]
  have hlt : List.Pairwise (· < ·) (((List.range S.sig.length).map fun (c : Nat) => (c : Int)).filter (isRoot S.rules)) := by
    refine List.Pairwise.filter _ ?_
    rw [List.pairwise_map]
    exact List.pairwise_lt_range.imp fun hab => by omega
  refine List.Perm.eq_of_pairwise (le := fun x y : Int => x ≤ y) (fun a b _ _ h1 h2 => by omega) ?_ ?_ ?_
  · refine (List.pairwise_mergeSort (fun a b c h1 h2 => ?_) (fun a b => ?_) (rootKeys S.rules [])).imp fun hab => of_decide_eq_true hab
    · have h1 := of_decide_eq_true h1
      have h2 := of_decide_eq_true h2
      exact decide_eq_true (by omega)
    · simp only [Bool.or_eq_true, decide_eq_true_eq]; omega
  · rw [hdef]; exact hlt.imp fun hab => by omega
  · refine (List.mergeSort_perm _ _).trans ?_
    rw [hdef, List.perm_ext_iff_of_nodup hnd (hlt.imp fun hab => by omega)]
    intro y
    rw [hmem, List.mem_filter]
    simp only [List.not_mem_nil, false_or]
    constructor
    · intro hy
      refine ⟨?_, hy⟩
      unfold isRoot at hy
      rw [List.any_eq_true] at hy
      obtain ⟨r, hr, hry⟩ := hy
      obtain ⟨c, _, hc, hc0, hc1⟩ := root_at (hok r hr)
      have : y = c := by rw [← hc]; exact (beq_iff_eq.mp hry).symm
      subst this
      exact List.mem_map.mpr ⟨y.toNat, List.mem_range.mpr (by omega), by omega⟩
    · exact fun hy => hy.2
def SpecKeys (D : Orc) : Prop := ∀ (m : Option Nat) h (k : Kv) kp, (∀ c, h c = none → k (.func (.func 65) #[] #[.pointer (some ⟨c, 0, none⟩)]) (h.set c (.cells [.map m]))) → D 33 [.map m] h k kp
def SpecSorted (D : Orc) : Prop := ∀ (c b : Nat) es cl (ks : List Int) h (k : Kv) kp, h c = some (.cells [.map (some b)]) → h b = some (.map es cl) → MInv es cl ks → (∀ x ∈ ks, inI x) → ks.length ≤ 1048576 →
  (∀ v' h', Ir h' v' (ks.mergeSort (fun x y => decide (x ≤ y))) → Ext h h' → (∀ d, Blk v' = some d → h d = none) → k v' h') → D 32 [.func (.func 65) #[] #[.pointer (some ⟨c, 0, none⟩)]] h k kp
theorem spec12 (hT : Stays T) (c : Cl12 D) (s31 : SpecRightS D 31 T) (s33 : SpecKeys D) (s32 : SpecSorted D) : SpecDef D 12 T := by
  intro v S h k kp q ht hk
  obtain ⟨sa, ra, rfl, r1, r2⟩ := q.ex
  refine c _ _ _ _ ?_
  unfold F12
  rw [aggW_agg]
  intro pb hpb
  have e1 : Ext h (h.set pb (.cells #[sa, ra].toList)) := Ext.new hpb
  have b1 : (h.set pb (.cells #[sa, ra].toList)) pb = some (.cells [sa, ra]) := set_here
  generalize h.set pb (.cells #[sa, ra].toList) = h1 at e1 b1 ⊢
  rw [ptrW_ptr]
  refine ⟨sa, ra, rd2 b1, ?_⟩
  refine s31 _ S _ _ _ ⟨⟨sa, ra, rfl, r1.ext e1, r2.ext e1⟩⟩ (hT _ _ e1 ht) fun h2 e2 => ⟨_, rfl, ?_⟩
  have e12 := e1.trans e2
  have b2 := e2 _ _ b1
  rw [cond_split]
  refine ⟨fun hno => ?_, fun hyes => ?_⟩
  · have hno : rightS S = false := by simpa using hno
    refine hk _ _ ?_ e12 fun d hd => by rw [Blk_nil] at hd; cases hd
    unfold defL
    rw [hno, if_neg (by simp)]
    exact ⟨Row.nil_, by simp, by simp⟩
  have hyes : rightS S = true := by simpa using hyes
  obtain ⟨hpl, hsig, hl64, hok⟩ := right_ok hyes
  have hs64 := (plain_ok hpl).2
  intro bm hbm
  have e3 : Ext h2 (h2.set bm (.map [] 0)) := Ext.new hbm
  rw [ptrW_ptr]
  refine ⟨ra, rd_cell (i := 1) (e3 _ _ b2) rfl, ?_⟩
  rw [((r2.ext e12).ext e3).len_]
  intro I hI
  have key : ∀ (m i : Nat) (es : List MapEntry) (cl : Nat) (ks : List Int) (h3 : H), S.rules.length - i ≤ m → i ≤ S.rules.length → Ext h2 h3 → h3 bm = some (.map es cl) → MInv es cl ks → rootKeys (S.rules.drop i) ks = rootKeys S.rules [] →
      I [.map (some bm), ra, .int .i64 ((S.rules.length : Nat) : Int), .int .i64 ((i : Nat) : Int)] h3 := by
    have fin : ∀ (es : List MapEntry) (cl : Nat) (h3 : H), Ext h2 h3 → h3 bm = some (.map es cl) → MInv es cl (rootKeys S.rules []) →
        D 33 [nth [.map (some bm)] 0] h3 (fun v33 h34 => ∃ v35 : Value, v33 = v35 ∧ D 32 [v35] h34 (fun v36 h37 => ∃ v38 : Value, v36 = v38 ∧ k v38 h37) kp) kp := by
      intro es cl h3 e hm mi
      rw [nth0]
      refine s33 _ _ _ _ fun cc hcc => ⟨_, rfl, ?_⟩
      have e4 : Ext h3 (h3.set cc (.cells [.map (some bm)])) := Ext.new hcc
      obtain ⟨hnd, hmem⟩ := rootKeys_props S.rules [] List.nodup_nil
      refine s32 cc bm es cl _ _ _ _ set_here (e4 _ _ hm) mi (fun x hx => ?_) ?_ fun v' h5 ir e5 nb => ⟨_, rfl, ?_⟩
      · rw [hmem] at hx
        simp only [List.not_mem_nil, false_or] at hx
        unfold isRoot at hx
        rw [List.any_eq_true] at hx
        obtain ⟨r, hr, hry⟩ := hx
        obtain ⟨c, _, hc, hc0, hc1⟩ := root_at (hok r hr)
        have : x = c := by rw [← hc]; exact (beq_iff_eq.mp hry).symm
        subst this
        unfold inI; omega
      · have := rootKeys_len S.rules []
        simp at this; omega
      · rw [roots_sorted hyes] at ir
        exact hk v' h5 ir (e12.trans (e.trans (e4.trans e5))) fun d hd => (e12.trans (e.trans e4)).free (nb d hd)
    intro m
    induction m with
    | zero =>
      intro i es cl ks h3 hm hi e hb mi hR
      refine hI _ _ _ _ _ ?_
      unfold round12_5
      rw [intK_int, intK_int, cond_dec]
      refine ⟨fun hlt => by omega, fun _ => ?_⟩
      rw [List.drop_eq_nil_of_le (by omega)] at hR
      have hR : ks = rootKeys S.rules [] := hR
      subst hR
      rw [xs_e]
      show cond (Nat.beq 0 0) _ False
      simp only [cond_true, Nat.beq]
      exact fin es cl h3 e hb mi
    | succ m ih =>
      intro i es cl ks h3 hm hi e hb mi hR
      refine hI _ _ _ _ _ ?_
      unfold round12_5
      rw [intK_int, intK_int, cond_dec]
      refine ⟨fun hlt => ?_, fun _ => ?_⟩
      · refine ((r2.ext e12).ext e).at_ (by omega) (by omega) fun ad v w x hx hrd _ _ i1 j1 => ?_
        rw [Int.toNat_natCast] at hx
        rw [(split_at hx).2.2] at hR
        obtain ⟨y, hy, hy2, hy0, hy1⟩ := root_at (hok x (List.mem_of_getElem? hx))
        have hlen : (0 : Int) < x.1.length := by
          have := (List.getElem?_eq_some_iff.mp hy).1
          simp at this; omega
        refine ⟨v, w, hrd, ?_⟩
        refine two_rule (ir_one i1) (ir_one j1) (by trivial) fun cb h4 hc0 hc e4 => ?_
        rw [ptrW_ptr]
        refine ⟨v, rd_cell (i := 0) hc rfl, ?_⟩
        refine (i1.ext e4).at_ (by omega) hlen fun ad2 z hz _ hrd2 => ⟨z, hrd2, ?_⟩
        rw [hy] at hz; cases hz
        refine MInv.put (e4 _ _ hb) mi fun es' cl' mi' => ?_
        rw [i64_id (by omega) (by omega)]
        refine ih (i + 1) es' cl' _ _ (by omega) (by omega) (fun d o hd => ?_) set_here mi' ?_
        · have hdm : d ≠ bm := fun hh => by subst hh; rw [hbm] at hd; cases hd
          rw [set_away hdm]
          exact e4 _ _ (e _ _ hd)
        · rw [← hR, ← hy2]; rfl
      · rw [List.drop_eq_nil_of_le (by omega)] at hR
        have hR : ks = rootKeys S.rules [] := hR
        subst hR
        rw [xs_e]
        show cond (Nat.beq 0 0) _ False
        simp only [cond_true, Nat.beq]
        exact fin es cl h3 e hb mi
  exact key S.rules.length 0 [] 0 [] _ (by omega) (by omega) e3 set_here ⟨rfl, MapKept.stamped_empty 0⟩ (by simp)
end Go.Proofs.YtnlhnlmnlfmojaaDoor.Am
