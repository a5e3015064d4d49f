/-
  Packed: Rows that are equal, rows that are copied. Rows of rows, with their variables numbered as they are met. Rules that are the same but for their variables' names: by the program. Rules that are the same but for their variables' names: by the document. Two systems are the same: by the program. Two systems are the same: by the program, whole. Two systems are the same: by the document, whole. The symbols at the roots of left sides.
-/
import Derived.Test.YtnlhnlmnlfmojaaGreatDoorPkS
import Derived.MapKept
set_option linter.unusedVariables false
set_option linter.unusedSimpArgs false
set_option linter.unnecessarySimpa false
namespace Go.Proofs.YtnlhnlmnlfmojaaGreatDoor.Am
open Go Go.Proofs Sys Go.Lib
set_option linter.unusedVariables false
set_option linter.unusedSimpArgs false
set_option maxRecDepth 100000
variable {D : Orc} {T : H → Prop}

/-- A row rests on its own block alone. -/
def Keep (h h' : H) (s : Value) : Prop := ∀ d o, Blk s = some d → h d = some o → h' d = some o
theorem Ext.keep {h h' : H} (e : Ext h h') (s : Value) : Keep h h' s := fun d o _ hx => e d o hx
theorem Row.kept {h h' : H} {s : Value} {vs : List Value} (r : Row h s vs) (e : Keep h h' s) : Row h' s vs := by
  obtain ⟨base, cap, rfl, hc, hb⟩ := r
  refine ⟨base, cap, rfl, hc, ?_⟩
  by_cases h0 : cap = 0
  · exact .inl h0
  rcases hb with hb | ⟨a, rfl, h1, l, h2, h3, h4⟩
  · exact .inl hb
  · refine .inr ⟨a, rfl, h1, l, ?_, h3, h4⟩
    cases hx : h a.block with
    | none => rw [hx] at h2; simp [rowOf] at h2
    | some o => rw [hx] at h2; rw [e _ o (Blk_some h0) hx]; exact h2
theorem RowK.kept {h h' : H} {s : Value} {sz : Nat} {vs : List (List Value)} (r : RowK sz h s vs) (e : Keep h h' s) : RowK sz h' s vs := by
  obtain ⟨base, cap, rfl, hc, he, hb⟩ := r
  refine ⟨base, cap, rfl, hc, he, ?_⟩
  by_cases h0 : cap = 0
  · exact .inl h0
  rcases hb with hb | ⟨a, rfl, h1, l, h2, h3, h4⟩
  · exact .inl hb
  · refine .inr ⟨a, rfl, h1, l, ?_, h3, h4⟩
    cases hx : h a.block with
    | none => rw [hx] at h2; simp [rowOf] at h2
    | some o => rw [hx] at h2; rw [e _ o (Blk_some h0) hx]; exact h2
theorem Ir.kept {h h' : H} {s : Value} {l : List Int} (r : Ir h s l) (e : Keep h h' s) : Ir h' s l := ⟨r.row.kept e, r.len, r.rng⟩
theorem at_own {b n c i : Nat} {k : Addr → Prop} (hi : i < n) (hk : k (Addr.add ⟨b, 0, none⟩ i)) : slAtW (.slice (some ⟨b, 0, none⟩) n c) ((i : Nat) : Int) 1 k := by
  refine ⟨by omega, by omega, ?_⟩
  have : Int.toNat (i : Int) * 1 = i := by simp
  rw [this]; exact hk

theorem bytes_eq (s t : ByteArray) : (s.toList == t.toList) = decide (s = t) := by
  rw [toList_eq, toList_eq, bts_data, bts_data]
  by_cases h : s = t
  · subst h; simp
  · have : ¬ s.data.toList = t.data.toList := fun h' => h (by
      cases s; cases t
      simp only [ByteArray.mk.injEq]
      exact Array.toList_inj.mp h')
    rw [decide_eq_false h, beq_eq_false_iff_ne]; exact this
theorem sy_eq {x y : Sy} : ((x.1.toList == y.1.toList) && ((x.2 == y.2) && true)) = decide (x = y) := by
  rw [bytes_eq]
  by_cases h : x = y
  · subst h; simp
  · have : ¬ (x.1 = y.1 ∧ x.2 = y.2) := fun h' => h (Prod.ext h'.1 h'.2)
    by_cases h1 : x.1 = y.1
    · simp [h1, h, show ¬ x.2 = y.2 from fun h2 => this ⟨h1, h2⟩]
    · simp [h1, h]
theorem Sr.at_ {h : H} {s : Value} {sig : List Sy} (r : Sr h s sig) {n : Int} (h0 : 0 ≤ n) (h1 : n < sig.length) {k : Addr → Prop}
    (hk : ∀ a x, sig[n.toNat]? = some x → rdN h a 2 = some [.string x.1, .int .i64 x.2] → k a) : slAtW s n 2 k := by
  refine r.row.at_ h0 (by rw [sgRow_len]; exact h1) fun a v hv hrd hj => ?_
  obtain ⟨x, hx, rfl⟩ := sgRow_at hv
  exact hk a x hx hrd
theorem Sr.len_ {h : H} {s : Value} {sig : List Sy} (r : Sr h s sig) {k : Nat → Prop} : lenW s k ↔ k sig.length := by rw [r.row.len, sgRow_len]
theorem eq_nil_rule {s : Value} {k : Bool → Prop} (hs : isSl s) (h1 : (∃ n c, s = .slice none n c) → k true) (h2 : k false) : eqSl s (.slice none 0 0) k := by
  cases s with
  | slice a n c =>
    cases a with
    | none => exact h1 ⟨n, c, rfl⟩
    | some a => exact h2
  | _ => exact hs.elim
theorem Row.nil_of {h : H} {vs : List Value} {n c : Nat} (r : Row h (.slice none n c) vs) : vs = [] ∧ n = 0 := by
  obtain ⟨base, cap, he, hc, hb⟩ := r
  simp only [Value.slice.injEq] at he
  obtain ⟨rfl, rfl, rfl⟩ := he
  rcases hb with hb | ⟨a, ha, _⟩
  · exact ⟨List.length_eq_zero_iff.mp (by omega), by omega⟩
  · cases ha
theorem RowK.nil_of {h : H} {sz : Nat} {vs : List (List Value)} {n c : Nat} (r : RowK sz h (.slice none n c) vs) : vs = [] ∧ n = 0 := by
  obtain ⟨base, cap, he, hc, _, hb⟩ := r
  simp only [Value.slice.injEq] at he
  obtain ⟨rfl, rfl, rfl⟩ := he
  rcases hb with hb | ⟨a, ha, _⟩
  · exact ⟨List.length_eq_zero_iff.mp (by omega), by omega⟩
  · cases ha
/-- A copy of a row of numbers, in a block of its own. -/
theorem spec49 (c : Cl49 D) {a : Value} {l : List Int} {h : H} {k : Kv} {kp : Kp} (ra : Ir h a l) (hk : ∀ v h', Buf h h' v (Z l) → Ext h h' → k v h') : D 49 [a] h k kp := by
  refine c _ _ _ _ ?_
  unfold F49
  have hl := ra.len
  refine eq_nil_rule ra.row.isSl (fun ⟨n, c, hs⟩ => ?_) ?_
  · subst hs
    have : l = [] := by have := ra.row.nil_of.1; simpa [Z] using this
    subst this
    exact hk _ _ (.inl ⟨⟨none, rfl⟩, rfl⟩) (Ext.refl _)
  · rw [cond_false]
    intro b hb
    have e1 : Ext h (h.set b (.cells [])) := Ext.new hb
    rw [(ra.row.ext e1).slen]
    refine (ra.row.ext e1).src (Nat.le_refl _) ?_
    rw [List.take_length]
    have hbytes : 2 * (0 + (Z l).length) * 8 ≤ 2 ^ 48 := by rw [Z_len]; have : l.length < 1099511627776 := hl; omega
    refine (Buf.cells (h0 := h) (n := 0) hb set_here rfl).app e1 (vs := []) rfl ?_ ?_ ?_ ?_
    · simp [Z, one]
    · simpa using hbytes
    · rw [Z_len]; simp only [List.length_nil]; omega
    · intro s' h' r' e'
      exact hk _ _ r' e'
end Go.Proofs.YtnlhnlmnlfmojaaGreatDoor.Am

namespace Go.Proofs.YtnlhnlmnlfmojaaGreatDoor.Am
open Go Go.Proofs Sys Go.Lib
set_option linter.unusedVariables false
set_option linter.unusedSimpArgs false
set_option maxRecDepth 100000
variable {D : Orc} {T : H → Prop}

theorem find_at {x : Int} : ∀ {es : List MapEntry} {ks : List Int}, KeysAre es ks → ∀ n, (x ∈ ks → ∃ e, es[ks.idxOf x]? = some e ∧ Instr.findNow (.int .i64) (.int .i64 x) es n = some (some (n + ks.idxOf x, e.val))) ∧ (x ∉ ks → Instr.findNow (.int .i64) (.int .i64 x) es n = some none)
  | [], ks, hk, n => by
    have : ks = [] := by cases ks <;> simp [KeysAre] at hk ⊢
    subst this
    exact ⟨fun h => by simp at h, fun _ => rfl⟩
  | e :: es, [], hk, n => by simp [KeysAre] at hk
  | e :: es, y :: ks, hk, n => by
    simp only [KeysAre, List.map_cons, List.cons.injEq] at hk
    obtain ⟨h1, h2⟩ := hk
    obtain ⟨i1, i2⟩ := find_at (x := x) (es := es) (ks := ks) h2 (n + 1)
    have hs : Instr.sameNow (.int .i64) (.int .i64 x) e.key = some (x == y) := by rw [h1]; simp [Instr.sameNow]
    unfold Instr.findNow
    rw [hs]
    by_cases hxy : x = y
    · subst hxy
      refine ⟨fun _ => ⟨e, by simp, by simp⟩, fun h => absurd (by simp) h⟩
    · have hb : (x == y) = false := by simpa using hxy
      have hi : (y :: ks).idxOf x = ks.idxOf x + 1 := by
        rw [List.idxOf_cons]
        have : (y == x) = false := by simpa using fun h : y = x => hxy h.symm
        rw [this]; rfl
      rw [hb, hi]
      refine ⟨fun h => ?_, fun h => ?_⟩
      · obtain ⟨e', h3, h4⟩ := i1 (by simpa [hxy] using h)
        refine ⟨e', by simpa using h3, ?_⟩
        rw [show n + (ks.idxOf x + 1) = n + 1 + ks.idxOf x by omega]
        exact h4
      · exact i2 fun h' => h (by simp [h'])
/-- Entries that tell the place of their keys. -/
structure Places (es : List MapEntry) (met : List Int) : Prop where
  keys : KeysAre es met
  vals : ∀ (p : Nat) (e : MapEntry), es[p]? = some e → e.val = .int .i64 (p : Int)
theorem Places.len {es : List MapEntry} {met : List Int} (p : Places es met) : es.length = met.length := by
  have := congrArg List.length p.keys
  simpa using this
theorem Places.look {es : List MapEntry} {met : List Int} (p : Places es met) {x : Int} {z : Value} {k : Value → Bool → Prop} (h1 : x ∈ met → k (.int .i64 (met.idxOf x : Nat)) true) (h2 : x ∉ met → k z false) : lookW (.int .i64) (.int .i64 x) es z k := by
  obtain ⟨i1, i2⟩ := find_at (x := x) p.keys 0
  unfold lookW
  by_cases hx : x ∈ met
  · obtain ⟨e, h3, h4⟩ := i1 hx
    rw [h4]
    show k e.val true
    rw [p.vals _ _ h3]; exact h1 hx
  · rw [i2 hx]; exact h2 hx
theorem Places.add {es : List MapEntry} {met : List Int} (p : Places es met) {x : Int} {c : Nat} : Places (es ++ [{ key := .int .i64 x, val := .int .i64 ((es.length : Nat) : Int), born := c }]) (met ++ [x]) := by
  refine ⟨?_, fun q e he => ?_⟩
  · have := p.keys
    unfold KeysAre at this ⊢
    rw [List.map_append, this, List.map_append]; rfl
  · rw [List.getElem?_append] at he
    split at he
    · exact p.vals q e he
    · rename_i hq
      by_cases h0 : q - es.length = 0
      · rw [h0] at he
        simp only [List.getElem?_cons_zero, Option.some.injEq] at he
        subst he
        have : q = es.length := by omega
        rw [this]
      · obtain ⟨w, hw⟩ : ∃ w, q - es.length = w + 1 := ⟨q - es.length - 1, by omega⟩
        rw [hw] at he; simp at he
/-- Rows, each numbered behind what was met before. -/
def canonL : List Int → List (List Int) → List (List Int)
  | _, [] => []
  | met, t :: ts => canonGo met t :: canonL (metGo met t) ts
theorem canonGo_len : ∀ (t met : List Int), (canonGo met t).length = t.length
  | [], met => rfl
  | c :: t, met => by
    unfold canonGo
    split <;> simp [canonGo_len]
theorem metGo_len : ∀ (t met : List Int), (metGo met t).length ≤ met.length + t.length
  | [], met => by simp [metGo]
  | c :: t, met => by
    unfold metGo
    split
    · have := metGo_len t (met ++ [c]); simp at this ⊢; omega
    · have := metGo_len t met; simp at this ⊢; omega
/-- A row of rows of numbers. -/
structure Rw (h : H) (s : Value) (ts : List (List Int)) : Prop where
  ex : ∃ vs, Row h s vs ∧ vs.length = ts.length ∧ ∀ (i : Nat) v, vs[i]? = some v → ∃ t, ts[i]? = some t ∧ Ir h v t
theorem Rw.ext {h h' : H} {s : Value} {ts : List (List Int)} (r : Rw h s ts) (e : Ext h h') : Rw h' s ts := by
  obtain ⟨vs, h1, h2, h3⟩ := r.ex
  exact ⟨⟨vs, h1.ext e, h2, fun i v hv => by obtain ⟨t, a, b⟩ := h3 i v hv; exact ⟨t, a, b.ext e⟩⟩⟩
theorem Rw.len_ {h : H} {s : Value} {ts : List (List Int)} (r : Rw h s ts) {k : Nat → Prop} : lenW s k ↔ k ts.length := by
  obtain ⟨vs, h1, h2, h3⟩ := r.ex
  rw [h1.len, h2]
theorem Rw.at_ {h : H} {s : Value} {ts : List (List Int)} (r : Rw h s ts) {n : Int} (h0 : 0 ≤ n) (h1 : n < ts.length) {k : Addr → Prop}
    (hk : ∀ a v t, ts[n.toNat]? = some t → rd h a = some v → Ir h v t → k a) : slAtW s n 1 k := by
  obtain ⟨vs, g1, g2, g3⟩ := r.ex
  refine g1.at_ h0 (by rw [g2]; exact h1) fun a v hv hrd => ?_
  obtain ⟨t, ht, hi⟩ := g3 _ _ hv
  exact hk a v t ht hrd hi
theorem Z_set {l m : List Int} {j : Nat} {x y : Int} (hj : l[j]? = some x) : ∀ {pre : List Int}, pre.length = j → (Z (pre ++ l.drop j)).set j (.int .i64 y) = Z ((pre ++ [y]) ++ l.drop (j + 1)) := by
  intro pre hp
  subst hp
  rw [(split_at hj).2.2, Z, Z, List.map_append, List.map_append, List.map_append, List.set_append_right _ _ (by simp)]
  simp
/-- The state within a row: the map, the rows that are done, the row at work. -/
structure CIn (h1 h : H) (bm : Nat) (v : Value) (met cur : List Int) : Prop where
  keep : ∀ d o, d ≠ bm → Blk v ≠ some d → h1 d = some o → h d = some o
  map : ∃ es c, h bm = some (.map es c) ∧ Places es met
  buf : Buf (h.drop v) h v (Z cur)
  nm : Blk v ≠ some bm
theorem canon_row {s2 v v10 : Value} {bm bs i N : Nat} {l : List Int} {h0 h1 : H} {L : List Value} (q : Ir h0 v10 l) (e01 : ∀ d o, d ≠ bm → Blk v ≠ some d → h0 d = some o → h1 d = some o)
    (h0v : ∀ d, Blk v = some d → h0 d = none) (h0m : h0 bm = none) (hs : h1 bs = some (.cells L)) (hi : i < N) (hL : L[i]? = some v) (hbs : bs ≠ bm) (hvs : Blk v ≠ some bs)
    {K : Kl} {I : List Value → H → Prop} (hI : ∀ a0 a1 a2 a3 a4 a5 a6 a7 a8 h, round55_8 D I K a0 a1 a2 a3 a4 a5 a6 a7 a8 h → I [a0, a1, a2, a3, a4, a5, a6, a7, a8] h)
    {out mt : List Int} {x7 x8 : Int} (hlen : out.length = l.length) (hmt : mt.length < 2 ^ 62) (hK : ∀ h, CIn h1 h bm v mt out → K (.e 2) [.map (some bm), (.slice (some ⟨bs, 0, none⟩) N N), s2, .int .i64 x7, .int .i64 x8] h) :
    ∀ (m j : Nat) (pre met : List Int) (h : H), l.length - j ≤ m → j ≤ l.length → pre.length = j → CIn h1 h bm v met (pre ++ l.drop j) → (∀ x ∈ pre, inI x) → pre ++ canonGo met (l.drop j) = out → metGo met (l.drop j) = mt →
      I [.map (some bm), (.slice (some ⟨bs, 0, none⟩) N N), .int .i64 ((i : Nat) : Int), s2, .int .i64 x7, .int .i64 x8, v10, .int .i64 ((l.length : Nat) : Int), .int .i64 ((j : Nat) : Int)] h := by
  have hl := q.len
  intro m
  induction m with
  | zero =>
    intro j pre met h hm hj hp o hr ho hmet
    refine hI _ _ _ _ _ _ _ _ _ _ ?_
    unfold round55_8
    rw [intK_int, intK_int, intK_int, intK_int, intK_int, cond_dec]
    refine ⟨fun hlt => by omega, fun _ => ?_⟩
    rw [List.drop_eq_nil_of_le (by omega)] at ho hmet o
    simp only [canonGo, List.append_nil] at ho o
    have hmet : met = mt := hmet
    subst ho hmet
    exact hK h o
  | succ m ih =>
    intro j pre met h hm hj hp o hr ho hmet
    have hq : Ir h v10 l := q.kept fun d x hd hx => by
      have hdm : d ≠ bm := fun hh => by subst hh; rw [h0m] at hx; cases hx
      have hdv : Blk v ≠ some d := fun hh => by rw [h0v d hh] at hx; cases hx
      exact o.keep d x hdm hdv (e01 d x hdm hdv hx)
    have hbs2 : h bs = some (.cells L) := o.keep bs _ hbs hvs hs
    refine hI _ _ _ _ _ _ _ _ _ _ ?_
    unfold round55_8
    rw [intK_int, intK_int, intK_int, intK_int, intK_int, cond_dec]
    refine ⟨fun hlt => ?_, fun _ => ?_⟩
    · refine hq.at_ (by omega) (by omega) fun ad x hx hxi hrd => ⟨x, hrd, ?_⟩
      rw [Int.toNat_natCast] at hx
      have hsp := split_at hx
      have ho' := ho
      have hmet' := hmet
      rw [hsp.2.2, canonGo] at ho'
      rw [hsp.2.2, metGo] at hmet'
      have hxi' := hxi
      unfold inI at hxi'
      have next : ∀ h' pre' met', pre'.length = j + 1 → CIn h1 h' bm v met' (pre' ++ l.drop (j + 1)) → (∀ x ∈ pre', inI x) → pre' ++ canonGo met' (l.drop (j + 1)) = out → metGo met' (l.drop (j + 1)) = mt →
          j55_8_15 D I K (.map (some bm)) (.slice (some ⟨bs, 0, none⟩) N N) (.int .i64 ((i : Nat) : Int)) s2 (.int .i64 x7) (.int .i64 x8) v10 (.int .i64 ((l.length : Nat) : Int)) (.int .i64 ((j : Nat) : Int)) h' := by
        intro h' pre' met' a1 a2 a3 a4 a5
        unfold j55_8_15
        rw [intK_int, intK_int, intK_int, intK_int, intK_int, i64_id (by omega) (by omega)]
        exact ih (j + 1) pre' met' h' (by omega) (by omega) a1 a2 a3 a4 a5
      -- the write of a number
      have put : ∀ h' met', CIn h1 h' bm v met' (pre ++ l.drop j) → x < 0 → x ∈ met' → met'.length < 2 ^ 62 + 1 → (∀ y, y = (-1 - (met'.idxOf x : Int)) → (pre ++ [y]) ++ canonGo met' (l.drop (j + 1)) = out) → metGo met' (l.drop (j + 1)) = mt →
          j55_8_14 D I K (.map (some bm)) (.slice (some ⟨bs, 0, none⟩) N N) (.int .i64 ((i : Nat) : Int)) (.int .i64 ((j : Nat) : Int)) (.int .i64 x) s2 (.int .i64 x7) (.int .i64 x8) v10 (.int .i64 ((l.length : Nat) : Int)) (.int .i64 ((j : Nat) : Int)) h' := by
        intro h' met' o' hneg hin hml ho2 hm2
        unfold j55_8_14
        rw [intK_int, intK_int, intK_int, intK_int, intK_int, intK_int, intK_int]
        have hbs3 : h' bs = some (.cells L) := o'.keep bs _ hbs hvs hs
        refine at_own hi ⟨v, rd_cell hbs3 hL, ?_⟩
        obtain ⟨es, cl, hbm, hpl⟩ := o'.map
        refine ⟨es, cl, hbm, ?_⟩
        refine hpl.look (fun _ => ?_) (fun hno => absurd hin hno)
        have hid : met'.idxOf x < met'.length := List.idxOf_lt_length_of_mem hin
        refine ⟨_, rfl, rd_cell hbs3 hL, ?_⟩
        have hjl : j < (Z (pre ++ l.drop j)).length := by rw [Z_len, List.length_append, List.length_drop]; omega
        refine o'.buf.put hjl (v := .int .i64 (IntKind.i64.wrap ((-1 : Int) - (met'.idxOf x : Nat)))) fun a h2 hw hext hbuf => ?_
        refine ⟨rfl, by trivial, h2, hw, ?_⟩
        rw [i64_id (by omega) (by omega), Z_set (m := l) hx hp] at hbuf
        have hdr : Ext (h'.drop v) h2 := hext _ (Ext.drop h' v) fun b hb => hb
        have hkeep : ∀ d x, Blk v ≠ some d → h' d = some x → h2 d = some x := fun d x hd hx => hdr d x (by rw [drop_away hd]; exact hx)
        refine next h2 (pre ++ [-1 - (met'.idxOf x : Int)]) met' (by simp [hp]) ⟨fun d x hdm hdv hx => hkeep d x hdv (o'.keep d x hdm hdv hx), ⟨es, cl, hkeep bm _ o'.nm hbm, hpl⟩, hbuf.self, o'.nm⟩ (fun y hy => ?_) (ho2 _ rfl) hm2
        rcases List.mem_append.mp hy with hy | hy
        · exact hr y hy
        · simp only [List.mem_singleton] at hy
          subst hy; unfold inI; omega
      rw [cond_dec]
      refine ⟨fun hpos => ?_, fun hneg => ?_⟩
      · have hn : ¬ x < 0 := by omega
        rw [if_neg hn] at ho'
        rw [if_neg (fun hh => hn hh.1)] at hmet'
        have e : pre ++ l.drop j = (pre ++ [x]) ++ l.drop (j + 1) := by rw [hsp.2.2]; simp
        refine next h (pre ++ [x]) met (by simp [hp]) (e ▸ o) (fun y hy => ?_) (by rw [← ho']; simp) hmet'
        rcases List.mem_append.mp hy with hy | hy
        · exact hr y hy
        · simp only [List.mem_singleton] at hy
          subst hy; exact hxi
      · have hn : x < 0 := by omega
        rw [if_pos hn] at ho'
        obtain ⟨es, cl, hbm, hpl⟩ := o.map
        have hml : met.length < 2 ^ 62 := by
          obtain ⟨u, hu⟩ := metGo_pre (l.drop j) met
          rw [hmet] at hu
          rw [hu, List.length_append] at hmt; omega
        refine ⟨es, cl, hbm, ?_⟩
        refine hpl.look (fun hin => ⟨_, rfl, ?_⟩) (fun hno => ⟨_, rfl, ?_⟩)
        · rw [Bool.not_true, cond_false]
          rw [if_pos hin] at ho'
          rw [if_neg (fun hh => hh.2 hin)] at hmet'
          refine put h met o hn hin (by omega) (fun y hy => ?_) hmet'
          subst hy
          rw [← ho']; simp
        · rw [Bool.not_false, cond_true]
          rw [if_neg hno] at ho'
          rw [if_pos ⟨hn, hno⟩] at hmet'
          refine ⟨es, cl, hbm, mapU_new hbm hpl.keys hno ?_⟩
          have hid : (met ++ [x]).idxOf x = met.idxOf x := idx_new hno
          refine put _ (met ++ [x]) ⟨fun d y hdm hdv hy => ?_, ⟨_, _, set_here, hpl.add⟩, ?_, o.nm⟩ hn (by simp) (by simp; omega) (fun y hy => ?_) hmet'
          · rw [set_away hdm]; exact o.keep d y hdm hdv hy
          · exact (o.buf.but o.nm ExtBut.set).self
          · subst hy
            rw [hid, ← ho']; simp
    · rw [List.drop_eq_nil_of_le (by omega)] at ho hmet o
      simp only [canonGo, List.append_nil] at ho o
      have hmet : met = mt := hmet
      subst ho hmet
      exact hK h o
def nilS : Value := .slice none 0 0
/-- The state between rows. -/
structure COut (h0 h : H) (bm bs N : Nat) (met : List Int) (done : List (List Int)) : Prop where
  ext : Ext h0 h
  map : ∃ es c, h bm = some (.map es c) ∧ Places es met
  row : ∃ ws, h bs = some (.cells (ws ++ List.replicate (N - ws.length) nilS)) ∧ ws.length = done.length ∧ ∀ (p : Nat) w, ws[p]? = some w → ∃ t, done[p]? = some t ∧ Ir h w t ∧ Blk w ≠ some bm ∧ Blk w ≠ some bs
def tot (ts : List (List Int)) : Nat := (ts.map List.length).sum
theorem canonGo_rng : ∀ (t met : List Int), met.length + t.length < 2 ^ 62 → (∀ x ∈ t, inI x) → ∀ x ∈ canonGo met t, inI x
  | [], met, _, _, x, hx => by simp [canonGo] at hx
  | c :: t, met, hl, ht, x, hx => by
    simp only [List.length_cons] at hl
    unfold canonGo at hx
    split at hx
    · rcases List.mem_cons.mp hx with rfl | hx
      · have : met.idxOf c ≤ met.length := List.idxOf_le_length
        unfold inI; omega
      · refine canonGo_rng t _ ?_ (fun y hy => ht y (by simp [hy])) x hx
        split
        · omega
        · simp; omega
    · rcases List.mem_cons.mp hx with rfl | hx
      · exact ht _ (by simp)
      · exact canonGo_rng t met (by omega) (fun y hy => ht y (by simp [hy])) x hx
theorem rd_ext {h h' : H} (e : Ext h h') {a : Addr} {v : Value} (hr : rd h a = some v) : rd h' a = some v := by
  unfold rd at hr ⊢
  split at hr
  · cases hx : rowOf (h a.block) with
    | none => rw [hx] at hr; cases hr
    | some l => rw [hx] at hr; rw [rowOf_ext e hx]; exact hr
  · cases hr
theorem canon_rows (c48 : Cl49 D) {a0 : Value} {bm bs : Nat} {ts all : List (List Int)} {h0 : H} (q : Rw h0 a0 ts) (hts : ts.length < 2 ^ 40) (hb : tot ts < 2 ^ 60) (h0m : h0 bm = none) (h0s : h0 bs = none) (hne : bs ≠ bm)
    {K : Kl} {I : List Value → H → Prop} (hI : ∀ a0 a1 a2 a3 a4 h, round55_4 D I K a0 a1 a2 a3 a4 h → I [a0, a1, a2, a3, a4] h)
    (hK : ∀ h met, COut h0 h bm bs ts.length met all → K (.e 0) [.slice (some ⟨bs, 0, none⟩) ts.length ts.length] h) :
    ∀ (m i : Nat) (met : List Int) (done : List (List Int)) (h : H), ts.length - i ≤ m → i ≤ ts.length → done.length = i → COut h0 h bm bs ts.length met done → done ++ canonL met (ts.drop i) = all → met.length + tot (ts.drop i) < 2 ^ 61 →
      I [.map (some bm), .slice (some ⟨bs, 0, none⟩) ts.length ts.length, a0, .int .i64 ((ts.length : Nat) : Int), .int .i64 ((i : Nat) : Int)] h := by
  intro m
  induction m with
  | zero =>
    intro i met done h hm hi hd o ha ht
    refine hI _ _ _ _ _ _ ?_
    unfold round55_4
    rw [intK_int, intK_int, cond_dec]
    refine ⟨fun hlt => by omega, fun _ => ?_⟩
    rw [List.drop_eq_nil_of_le (by omega)] at ha
    simp only [canonL, List.append_nil] at ha
    subst ha
    exact hK h met o
  | succ m ih =>
    intro i met done h hm hi hd o ha ht
    refine hI _ _ _ _ _ _ ?_
    unfold round55_4
    rw [intK_int, intK_int, cond_dec]
    refine ⟨fun hlt => ?_, fun _ => ?_⟩
    · refine q.at_ (by omega) (by omega) fun ad v10 t htt hrd hir => ⟨v10, rd_ext o.ext hrd, ?_⟩
      rw [Int.toNat_natCast] at htt
      have hsp := split_at htt
      rw [hsp.2.2] at ha ht
      have htot : tot (t :: ts.drop (i + 1)) = t.length + tot (ts.drop (i + 1)) := by simp [tot]
      rw [htot] at ht
      obtain ⟨es, cl, hbm, hpl⟩ := o.map
      obtain ⟨ws, hbs, hwl, hw⟩ := o.row
      have hil : i < ts.length := by omega
      refine spec49 c48 (hir.ext o.ext) fun v h2 hbuf e2 => ⟨v, rfl, ?_⟩
      have hfresh : ∀ d, Blk v = some d → h d = none := fun d hd => hbuf.blk hd
      have hvm : Blk v ≠ some bm := fun hh => by rw [hfresh bm hh] at hbm; cases hbm
      have hvs : Blk v ≠ some bs := fun hh => by rw [hfresh bs hh] at hbs; cases hbs
      have hbs2 := e2 _ _ hbs
      have hbm2 := e2 _ _ hbm
      have hLlen : (ws ++ List.replicate (ts.length - ws.length) nilS).length = ts.length := by simp; omega
      refine at_own hil ⟨sl_one hbuf.row.isSl, by trivial, _, wr_cell hbs2 (by omega), ?_⟩
      have hL : ((ws ++ List.replicate (ts.length - ws.length) nilS).set i v) = (ws ++ [v]) ++ List.replicate (ts.length - (ws ++ [v]).length) nilS := by
        rw [List.set_append_right _ _ (by omega)]
        have e : i - ws.length = 0 := by omega
        obtain ⟨w, hw⟩ : ∃ w, ts.length - ws.length = w + 1 := ⟨ts.length - ws.length - 1, by omega⟩
        rw [e, hw, List.replicate_succ, List.set_cons_zero, List.length_append, List.length_singleton, List.append_assoc]
        have : ts.length - (ws.length + 1) = w := by omega
        rw [this]; rfl
      rw [hL]
      have hset : (h2.set bs (.cells ((ws ++ [v]) ++ List.replicate (ts.length - (ws ++ [v]).length) nilS))) bs = some (.cells ((ws ++ [v]) ++ List.replicate (ts.length - (ws ++ [v]).length) nilS)) := set_here
      generalize hh3 : h2.set bs (.cells ((ws ++ [v]) ++ List.replicate (ts.length - (ws ++ [v]).length) nilS)) = h3 at hset ⊢
      have haway : ∀ d, d ≠ bs → h3 d = h2 d := fun d hd => by rw [← hh3]; exact set_away hd
      have h03 : Ext h0 h3 := fun d x hx => by
        have hds : d ≠ bs := fun hh => by subst hh; rw [h0s] at hx; cases hx
        rw [haway d hds]; exact e2 _ _ (o.ext _ _ hx)
      have h0v : ∀ d, Blk v = some d → h0 d = none := fun d hd => o.ext.free (hfresh d hd)
      have hirl := hir.len
      have hbm3 : h3 bm = some (.map es cl) := by rw [haway bm hne.symm]; exact hbm2
      have hbuf3 : Buf (h3.drop v) h3 v (Z t) := by
        have : Buf h h3 v (Z t) := by rw [← hh3]; exact hbuf.but hvs ExtBut.set
        exact this.self
      have hmg := metGo_len t met
      rw [hir.len_]
      intro I2 hI2
      refine canon_row hir (fun d x _ _ hx => h03 d x hx) h0v h0m hset hil (by rw [List.append_assoc, ← hwl.trans hd]; simp) hne hvs hI2 (out := canonGo met t) (mt := metGo met t) (by rw [canonGo_len]) (by omega) (fun h4 o4 => ?_) t.length 0 [] met h3 (by omega) (by omega) rfl ⟨fun d x _ _ hx => hx, ⟨es, cl, hbm3, hpl⟩, by simpa using hbuf3, hvm⟩ (by simp) (by simp) (by simp)
      rw [xs_e]
      show cond (Nat.beq 2 2) _ False
      simp only [cond_true, Nat.beq, nth0, nth1, nth2, nth3, nth4, intK_int]
      show I _ _
      rw [i64_id (by omega) (by omega)]
      refine ih (i + 1) (metGo met t) (done ++ [canonGo met t]) h4 (by omega) (by omega) (by simp [hd]) ⟨fun d x hx => ?_, o4.map, ?_⟩ (by rw [← ha]; simp [canonL]) (by omega)
      · refine o4.keep d x (fun hh => ?_) (fun hh => ?_) (h03 d x hx)
        · subst hh; rw [h0m] at hx; cases hx
        · rw [h0v d hh] at hx; cases hx
      · refine ⟨ws ++ [v], o4.keep bs _ hne hvs hset, by simp [hwl], fun p w hp => ?_⟩
        rw [List.getElem?_append] at hp
        split at hp
        · obtain ⟨t', ht', hir', hb1, hb2⟩ := hw p w hp
          refine ⟨t', by rw [List.getElem?_append_left (by omega)]; exact ht', hir'.kept fun d x hdw hx => ?_, hb1, hb2⟩
          have hds : d ≠ bs := fun hh => hb2 (by rw [← hh]; exact hdw)
          refine o4.keep d x (fun hh => hb1 (by rw [← hh]; exact hdw)) (fun hh => ?_) ?_
          · rw [hfresh d hh] at hx; cases hx
          · rw [haway d hds]; exact e2 _ _ hx
        · rename_i hpl2
          have hp0 : p - ws.length = 0 := by
            by_cases h0 : p - ws.length = 0
            · exact h0
            · rw [List.getElem?_eq_none (by simp; omega)] at hp; cases hp
          rw [hp0] at hp
          simp only [List.getElem?_cons_zero, Option.some.injEq] at hp
          subst hp
          have : p = done.length := by omega
          subst this
          refine ⟨canonGo met t, by simp, ⟨o4.buf.row, by rw [canonGo_len]; exact hir.len, canonGo_rng t met (by omega) hir.rng⟩, hvm, hvs⟩
    · rw [List.drop_eq_nil_of_le (by omega)] at ha
      simp only [canonL, List.append_nil] at ha
      subst ha
      exact hK h met o
theorem canonL_len : ∀ (ts : List (List Int)) (met : List Int), (canonL met ts).length = ts.length
  | [], met => rfl
  | t :: ts, met => by simp [canonL, canonL_len ts]
theorem flat_rep {v : Value} : ∀ n : Nat, (List.replicate n [v]).flatten = List.replicate n v
  | 0 => rfl
  | n + 1 => by rw [List.replicate_succ, List.flatten_cons, flat_rep n, List.replicate_succ]; rfl
theorem spec55 (c : Cl55 D) (c48 : Cl49 D) {a0 : Value} {ts : List (List Int)} {h : H} {k : Kv} {kp : Kp} (q : Rw h a0 ts) (hts : ts.length < 2 ^ 40) (hb : tot ts < 2 ^ 60) (hk : ∀ v h', Rw h' v (canonL [] ts) → Ext h h' → k v h') : D 55 [a0] h k kp := by
  refine c _ _ _ _ ?_
  unfold F55
  intro bm hbm
  have e1 : Ext h (h.set bm (.map [] 0)) := Ext.new hbm
  rw [(q.ext e1).len_]
  have hts' : ts.length < 1099511627776 := hts
  refine ⟨by omega, by omega, by omega, by omega, fun bs hbs => ?_⟩
  have hne : bs ≠ bm := fun hh => by subst hh; rw [set_here] at hbs; cases hbs
  have hbs0 : h bs = none := e1.free hbs
  have e2 := e1.trans (Ext.new (o := .cells (List.replicate (ts.length : Int).toNat [Value.slice none 0 0]).flatten) hbs)
  show lenW a0 _
  rw [(q.ext e2).len_, Int.toNat_natCast]
  intro I hI
  refine canon_rows c48 q hts hb hbm hbs0 hne hI (all := canonL [] ts) (fun h2 met o => ?_) ts.length 0 [] [] _ (by omega) (by omega) rfl ⟨e2, ⟨[], 0, by rw [set_away hne.symm]; exact set_here, ⟨rfl, by simp⟩⟩, ⟨[], ?_, rfl, by simp⟩⟩ (by simp) (by simpa using (by omega : tot ts < 2 ^ 61))
  · rw [xs_e]
    show cond (Nat.beq 0 0) _ _
    rw [nth0]
    obtain ⟨ws, h1, h2', h3⟩ := o.row
    have hal : (canonL [] ts).length = ts.length := canonL_len ts []
    have hwl : ws.length = ts.length := by omega
    rw [hwl, Nat.sub_self] at h1
    simp only [List.replicate_zero, List.append_nil] at h1
    refine hk _ _ ⟨⟨ws, Row.cells h1 hwl, h2', fun i v hv => ?_⟩⟩ o.ext
    obtain ⟨t, a, b, _⟩ := h3 i v hv
    exact ⟨t, a, b⟩
  · rw [set_here]
    simp [nilS, flat_rep]
end Go.Proofs.YtnlhnlmnlfmojaaGreatDoor.Am

namespace Go.Proofs.YtnlhnlmnlfmojaaGreatDoor.Am
open Go Go.Proofs Sys Go.Lib
set_option linter.unusedVariables false
set_option linter.unusedSimpArgs false
set_option maxRecDepth 100000
variable {D : Orc} {T : H → Prop}

def vkey (r : Ru) : List (List Int) := canonL [] [r.1, r.2]
theorem vkey_iff (a b : Ru) : vkey a = vkey b ↔ a.1.length = b.1.length ∧ a.2.length = b.2.length ∧ Like (a.1 ++ a.2) (b.1 ++ b.2) := by
  rw [like_iff, canon_split, canon_split]
  unfold vkey
  simp only [canonL, List.cons.injEq, and_true]
  constructor
  · rintro ⟨h1, h2⟩
    have l1 := congrArg List.length h1
    have l2 := congrArg List.length h2
    simp only [canonGo_len] at l1 l2
    exact ⟨l1, l2, by simp [l1, l2], by rw [h1, h2]⟩
  · rintro ⟨l1, l2, _, h⟩
    exact List.append_inj h (by rw [canonGo_len, canonGo_len]; exact l1)
def termsOk (sig : List Sy) (ts : List (List Int)) : Bool := ts.all fun t => chkTerm sig t == 0
def varB (sig : List Sy) (a b : Ru) : Bool := termsOk sig [a.1, a.2, b.1, b.2] && decide (vkey a = vkey b)
def SpecVar (D : Orc) (f : Nat) (T : H → Prop) : Prop := ∀ s v1 w1 v2 w2 sig (a b : Ru) h (k : Kv) kp, Sr h s sig → T h → Ir h v1 a.1 → Ir h w1 a.2 → Ir h v2 b.1 → Ir h w2 b.2 → a.1.length + a.2.length < 2 ^ 40 → b.1.length + b.2.length < 2 ^ 40 →
  (∀ h', Ext h h' → k (.bool (varB sig a b)) h') → D f [s, .agg #[v1, w1], .agg #[v2, w2]] h k kp
theorem ir_pair {h : H} {b n : Nat} {v w : Value} {l m : List Int} (hb : h b = some (.cells [v, w])) (h1 : Ir h v l) (h2 : Ir h w m) (hn : n = 2) : Rw h (.slice (some ⟨b, 0, none⟩) n n) [l, m] := by
  subst hn
  refine ⟨⟨[v, w], Row.cells hb rfl, rfl, fun i x hx => ?_⟩⟩
  match i with
  | 0 => simp only [List.getElem?_cons_zero, Option.some.injEq] at hx; subst hx; exact ⟨l, rfl, h1⟩
  | 1 => simp only [List.getElem?_cons_succ, List.getElem?_cons_zero, Option.some.injEq] at hx; subst hx; exact ⟨m, rfl, h2⟩
  | i + 2 => simp at hx
end Go.Proofs.YtnlhnlmnlfmojaaGreatDoor.Am

namespace Go.Proofs.YtnlhnlmnlfmojaaGreatDoor.Am
open Go Go.Proofs Sys Go.Lib
set_option linter.unusedVariables false
set_option linter.unusedSimpArgs false
set_option maxRecDepth 100000
variable {D : Orc} {T : H → Prop}

/-- Numbers behind numbers of one's own. -/
theorem app_ir {h0 h : H} {s v : Value} {l m : List Int} (r : Buf h0 h s (Z l)) (e : Ext h0 h) (q : Ir h v m) (hl : l.length + m.length < 2 ^ 41) {K : Value → H → Prop}
    (hK : ∀ s' h', Buf h0 h' s' (Z (l ++ m)) → Ext h0 h' → K s' h') : slenW v (fun n => srcW h 1 v n (fun w => apW h 1 8 [(Value.int IntKind.i64 (0 : Int))] s n w (fun s' h' => K s' h'))) := by
  have hl' : l.length + m.length < 2199023255552 := hl
  rw [q.row.slen]
  refine q.row.src (Nat.le_refl _) ?_
  rw [List.take_length]
  refine r.app e rfl ?_ ?_ ?_ fun s' h' r' e' => ?_
  · simp [Z, one]
  · rw [Z_len, Z_len]; omega
  · rw [Z_len, Z_len]; omega
  · rw [Z_app] at r'
    exact hK s' h' r' e'
def symAt (x y : List Int) (i : Nat) : Prop := ∀ a b, x[i]? = some a → y[i]? = some b → (0 ≤ a ∨ 0 ≤ b) → a = b
def numAt (vx vy : List Int) (a b : Int) (k : Nat) : Prop := ∀ c d, vx[k]? = some c → vy[k]? = some d → (a = -1 - c ↔ b = -1 - d)
theorem vars_nonneg {t : List Int} : ∀ v ∈ vars t, 0 ≤ v := fun v hv => by
  obtain ⟨c, _, hc, rfl⟩ := mem_vars.mp hv
  omega
theorem mets_at {t : List Int} {k : Nat} {c : Int} : (mets t)[k]? = some c ↔ ∃ v, (vars t)[k]? = some v ∧ c = -1 - v := by
  rw [← vars_mets, List.getElem?_map, Option.map_eq_some_iff]
  constructor
  · rintro ⟨v, h1, h2⟩; exact ⟨v, h1, h2.symm⟩
  · rintro ⟨v, h1, h2⟩; exact ⟨v, h1, h2.symm⟩
theorem like_of {x y : List Int} (h1 : x.length = y.length) (h2 : ∀ i, symAt x y i) (h3 : (vars x).length = (vars y).length) (h4 : ∀ (i : Nat) (a b : Int), x[i]? = some a → y[i]? = some b → ∀ k, numAt (vars x) (vars y) a b k) : Like x y := by
  refine ⟨h1, fun i a b ha hb ho => h2 i a b ha hb ho, ?_, fun i k a b c d ha hb hc hd => ?_⟩
  · rw [← vars_mets, ← vars_mets, List.length_map, List.length_map, h3]
  · obtain ⟨u, hu, rfl⟩ := mets_at.mp hc
    obtain ⟨v, hv, rfl⟩ := mets_at.mp hd
    exact h4 i a b ha hb k u v hu hv
theorem like_vars {x y : List Int} (h : Like x y) : (vars x).length = (vars y).length ∧ ∀ (i : Nat) (a b : Int), x[i]? = some a → y[i]? = some b → ∀ k, numAt (vars x) (vars y) a b k := by
  refine ⟨?_, fun i a b ha hb k c d hc hd => ?_⟩
  · have := h.num
    rw [← vars_mets, ← vars_mets, List.length_map, List.length_map] at this
    exact this
  · exact h.var i k a b _ _ ha hb (mets_at.mpr ⟨c, hc, rfl⟩) (mets_at.mpr ⟨d, hd, rfl⟩)
end Go.Proofs.YtnlhnlmnlfmojaaGreatDoor.Am

namespace Go.Proofs.YtnlhnlmnlfmojaaGreatDoor.Am
open Go Go.Proofs Sys Go.Lib
set_option linter.unusedVariables false
set_option linter.unusedSimpArgs false
set_option maxRecDepth 100000
variable {D : Orc} {T : H → Prop}

theorem ruleE_ok {sig : List Sy} {r : Ru} (h : ruleE sig r = 0) : scan (S2 sig) 1 r.1 = 0 ∧ scan (S2 sig) 1 r.2 = 0 ∧ r.1.length ≤ 512 ∧ r.2.length ≤ 512 ∧ 0 ≤ r.1.headD 0 ∧ ∀ v ∈ vars r.2, v ∈ vars r.1 := by
  by_cases h1 : scan (S2 sig) 1 r.1 = 0
  · by_cases h2 : scan (S2 sig) 1 r.2 = 0
    · rw [ruleE_rest h1 h2] at h
      split at h
      · omega
      · split at h
        · omega
        · split at h
          · rename_i ha hb hc
            rw [List.all_eq_true] at hc
            exact ⟨h1, h2, by omega, by omega, by omega, fun v hv => by simpa using hc v hv⟩
          · omega
    · unfold ruleE at h; rw [if_neg (by simpa using h1), if_pos h2] at h; exact absurd h h2
  · unfold ruleE at h; rw [if_pos h1] at h; exact absurd h h1
theorem rulesE_ok {sig : List Sy} : ∀ {rs : List Ru} {i : Nat}, (rulesE sig i rs).1 = 0 → ∀ r ∈ rs, ruleE sig r = 0
  | [], i, h, r, hr => by cases hr
  | r0 :: rs, i, h, r, hr => by
    unfold rulesE at h
    by_cases h0 : ruleE sig r0 ≠ 0
    · rw [if_pos h0] at h; exact absurd h h0
    · rw [if_neg h0] at h
      rcases List.mem_cons.mp hr with rfl | hr
      · simpa using h0
      · exact rulesE_ok h r hr
theorem right_ok {S : Sm} (h : rightS S = true) : plainE S.sig = 0 ∧ chkSig S.sig = 0 ∧ S.rules.length ≤ 64 ∧ ∀ r ∈ S.rules, ruleE S.sig r = 0 := by
  unfold rightS chkSys at h
  have h := beq_iff_eq.mp h
  by_cases h1 : plainE S.sig ≠ 0
  · rw [if_pos h1] at h; exact absurd h h1
  · rw [if_neg h1] at h
    have h1' : plainE S.sig = 0 := by simpa using h1
    by_cases h2 : 64 < S.rules.length
    · rw [if_pos h2] at h; simp at h
    · rw [if_neg h2] at h
      exact ⟨h1', (plain_ok h1').1, by omega, rulesE_ok h⟩
theorem var_right {sig : List Sy} {a b : Ru} (hs : chkSig sig = 0) (ha : ruleE sig a = 0) (hb : ruleE sig b = 0) : varB sig a b = decide (vkey a = vkey b) := by
  have ct : ∀ t, scan (S2 sig) 1 t = 0 → (chkTerm sig t == 0) = true := fun t ht => by
    unfold chkTerm; rw [if_neg (by simpa using hs), ht]; rfl
  unfold varB termsOk
  simp only [List.all_cons, List.all_nil]
  rw [ct _ (ruleE_ok ha).1, ct _ (ruleE_ok ha).2.1, ct _ (ruleE_ok hb).1, ct _ (ruleE_ok hb).2.1]
  rfl
/-- Two systems are the same. -/
def sameS (a b : Sm) : Bool := rightS a && (rightS b && (decide (a.sig = b.sig) && (decide (a.rules.length = b.rules.length) && (a.rules.map vkey).isPerm (b.rules.map vkey))))

/-! ### the first place -/
/-! ### an element is left out -/
end Go.Proofs.YtnlhnlmnlfmojaaGreatDoor.Am

namespace Go.Proofs.YtnlhnlmnlfmojaaGreatDoor.Am
open Go Go.Proofs Sys Go.Lib
set_option linter.unusedVariables false
set_option linter.unusedSimpArgs false
set_option maxRecDepth 100000
variable {D : Orc} {T : H → Prop}

theorem perm_step {β : Type} [BEq β] [LawfulBEq β] {x : β} {xs L : List β} {k : Nat} (hk : L[k]? = some x) (hb : ∀ j, j < k → L[j]? ≠ some x) : (x :: xs).isPerm L = xs.isPerm (L.take k ++ L.drop (k + 1)) := by
  have hs := (split_at hk).1
  have hx : x ∉ L.take k := fun hm => by
    obtain ⟨j, hj, he⟩ := List.getElem_of_mem hm
    rw [List.getElem_take] at he
    rw [List.length_take] at hj
    exact hb j (by omega) (by rw [List.getElem?_eq_getElem (by omega), he])
  have he : L.erase x = L.take k ++ L.drop (k + 1) := by
    conv => lhs; rw [hs]
    rw [List.erase_append_right _ hx, List.erase_cons_head]
  have hc : L.contains x = true := by rw [List.contains_iff_mem]; exact List.mem_of_getElem? hk
  rw [List.isPerm, hc, Bool.true_and, he]
theorem perm_none {β : Type} [BEq β] [LawfulBEq β] {x : β} {xs L : List β} (hb : ∀ j, j < L.length → L[j]? ≠ some x) : (x :: xs).isPerm L = false := by
  have hc : L.contains x = false := by
    cases h : L.contains x with
    | false => rfl
    | true =>
      rw [List.contains_iff_mem] at h
      obtain ⟨j, hj, he⟩ := List.getElem_of_mem h
      exact absurd (by rw [List.getElem?_eq_getElem hj, he]) (hb j hj)
  rw [List.isPerm, hc, Bool.false_and]
abbrev Pv := (Value × Value) × Ru
theorem mem_erased {α : Type} {ps : List α} {k : Nat} {p : α} (h : p ∈ ps.take k ++ ps.drop (k + 1)) : p ∈ ps := by
  rcases List.mem_append.mp h with h | h
  · exact List.mem_of_mem_take h
  · exact List.mem_of_mem_drop h
/-- The pairs of a row of rules. -/
theorem Rr.pairs {h : H} {s : Value} {rs : List Ru} (r : Rr h s rs) : ∃ ps : List Pv, RowK 2 h s (ruRow (ps.map (·.1))) ∧ ps.map (·.2) = rs ∧ ∀ p ∈ ps, Ir h p.1.1 p.2.1 ∧ Ir h p.1.2 p.2.2 := by
  obtain ⟨vs, h1, h2, h3⟩ := r.ex
  refine ⟨vs.zip rs, ?_, ?_, ?_⟩
  · rw [List.map_fst_zip (by omega)]; exact h1
  · exact List.map_snd_zip (by omega)
  · intro p hp
    obtain ⟨j, hj, rfl⟩ := List.getElem_of_mem hp
    rw [List.length_zip] at hj
    obtain ⟨x, hx, a, b⟩ := h3 j vs[j] (List.getElem?_eq_getElem (by omega))
    rw [List.getElem?_eq_getElem (by omega)] at hx
    cases hx
    rw [List.getElem_zip]
    exact ⟨a, b⟩
def SpecSame (D : Orc) (f : Nat) (T : H → Prop) : Prop := ∀ va vb (a b : Sm) h (k : Kv) kp, Ss h va a → Ss h vb b → T h → (∀ h', Ext h h' → k (.bool (sameS a b)) h') → D f [va, vb] h k kp
end Go.Proofs.YtnlhnlmnlfmojaaGreatDoor.Am

namespace Go.Proofs.YtnlhnlmnlfmojaaGreatDoor.Am
open Go Go.Proofs Sys Go.Lib
set_option linter.unusedVariables false
set_option linter.unusedSimpArgs false
set_option maxRecDepth 100000
variable {D : Orc} {T : H → Prop}

/-- How many are like a rule, counted from a place. -/
def likeFrom (rs : List Ru) (x : Ru) (k : Nat) : Nat := ((rs.map vkey).drop k).count (vkey x)
theorem like_step {rs : List Ru} {x y : Ru} {k : Nat} (h : rs[k]? = some y) : likeFrom rs x k = (if vkey x = vkey y then 1 else 0) + likeFrom rs x (k + 1) := by
  unfold likeFrom
  have : (rs.map vkey)[k]? = some (vkey y) := by rw [List.getElem?_map, h]; rfl
  rw [(split_at this).2.2, List.count_cons]
  by_cases e : vkey x = vkey y
  · rw [if_pos e]; simp [e]; omega
  · rw [if_neg e]; simp [show ¬ vkey y = vkey x from fun h => e h.symm]
theorem like_end {rs : List Ru} {x : Ru} {k : Nat} (h : rs.length ≤ k) : likeFrom rs x k = 0 := by
  unfold likeFrom; rw [List.drop_eq_nil_of_le (by simpa using h)]; rfl
theorem same_counts {xa xb : List Ru} (hlen : xa.length = xb.length) : (xa.map vkey).isPerm (xb.map vkey) = true ↔ ∀ x ∈ xa, likeFrom xa x 0 = likeFrom xb x 0 := by
  unfold likeFrom
  simp only [List.drop_zero]
  rw [List.isPerm_iff]
  constructor
  · intro h x _; exact h.count_eq _
  · intro h
    refine perm_of_counts _ _ (by simp [hlen]) fun y hy => ?_
    obtain ⟨x, hx, rfl⟩ := List.mem_map.mp hy
    exact h x hx
end Go.Proofs.YtnlhnlmnlfmojaaGreatDoor.Am

namespace Go.Proofs.YtnlhnlmnlfmojaaGreatDoor.Am
open Go Go.Proofs Sys Go.Lib
set_option linter.unusedVariables false
set_option linter.unusedSimpArgs false
set_option maxRecDepth 100000
variable {D : Orc} {T : H → Prop}

def isRoot (rs : List Ru) (c : Int) : Bool := rs.any fun r => r.1.headD 0 == c
def defL (S : Sm) : List Int := if rightS S then ((List.range S.sig.length).map fun (c : Nat) => (c : Int)).filter (isRoot S.rules) else []
def SpecDef (D : Orc) (f : Nat) (T : H → Prop) : Prop := ∀ v (S : Sm) h (k : Kv) kp, Ss h v S → T h → (∀ v' h', Ir h' v' (defL S) → Ext h h' → (∀ d, Blk v' = some d → h d = none) → k v' h') → D f [v] h k kp
theorem root_at {sig : List Sy} {r : Ru} (h : ruleE sig r = 0) : ∃ c, r.1[(0 : Int).toNat]? = some c ∧ r.1.headD 0 = c ∧ 0 ≤ c ∧ c < sig.length := by
  obtain ⟨h1, _, _, _, h5, _⟩ := ruleE_ok h
  cases hr : r.1 with
  | nil => exact absurd hr (isTerm_ne h1)
  | cons c t =>
    have hc := scan_codes (S2 sig) r.1 1 h1 c (by rw [hr]; simp)
    rw [S2_len] at hc
    rw [hr] at h5
    exact ⟨c, rfl, rfl, h5, hc.2⟩
theorem is_loop {pb : Nat} {sa ra out : Value} {sig : List Sy} {rules : List Ru} {h : H} (hp : h pb = some (.cells [sa, ra])) (rr : Rr h ra rules) (hl64 : rules.length ≤ 64) (hok : ∀ r ∈ rules, ruleE sig r = 0) {c : Int} {K : Kl} {I : List Value → H → Prop}
    (hI : ∀ a0 a1 a2 a3 a4 h, round26_9 D I K a0 a1 a2 a3 a4 h → I [a0, a1, a2, a3, a4] h) (hK : K (.e 2) [.pointer (some ⟨pb, 0, none⟩), out, .int .i64 c, .bool (isRoot rules c)] h) :
    ∀ (m i : Nat) (t : Bool), rules.length - i ≤ m → i ≤ rules.length → (t || isRoot (rules.drop i) c) = isRoot rules c → I [.pointer (some ⟨pb, 0, none⟩), out, .int .i64 c, .bool t, .int .i64 ((i : Nat) : Int)] h := by
  intro m
  induction m with
  | zero =>
    intro i t hm hi ho
    refine hI _ _ _ _ _ _ ?_
    unfold round26_9
    rw [intK_int, boolW_bool, intK_int, ptrW_ptr]
    refine ⟨ra, rd_cell (i := 1) hp rfl, ?_⟩
    rw [rr.len_, cond_dec]
    refine ⟨fun hlt => by omega, fun _ => ?_⟩
    rw [List.drop_eq_nil_of_le (by omega)] at ho
    have : t = isRoot rules c := by rw [← ho]; simp [isRoot]
    rw [this]; exact hK
  | succ m ih =>
    intro i t hm hi ho
    refine hI _ _ _ _ _ _ ?_
    unfold round26_9
    rw [intK_int, boolW_bool, intK_int, ptrW_ptr]
    refine ⟨ra, rd_cell (i := 1) hp rfl, ?_⟩
    rw [rr.len_, cond_dec]
    refine ⟨fun hlt => ?_, fun _ => ?_⟩
    · have nxt : ∀ t', (t' || isRoot (rules.drop (i + 1)) c) = isRoot rules c → j26_9_10 D I K (.pointer (some ⟨pb, 0, none⟩)) out (.int .i64 c) (.bool t') (.int .i64 ((i : Nat) : Int)) h := by
        intro t' ht'
        unfold j26_9_10
        rw [intK_int, boolW_bool, intK_int, i64_id (by omega) (by omega)]
        exact ih (i + 1) t' (by omega) (by omega) ht'
      rw [cond_split]
      refine ⟨fun ht => ?_, fun ht => ?_⟩
      · have ht : t = false := by simpa using ht
        subst ht
        rw [ptrW_ptr]
        refine ⟨ra, rd_cell (i := 1) hp rfl, ?_⟩
        refine rr.at_ (by omega) (by omega) fun ad v w x hx _ hr0 _ i1 j1 => ⟨v, hr0, ?_⟩
        rw [Int.toNat_natCast] at hx
        obtain ⟨y, hy, hy2, _⟩ := root_at (hok x (List.mem_of_getElem? hx))
        have hlen : (0 : Int) < x.1.length := by
          have := (List.getElem?_eq_some_iff.mp hy).1
          simp at this; omega
        refine i1.at_ (by omega) hlen fun ad2 z hz _ hrd => ⟨z, hrd, ?_⟩
        rw [hy] at hz; cases hz
        refine nxt _ ?_
        rw [← ho, (split_at hx).2.2]
        show _ = (false || ((x.1.headD 0 == c) || isRoot (rules.drop (i + 1)) c))
        rw [hy2, Bool.false_or]
      · have ht : t = true := by simpa using ht
        subst ht
        exact nxt true (by rw [← ho]; rfl)
    · rw [List.drop_eq_nil_of_le (by omega)] at ho
      have : t = isRoot rules c := by rw [← ho]; simp [isRoot]
      rw [this]; exact hK
theorem spec26 (hT : Stays T) (c : Cl26 D) (s17 : SpecRightS D 23 T) : SpecDef D 26 T := by
  intro v S h k kp q ht hk
  obtain ⟨sa, ra, rfl, r1, r2⟩ := q.ex
  refine c _ _ _ _ ?_
  unfold F26
  rw [aggW_agg]
  intro pb hpb
  have e1 : Ext h (h.set pb (.cells #[sa, ra].toList)) := Ext.new hpb
  have b1 : (h.set pb (.cells #[sa, ra].toList)) pb = some (.cells [sa, ra]) := set_here
  generalize h.set pb (.cells #[sa, ra].toList) = h1 at e1 b1 ⊢
  rw [ptrW_ptr]
  refine ⟨sa, ra, rd2 b1, ?_⟩
  refine s17 _ S _ _ _ ⟨⟨sa, ra, rfl, r1.ext e1, r2.ext e1⟩⟩ (hT _ _ e1 ht) fun h2 e2 => ⟨_, rfl, ?_⟩
  have e12 := e1.trans e2
  have b2 := e2 _ _ b1
  rw [cond_split]
  refine ⟨fun hno => ?_, fun hyes => ?_⟩
  · have hno : rightS S = false := by simpa using hno
    refine hk _ _ ?_ e12 fun d hd => by rw [Blk_nil] at hd; cases hd
    unfold defL
    rw [hno, if_neg (by simp)]
    exact ⟨Row.nil_, by simp, by simp⟩
  have hyes : rightS S = true := by simpa using hyes
  obtain ⟨hpl, hsig, hl64, hok⟩ := right_ok hyes
  have hs64 := (plain_ok hpl).2
  have hdef : defL S = ((List.range S.sig.length).map fun (c : Nat) => (c : Int)).filter (isRoot S.rules) := by unfold defL; rw [if_pos hyes]
  intro I hI
  have key : ∀ (m i : Nat) (out : Value) (l : List Int) (h3 : H), S.sig.length - i ≤ m → i ≤ S.sig.length → Own h2 h3 out (Z l) → l = ((List.range i).map fun (c : Nat) => (c : Int)).filter (isRoot S.rules) →
      I [.pointer (some ⟨pb, 0, none⟩), out, .int .i64 ((i : Nat) : Int)] h3 := by
    have fin : ∀ (i : Nat) (out : Value) (l : List Int) (h3 : H), ¬ ((i : Int) < S.sig.length) → i ≤ S.sig.length → Own h2 h3 out (Z l) → l = ((List.range i).map fun (c : Nat) => (c : Int)).filter (isRoot S.rules) → k out h3 := by
      intro i out l h3 hn hi o hl
      have : i = S.sig.length := by omega
      subst this
      have hl' := hl.trans hdef.symm
      subst hl'
      have hlen : (defL S).length ≤ S.sig.length := by
        rw [hdef]
        refine Nat.le_trans (List.length_filter_le _ _) ?_
        simp
      refine hk _ _ ⟨o.row, by omega, fun x hx => ?_⟩ (e12.trans o.ext) fun d hd => e12.free (o.blk d hd)
      rw [hdef, List.mem_filter] at hx
      obtain ⟨hx, _⟩ := hx
      obtain ⟨c, hc, rfl⟩ := List.mem_map.mp hx
      rw [List.mem_range] at hc
      unfold inI; omega
    intro m
    induction m with
    | zero =>
      intro i out l h3 hm hi o hl
      refine hI _ _ _ _ ?_
      unfold round26_5
      rw [intK_int, ptrW_ptr]
      refine ⟨sa, rd_cell (i := 0) (o.ext _ _ b2) rfl, ?_⟩
      rw [(r1.ext (e12.trans o.ext)).len_, cond_dec]
      refine ⟨fun hlt => by omega, fun hn => ?_⟩
      exact fin i out l h3 hn hi o hl
    | succ m ih =>
      intro i out l h3 hm hi o hl
      refine hI _ _ _ _ ?_
      unfold round26_5
      rw [intK_int, ptrW_ptr]
      refine ⟨sa, rd_cell (i := 0) (o.ext _ _ b2) rfl, ?_⟩
      rw [(r1.ext (e12.trans o.ext)).len_, cond_dec]
      refine ⟨fun hlt => ?_, fun hn => fin i out l h3 hn hi o hl⟩
      have hil : i < S.sig.length := by omega
      have hllen : l.length ≤ i := by
        rw [hl]
        refine Nat.le_trans (List.length_filter_le _ _) ?_
        simp
      have hrng : ((List.range (i + 1)).map fun (c : Nat) => (c : Int)).filter (isRoot S.rules) = l ++ (if isRoot S.rules (i : Int) then [(i : Int)] else []) := by
        rw [List.range_succ, List.map_append, List.filter_append, ← hl]
        congr 1
        simp only [List.map_cons, List.map_nil, List.filter_cons, List.filter_nil]
      intro I2 hI2
      refine is_loop (sig := S.sig) (o.ext _ _ b2) ((r2.ext e12).ext o.ext) hl64 hok hI2 ?_ S.rules.length 0 false (by omega) (by omega) (by simp)
      rw [xs_e]
      show cond (Nat.beq 2 2) _ False
      simp only [cond_true, Nat.beq, nth0, nth1, nth2, nth3, intK_int, boolW_bool]
      rw [cond_split]
      refine ⟨fun hy => ?_, fun hno => ?_⟩
      · refine o.push (by rw [Z_len]; omega) (by decide) rfl rfl (by decide) fun s' h4 o' hkeep hnew => ?_
        have e : Z l ++ [Value.int .i64 (i : Int)] = Z (l ++ [(i : Int)]) := by simp [Z]
        rw [e] at o'
        unfold j26_5_6
        rw [intK_int, i64_id (by omega) (by omega)]
        exact ih (i + 1) s' (l ++ [(i : Int)]) h4 (by omega) (by omega) o' (by rw [hrng, if_pos hy])
      · unfold j26_5_6
        rw [intK_int, i64_id (by omega) (by omega)]
        exact ih (i + 1) out l h3 (by omega) (by omega) o (by rw [hrng, if_neg (by simp [hno]), List.append_nil])
  exact key S.sig.length 0 _ [] h2 (by omega) (by omega) (Own.nil_ (Ext.refl _)) (by simp)
/-! ### by the program: a map of roots -/
def addKey (ks : List Int) (x : Int) : List Int := if x ∈ ks then ks else ks ++ [x]
structure MInv (es : List MapEntry) (cl : Nat) (ks : List Int) : Prop where
  keys : KeysAre es ks
  st : MapKept.Stamped es.toArray cl
theorem MInv.put {h : H} {b : Nat} {es : List MapEntry} {cl : Nat} {ks : List Int} {x : Int} {v : Value} {k : H → Prop} (hb : h b = some (.map es cl)) (mi : MInv es cl ks)
    (hk : ∀ es' cl', MInv es' cl' (addKey ks x) → k (h.set b (.map es' cl'))) : mapU h (.map (some b)) (.int .i64) (.int .i64 x) v k := by
  refine ⟨es, cl, hb, ?_⟩
  obtain ⟨f1, f2⟩ := find_at (x := x) mi.keys 0
  by_cases hx : x ∈ ks
  · obtain ⟨e, he, hf⟩ := f1 hx
    rw [hf]
    have hkey : e.key = .int .i64 x := by
      have h1 := mi.keys
      unfold KeysAre at h1
      have h2 := congrArg (·[ks.idxOf x]?) h1
      simp only [List.getElem?_map, he, Option.map_some] at h2
      rw [List.getElem?_eq_getElem (List.idxOf_lt_length_of_mem hx), List.getElem_idxOf] at h2
      simpa using h2
    have ha : addKey ks x = ks := by unfold addKey; rw [if_pos hx]
    refine hk _ _ ⟨?_, ?_⟩
    · rw [ha]
      unfold KeysAre
      rw [← mi.keys]
      apply List.ext_getElem?
      intro j
      rw [List.getElem?_map, List.getElem?_map, List.getElem?_modify]
      by_cases hj : 0 + ks.idxOf x = j
      · subst hj
        rw [Nat.zero_add, he]
        simp [hkey]
      · have hj' : ¬ ks.idxOf x = j := by omega
        cases hh : es[j]? with
        | none => rfl
        | some u => simp [hj']
    · rw [← List.modify_toArray]
      refine MapKept.stamped_modify mi.st _ _ (fun _ _ => rfl) fun e' _ he' => ?_
      rw [List.getElem?_toArray, Nat.zero_add, he] at he'
      cases he'
      exact hkey.symm
  · rw [f2 hx]
    have ha : addKey ks x = ks ++ [x] := by unfold addKey; rw [if_neg hx]
    refine hk _ _ ⟨?_, ?_⟩
    · rw [ha]
      have := mi.keys
      unfold KeysAre at this ⊢
      rw [List.map_append, this, List.map_append]; rfl
    · rw [← List.push_toArray]
      refine MapKept.stamped_push mi.st fun e he heq => hx ?_
      have h1 := mi.keys
      unfold KeysAre at h1
      have h2 : (Value.int .i64 x) ∈ es.map (·.key) := List.mem_map.mpr ⟨e, by simpa using he, heq⟩
      rw [h1] at h2
      obtain ⟨y, hy, hyx⟩ := List.mem_map.mp h2
      cases hyx
      exact hy
def rootKeys (rs : List Ru) (ks : List Int) : List Int := rs.foldl (fun ks r => addKey ks (r.1.headD 0)) ks
theorem mem_addKey {ks : List Int} {x y : Int} : y ∈ addKey ks x ↔ y ∈ ks ∨ y = x := by
  unfold addKey
  split
  · rename_i h
    constructor
    · exact .inl
    · rintro (h1 | rfl)
      · exact h1
      · exact h
  · simp
theorem nodup_addKey {ks : List Int} {x : Int} (h : ks.Nodup) : (addKey ks x).Nodup := by
  unfold addKey
  split
  · exact h
  · rename_i hx
    rw [List.nodup_append]
    exact ⟨h, by simp, fun a ha b hb => by simp only [List.mem_singleton] at hb; subst hb; exact fun hab => hx (hab ▸ ha)⟩
theorem rootKeys_props : ∀ (rs : List Ru) (ks : List Int), ks.Nodup → (rootKeys rs ks).Nodup ∧ ∀ y, y ∈ rootKeys rs ks ↔ y ∈ ks ∨ isRoot rs y = true
  | [], ks, h => ⟨h, fun y => by simp [rootKeys, isRoot]⟩
  | r :: rs, ks, h => by
    obtain ⟨h1, h2⟩ := rootKeys_props rs (addKey ks (r.1.headD 0)) (nodup_addKey h)
    refine ⟨h1, fun y => ?_⟩
    show y ∈ rootKeys rs (addKey ks (r.1.headD 0)) ↔ _
    rw [h2 y, mem_addKey]
    simp only [isRoot, List.any_cons, Bool.or_eq_true, beq_iff_eq]
    constructor
    · rintro ((h3 | h3) | h3)
      · exact .inl h3
      · exact .inr (.inl h3.symm)
      · exact .inr (.inr h3)
    · rintro (h3 | h3 | h3)
      · exact .inl (.inl h3)
      · exact .inl (.inr h3.symm)
      · exact .inr h3
theorem addKey_len {ks : List Int} {x : Int} : (addKey ks x).length ≤ ks.length + 1 := by unfold addKey; split <;> simp
theorem rootKeys_len : ∀ (rs : List Ru) (ks : List Int), (rootKeys rs ks).length ≤ ks.length + rs.length
  | [], ks => by simp [rootKeys]
  | r :: rs, ks => by
    have := rootKeys_len rs (addKey ks (r.1.headD 0))
    have h2 := addKey_len (ks := ks) (x := r.1.headD 0)
    show (rootKeys rs (addKey ks (r.1.headD 0))).length ≤ _
    simp only [List.length_cons]; omega
/-- The keys, sorted, are the defined symbols. -/
theorem roots_sorted {S : Sm} (h : rightS S = true) : (rootKeys S.rules []).mergeSort (fun x y => decide (x ≤ y)) = defL S := by
  obtain ⟨hpl, hsig, hl64, hok⟩ := right_ok h
  obtain ⟨hnd, hmem⟩ := rootKeys_props S.rules [] List.nodup_nil
  have hdef : defL S = ((List.range S.sig.length).map fun (c : Nat) => (c : Int)).filter (isRoot S.rules) := by unfold defL; rw [if_pos h]
  have hlt : List.Pairwise (· < ·) (((List.range S.sig.length).map fun (c : Nat) => (c : Int)).filter (isRoot S.rules)) := by
    refine List.Pairwise.filter _ ?_
    rw [List.pairwise_map]
    exact List.pairwise_lt_range.imp fun hab => by omega
  refine List.Perm.eq_of_pairwise (le := fun x y : Int => x ≤ y) (fun a b _ _ h1 h2 => by omega) ?_ ?_ ?_
  · refine (List.pairwise_mergeSort (fun a b c h1 h2 => ?_) (fun a b => ?_) (rootKeys S.rules [])).imp fun hab => of_decide_eq_true hab
    · have h1 := of_decide_eq_true h1
      have h2 := of_decide_eq_true h2
      exact decide_eq_true (by omega)
    · simp only [Bool.or_eq_true, decide_eq_true_eq]; omega
  · rw [hdef]; exact hlt.imp fun hab => by omega
  · refine (List.mergeSort_perm _ _).trans ?_
    rw [hdef, List.perm_ext_iff_of_nodup hnd (hlt.imp fun hab => by omega)]
    intro y
    rw [hmem, List.mem_filter]
    simp only [List.not_mem_nil, false_or]
    constructor
    · intro hy
      refine ⟨?_, hy⟩
      unfold isRoot at hy
      rw [List.any_eq_true] at hy
      obtain ⟨r, hr, hry⟩ := hy
      obtain ⟨c, _, hc, hc0, hc1⟩ := root_at (hok r hr)
      have : y = c := by rw [← hc]; exact (beq_iff_eq.mp hry).symm
      subst this
      exact List.mem_map.mpr ⟨y.toNat, List.mem_range.mpr (by omega), by omega⟩
    · exact fun hy => hy.2
def SpecKeys (D : Orc) : Prop := ∀ (m : Option Nat) h (k : Kv) kp, (∀ c, h c = none → k (.func (.func 99) #[] #[.pointer (some ⟨c, 0, none⟩)]) (h.set c (.cells [.map m]))) → D 76 [.map m] h k kp
def SpecSorted (D : Orc) : Prop := ∀ (c b : Nat) es cl (ks : List Int) h (k : Kv) kp, h c = some (.cells [.map (some b)]) → h b = some (.map es cl) → MInv es cl ks → (∀ x ∈ ks, inI x) → ks.length ≤ 1048576 →
  (∀ v' h', Ir h' v' (ks.mergeSort (fun x y => decide (x ≤ y))) → Ext h h' → (∀ d, Blk v' = some d → h d = none) → k v' h') → D 75 [.func (.func 99) #[] #[.pointer (some ⟨c, 0, none⟩)]] h k kp
theorem spec47 (hT : Stays T) (c : Cl47 D) (s31 : SpecRightS D 74 T) (s33 : SpecKeys D) (s32 : SpecSorted D) : SpecDef D 47 T := by
  intro v S h k kp q ht hk
  obtain ⟨sa, ra, rfl, r1, r2⟩ := q.ex
  refine c _ _ _ _ ?_
  unfold F47
  rw [aggW_agg]
  intro pb hpb
  have e1 : Ext h (h.set pb (.cells #[sa, ra].toList)) := Ext.new hpb
  have b1 : (h.set pb (.cells #[sa, ra].toList)) pb = some (.cells [sa, ra]) := set_here
  generalize h.set pb (.cells #[sa, ra].toList) = h1 at e1 b1 ⊢
  rw [ptrW_ptr]
  refine ⟨sa, ra, rd2 b1, ?_⟩
  refine s31 _ S _ _ _ ⟨⟨sa, ra, rfl, r1.ext e1, r2.ext e1⟩⟩ (hT _ _ e1 ht) fun h2 e2 => ⟨_, rfl, ?_⟩
  have e12 := e1.trans e2
  have b2 := e2 _ _ b1
  rw [cond_split]
  refine ⟨fun hno => ?_, fun hyes => ?_⟩
  · have hno : rightS S = false := by simpa using hno
    refine hk _ _ ?_ e12 fun d hd => by rw [Blk_nil] at hd; cases hd
    unfold defL
    rw [hno, if_neg (by simp)]
    exact ⟨Row.nil_, by simp, by simp⟩
  have hyes : rightS S = true := by simpa using hyes
  obtain ⟨hpl, hsig, hl64, hok⟩ := right_ok hyes
  have hs64 := (plain_ok hpl).2
  intro bm hbm
  have e3 : Ext h2 (h2.set bm (.map [] 0)) := Ext.new hbm
  rw [ptrW_ptr]
  refine ⟨ra, rd_cell (i := 1) (e3 _ _ b2) rfl, ?_⟩
  rw [((r2.ext e12).ext e3).len_]
  intro I hI
  have key : ∀ (m i : Nat) (es : List MapEntry) (cl : Nat) (ks : List Int) (h3 : H), S.rules.length - i ≤ m → i ≤ S.rules.length → Ext h2 h3 → h3 bm = some (.map es cl) → MInv es cl ks → rootKeys (S.rules.drop i) ks = rootKeys S.rules [] →
      I [.map (some bm), ra, .int .i64 ((S.rules.length : Nat) : Int), .int .i64 ((i : Nat) : Int)] h3 := by
    have fin : ∀ (es : List MapEntry) (cl : Nat) (h3 : H), Ext h2 h3 → h3 bm = some (.map es cl) → MInv es cl (rootKeys S.rules []) →
        D 76 [nth [.map (some bm)] 0] h3 (fun v33 h34 => ∃ v35 : Value, v33 = v35 ∧ D 75 [v35] h34 (fun v36 h37 => ∃ v38 : Value, v36 = v38 ∧ k v38 h37) kp) kp := by
      intro es cl h3 e hm mi
      rw [nth0]
      refine s33 _ _ _ _ fun cc hcc => ⟨_, rfl, ?_⟩
      have e4 : Ext h3 (h3.set cc (.cells [.map (some bm)])) := Ext.new hcc
      obtain ⟨hnd, hmem⟩ := rootKeys_props S.rules [] List.nodup_nil
      refine s32 cc bm es cl _ _ _ _ set_here (e4 _ _ hm) mi (fun x hx => ?_) ?_ fun v' h5 ir e5 nb => ⟨_, rfl, ?_⟩
      · rw [hmem] at hx
        simp only [List.not_mem_nil, false_or] at hx
        unfold isRoot at hx
        rw [List.any_eq_true] at hx
        obtain ⟨r, hr, hry⟩ := hx
        obtain ⟨c, _, hc, hc0, hc1⟩ := root_at (hok r hr)
        have : x = c := by rw [← hc]; exact (beq_iff_eq.mp hry).symm
        subst this
        unfold inI; omega
      · have := rootKeys_len S.rules []
        simp at this; omega
      · rw [roots_sorted hyes] at ir
        exact hk v' h5 ir (e12.trans (e.trans (e4.trans e5))) fun d hd => (e12.trans (e.trans e4)).free (nb d hd)
    intro m
    induction m with
    | zero =>
      intro i es cl ks h3 hm hi e hb mi hR
      refine hI _ _ _ _ _ ?_
      unfold round47_5
      rw [intK_int, intK_int, cond_dec]
      refine ⟨fun hlt => by omega, fun _ => ?_⟩
      rw [List.drop_eq_nil_of_le (by omega)] at hR
      have hR : ks = rootKeys S.rules [] := hR
      subst hR
      rw [xs_e]
      show cond (Nat.beq 0 0) _ False
      simp only [cond_true, Nat.beq]
      exact fin es cl h3 e hb mi
    | succ m ih =>
      intro i es cl ks h3 hm hi e hb mi hR
      refine hI _ _ _ _ _ ?_
      unfold round47_5
      rw [intK_int, intK_int, cond_dec]
      refine ⟨fun hlt => ?_, fun _ => ?_⟩
      · refine ((r2.ext e12).ext e).at_ (by omega) (by omega) fun ad v w x hx hrd _ _ i1 j1 => ?_
        rw [Int.toNat_natCast] at hx
        rw [(split_at hx).2.2] at hR
        obtain ⟨y, hy, hy2, hy0, hy1⟩ := root_at (hok x (List.mem_of_getElem? hx))
        have hlen : (0 : Int) < x.1.length := by
          have := (List.getElem?_eq_some_iff.mp hy).1
          simp at this; omega
        refine ⟨v, w, hrd, ?_⟩
        refine two_rule (ir_one i1) (ir_one j1) (by trivial) fun cb h4 hc0 hc e4 => ?_
        rw [ptrW_ptr]
        refine ⟨v, rd_cell (i := 0) hc rfl, ?_⟩
        refine (i1.ext e4).at_ (by omega) hlen fun ad2 z hz _ hrd2 => ⟨z, hrd2, ?_⟩
        rw [hy] at hz; cases hz
        refine MInv.put (e4 _ _ hb) mi fun es' cl' mi' => ?_
        rw [i64_id (by omega) (by omega)]
        refine ih (i + 1) es' cl' _ _ (by omega) (by omega) (fun d o hd => ?_) set_here mi' ?_
        · have hdm : d ≠ bm := fun hh => by subst hh; rw [hbm] at hd; cases hd
          rw [set_away hdm]
          exact e4 _ _ (e _ _ hd)
        · rw [← hR, ← hy2]; rfl
      · rw [List.drop_eq_nil_of_le (by omega)] at hR
        have hR : ks = rootKeys S.rules [] := hR
        subst hR
        rw [xs_e]
        show cond (Nat.beq 0 0) _ False
        simp only [cond_true, Nat.beq]
        exact fin es cl h3 e hb mi
  exact key S.rules.length 0 [] 0 [] _ (by omega) (by omega) e3 set_here ⟨rfl, MapKept.stamped_empty 0⟩ (by simp)
end Go.Proofs.YtnlhnlmnlfmojaaGreatDoor.Am
